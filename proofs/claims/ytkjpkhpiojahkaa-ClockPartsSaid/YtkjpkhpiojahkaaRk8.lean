/-
  The clock and the document's: steps, does.
-/
import Derived.Test.YtkjpkhpiojahkaaRk7
namespace Go.Proofs.Ytkjpkhpiojahkaa
set_option linter.unusedVariables false
open Go.RowKit Hp
attribute [local go_sem] Oper.semAt_some
theorem ints_below {w0 A : World} {a : Option Addr} {zs : List Int} (h : IntsAt w0 a zs) (hb : Below w0.heap.size w0 A) : IntsAt A a zs := fun k hk => by
  obtain ⟨b, off, g1, g2, g3⟩ := h k hk
  exact ⟨b, off, g1, Nat.lt_of_lt_of_le g2 hb.size, (hb.cell g2).trans g3⟩
theorem stepV_ev {c : Ck} (ho : CkOk c) {to : Int} {v : Ev} (h : c.stepV to = some v) : 0 ≤ v.kind ∧ IntKind.i64.wrap (v.now - v.at') = v.late := by
  unfold Ck.stepV at h
  split at h
  · split at h
    · cases h
    · rename_i x T hs
      split at h
      · cases h
      · cases h
        have hx : x ∈ c.S := by rw [hs]; exact List.mem_cons_self ..
        have h1 := ho.ids x hx
        have h2 := timeE_iff.1 (ho.times x hx)
        have h3 := ho.atR x.1
        refine ⟨by show 0 ≤ x.1 / 64; omega, ?_⟩
        show IntKind.i64.wrap (x.2 - c.at x.1) = x.2 - c.at x.1
        exact IntWalk.i64_in _ (by omega)
  · cases h
section
variable {w0 w : World} {R : Ast} {cb rb : Nat} {c : Ck}
set_option maxRecDepth 100000 in
set_option maxHeartbeats 8000000 in
theorem steps_ok (hT : Tame R) (h : On w0 w (sep (ckA cb c) (sep (refK rb c) R))) (ho : CkOk c) (to : Int) :
    Calls Try.prog 132 #[.pointer (some ⟨cb, 0, none⟩), .pointer (some ⟨rb, 0, none⟩), .int .i64 to] w fun e w' => e = .returned (.bool true) ∧ On w0 w' (sep (ckA cb (c.step to)) (sep (refK rb (c.step to)) R)) := by
  have hst := K_step ((Plain.refk _ _).sepT hT) h ho to
  obtain ⟨E, hE⟩ : ∃ E, c.stepE to = E := ⟨_, rfl⟩
  obtain ⟨G, hG⟩ : ∃ G, c.step to = G := ⟨_, rfl⟩
  have hrs := fun (A : World) (X : Ast) (hA : On w0 A (sep (refK rb c) X)) => RK_step hA ho to
  have z0 : (E != E) = false := by simp
  cases hV : c.stepV to with
  | none =>
    rw [hV, hE, hG] at hst
    rw [hV, hE, hG] at hrs
    rw [hG]
    have HSt := Lib.hid (show Calls Try.prog 87 #[.pointer (some ⟨cb, 0, none⟩), .int .i64 to] w fun e w' => e = .returned (.tuple #[.agg #[.int .i64 0, .int .i64 0, .int .i64 0, .int .i64 0, .int .i64 0], .bool false, .int .i64 E]) ∧ On w0 w' (sep (ckA cb G) (sep (refK rb c) R)) from hst)
    have HRs := Lib.hid (show ∀ (A : World) (X : Ast), On w0 A (sep (refK rb c) X) → Calls Try.prog 86 #[.pointer (some ⟨rb, 0, none⟩), .int .i64 to] A fun e w' => e = .returned (.tuple #[.agg #[.int .i64 (-1), .int .i64 0, .int .i64 0, .int .i64 0], .int .i64 E]) ∧ On w0 w' (sep (refK rb G) X) from hrs)
    have hq : ∀ w, (binOp BinOp.eql 109 (.agg #[.int .i64 0, .int .i64 0, .int .i64 0, .int .i64 0, .int .i64 0]) (.agg #[.int .i64 0, .int .i64 0, .int .i64 0, .int .i64 0, .int .i64 0])).run Try.prog w = .ok (.bool true) w := fun w => by rw [eql109]; rfl
    clear h hst hrs hT ho hV hE hG
    go_enter Try.func132, Try.ntmps132
    go_wp2_with fail
    refine HSt.out.mono ?_
    rintro e x1 ⟨rfl, h1⟩
    obtain ⟨b7, hb7⟩ : ∃ b, x1.heap.size = b := ⟨_, rfl⟩
    obtain ⟨W1, hW1⟩ : ∃ x, x1.alloc (.cells #[.int .i64 0, .int .i64 0, .int .i64 0, .int .i64 0, .int .i64 0] 109) = x := ⟨_, rfl⟩
    have h2 := h1.new1 109 #[.int .i64 0, .int .i64 0, .int .i64 0, .int .i64 0, .int .i64 0]
    rw [hW1, hb7] at h2
    have k00 := (h2).bx 0 rfl
    have k00f := ((h2).box1 0).2
    have k01 := (h2).bx 1 rfl
    have k01f := ((h2).box1 1).2
    have k02 := (h2).bx 2 rfl
    have k02f := ((h2).box1 2).2
    have k03 := (h2).bx 3 rfl
    have k03f := ((h2).box1 3).2
    have k04 := (h2).bx 4 rfl
    have k04f := ((h2).box1 4).2
    have s0 := h2.set_same 0 rfl
    have s1 := h2.set_same 1 rfl
    have s2 := h2.set_same 2 rfl
    have s3 := h2.set_same 3 rfl
    have s4 := h2.set_same 4 rfl
    have HR1 := Lib.hid (HRs.out _ _ (h2.sw1.sw0))
    clear h1 h2
    go_wp2_with fail
    refine HR1.out.mono ?_
    rintro e x2 ⟨rfl, h3⟩
    clear hW1 hb7 k00 k00f k01 k01f k02 k02f k03 k03f k04 k04f s0 s1 s2 s3 s4
    obtain ⟨b8, hb8⟩ : ∃ b, x2.heap.size = b := ⟨_, rfl⟩
    obtain ⟨W2, hW2⟩ : ∃ x, x2.alloc (.cells #[.int .i64 (-1), .int .i64 0, .int .i64 0, .int .i64 0] 124) = x := ⟨_, rfl⟩
    have h4 := h3.new1 124 #[.int .i64 (-1), .int .i64 0, .int .i64 0, .int .i64 0]
    rw [hW2, hb8] at h4
    have k00 := (h4).bx 0 rfl
    have k00f := ((h4).box1 0).2
    have k01 := (h4).bx 1 rfl
    have k01f := ((h4).box1 1).2
    have k02 := (h4).bx 2 rfl
    have k02f := ((h4).box1 2).2
    have k03 := (h4).bx 3 rfl
    have k03f := ((h4).box1 3).2
    have k20 := (h4.sw1.sw0).bx 0 rfl
    have k21 := (h4.sw1.sw0).bx 1 rfl
    have k22 := (h4.sw1.sw0).bx 2 rfl
    have k23 := (h4.sw1.sw0).bx 3 rfl
    have k24 := (h4.sw1.sw0).bx 4 rfl
    have s1 := h4.set_same 1 rfl
    have s2 := h4.set_same 2 rfl
    have s3 := h4.set_same 3 rfl
    have H4 := Lib.hid (h4.sw1.sw2).out1.out1
    clear h3 h4
    go_wp2_with fail
    go_ret
    exact ⟨rfl, H4.out⟩
  | some v =>
    obtain ⟨hv1, hv2⟩ := stepV_ev ho hV
    obtain ⟨kd, id, a, lt, nw⟩ := v
    simp only at hv1 hv2
    rw [hV, hE, hG] at hst
    rw [hV, hE, hG] at hrs
    rw [hG]
    have HSt := Lib.hid (show Calls Try.prog 87 #[.pointer (some ⟨cb, 0, none⟩), .int .i64 to] w fun e w' => e = .returned (.tuple #[.agg #[.int .i64 kd, .int .i64 id, .int .i64 a, .int .i64 lt, .int .i64 nw], .bool true, .int .i64 E]) ∧ On w0 w' (sep (ckA cb G) (sep (refK rb c) R)) from hst)
    have HRs := Lib.hid (show ∀ (A : World) (X : Ast), On w0 A (sep (refK rb c) X) → Calls Try.prog 86 #[.pointer (some ⟨rb, 0, none⟩), .int .i64 to] A fun e w' => e = .returned (.tuple #[.agg #[.int .i64 kd, .int .i64 id, .int .i64 a, .int .i64 nw], .int .i64 E]) ∧ On w0 w' (sep (refK rb G) X) from hrs)
    have hq : ∀ w, (binOp BinOp.eql 109 (.agg #[.int .i64 kd, .int .i64 id, .int .i64 a, .int .i64 lt, .int .i64 nw]) (.agg #[.int .i64 kd, .int .i64 id, .int .i64 a, .int .i64 lt, .int .i64 nw])).run Try.prog w = .ok (.bool true) w := fun w => by rw [eql109]; simp
    clear h hst hrs hT ho hV hE hG
    go_enter Try.func132, Try.ntmps132
    go_wp2_with fail
    refine HSt.out.mono ?_
    rintro e x1 ⟨rfl, h1⟩
    obtain ⟨b7, hb7⟩ : ∃ b, x1.heap.size = b := ⟨_, rfl⟩
    obtain ⟨W1, hW1⟩ : ∃ x, x1.alloc (.cells #[.int .i64 kd, .int .i64 id, .int .i64 a, .int .i64 lt, .int .i64 nw] 109) = x := ⟨_, rfl⟩
    have h2 := h1.new1 109 #[.int .i64 kd, .int .i64 id, .int .i64 a, .int .i64 lt, .int .i64 nw]
    rw [hW1, hb7] at h2
    have HR1 := Lib.hid (HRs.out _ _ (h2.sw1.sw0))
    clear h1 h2
    go_wp2_with fail
    refine HR1.out.mono ?_
    rintro e x2 ⟨rfl, h3⟩
    clear hW1 hb7
    obtain ⟨b8, hb8⟩ : ∃ b, x2.heap.size = b := ⟨_, rfl⟩
    obtain ⟨W2, hW2⟩ : ∃ x, x2.alloc (.cells #[.int .i64 kd, .int .i64 id, .int .i64 a, .int .i64 nw] 124) = x := ⟨_, rfl⟩
    have h4 := h3.new1 124 #[.int .i64 kd, .int .i64 id, .int .i64 a, .int .i64 nw]
    rw [hW2, hb8] at h4
    have k00 := (h4).bx 0 rfl
    have k01 := (h4).bx 1 rfl
    have k02 := (h4).bx 2 rfl
    have k03 := (h4).bx 3 rfl
    have k20 := (h4.sw1.sw0).bx 0 rfl
    have k21 := (h4.sw1.sw0).bx 1 rfl
    have k22 := (h4.sw1.sw0).bx 2 rfl
    have k23 := (h4.sw1.sw0).bx 3 rfl
    have k24 := (h4.sw1.sw0).bx 4 rfl
    have H4 := Lib.hid (h4.sw1.sw2).out1.out1
    clear h3 h4
    go_wp2_with fail
    go_ret
    exact ⟨rfl, H4.out⟩
/-- the clock behind a call -/
def stepK (c : Ck) (o : Op19) : Ck :=
  if o.ask = 0 then c.set o.kind o.id o.at' else if o.ask = 1 then c.clear o.kind o.id else if o.ask = 2 then c.lateC o.zs else if o.ask = 3 then c.step o.at' else c
theorem CkOk.stepK (ho : CkOk c) (o : Op19) : CkOk (stepK c o) := by
  unfold Go.Proofs.Ytkjpkhpiojahkaa.stepK
  split
  · exact ho.set
  · split
    · exact ho.clear
    · split
      · exact ho.lateC
      · split
        · exact ho.step
        · exact ho
set_option maxRecDepth 100000 in
set_option maxHeartbeats 8000000 in
theorem does_set (h : On w0 w (sep (ckA cb c) (sep (refK rb c) R))) (ho : CkOk c) (k i a : Int) (v : Value) (hl : c.lates.length < 1000000) :
    Calls Try.prog 81 #[.pointer (some ⟨cb, 0, none⟩), .pointer (some ⟨rb, 0, none⟩), .agg #[.int .i64 0, .int .i64 k, .int .i64 i, .int .i64 a, v]] w fun e w' => e = .returned (.bool true) ∧ On w0 w' (sep (ckA cb (c.set k i a)) (sep (refK rb (c.set k i a)) R)) := by
  obtain ⟨w1, hw1⟩ : ∃ w1, w.alloc (.cells #[.int .i64 0, .int .i64 k, .int .i64 i, .int .i64 a, v] 119) = w1 := ⟨_, rfl⟩
  obtain ⟨b, hb'⟩ : ∃ b, w.heap.size = b := ⟨_, rfl⟩
  have h1 := h.new1 119 #[.int .i64 0, .int .i64 k, .int .i64 i, .int .i64 a, v]
  rw [hw1, hb'] at h1
  have c00 := (h1).bx 0 rfl
  have c01 := (h1).bx 1 rfl
  have c02 := (h1).bx 2 rfl
  have c03 := (h1).bx 3 rfl
  have h1d := h1.below ((Below.refl _ w1).drew)
  obtain ⟨E, hE⟩ : ∃ e, c.setE k i a = e := ⟨_, rfl⟩
  obtain ⟨G, hG⟩ : ∃ e, c.set k i a = e := ⟨_, rfl⟩
  have HA := Lib.hid (K_set (h1d.sw0) ho hl k i a)
  have HB := Lib.hid (fun (A : World) (R' : Ast) (hA : On w0 A (sep (refK rb c) R')) => RK_set hA ho k i a)
  rw [hE, hG] at HA HB
  rw [hG]
  have g0 : (E == E) = true := by simp
  clear h h1 h1d hE hG ho
  go_enter Try.func81, Try.ntmps81
  go_wp2_with fail
  go_region_held3 (fun A0 => A0.cell? ⟨b, 1, none⟩ = some (.int .i64 k) ∧ A0.cell? ⟨b, 2, none⟩ = some (.int .i64 i) ∧ A0.cell? ⟨b, 3, none⟩ = some (.int .i64 a))
    (first | (refine ⟨?_, ?_, ?_⟩ <;> assumption) | go_keep)
    (first
      | (go_at_call 75; ((with_reducible refine HA.out.mono ?_); rintro e A1 ⟨rfl, h2⟩; (have d11 := (h2.sw0).bx 1 rfl); (have d12 := (h2.sw0).bx 2 rfl); (have d13 := (h2.sw0).bx 3 rfl); (have HB1 := Lib.hid (HB.out A1 _ (h2.sw1.sw0))); clear h2))
      | (go_at_call 129; ((with_reducible refine HB1.out.mono ?_); rintro e A2 ⟨rfl, h3⟩; (have e21 := (h3.sw1.sw0).bx 1 rfl); (have e22 := (h3.sw1.sw0).bx 2 rfl); (have e23 := (h3.sw1.sw0).bx 3 rfl); (have H3 := Lib.hid (h3.sw0)); clear h3)))
  all_goals go_wp2_with fail
  all_goals go_ret
  all_goals exact ⟨rfl, (H3.out.sw1.sw0).out1⟩
set_option maxRecDepth 100000 in
set_option maxHeartbeats 8000000 in
theorem does_clear (h : On w0 w (sep (ckA cb c) (sep (refK rb c) R))) (ho : CkOk c) (k i a : Int) (v : Value) :
    Calls Try.prog 81 #[.pointer (some ⟨cb, 0, none⟩), .pointer (some ⟨rb, 0, none⟩), .agg #[.int .i64 1, .int .i64 k, .int .i64 i, .int .i64 a, v]] w fun e w' => e = .returned (.bool true) ∧ On w0 w' (sep (ckA cb (c.clear k i)) (sep (refK rb (c.clear k i)) R)) := by
  obtain ⟨w1, hw1⟩ : ∃ w1, w.alloc (.cells #[.int .i64 1, .int .i64 k, .int .i64 i, .int .i64 a, v] 119) = w1 := ⟨_, rfl⟩
  obtain ⟨b, hb'⟩ : ∃ b, w.heap.size = b := ⟨_, rfl⟩
  have h1 := h.new1 119 #[.int .i64 1, .int .i64 k, .int .i64 i, .int .i64 a, v]
  rw [hw1, hb'] at h1
  have c00 := (h1).bx 0 rfl
  have c01 := (h1).bx 1 rfl
  have c02 := (h1).bx 2 rfl
  have h1d := h1.below ((Below.refl _ w1).drew)
  obtain ⟨E, hE⟩ : ∃ e, c.clearE k i = e := ⟨_, rfl⟩
  obtain ⟨G, hG⟩ : ∃ e, c.clear k i = e := ⟨_, rfl⟩
  have HA := Lib.hid (K_clear (h1d.sw0) ho k i)
  have HB := Lib.hid (fun (A : World) (R' : Ast) (hA : On w0 A (sep (refK rb c) R')) => RK_clear hA ho k i)
  rw [hE, hG] at HA HB
  rw [hG]
  have g0 : (E == E) = true := by simp
  clear h h1 h1d hE hG ho
  go_enter Try.func81, Try.ntmps81
  go_wp2_with fail
  go_region_held3 (fun A0 => A0.cell? ⟨b, 1, none⟩ = some (.int .i64 k) ∧ A0.cell? ⟨b, 2, none⟩ = some (.int .i64 i))
    (first | (refine ⟨?_, ?_⟩ <;> assumption) | go_keep)
    (first
      | (go_at_call 84; ((with_reducible refine HA.out.mono ?_); rintro e A1 ⟨rfl, h2⟩; (have d11 := (h2.sw0).bx 1 rfl); (have d12 := (h2.sw0).bx 2 rfl); (have HB1 := Lib.hid (HB.out A1 _ (h2.sw1.sw0))); clear h2))
      | (go_at_call 130; ((with_reducible refine HB1.out.mono ?_); rintro e A2 ⟨rfl, h3⟩; (have e21 := (h3.sw1.sw0).bx 1 rfl); (have e22 := (h3.sw1.sw0).bx 2 rfl); (have H3 := Lib.hid (h3.sw0)); clear h3)))
  all_goals go_wp2_with fail
  all_goals go_ret
  all_goals exact ⟨rfl, (H3.out.sw1.sw0).out1⟩
set_option maxRecDepth 100000 in
set_option maxHeartbeats 8000000 in
theorem does_late (h : On w0 w (sep (ckA cb c) (sep (refK rb c) R))) (ho : CkOk c) (k i a : Int) (la : Option Addr) (lc : Nat) (zs : List Int) (hr : IntsAt w0 la zs) (hl : zs.length + c.lates.length < 1000000) :
    Calls Try.prog 81 #[.pointer (some ⟨cb, 0, none⟩), .pointer (some ⟨rb, 0, none⟩), .agg #[.int .i64 2, .int .i64 k, .int .i64 i, .int .i64 a, .slice la zs.length lc]] w fun e w' => e = .returned (.bool true) ∧ On w0 w' (sep (ckA cb (c.lateC zs)) (sep (refK rb (c.lateC zs)) R)) := by
  obtain ⟨n, hn⟩ : ∃ n, zs.length = n := ⟨_, rfl⟩
  have HA0 := Lib.hid (fun (A : World) (R' : Ast) (hA : On w0 A (sep (ckA cb c) R')) => K_late (cp := lc) hA ho la zs (fun A hA => ints_below hr hA.to_below) hl)
  have HB := Lib.hid (fun (A : World) (R' : Ast) (hA : On w0 A (sep (refK rb c) R')) => RK_late (cp := lc) hA la zs (fun A hA => ints_below hr hA.to_below) hl)
  rw [hn] at HA0 HB ⊢
  obtain ⟨w1, hw1⟩ : ∃ w1, w.alloc (.cells #[.int .i64 2, .int .i64 k, .int .i64 i, .int .i64 a, .slice la n lc] 119) = w1 := ⟨_, rfl⟩
  obtain ⟨b, hb'⟩ : ∃ b, w.heap.size = b := ⟨_, rfl⟩
  have h1 := h.new1 119 #[.int .i64 2, .int .i64 k, .int .i64 i, .int .i64 a, .slice la n lc]
  rw [hw1, hb'] at h1
  have c00 := (h1).bx 0 rfl
  have c04 := (h1).bx 4 rfl
  have h1d := h1.below ((Below.refl _ w1).drew)
  obtain ⟨E, hE⟩ : ∃ e, lateE zs = e := ⟨_, rfl⟩
  obtain ⟨G, hG⟩ : ∃ e, c.lateC zs = e := ⟨_, rfl⟩
  have HA := Lib.hid (HA0.out _ _ (h1d.sw0))
  rw [hE, hG] at HA HB
  rw [hG]
  have g0 : (E == E) = true := by simp
  clear h h1 h1d hE hG ho hn hr HA0
  go_enter Try.func81, Try.ntmps81
  go_wp2_with fail
  go_region_held3 (fun A0 => A0.cell? ⟨b, 4, none⟩ = some (.slice la n lc))
    (first | assumption | go_keep)
    (first
      | (go_at_call 74; ((with_reducible refine HA.out.mono ?_); rintro e A1 ⟨rfl, h2⟩; (have d14 := (h2.sw0).bx 4 rfl); (have HB1 := Lib.hid (HB.out A1 _ (h2.sw1.sw0))); clear h2))
      | (go_at_call 131; ((with_reducible refine HB1.out.mono ?_); rintro e A2 ⟨rfl, h3⟩; (have e24 := (h3.sw1.sw0).bx 4 rfl); (have H3 := Lib.hid (h3.sw0)); clear h3)))
  all_goals go_wp2_with fail
  all_goals go_ret
  all_goals exact ⟨rfl, (H3.out.sw1.sw0).out1⟩
set_option maxRecDepth 100000 in
set_option maxHeartbeats 8000000 in
theorem does_step (hT : Tame R) (h : On w0 w (sep (ckA cb c) (sep (refK rb c) R))) (ho : CkOk c) (k i a : Int) (v : Value) :
    Calls Try.prog 81 #[.pointer (some ⟨cb, 0, none⟩), .pointer (some ⟨rb, 0, none⟩), .agg #[.int .i64 3, .int .i64 k, .int .i64 i, .int .i64 a, v]] w fun e w' => e = .returned (.bool true) ∧ On w0 w' (sep (ckA cb (c.step a)) (sep (refK rb (c.step a)) R)) := by
  obtain ⟨w1, hw1⟩ : ∃ w1, w.alloc (.cells #[.int .i64 3, .int .i64 k, .int .i64 i, .int .i64 a, v] 119) = w1 := ⟨_, rfl⟩
  obtain ⟨b, hb'⟩ : ∃ b, w.heap.size = b := ⟨_, rfl⟩
  have h1 := h.new1 119 #[.int .i64 3, .int .i64 k, .int .i64 i, .int .i64 a, v]
  rw [hw1, hb'] at h1
  have c00 := (h1).bx 0 rfl
  have c03 := (h1).bx 3 rfl
  have HA := Lib.hid (steps_ok ((Plain.box _ _ _).sepT hT) (h1.sw0.sw1) ho a)
  clear h h1 ho hT
  go_enter Try.func81, Try.ntmps81
  go_wp2_with fail
  refine HA.out.mono ?_
  rintro e w2 ⟨rfl, h2⟩
  have H2 := Lib.hid (h2.sw1.sw0).out1
  clear h2
  go_wp2_with fail
  go_ret
  exact ⟨rfl, H2.out⟩
set_option maxRecDepth 100000 in
set_option maxHeartbeats 8000000 in
theorem does_when (h : On w0 w (sep (ckA cb c) (sep (refK rb c) R))) (ho : CkOk c) (ask k i a : Int) (v : Value) (n0 : ask ≠ 0) (n1 : ask ≠ 1) (n2 : ask ≠ 2) (n3 : ask ≠ 3) :
    Calls Try.prog 81 #[.pointer (some ⟨cb, 0, none⟩), .pointer (some ⟨rb, 0, none⟩), .agg #[.int .i64 ask, .int .i64 k, .int .i64 i, .int .i64 a, v]] w fun e w' => e = .returned (.bool true) ∧ On w0 w' (sep (ckA cb c) (sep (refK rb c) R)) := by
  have z0 : (ask == 0) = false := by simpa using n0
  have z1 : (ask == 1) = false := by simpa using n1
  have z2 : (ask == 2) = false := by simpa using n2
  have z3 : (ask == 3) = false := by simpa using n3
  obtain ⟨w1, hw1⟩ : ∃ w1, w.alloc (.cells #[.int .i64 ask, .int .i64 k, .int .i64 i, .int .i64 a, v] 119) = w1 := ⟨_, rfl⟩
  obtain ⟨b, hb'⟩ : ∃ b, w.heap.size = b := ⟨_, rfl⟩
  have h1 := h.new1 119 #[.int .i64 ask, .int .i64 k, .int .i64 i, .int .i64 a, v]
  rw [hw1, hb'] at h1
  have c00 := (h1).bx 0 rfl
  have c01 := (h1).bx 1 rfl
  have c02 := (h1).bx 2 rfl
  have hwh := K_when h1.sw0 ho k i
  obtain ⟨r, hr, h2⟩ := (h1.sw1.sw0).refk_open
  obtain ⟨v1, v2, h3⟩ := h2.rk_open
  obtain ⟨a1, c1, rfl, _⟩ := h3.sw0.tms_form
  have h3' : On w0 w1 (sep (boxA rb 116 #[.slice a1 r.L.length c1, v2, .int .i64 r.now, .int .i64 r.worst]) (sep (tmsA (.slice a1 r.L.length c1) r.L) (sep (latA v2 r.lates) (sep (boxA b 119 #[.int .i64 ask, .int .i64 k, .int .i64 i, .int .i64 a, v]) (sep (ckA cb c) R))))) := h3
  obtain ⟨n, hn⟩ : ∃ n, r.L.length = n := ⟨_, rfl⟩
  have hn5 : n ≤ 512 := by rw [← hn, hr.len]; exact ho.few
  rw [hn] at h3'
  have HN := Lib.hid hn
  obtain ⟨wa, hwa⟩ : ∃ e, c.whenA k i = e := ⟨_, rfl⟩
  obtain ⟨wf, hwf⟩ : ∃ e, c.whenF k i = e := ⟨_, rfl⟩
  obtain ⟨we, hwe⟩ : ∃ e, c.whenE k i = e := ⟨_, rfl⟩
  rw [hwa, hwf, hwe] at hwh
  have HWh := Lib.hid hwh
  have HWa := Lib.hid hwa
  have HWf := Lib.hid hwf
  have HWe := Lib.hid hwe
  have HR := Lib.hid hr
  have HO := Lib.hid ho
  have H2 := Lib.hid h2
  have H1 := Lib.hid h1.out1
  have H3 := Lib.hid h3'
  clear h h1 h2 h3 h3' hr ho hwh hwa hwf hwe hn n0 n1 n2 n3
  go_enter Try.func81, Try.ntmps81
  go_wp2_with fail
  refine HWh.out.mono ?_
  rintro e w2 ⟨rfl, hb⟩
  have h4 := H3.out.below hb
  have HF := Lib.hid (H1.out.below hb)
  have HMa := Lib.hid (RK_may k i w2)
  have HAt := Lib.hid (RK_at (H2.out.below hb) (by rw [HN.out]; omega) k i)
  have d31 := (h4.sw2.sw1.sw0).bx 1 rfl
  have d32 := (h4.sw2.sw1.sw0).bx 2 rfl
  have q0 := h4.bx 0 rfl
  by_cases hm : mayT k i
  · rw [decide_eq_true hm] at HMa
    have HMm := Lib.hid hm
    clear hb hm
    have H4 := Lib.hid h4
    clear h4
    go_wp2_with fail
    refine HMa.out.mono ?_
    rintro e w3 ⟨rfl, rfl⟩
    go_wp2_with fail
    refine HAt.out.mono ?_
    rintro e w3 ⟨⟨x, rfl, hx⟩, rfl⟩
    rcases hx with ⟨rfl, hno⟩ | ⟨j, t, rfl, hjt, hi⟩
    · have hh := (HR.out.hasI HO.out HMm.out).1 hno
      have e1 : we = 14 := by rw [← HWe.out]; unfold Ck.whenE hasE; rw [if_pos HMm.out, hh]; rfl
      have e2 : wa = 0 := by rw [← HWa.out]; unfold Ck.whenA; rw [if_neg (by rw [HWe.out, e1]; decide)]
      have e3 : wf = 0 := by rw [← HWf.out]; unfold Ck.whenF; rw [if_neg (by rw [HWe.out, e1]; decide)]
      clear hno hh HWe HWa HWf
      subst e1 e2 e3
      go_wp2_with fail
      go_ret
      exact ⟨rfl, HF.out⟩
    · obtain ⟨_, hh, ha, hf⟩ := HR.out.found HO.out hjt hi
      have e1 : we = 0 := by rw [← HWe.out]; unfold Ck.whenE hasE; rw [if_pos HMm.out, hh]; rfl
      have e2 : wa = t.at' := by rw [← HWa.out]; unfold Ck.whenA; rw [if_pos (by rw [HWe.out, e1])]; exact ha.symm
      have e3 : wf = t.fires := by rw [← HWf.out]; unfold Ck.whenF; rw [if_pos (by rw [HWe.out, e1])]; exact hf.symm
      obtain ⟨b2, rfl, c0, c1, c2, c3⟩ := H4.out.sw0.tms_at hjt
      have hjl : j < n := by rw [← HN.out]; exact (List.getElem?_eq_some_iff.1 hjt).1
      have hj0 : (0 : Int) ≤ (j : Int) := by omega
      have hj1 : ¬ (j : Int) < 0 := by omega
      have hjI : (j : Int) < (n : Int) := by omega
      have g1 : (t.at' == t.at') = true := by simp
      have g2 : (t.fires == t.fires) = true := by simp
      clear hjt hi hh ha hf HWe HWa HWf
      subst e1 e2 e3
      go_wp2_with fail
      go_ret
      exact ⟨rfl, HF.out⟩
  · rw [decide_eq_false hm] at HMa
    have e1 : we = 1 := by rw [← HWe.out]; unfold Ck.whenE; rw [if_neg hm]
    have e2 : wa = 0 := by rw [← HWa.out]; unfold Ck.whenA; rw [if_neg (by rw [HWe.out, e1]; decide)]
    have e3 : wf = 0 := by rw [← HWf.out]; unfold Ck.whenF; rw [if_neg (by rw [HWe.out, e1]; decide)]
    clear hb hm h4 HWe HWa HWf
    subst e1 e2 e3
    go_wp2_with fail
    refine HMa.out.mono ?_
    rintro e w3 ⟨rfl, rfl⟩
    go_wp2_with fail
    go_ret
    exact ⟨rfl, HF.out⟩
theorem does_ok (hT : Tame R) (h : On w0 w (sep (ckA cb c) (sep (refK rb c) R))) (ho : CkOk c) (o : Op19) (hg : OpGood19 w0 o) (hl : o.zs.length + c.lates.length < 1000000) :
    Calls Try.prog 81 #[.pointer (some ⟨cb, 0, none⟩), .pointer (some ⟨rb, 0, none⟩), .agg (opV o).toArray] w fun e w' => e = .returned (.bool true) ∧ On w0 w' (sep (ckA cb (stepK c o)) (sep (refK rb (stepK c o)) R)) := by
  obtain ⟨ask, k, i, a, la, lc, zs⟩ := o
  unfold stepK opV
  simp only at hl ⊢
  by_cases h0 : ask = 0
  · rw [if_pos h0]
    subst h0
    exact does_set h ho k i a _ (by omega)
  · rw [if_neg h0]
    by_cases h1 : ask = 1
    · rw [if_pos h1]
      subst h1
      exact does_clear h ho k i a _
    · rw [if_neg h1]
      by_cases h2 : ask = 2
      · rw [if_pos h2]
        subst h2
        exact does_late h ho k i a la lc zs hg hl
      · rw [if_neg h2]
        by_cases h3 : ask = 3
        · rw [if_pos h3]
          subst h3
          exact does_step hT h ho k i a _
        · rw [if_neg h3]
          exact does_when h ho ask k i a _ h0 h1 h2 h3
end
end Go.Proofs.Ytkjpkhpiojahkaa
