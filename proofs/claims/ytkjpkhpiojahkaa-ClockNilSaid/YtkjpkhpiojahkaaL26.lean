/-
  Walk: ClockNil.
-/
import Derived.Test.YtkjpkhpiojahkaaOp19
namespace Go.Proofs.Ytkjpkhpiojahkaa
set_option linter.unusedVariables false
open Go.RowKit Hp
attribute [local go_sem] Oper.semAt_some
section
variable (w : World)
theorem Kn_late (v : Value) : Calls Try.prog 74 #[.pointer none, v] w fun e w' => e = .returned (.int .i64 2) ∧ w = w' := by
  go_enter Try.func74, Try.ntmps74
  go_wp2_with fail
  go_ret
  exact ⟨rfl, rfl⟩
theorem Kn_set (k i a : Int) : Calls Try.prog 75 #[.pointer none, .int .i64 k, .int .i64 i, .int .i64 a] w fun e w' => e = .returned (.int .i64 2) ∧ w = w' := by
  go_enter Try.func75, Try.ntmps75
  go_wp2_with fail
  go_ret
  exact ⟨rfl, rfl⟩
theorem Kn_clear (k i : Int) : Calls Try.prog 84 #[.pointer none, .int .i64 k, .int .i64 i] w fun e w' => e = .returned (.int .i64 2) ∧ w = w' := by
  go_enter Try.func84, Try.ntmps84
  go_wp2_with fail
  go_ret
  exact ⟨rfl, rfl⟩
theorem Kn_when (k i : Int) : Calls Try.prog 88 #[.pointer none, .int .i64 k, .int .i64 i] w fun e w' => e = .returned (.tuple #[.int .i64 0, .int .i64 0, .int .i64 2]) ∧ w = w' := by
  go_enter Try.func88, Try.ntmps88
  go_wp2_with fail
  go_ret3
  exact ⟨rfl, rfl⟩
theorem Kn_next : Calls Try.prog 89 #[.pointer none] w fun e w' => e = .returned (.tuple #[.int .i64 0, .int .i64 2]) ∧ w = w' := by
  go_enter Try.func89, Try.ntmps89
  go_wp2_with fail
  go_ret2
  exact ⟨rfl, rfl⟩
theorem Kn_now : Calls Try.prog 78 #[.pointer none] w fun e w' => e = .returned (.int .i64 0) ∧ w = w' := by
  go_enter Try.func78, Try.ntmps78
  go_wp2_with fail
  go_ret
  exact ⟨rfl, rfl⟩
theorem Kn_worst : Calls Try.prog 79 #[.pointer none] w fun e w' => e = .returned (.int .i64 0) ∧ w = w' := by
  go_enter Try.func79, Try.ntmps79
  go_wp2_with fail
  go_ret
  exact ⟨rfl, rfl⟩
theorem Kn_copy : Calls Try.prog 83 #[.pointer none] w fun e w' => e = .returned (.pointer none) ∧ w = w' := by
  go_enter Try.func83, Try.ntmps83
  go_wp2_with fail
  go_ret
  exact ⟨rfl, rfl⟩
set_option maxRecDepth 100000 in
set_option maxHeartbeats 4000000 in
theorem Kn_len : Calls Try.prog 76 #[.pointer none] w fun e w' => e = .returned (.int .i64 0) ∧ Below w.heap.size w w' := by
  obtain ⟨b0, hb0⟩ : ∃ b, w.heap.size = b := ⟨_, rfl⟩
  obtain ⟨W, hW⟩ : ∃ x, w.alloc (.cells #[.int .i64 0] 3) = x := ⟨_, rfl⟩
  have h1 := (On.emp w).new1 3 #[.int .i64 0]
  rw [hW, hb0] at h1
  have k00 := (h1).bx 0 rfl
  have k00f := ((h1).box1 0).2
  have s0 := h1.set_same 0 rfl
  have HB := Lib.hid h1.to_below
  clear h1
  refine (callsIn_wide (n := 9)).1 ?_
  refine callsIn_of_wp_marks Try.func76 rfl trivial ?_ rfl
  simp only [Try.ntmps76, List.size_toArray, List.length_cons, List.length_nil, Nat.reduceAdd, Nat.reduceSub, Array.replicate_succ, Array.replicate_zero, List.push_toArray, List.append_toArray, List.nil_append, List.cons_append]
  gi_wp2_with fail
  exact ⟨.int .i64 0, by simp [results, Try.f76, go_sem], rfl, HB.out⟩
set_option maxRecDepth 100000 in
set_option maxHeartbeats 4000000 in
theorem Kn_step (to : Int) : Calls Try.prog 87 #[.pointer none, .int .i64 to] w fun e w' => e = .returned (.tuple #[.agg #[.int .i64 0, .int .i64 0, .int .i64 0, .int .i64 0, .int .i64 0], .bool false, .int .i64 2]) ∧ Below w.heap.size w w' := by
  obtain ⟨b0, hb0⟩ : ∃ b, w.heap.size = b := ⟨_, rfl⟩
  obtain ⟨W, hW⟩ : ∃ x, ((((w.alloc (.cells #[.pointer none] 101)).alloc (.cells #[.int .i64 to] 3)).alloc (.cells #[.int .i64 0, .int .i64 0, .int .i64 0, .int .i64 0, .int .i64 0] 109)).alloc (.cells #[.bool false] 4)).alloc (.cells #[.int .i64 0] 40) = x := ⟨_, rfl⟩
  have h1 := (((((On.emp w).new1 101 #[.pointer none]).new1 3 #[.int .i64 to]).new1 109 #[.int .i64 0, .int .i64 0, .int .i64 0, .int .i64 0, .int .i64 0]).new1 4 #[.bool false]).new1 40 #[.int .i64 0]
  simp only [World.size_alloc, hb0] at h1
  rw [hW] at h1
  have k00 := (h1).bx 0 rfl
  have k00f := ((h1).box1 0).2
  have k10 := (h1.sw0).bx 0 rfl
  have k10f := ((h1.sw0).box1 0).2
  have k20 := (h1.sw1.sw0).bx 0 rfl
  have k20f := ((h1.sw1.sw0).box1 0).2
  have k21 := (h1.sw1.sw0).bx 1 rfl
  have k21f := ((h1.sw1.sw0).box1 1).2
  have k22 := (h1.sw1.sw0).bx 2 rfl
  have k22f := ((h1.sw1.sw0).box1 2).2
  have k23 := (h1.sw1.sw0).bx 3 rfl
  have k23f := ((h1.sw1.sw0).box1 3).2
  have k24 := (h1.sw1.sw0).bx 4 rfl
  have k24f := ((h1.sw1.sw0).box1 4).2
  have k30 := (h1.sw2.sw1.sw0).bx 0 rfl
  have k40 := (h1.sw3.sw2.sw1.sw0).bx 0 rfl
  have H1 := Lib.hid h1
  have HW0 := Lib.hid hb0
  clear h1
  refine (callsIn_wide (n := 9)).1 ?_
  refine callsIn_of_wp_marks Try.func87 rfl trivial ?_ rfl
  simp only [Try.ntmps87, List.size_toArray, List.length_cons, List.length_nil, Nat.reduceAdd, Nat.reduceSub, Array.replicate_succ, Array.replicate_zero, List.push_toArray, List.append_toArray, List.nil_append, List.cons_append]
  gi_wp2_with fail
  have h2 := H1.out.res_set (v0 := .int .i64 0) (v1 := .int .i64 0) (v2 := .int .i64 0) (v3 := .int .i64 0) (v4 := .int .i64 0) (a := .bool false) (b := .int .i64 2)
  refine ⟨_, step_results (v := ev0) h2 rfl rfl rfl, rfl, h2.to_below⟩
set_option maxRecDepth 100000 in
set_option maxHeartbeats 4000000 in
theorem Kn_run (to : Int) : Calls Try.prog 77 #[.pointer none, .int .i64 to] w fun e w' => e = .returned (.tuple #[.slice none 0 0, .int .i64 2]) ∧ Below w.heap.size w w' := by
  go_enter Try.func77, Try.ntmps77
  go_wp2_with fail
  go_loopg [6] 1 (fun gh s6 wr => s6 = .slice none 0 0 ∧ w = wr)
  case atStart => exact ⟨rfl, rfl⟩
  case round =>
    obtain ⟨rfl, rfl⟩ := hrel
    have HS := Lib.hid (Kn_step w to)
    go_wp2_with fail
    refine HS.out.mono ?_
    rintro e x1 ⟨rfl, h1⟩
    have HB := Lib.hid (h1.alloc (o := .cells #[.int .i64 0, .int .i64 0, .int .i64 0, .int .i64 0, .int .i64 0] 109) h1.size)
    clear h1
    go_wp2_with fail
    go_ret2
    exact ⟨rfl, HB.out⟩
end
/-- a call by value, alone -/
theorem one_ops {A : World} {b : Nat} {o : Op19} (h : ∀ j u, (opV o)[j]? = some u → A.cell? ⟨b, j, none⟩ = some u) (hb : b < A.heap.size) (hg : OpGood19 A o) : OpsAt19 A (some ⟨b, 0, none⟩) [o] := by
  refine ⟨.inr ⟨b, 0, rfl, hb, fun k hk => ?_⟩, fun x hx => by rw [List.mem_singleton.1 hx]; exact hg⟩
  have hk0 : k = 0 := by simp at hk; omega
  subst hk0
  unfold OpCells19
  rw [add_zero', add_zero', add_zero', add_zero']
  exact ⟨h 0 _ rfl, h 1 _ rfl, h 2 _ rfl, h 3 _ rfl, h 4 _ rfl⟩
set_option maxRecDepth 100000 in
set_option maxHeartbeats 8000000 in
theorem knil_ok (o : Op19) (w : World) (hg : OpGood19 w o) : Calls Try.prog 24 #[.agg (opV o).toArray] w fun e w' => e = .returned (.bool true) ∧ Below w.heap.size w w' := by
  obtain ⟨ask, kd, id, at', la, lc, zs⟩ := o
  obtain ⟨n, hn⟩ : ∃ n, zs.length = n := ⟨_, rfl⟩
  obtain ⟨b0, hb0⟩ : ∃ b, w.heap.size = b := ⟨_, rfl⟩
  obtain ⟨W, hW⟩ : ∃ x, w.alloc (.cells #[.int .i64 ask, .int .i64 kd, .int .i64 id, .int .i64 at', .slice la n lc] 119) = x := ⟨_, rfl⟩
  have h1 := (On.emp w).new1 119 #[.int .i64 ask, .int .i64 kd, .int .i64 id, .int .i64 at', .slice la n lc]
  rw [hW, hb0] at h1
  have k00 := (h1).bx 0 rfl
  have k01 := (h1).bx 1 rfl
  have k02 := (h1).bx 2 rfl
  have k03 := (h1).bx 3 rfl
  have k04 := (h1).bx 4 rfl
  obtain ⟨b1, hb1⟩ : ∃ b, W.heap.size = b := ⟨_, rfl⟩
  obtain ⟨W1, hW1⟩ : ∃ x, W.alloc (.cells #[.int .i64 ask, .int .i64 kd, .int .i64 id, .int .i64 at', .slice la n lc] 119) = x := ⟨_, rfl⟩
  have h2 := h1.new1 119 #[.int .i64 ask, .int .i64 kd, .int .i64 id, .int .i64 at', .slice la n lc]
  rw [hW1, hb1] at h2
  have hg1 : OpGood19 W1 ⟨ask, kd, id, at', la, lc, zs⟩ := fun k hk => by
    obtain ⟨b, off, g1, g2, g3⟩ := hg k hk
    exact ⟨b, off, g1, Nat.lt_of_lt_of_le g2 h2.to_below.size, (h2.to_below.cell g2).trans g3⟩
  have hops : OpsAt19 W1 (some ⟨b1, 0, none⟩) [⟨ask, kd, id, at', la, lc, zs⟩] := one_ops (fun j u hu => (h2.box1 j).1.trans (by
    unfold opV at hu
    simp only [hn] at hu
    rw [List.getElem?_toArray]
    exact hu)) (by obtain ⟨F, hF, _⟩ := h2.get1; exact lt_of_some hF.1) hg1
  have hfew := few19_any hops 1 W1 (Below.refl _ _) (by simp)
  have e1 : ([⟨ask, kd, id, at', la, lc, zs⟩] : List Op19).length = 1 := rfl
  have e2 : decide (fewP19 [⟨ask, kd, id, at', la, lc, zs⟩]) = decide (n ≤ 20) := by
    rw [decide_eq_decide]
    unfold fewP19
    simp [hn]
  rw [e1, e2] at hfew
  have HFew := Lib.hid hfew
  have m10 := (h2.sw0).bx 0 rfl
  have m11 := (h2.sw0).bx 1 rfl
  have m12 := (h2.sw0).bx 2 rfl
  have m13 := (h2.sw0).bx 3 rfl
  have m14 := (h2.sw0).bx 4 rfl
  have H2 := Lib.hid h2
  show Calls Try.prog 24 #[.agg (opV ⟨ask, kd, id, at', la, lc, zs⟩).toArray] w _
  unfold opV
  simp only [hn]
  clear h1 h2 hg hg1 hops hfew e1 e2 hn
  by_cases h20 : n ≤ 20
  · rw [decide_eq_true h20] at HFew
    go_enter Try.func24, Try.ntmps24
    go_wp2_with fail
    refine HFew.out.mono ?_
    rintro e w1 ⟨rfl, rfl⟩
    have HSt := Lib.hid (Kn_step w1 at')
    clear k00 k01 k02 k03 k04
    go_wp2_with fail
    refine HSt.out.mono ?_
    rintro e x1 ⟨rfl, hb1⟩
    have h3 := H2.out.below hb1
    clear m10 m11 m12 m13 m14
    obtain ⟨b4, hb4⟩ : ∃ b, x1.heap.size = b := ⟨_, rfl⟩
    obtain ⟨W2, hW2⟩ : ∃ x, x1.alloc (.cells #[.int .i64 0, .int .i64 0, .int .i64 0, .int .i64 0, .int .i64 0] 109) = x := ⟨_, rfl⟩
    have h4 := h3.new1 109 #[.int .i64 0, .int .i64 0, .int .i64 0, .int .i64 0, .int .i64 0]
    rw [hW2, hb4] at h4
    have k00 := (h4).bx 0 rfl
    have k00f := ((h4).box1 0).2
    have k01 := (h4).bx 1 rfl
    have k01f := ((h4).box1 1).2
    have k02 := (h4).bx 2 rfl
    have k02f := ((h4).box1 2).2
    have k03 := (h4).bx 3 rfl
    have k03f := ((h4).box1 3).2
    have k04 := (h4).bx 4 rfl
    have k04f := ((h4).box1 4).2
    have k23 := (h4.sw1.sw0).bx 3 rfl
    have s0 := h4.set_same 0 rfl
    have s1 := h4.set_same 1 rfl
    have s2 := h4.set_same 2 rfl
    have s3 := h4.set_same 3 rfl
    have s4 := h4.set_same 4 rfl
    have H4 := Lib.hid h4
    have HRu := Lib.hid (Kn_run W2 at')
    clear hb1 h3 h4
    go_wp2_with fail
    refine HRu.out.mono ?_
    rintro e x2 ⟨rfl, hb2⟩
    have h5 := H4.out.below hb2
    clear k00 k01 k02 k03 k04 k00f k01f k02f k03f k04f s0 s1 s2 s3 s4 hW2 hb2 k23
    have k00 := (h5).bx 0 rfl
    have k01 := (h5).bx 1 rfl
    have k02 := (h5).bx 2 rfl
    have k03 := (h5).bx 3 rfl
    have k04 := (h5).bx 4 rfl
    have k20 := (h5.sw1.sw0).bx 0 rfl
    have k21 := (h5.sw1.sw0).bx 1 rfl
    have k22 := (h5.sw1.sw0).bx 2 rfl
    have k23 := (h5.sw1.sw0).bx 3 rfl
    have k24 := (h5.sw1.sw0).bx 4 rfl
    have HWh := Lib.hid (Kn_when x2 kd id)
    have HNx := Lib.hid (Kn_next x2)
    have HSe := Lib.hid (Kn_set x2 kd id at')
    have HCl := Lib.hid (Kn_clear x2 kd id)
    have HLa := Lib.hid (Kn_late x2 (.slice la n lc))
    have HNo := Lib.hid (Kn_now x2)
    have HWo := Lib.hid (Kn_worst x2)
    have HLe := Lib.hid (Kn_len x2)
    have HF := Lib.hid h5.to_below
    have hq : ∀ w, (binOp BinOp.eql 109 (.agg #[.int .i64 0, .int .i64 0, .int .i64 0, .int .i64 0, .int .i64 0]) (.agg #[.int .i64 0, .int .i64 0, .int .i64 0, .int .i64 0, .int .i64 0])).run Try.prog w = .ok (.bool true) w := fun w => by rw [eql109]; rfl
    clear h5
    go_wp2_with fail
    refine HWh.out.mono ?_
    rintro e x3 ⟨rfl, rfl⟩
    go_wp2_with fail
    refine HNx.out.mono ?_
    rintro e x3 ⟨rfl, rfl⟩
    go_wp2_with fail
    refine HSe.out.mono ?_
    rintro e x3 ⟨rfl, rfl⟩
    go_wp2_with fail
    refine HCl.out.mono ?_
    rintro e x3 ⟨rfl, rfl⟩
    go_wp2_with fail
    refine HLa.out.mono ?_
    rintro e x3 ⟨rfl, rfl⟩
    go_wp2_with fail
    refine HNo.out.mono ?_
    rintro e x3 ⟨rfl, rfl⟩
    go_wp2_with fail
    refine HWo.out.mono ?_
    rintro e x3 ⟨rfl, rfl⟩
    go_wp2_with fail
    refine HLe.out.mono ?_
    rintro e x3 ⟨rfl, hb3⟩
    have HCo := Lib.hid (Kn_copy x3)
    have HF3 := Lib.hid (HF.out.trans (hb3.mono HF.out.size))
    clear hb3
    go_wp2_with fail
    refine HCo.out.mono ?_
    rintro e x5 ⟨rfl, rfl⟩
    have HAw := Lib.hid (kawake_ok x3)
    go_wp2_with fail
    refine HAw.out.mono ?_
    rintro e w4 ⟨rfl, hb4⟩
    have HB4 := Lib.hid hb4
    clear hb4
    go_wp2_with fail
    go_ret
    exact ⟨rfl, HF3.out.trans (HB4.out.mono HF3.out.size)⟩
  · rw [decide_eq_false h20] at HFew
    go_enter Try.func24, Try.ntmps24
    go_wp2_with fail
    refine HFew.out.mono ?_
    rintro e w1 ⟨rfl, rfl⟩
    have HAw := Lib.hid (kawake_ok w1)
    have HF := Lib.hid H2.out.to_below
    go_wp2_with fail
    refine HAw.out.mono ?_
    rintro e w4 ⟨rfl, hb4⟩
    have HB4 := Lib.hid hb4
    clear hb4
    go_wp2_with fail
    go_ret
    exact ⟨rfl, HF.out.trans (HB4.out.mono HF.out.size)⟩
end Go.Proofs.Ytkjpkhpiojahkaa
