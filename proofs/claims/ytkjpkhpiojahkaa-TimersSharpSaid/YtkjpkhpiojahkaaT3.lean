/-
  Walks: Due of a queue of timers.
-/
import Derived.Test.YtkjpkhpiojahkaaT2
import Derived.Test.YtkjpkhpiojahkaaTm
import Derived.Test.YtkjpkhpiojahkaaRow2
import Derived.Test.YtkjpkhpiojahkaaTail2
namespace Go.Proofs.Ytkjpkhpiojahkaa
set_option linter.unusedVariables false
open Go.RowKit Hp
attribute [local go_sem] Oper.semAt_some

def dueE (now t : Int) : Int := if timeE t = 0 then (if t < now then 10 else 0) else timeE t
/-- those that are left -/
def late (S : List (It Int)) (t : Int) : List (It Int) := S.drop (upto S t).length
/-- how late the latest one is then -/
def worstS (worst t : Int) (T : List (It Int)) : Int := T.foldl (fun m x => max m (t - x.2)) worst
theorem worstS_snoc (worst t : Int) (T : List (It Int)) (x : It Int) : worstS worst t (T ++ [x]) = max (worstS worst t T) (t - x.2) := by simp [worstS]
/-- a timer that fired, as cells -/
def firedC (t : Int) (x : It Int) : List Value := [.int .i64 x.1, .int .i64 x.2, .int .i64 (t - x.2)]
def firedA (v : Value) (t : Int) (T : List (It Int)) : Ast := rowA v 64 3 T.length (T.flatMap (firedC t))
theorem Plain.fired (v : Value) (t : Int) (T : List (It Int)) : Plain (firedA v t T) := Plain.row _ _ _ _ _
theorem info64 : (Try.prog.info? 64).map (fun i => (i.zero, i.size, i.bytes)) = some (some (.agg #[.int .i64 0, .int .i64 0, .int .i64 0]), 3, 24) := by kernel_rfl
theorem firedSlice : SliceOf Try.prog 60 64 3 24 := by
  obtain ⟨i0, hi0, hz0, hz1, hz2⟩ := info_parts2 info64
  exact ⟨Try.underlying60, ⟨i0, _, hi0, hz0, hz1, hz2, rfl⟩, by omega⟩
theorem firedA_nil (w : World) (t : Int) : (firedA (.slice none 0 0) t []).holds w (fun _ => False) := ⟨World.ownsRow_nil _ _ _ _, fun j => by simp [Value.ownBlock]⟩
theorem timeE_ok {t : Int} (h : timeE t = 0) : 0 ≤ t ∧ t < 1099511627776 := by
  unfold timeE at h
  split at h
  · cases h
  · split at h
    · cases h
    · omega
theorem upto_le {T : List (It Int)} {t : Int} {x : It Int} (h : x ∈ upto T t) : x.2 ≤ t := by
  induction T with
  | nil => cases h
  | cons y T ih =>
    unfold upto at h ih
    rw [List.takeWhile_cons] at h
    split at h
    · rename_i hy
      rcases List.mem_cons.1 h with h | h
      · rw [h]; simpa using hy
      · exact ih h
    · cases h
def cellF (b : Nat) (t : Int) (T : List (It Int)) : Ast := exA fun v : Value => sep (boxA b 60 #[v]) (firedA v t T)
theorem Plain.cellF (b : Nat) (t : Int) (T : List (It Int)) : Plain (cellF b t T) := Plain.ex fun _ => (Plain.box _ _ _).sep (Plain.fired _ _ _)

section
variable {w0 w : World} {tb : Nat} {S : List (It Int)} {R : Ast} {most now worst : Int}
set_option maxRecDepth 100000 in
set_option maxHeartbeats 4000000 in
theorem T_due_not (h : On w0 w (sep (tqA tb most S now worst) R)) (t : Int) (hd : dueE now t ≠ 0) :
    Calls Try.prog 45 #[.pointer (some ⟨tb, 0, none⟩), .int .i64 t] w fun e w' => e = .returned (.tuple #[.slice none 0 0, .int .i64 (dueE now t)]) ∧ On w0 w' (sep (tqA tb most S now worst) R) := by
  obtain ⟨qb, h1⟩ := h.tq_open
  obtain ⟨b0, hb0⟩ : ∃ b, w.heap.size = b := ⟨_, rfl⟩
  obtain ⟨tt, htt⟩ : ∃ tt, timeE t = tt := ⟨_, rfl⟩
  obtain ⟨W, hW⟩ : ∃ W, (w.alloc (.cells #[.pointer (some ⟨tb, 0, none⟩)] 55)).alloc (.cells #[.int .i64 t] 3) = W := ⟨_, rfl⟩
  have h2 := (h1.new1 55 #[.pointer (some ⟨tb, 0, none⟩)]).new1 3 #[.int .i64 t]
  simp only [World.size_alloc, hb0] at h2
  rw [hW] at h2
  have ht := time_any t W
  rw [htt] at ht
  have HT := Lib.hid ht
  have HF := Lib.hid ((h2.below ((Below.refl _ W).drew)).out1.out1.tq_shut)
  have HF0 := Lib.hid (h2.out1.out1.tq_shut)
  have c0 : W.cell? ⟨b0, 0, none⟩ = some (.pointer (some ⟨tb, 0, none⟩)) := ((h2.sw0).box1 0).1
  have c1 : W.cell? ⟨b0 + 1, 0, none⟩ = some (.int .i64 t) := (h2.box1 0).1
  have c2 : W.cell? ⟨tb, 2, none⟩ = some (.int .i64 now) := ((h2.sw1.sw0).box1 2).1
  obtain ⟨de, hde⟩ : ∃ de, dueE now t = de := ⟨_, rfl⟩
  rw [hde] at hd ⊢
  by_cases h0 : tt = 0
  · have htn : t < now := by
      rcases Int.lt_or_le t now with h | h
      · exact h
      · exfalso
        apply hd
        rw [← hde]
        unfold dueE
        rw [htt, if_pos h0, if_neg (by omega)]
    have hd10 : de = 10 := by rw [← hde]; unfold dueE; rw [htt, if_pos h0, if_pos htn]
    subst hd10 h0
    have g1 : decide (t < now) = true := by simp; omega
    clear h h1 h2 hd hde htt ht
    refine (callsIn_wide (n := 9)).1 ?_
    refine callsIn_of_wp_marks Try.func45 rfl trivial ?_ rfl
    simp only [Try.ntmps45, List.size_toArray, List.length_cons, List.length_nil, Nat.reduceAdd, Nat.reduceSub, Array.replicate_succ, Array.replicate_zero, List.push_toArray, List.append_toArray, List.nil_append, List.cons_append]
    gi_wp2_with fail
    clear hW
    refine ⟨trivial, ?_⟩
    refine (callsIn_wide.2 HT.out).mono ?_
    rintro e w1 ⟨rfl, rfl⟩
    gi_wp2_with fail
    refine wpIn_wide.2 ?_
    refine wp_region_loose (fun A => A = W.drew) (by kernel_rfl) (by kernel_rfl) rfl ?_
    iterate 6 (first
      | (refine loose_skip (by rfl) ?_; simp only [Act.put, List.setIfInBounds_toArray, List.set_cons_zero, List.set_cons_succ])
      | (refine loose_val (v := ?_) (by rfl) ?_ ?_; rotate_left; (focus (intro A' hA'; subst hA' ;  have c0' : W.drew.cell? ⟨b0, 0, none⟩ = some (.pointer (some ⟨tb, 0, none⟩)) := c0 ;  have c1' : W.drew.cell? ⟨b0 + 1, 0, none⟩ = some (.int .i64 t) := c1 ;  have c2' : W.drew.cell? ⟨tb, 2, none⟩ = some (.int .i64 now) := c2; go_simp; first | done | with_reducible rfl)); simp only [Act.put, List.setIfInBounds_toArray, List.set_cons_zero, List.set_cons_succ]))
    refine loose_nil ?_
    intro A3 hA3
    subst hA3
    gi_wp2_with fail
    exact ⟨.tuple #[.slice none 0 0, .int .i64 10], by simp [results, Try.f45, go_sem], rfl, HF.out⟩
  · have hdt : de = tt := by rw [← hde]; unfold dueE; rw [htt, if_neg h0]
    subst hdt
    have g2 : (de != 0) = true := by simp [h0]
    clear h h1 h2 hd hde htt ht
    refine (callsIn_wide (n := 9)).1 ?_
    refine callsIn_of_wp_marks Try.func45 rfl trivial ?_ rfl
    simp only [Try.ntmps45, List.size_toArray, List.length_cons, List.length_nil, Nat.reduceAdd, Nat.reduceSub, Array.replicate_succ, Array.replicate_zero, List.push_toArray, List.append_toArray, List.nil_append, List.cons_append]
    gi_wp2_with fail
    clear hW
    refine ⟨trivial, ?_⟩
    refine (callsIn_wide.2 HT.out).mono ?_
    rintro e w1 ⟨rfl, rfl⟩
    gi_wp2_with fail
    exact ⟨.tuple #[.slice none 0 0, .int .i64 de], by simp [results, Try.f45, go_sem], rfl, HF0.out⟩
set_option maxRecDepth 100000 in
set_option maxHeartbeats 4000000 in
theorem T_due (h : On w0 w (sep (tqA tb most S now worst) R)) (hs : Sorted ltI S) (hT : Timed S) (hl : S.length < 700000) (hR : Plain R) (t : Int) (hd : dueE now t = 0) :
    Calls Try.prog 45 #[.pointer (some ⟨tb, 0, none⟩), .int .i64 t] w fun e w' => ∃ v, e = .returned (.tuple #[v, .int .i64 0]) ∧ On w0 w' (sep (firedA v t (upto S t)) (sep (tqA tb most (late S t) t (worstS worst t (upto S t))) R)) := by
  obtain ⟨qb, h1⟩ := h.tq_open
  obtain ⟨b0, hb0⟩ : ∃ b, w.heap.size = b := ⟨_, rfl⟩
  have ht0 : timeE t = 0 := by
    unfold dueE at hd
    split at hd
    · assumption
    · exact hd
  have htn : ¬ t < now := by
    unfold dueE at hd
    rw [if_pos ht0] at hd
    split at hd
    · cases hd
    · assumption
  obtain ⟨W, hW⟩ : ∃ W, (w.alloc (.cells #[.pointer (some ⟨tb, 0, none⟩)] 55)).alloc (.cells #[.int .i64 t] 3) = W := ⟨_, rfl⟩
  have h2 := (h1.new1 55 #[.pointer (some ⟨tb, 0, none⟩)]).new1 3 #[.int .i64 t]
  simp only [World.size_alloc, hb0] at h2
  rw [hW] at h2
  have ht := time_any t W
  rw [ht0] at ht
  have HT := Lib.hid ht
  have c0 : W.cell? ⟨b0, 0, none⟩ = some (.pointer (some ⟨tb, 0, none⟩)) := ((h2.sw0).box1 0).1
  have c1 : W.cell? ⟨b0 + 1, 0, none⟩ = some (.int .i64 t) := (h2.box1 0).1
  have c2 : W.cell? ⟨tb, 2, none⟩ = some (.int .i64 now) := ((h2.sw1.sw0).box1 2).1
  have c3 : W.frozen? ⟨tb, 2, none⟩ = false := ((h2.sw1.sw0).box1 2).2
  have H2 := Lib.hid h2
  have HT0 := Lib.hid ht0
  have HS := Lib.hid hs
  have HTm := Lib.hid hT
  have g1 : decide (t < now) = false := by simp; omega
  clear h h1 h2 hd ht ht0 hs hT
  refine (callsIn_wide (n := 9)).1 ?_
  refine callsIn_of_wp_marks Try.func45 rfl trivial ?_ rfl
  simp only [Try.ntmps45, List.size_toArray, List.length_cons, List.length_nil, Nat.reduceAdd, Nat.reduceSub, Array.replicate_succ, Array.replicate_zero, List.push_toArray, List.append_toArray, List.nil_append, List.cons_append]
  gi_wp2_with fail
  clear hW
  refine ⟨trivial, ?_⟩
  refine (callsIn_wide.2 HT.out).mono ?_
  rintro e w1 ⟨rfl, rfl⟩
  gi_wp2_with fail
  refine wpIn_wide.2 ?_
  refine wp_region_loose (fun A => A = W.drew) (by kernel_rfl) (by kernel_rfl) rfl ?_
  iterate 6 (first
    | (refine loose_skip (by rfl) ?_; simp only [Act.put, List.setIfInBounds_toArray, List.set_cons_zero, List.set_cons_succ])
    | (refine loose_val (v := ?_) (by rfl) ?_ ?_; rotate_left; (focus (intro A' hA'; subst hA' ;  have c0' : W.drew.cell? ⟨b0, 0, none⟩ = some (.pointer (some ⟨tb, 0, none⟩)) := c0 ;  have c1' : W.drew.cell? ⟨b0 + 1, 0, none⟩ = some (.int .i64 t) := c1 ;  have c2' : W.drew.cell? ⟨tb, 2, none⟩ = some (.int .i64 now) := c2; go_simp; first | done | with_reducible rfl)); simp only [Act.put, List.setIfInBounds_toArray, List.set_cons_zero, List.set_cons_succ]))
  refine loose_nil ?_
  intro A3 hA3
  subst hA3
  obtain ⟨bo, hbo⟩ : ∃ b, W.heap.size = b := ⟨_, rfl⟩
  obtain ⟨x1, hx1⟩ : ∃ x, W.setCell ⟨tb, 2, none⟩ (.int .i64 t) = x := ⟨_, rfl⟩
  obtain ⟨x2, hx2⟩ : ∃ x, x1.alloc (.cells #[.slice none 0 0] 60) = x := ⟨_, rfl⟩
  have hs1 : x1.heap.size = bo := by rw [← hx1, ← hbo]; simp [World.setCell]
  have h3 := (H2.out.sw1.sw0).box_set 2 (.int .i64 t)
  rw [hx1] at h3
  have h4 := h3.new1 60 #[.slice none 0 0]
  rw [hx2, hs1] at h4
  have h5 : On w0 x2.drew.drew (sep (boxA bo 60 #[.slice none 0 0]) (sep (boxA tb 152 #[.int .i64 most, .pointer (some ⟨qb, 0, none⟩), .int .i64 t, .int .i64 worst]) (sep (boxA (b0 + 1) 3 #[.int .i64 t]) (sep (boxA b0 55 #[.pointer (some ⟨tb, 0, none⟩)]) (sep (quA qb S) R))))) := h4.below ((Below.refl _ x2).drew.drew)
  have d0 : x2.drew.drew.cell? ⟨b0, 0, none⟩ = some (.pointer (some ⟨tb, 0, none⟩)) := ((h5.sw2.sw1.sw0).box1 0).1
  have d1 : x2.drew.drew.cell? ⟨b0 + 1, 0, none⟩ = some (.int .i64 t) := ((h5.sw1.sw0).box1 0).1
  have d2 : x2.drew.drew.cell? ⟨tb, 1, none⟩ = some (.pointer (some ⟨qb, 0, none⟩)) := ((h5.sw0).box1 1).1
  have hun : Calls Try.prog 37 #[.pointer (some ⟨qb, 0, none⟩), .int .i64 t] x2.drew.drew fun e w' => ∃ bl bt, e = .returned (.func (.func 104) #[] #[.pointer (some ⟨bl, 0, none⟩), .pointer (some ⟨bt, 0, none⟩)]) ∧ w'.cell? ⟨b0, 0, none⟩ = some (.pointer (some ⟨tb, 0, none⟩)) ∧ w'.cell? ⟨b0 + 1, 0, none⟩ = some (.int .i64 t) ∧ w'.cell? ⟨tb, 1, none⟩ = some (.pointer (some ⟨qb, 0, none⟩)) ∧
      Hid (On w0 w' (sep (untA bl bt S t) (sep (quA qb S) (sep (boxA bo 60 #[.slice none 0 0]) (sep (boxA tb 152 #[.int .i64 most, .pointer (some ⟨qb, 0, none⟩), .int .i64 t, .int .i64 worst]) (sep (boxA (b0 + 1) 3 #[.int .i64 t]) (sep (boxA b0 55 #[.pointer (some ⟨tb, 0, none⟩)]) R))))))) := by
    refine (Q_until (h5.sw3.sw2.sw1.sw0) HS.out (by omega) t).mono fun e w' ⟨bl, bt, he, h6⟩ => ?_
    exact ⟨bl, bt, he, ((h6.sw4.sw3.sw2.sw1.sw0).box1 0).1, ((h6.sw3.sw2.sw1.sw0).box1 0).1, ((h6.sw2.sw1.sw0).box1 1).1, Lib.hid h6⟩
  have HUn := Lib.hid hun
  clear h3 h4 h5 hun
  gi_wp2_with fail
  clear hx1 hx2 hbo hs1
  refine wpIn_wide.2 ?_
  go_region_held3 (fun A0 => A0.cell? ⟨b0, 0, none⟩ = some (.pointer (some ⟨tb, 0, none⟩)) ∧ A0.cell? ⟨b0 + 1, 0, none⟩ = some (.int .i64 t) ∧ A0.cell? ⟨tb, 1, none⟩ = some (.pointer (some ⟨qb, 0, none⟩)))
    (first | (refine ⟨?_, ?_, ?_⟩ <;> assumption) | go_keep)
    (first
      | (go_at_call 37; refine HUn.out.mono ?_; rintro e A1 ⟨bl, bt, rfl, e0, e1, e2, HA1⟩))
  all_goals have hq : ∀ w, (binOp BinOp.eql 47 (.func (.func 104) #[] #[.pointer (some ⟨bl, 0, none⟩), .pointer (some ⟨bt, 0, none⟩)]) .nilFunc).run Try.prog w = .ok (.bool false) w := fun w => by kernel_rfl
  all_goals gi_wp2_with fail
  have hon : On w0 A1 (sep (untA bl bt S t) (sep (cellF bo t []) (sep (boxA tb 152 #[.int .i64 most, .pointer (some ⟨qb, 0, none⟩), .int .i64 t, .int .i64 (worstS worst t [])]) (sep (quA qb (S.drop 0)) (sep (boxA (b0 + 1) 3 #[.int .i64 t]) (sep (boxA b0 55 #[.pointer (some ⟨tb, 0, none⟩)]) R)))))) := by
    have h6 := HA1.out.add (Below.refl _ A1) (firedA_nil A1 t) (fun _ h => h.elim)
    exact On.sw0 (On.ex_shut (f := fun v : Value => sep (boxA bo 60 #[v]) (firedA v t [])) (.slice none 0 0) (On.assoc' (h6.sw2.sw1.sw0.sw3)))
  have HOn := Lib.hid hon
  clear hon e0 e1 e2 d0 d1 d2 c0 c1 c2 c3
  refine wpIn_range_on rfl (by omega) (gf := 104) (lb := #[.pointer (some ⟨bl, 0, none⟩), .pointer (some ⟨bt, 0, none⟩)]) rfl trivial (enters_of Try.func104 (by kernel_rfl) rfl)
    (Sq := untA bl bt S t) (Plain.unt bl bt S t) (fun pre => sep (cellF bo t pre) (sep (boxA tb 152 #[.int .i64 most, .pointer (some ⟨qb, 0, none⟩), .int .i64 t, .int .i64 (worstS worst t pre)]) (sep (quA qb (S.drop pre.length)) (sep (boxA (b0 + 1) 3 #[.int .i64 t]) (sep (boxA b0 55 #[.pointer (some ⟨tb, 0, none⟩)]) R)))))
    (fun _ => (Plain.cellF _ _ _).sep ((Plain.box _ _ _).sep ((Plain.qu _ _).sep ((Plain.box _ _ _).sep ((Plain.box _ _ _).sep hR))))) (fun _ _ => prA False) (fun _ _ => Plain.pr _) HOn.out (fun K hK => unt_iter _ (by omega) hK) (fun _ => rfl) ?round ?done ?stop
  case round =>
    rintro K l pre ⟨x1, x2⟩ A hlA hlr hpre hon
    have hlp := hpre.length_le
    rw [List.length_append, List.length_singleton] at hlp
    have hx : (upto S t)[pre.length]? = some (x1, x2) := by
      obtain ⟨t', ht⟩ := hpre
      rw [← ht, List.append_assoc, List.getElem?_append_right (Nat.le_refl _)]
      simp
    have hxt : x2 ≤ t := upto_le (List.mem_of_getElem? hx)
    have hlu := (upto_pre S t).length_le
    have hxS : S[pre.length]? = some (x1, x2) := by
      obtain ⟨t', ht⟩ := upto_pre S t
      rw [← ht, List.getElem?_append_left (by omega)]
      exact hx
    have hlS : pre.length < S.length := by omega
    have hdr : S.drop pre.length = (x1, x2) :: S.drop (pre.length + 1) := by
      rw [List.drop_eq_getElem_cons hlS]
      congr 1
      rw [List.getElem?_eq_getElem hlS] at hxS
      exact Option.some.inj hxS
    have hx0 := timeE_ok (HTm.out _ (List.mem_of_getElem? hxS))
    have ht0 := timeE_ok HT0.out
    obtain ⟨ww, hww⟩ : ∃ ww, worstS worst t pre = ww := ⟨_, rfl⟩
    rw [hdr, hww] at hon
    obtain ⟨D, hD⟩ : ∃ D, S.drop (pre.length + 1) = D := ⟨_, rfl⟩
    rw [hD] at hon
    have hdl : D.length < 700000 := by rw [← hD, List.length_drop]; omega
    obtain ⟨kb, hkb⟩ : ∃ b, A.heap.size = b := ⟨_, rfl⟩
    obtain ⟨A2, hA2⟩ : ∃ A2, A.alloc (.cells #[.int .i64 x2, .int .i64 x1] 24) = A2 := ⟨_, rfl⟩
    have h8 := (hon.new1 24 #[.int .i64 x2, .int .i64 x1]).sw0
    rw [hA2, hkb] at h8
    have H9 := Lib.hid h8
    have HWw := Lib.hid hww
    have HD := Lib.hid hD
    have hpl : pre.length < 700000 := by omega
    clear hon hpre h8 hlr hx hxS hdr hlp hlu hlS hww hD
    gi_wp2_with fail
    clear hA2 hkb
    refine ⟨_, (Plain.box _ _ _).sep ((Plain.cellF _ _ _).sep ((Plain.box _ _ _).sep ((Plain.qu _ _).sep ((Plain.box _ _ _).sep ((Plain.box _ _ _).sep hR))))), H9.out, ?_⟩
    intro Wb
    intros
    rename_i h9
    have p0 : Wb.drew.cell? ⟨b0, 0, none⟩ = some (.pointer (some ⟨tb, 0, none⟩)) := ((h9.sw5.sw4.sw3.sw2.sw1.sw0).box1 0).1
    have p1 : Wb.drew.cell? ⟨tb, 1, none⟩ = some (.pointer (some ⟨qb, 0, none⟩)) := ((h9.sw2.sw1.sw0).box1 1).1
    have p2 : Wb.drew.cell? ⟨kb, 1, none⟩ = some (.int .i64 x1) := ((h9.sw0).box1 1).1
    have h10 := (h9.sw3.sw2.sw1.sw0).below ((Below.refl _ Wb).drew)
    obtain ⟨hid0, hidw⟩ := h10.qu_ids (x1, x2) (List.mem_cons_self ..)
    have hwo : without ((x1, x2) :: D) x1 = D := by
      have hd := h10.qu_distinct
      unfold without
      rw [List.filter_cons_of_neg (by simp)]
      exact List.filter_eq_self.2 fun y hy => by simpa using Ne.symm ((List.pairwise_cons.1 hd).1 y hy)
    have hdp := Q_drop h10 (by simp; omega) x1 hidw
    rw [hwo] at hdp
    have HDp := Lib.hid hdp
    clear h9 h10 hwo hdp
    gi_wp2_with fail
    refine wpIn_region_last (os := ?_) (s := ?_) (fun A' => A' = Wb.drew) (by simp only [List.dropLast]; rfl) (by rfl) (by kernel_rfl) (by kernel_rfl) (by kernel_rfl) (by kernel_rfl) rfl ?_
    iterate 6 (first
      | (refine loose_skip (by rfl) ?_; simp only [Act.put, List.setIfInBounds_toArray, List.set_cons_zero, List.set_cons_succ])
      | (refine loose_val (v := ?_) (by rfl) ?_ ?_; rotate_left; (focus (intro A' hA'; subst hA'; go_simp; first | done | with_reducible rfl)); simp only [Act.put, List.setIfInBounds_toArray, List.set_cons_zero, List.set_cons_succ]))
    refine loose_nil ?_
    intro A3 hA3
    subst hA3
    gi_wp2_with fail
    refine ⟨trivial, ?_⟩
    refine (CallsIn.inRound l (callsIn_wide.2 HDp.out)).mono ?_
    rintro e B1 ⟨rfl, h11⟩
    have q0 : B1.cell? ⟨b0, 0, none⟩ = some (.pointer (some ⟨tb, 0, none⟩)) := ((h11.sw5.sw4.sw3.sw2.sw1.sw0).box1 0).1
    have q1 : B1.cell? ⟨b0 + 1, 0, none⟩ = some (.int .i64 t) := ((h11.sw4.sw3.sw2.sw1.sw0).box1 0).1
    have q2 : B1.cell? ⟨kb, 0, none⟩ = some (.int .i64 x2) := ((h11.sw1.sw0).box1 0).1
    have q3 : B1.cell? ⟨kb, 1, none⟩ = some (.int .i64 x1) := ((h11.sw1.sw0).box1 1).1
    obtain ⟨fb, hfb⟩ : ∃ b, B1.heap.size = b := ⟨_, rfl⟩
    obtain ⟨B2, hB2⟩ : ∃ B2, B1.alloc (.cells #[.int .i64 x1, .int .i64 x2, .int .i64 (t - x2)] 64) = B2 := ⟨_, rfl⟩
    have h12 := h11.new1 64 #[.int .i64 x1, .int .i64 x2, .int .i64 (t - x2)]
    rw [hB2, hfb] at h12
    have r0 : B2.cell? ⟨b0, 0, none⟩ = some (.pointer (some ⟨tb, 0, none⟩)) := ((h12.sw6.sw5.sw4.sw3.sw2.sw1.sw0).box1 0).1
    have r1 : B2.cell? ⟨tb, 3, none⟩ = some (.int .i64 ww) := ((h12.sw4.sw3.sw2.sw1.sw0).box1 3).1
    have r2 : B2.cell? ⟨fb, 2, none⟩ = some (.int .i64 (t - x2)) := (h12.box1 2).1
    have r3 : B2.frozen? ⟨tb, 3, none⟩ = false := ((h12.sw4.sw3.sw2.sw1.sw0).box1 3).2
    have H12 := Lib.hid h12
    have hsub : IntKind.i64.wrap (t - x2) = t - x2 := IntWalk.i64_in _ (by omega)
    obtain ⟨mw, hmw⟩ : ∃ m, max ww (t - x2) = m := ⟨_, rfl⟩
    have hmw' : (if ww < t - x2 then t - x2 else ww) = mw := by rw [← hmw]; omega
    have h13 := ((h12.below ((Below.refl _ B2).drew)).sw4.sw3.sw2.sw1.sw0).box_set 3 (.int .i64 mw)
    obtain ⟨B3, hB3⟩ : ∃ B3, B2.drew.setCell ⟨tb, 3, none⟩ (.int .i64 mw) = B3 := ⟨_, rfl⟩
    rw [hB3] at h13
    have s0 : B2.drew.cell? ⟨b0, 0, none⟩ = some (.pointer (some ⟨tb, 0, none⟩)) := r0
    have s1 : B2.drew.cell? ⟨tb, 3, none⟩ = some (.int .i64 ww) := r1
    have s2 : B2.drew.cell? ⟨fb, 2, none⟩ = some (.int .i64 (t - x2)) := r2
    have s3 : B2.drew.frozen? ⟨tb, 3, none⟩ = false := r3
    obtain ⟨v, h14⟩ := (h13.sw4.sw3.sw2.sw1.sw0).ex_open
    have h15 := h14.assoc
    obtain ⟨F, ⟨how0, _⟩, _⟩ := h15.sw0.get1
    obtain ⟨va, vc, rfl⟩ : ∃ q cc, v = .slice q pre.length cc := by
      rcases own_parts how0 with ⟨h1, h2⟩ | ⟨_, _, _, h1, _⟩
      · exact ⟨_, _, by rw [h2]; exact h1⟩
      · exact ⟨_, _, h1⟩
    have o0 : B3.cell? ⟨bo, 0, none⟩ = some (.slice va pre.length vc) := (h15.box1 0).1
    have o1 : B3.cell? ⟨fb, 0, none⟩ = some (.int .i64 x1) := ((h15.sw2.sw1.sw0).box1 0).1
    have o2 : B3.cell? ⟨fb, 1, none⟩ = some (.int .i64 x2) := ((h15.sw2.sw1.sw0).box1 1).1
    have o3 : B3.cell? ⟨fb, 2, none⟩ = some (.int .i64 (t - x2)) := ((h15.sw2.sw1.sw0).box1 2).1
    have h16 := h15.sw0
    have hbk : Below B3.heap.size B3 (B3.alloc (.cells #[.int .i64 x1, .int .i64 x2, .int .i64 (t - x2)] 64)) := (Below.refl _ B3).alloc (Nat.le_refl _) _
    obtain ⟨F, ⟨how, _⟩, _⟩ := (h16.below hbk).get1
    have HRd := Lib.hid (cells_reads B3 #[.int .i64 x1, .int .i64 x2, .int .i64 (t - x2)] 64)
    have HOw := Lib.hid how
    have hkc : ∀ u ∈ firedC t (x1, x2), u.oneCell' = true := by
      intro u hu
      simp [firedC] at hu
      rcases hu with rfl | rfl | rfl <;> rfl
    have hmx : pre.length + 1 ≤ maxLen := by unfold maxLen; omega
    have hby : (pre.length + 1) * 24 ≤ 140737488355328 := by omega
    have H16 := Lib.hid h16
    have HBk := Lib.hid hbk
    have HMw := Lib.hid hmw
    clear h11 h12 h13 h14 h15 h16 how0 how hbk hmw
    gi_wp2_with fail
    refine wpIn_region_last (os := ?_) (s := ?_) (fun A' => A' = B2.drew) (by simp only [List.dropLast]; rfl) (by rfl) (by kernel_rfl) (by kernel_rfl) (by kernel_rfl) (by kernel_rfl) rfl ?_
    iterate 10 (first
      | (refine loose_skip (by rfl) ?_; simp only [Act.put, List.setIfInBounds_toArray, List.set_cons_zero, List.set_cons_succ])
      | (refine loose_val (v := ?_) (by rfl) ?_ ?_; rotate_left; (focus (intro A' hA'; subst hA'; go_simp; first | done | with_reducible rfl)); simp only [Act.put, List.setIfInBounds_toArray, List.set_cons_zero, List.set_cons_succ]))
    refine loose_nil ?_
    intro A3 hA3
    subst hA3
    gi_wp2_with (gi_at_builtin; go_loud (refine wpListIn_append_any (by rfl) _ _ 60 (by rfl) 64 3 24 firedSlice (.slice va pre.length vc) pre.length (pre.flatMap (firedC t)) (by rfl) HOw.out _ 1 (firedC t (x1, x2)) (by rfl) HRd.out hkc hmx hby ?_; intro v' A5 hown hgrow hat; obtain ⟨qq, qn, qcc, rfl⟩ := own_form hown; have h17 := H16.out.row_push HBk.out hgrow hown hat; have s4 : A5.cell? ⟨bo, 0, none⟩ = some (.slice va pre.length vc) := (h17.sw0.box1 0).1; have s5 : A5.frozen? ⟨bo, 0, none⟩ = false := (h17.sw0.box1 0).2; have H17 := Lib.hid (h17.sw0.box_set 0 (.slice qq qn qcc)); clear h17 hown hgrow hat))
    have e1 : worstS worst t (pre ++ [(x1, x2)]) = mw := by rw [worstS_snoc, HWw.out]; exact HMw.out
    have e2 : S.drop (pre.length + 1) = D := HD.out
    have e3 : firedA (.slice qq qn qcc) t (pre ++ [(x1, x2)]) = rowA (.slice qq qn qcc) 64 3 (pre.length + 1) (pre.flatMap (firedC t) ++ firedC t (x1, x2)) := by unfold firedA; simp
    rw [e1, e2]
    have h18 := H17.out
    have h19 := (h18.sw2.sw1.sw0.sw5.sw4.sw3.sw2.sw1.sw5.sw4).out1.out1
    rw [← e3] at h19
    exact On.sw0 (On.ex_shut (f := fun v : Value => sep (boxA bo 60 #[v]) (firedA v t (pre ++ [(x1, x2)]))) _ h19.assoc')
  case done =>
    intro D A hD hon hKd
    have hDw : w0.heap.size ≤ D := Nat.le_trans HOn.out.to_below.size hD
    obtain ⟨v, h6⟩ := (hon.sw0).ex_open
    have h7 := h6.assoc
    obtain ⟨F, ⟨how0, _⟩, _⟩ := h7.sw0.get1
    obtain ⟨va, vc, rfl⟩ : ∃ q cc, v = .slice q (upto S t).length cc := by
      rcases own_parts how0 with ⟨h1, h2⟩ | ⟨_, _, _, h1, _⟩
      · exact ⟨_, _, by rw [h2]; exact h1⟩
      · exact ⟨_, _, h1⟩
    have o0 : A.cell? ⟨bo, 0, none⟩ = some (.slice va (upto S t).length vc) := (h7.box1 0).1
    have H7 := Lib.hid h7
    have HKd := Lib.hid hKd
    clear hon h6 h7 how0 hKd
    gi_wp2_with fail
    have h8 := H7.out
    have h9 := (h8.sw1.sw4.sw3.sw2.sw5.sw4.sw3).out1.out1.out1.out1
    have h10 := ((h9.sw0.sw1).tq_shut).sw0
    refine fin_mark (X := sep (firedA (.slice va (upto S t).length vc) t (upto S t)) (sep (tqA tb most (late S t) t (worstS worst t (upto S t))) R)) (v := .tuple #[.slice va (upto S t).length vc, .int .i64 0]) ((Plain.fired _ _ _).sep ((Plain.tq _ _ _ _ _).sep hR)) h10 hDw HKd.out (fun A' h => ⟨by simp [results, Try.f45, go_sem], _, rfl, h⟩)
  case stop =>
    intro D c pre A _ _ h _
    exact (On.pr_open (p := False) (On.comm h)).1.elim
end
end Go.Proofs.Ytkjpkhpiojahkaa
