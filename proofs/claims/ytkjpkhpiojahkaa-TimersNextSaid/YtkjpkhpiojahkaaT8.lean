/-
  Timers: any call of both; that a queue is the document's answer's.
-/
import Derived.Test.YtkjpkhpiojahkaaT7
namespace Go.Proofs.Ytkjpkhpiojahkaa
set_option linter.unusedVariables false
open Go.RowKit Hp
attribute [local go_sem] Oper.semAt_some run_store_func
namespace Hp
/-- timers, the clock, how late the latest one was -/
structure Tst where
  S : List (It Int)
  now : Int
  worst : Int
def step5 (most : Int) (s : Tst) (ask id t : Int) : Tst :=
  if ask = 0 then ⟨armS s.S most id t, s.now, s.worst⟩ else if ask = 1 then ⟨without s.S id, s.now, s.worst⟩
  else if ask = 2 then ⟨dueL s.S s.now t, dueN s.now t, dueW s.S s.now s.worst t⟩ else s
structure Tok (s : Tst) (n : Nat) : Prop where
  sorted : Sorted ltI s.S
  timed : Timed s.S
  len : s.S.length ≤ n
theorem Tok.mono {s : Tst} {n m : Nat} (h : Tok s n) (hnm : n ≤ m) : Tok s m := ⟨h.sorted, h.timed, Nat.le_trans h.len hnm⟩
theorem Tok.arm {s : Tst} {n : Nat} (h : Tok s n) (most id t : Int) : Sorted ltI (armS s.S most id t) ∧ Timed (armS s.S most id t) ∧ (armS s.S most id t).length ≤ n + 1 := by
  have hl := h.len
  unfold armS
  split
  · rename_i he
    have ht : timeE t = 0 := by
      unfold armE at he
      split at he
      · cases he
      · split at he
        · assumption
        · exact he
    refine ⟨ins_sorted ltI_swo (h.sorted.sublist without_sub) (fun y hy => ?_), fun x hx => ?_, ?_⟩
    · have := (List.mem_filter.1 hy).2
      simpa using this
    · rcases ins_mem.1 hx with rfl | hx
      · exact ht
      · exact h.timed x (without_sub.subset hx)
    · rw [ins_length]
      have := without_length_le (S := s.S) (id := id)
      omega
  · exact ⟨h.sorted, h.timed, by omega⟩
theorem Tok.step {s : Tst} {n : Nat} (h : Tok s n) (most ask id t : Int) : Tok (step5 most s ask id t) (n + 1) := by
  have hl := h.len
  unfold step5
  split
  · obtain ⟨h1, h2, h3⟩ := h.arm most id t
    exact ⟨h1, h2, h3⟩
  · split
    · exact ⟨h.sorted.sublist without_sub, fun x hx => h.timed x (without_sub.subset hx), by have := without_length_le (S := s.S) (id := id); show (without s.S id).length ≤ _; omega⟩
    · split
      · refine ⟨?_, ?_, ?_⟩
        · show Sorted ltI (dueL s.S s.now t)
          unfold dueL
          split
          · exact late_sorted h.sorted
          · exact h.sorted
        · show Timed (dueL s.S s.now t)
          unfold dueL
          split
          · exact Timed.late h.timed
          · exact h.timed
        · show (dueL s.S s.now t).length ≤ _
          unfold dueL
          split
          · have := late_length (S := s.S) (t := t); omega
          · omega
      · exact h.mono (by omega)
end Hp
section
variable {w0 w : World} {tb rb : Nat} {S : List (It Int)} {R : Ast} {most now worst ask id at' : Int}
theorem does5_ok {s : Tst} {n : Nat} (h : On w0 w (sep (tqA tb most s.S s.now s.worst) (sep (rqA rb most s.S s.now s.worst) R))) (hk : Tok s n) (hn : n < 700000) (hR : Tame R) (ask id at' : Int) (hw : (Lit.int .i64 id).wf = true) :
    Calls Try.prog 52 #[.pointer (some ⟨tb, 0, none⟩), .pointer (some ⟨rb, 0, none⟩), .agg #[.int .i64 ask, .int .i64 id, .int .i64 at']] w fun e w' => e = .returned (.bool true) ∧
      On w0 w' (sep (tqA tb most (step5 most s ask id at').S (step5 most s ask id at').now (step5 most s ask id at').worst) (sep (rqA rb most (step5 most s ask id at').S (step5 most s ask id at').now (step5 most s ask id at').worst) R)) := by
  have hl : s.S.length < 700000 := by have := hk.len; omega
  by_cases h0 : ask = 0
  · subst h0
    exact does5_arm h hk.sorted hl hw
  · by_cases h1 : ask = 1
    · subst h1
      exact does5_cancel h hl hw
    · by_cases h2 : ask = 2
      · subst h2
        exact does5_due h hk.sorted hk.timed hl hR
      · have e : step5 most s ask id at' = s := by unfold step5; rw [if_neg h0, if_neg h1, if_neg h2]
        rw [e]
        exact does5_when h hl hw h0 h1 h2
set_option maxRecDepth 100000 in
set_option maxHeartbeats 4000000 in
theorem same5_ok (h : On w0 w (sep (tqA tb most S now worst) (sep (rqA rb most S now worst) R))) (hs : Sorted ltI S) (hT : Timed S) (hl : S.length < 700000) (hR : Tame R) :
    Calls Try.prog 53 #[.pointer (some ⟨tb, 0, none⟩), .pointer (some ⟨rb, 0, none⟩)] w fun e w' => e = .returned (.bool true) ∧ On w0 w' (sep (tqA tb most S now worst) (sep (rqA rb most S now worst) R)) := by
  obtain ⟨b0, hb0⟩ : ∃ b, w.heap.size = b := ⟨_, rfl⟩
  obtain ⟨W, hW⟩ : ∃ W, ((w.alloc (.cells #[.pointer (some ⟨rb, 0, none⟩)] 73)).alloc (.cells #[.bool false] 4)).alloc (.cells #[.int .i64 0] 3) = W := ⟨_, rfl⟩
  have h1 := ((h.new1 73 #[.pointer (some ⟨rb, 0, none⟩)]).new1 4 #[.bool false]).new1 3 #[.int .i64 0]
  simp only [World.size_alloc, hb0] at h1
  rw [hW] at h1
  have y00 := (h1).bx 0 rfl
  have y00f := ((h1).box1 0).2
  obtain ⟨W2, hW2⟩ : ∃ x, W.setCell ⟨b0 + 1 + 1, 0, none⟩ (.int .i64 0) = x := ⟨_, rfl⟩
  replace h1 := h1.box_set 0 (.int .i64 0)
  rw [hW2] at h1
  have HAr := Lib.hid (T_armed (h1.sw2.sw1.sw0) hs hl)
  obtain ⟨k, hk⟩ : ∃ k, S.length = k := ⟨_, rfl⟩
  have HK := Lib.hid hk
  have HS := Lib.hid hs
  have HT := Lib.hid hT
  rw [hk] at hl
  clear h h1 hs hT hk
  refine (callsIn_wide (n := 9)).1 ?_
  refine callsIn_of_wp_marks Try.func53 rfl trivial ?_ rfl
  simp only [Try.ntmps53, List.size_toArray, List.length_cons, List.length_nil, Nat.reduceAdd, Nat.reduceSub, Array.replicate_succ, Array.replicate_zero, List.push_toArray, List.append_toArray, List.nil_append, List.cons_append]
  gi_wp2_with fail
  clear hW hb0 hW2 y00 y00f
  refine ⟨trivial, ?_⟩
  refine (callsIn_wide.2 HAr.out).mono ?_
  rintro e w3 ⟨ba, rfl, h3⟩
  have hq : ∀ w, (binOp BinOp.eql 84 (.func (.func 109) #[] #[.pointer (some ⟨ba, 0, none⟩)]) .nilFunc).run Try.prog w = .ok (.bool false) w := fun w => by kernel_rfl
  obtain ⟨hb, h4⟩ := (h3.sw4.sw3.sw2.sw1.sw0).rq_open
  obtain ⟨la, lc, h5⟩ := (h4.sw0).ref_open
  rw [HK.out] at h5
  -- the sequence, then n, the result, the document's answer's pointer, its blocks, the queue
  have h6 := (h5.sw2.sw1.sw0.sw4.sw3.sw2.sw1.sw5.sw4.sw3.sw2.sw6.sw5.sw4.sw3.sw5.sw4)
  have hRF := hR.at h6.out1.out1.out1.out1.out1.out1.out1.out1
  have H6 := Lib.hid h6
  clear h3 h4 h5 h6
  gi_wp2_with fail
  refine wpIn_range_onF rfl (by omega) (gf := 109) (lb := #[.pointer (some ⟨ba, 0, none⟩)]) rfl trivial (enters_of Try.func109 (by kernel_rfl) rfl)
    (Sq := armA ba S) (Plain.arm ba S) (fun pre => sep (boxA (b0 + 1 + 1) 3 #[.int .i64 (pre.length : Int)]) (sep (boxA (b0 + 1) 4 #[.bool false]) (sep (boxA b0 73 #[.pointer (some ⟨rb, 0, none⟩)]) (sep (boxA rb 154 #[.int .i64 most, .pointer (some ⟨hb, 0, none⟩), .int .i64 now, .int .i64 worst]) (sep (boxA hb 32 #[.slice la k lc]) (sep (keysA (.slice la k lc) S) (sep (tqA tb most S now worst) R)))))))
    (fun _ => (Plain.box _ _ _).sepF ((Plain.box _ _ _).sepF ((Plain.box _ _ _).sepF ((Plain.box _ _ _).sepF ((Plain.box _ _ _).sepF ((Plain.keys _ _).sepF ((Plain.tq _ _ _ _ _).sepF hRF))))))) (fun _ _ => prA False) (fun _ _ => (Plain.pr _).f _) H6.out (fun K hK => arm_iter _ HT.out (by have := HK.out; omega) hK) (fun _ => rfl) ?round ?done ?stop
  case round =>
    rintro K l pre ⟨x1, x2⟩ A hlA hlr hpre hon
    have hlp := hpre.length_le
    rw [List.length_append, List.length_singleton, HK.out] at hlp
    have hxS : S[pre.length]? = some (x1, x2) := by
      obtain ⟨t', ht⟩ := hpre
      rw [← ht, List.append_assoc, List.getElem?_append_right (Nat.le_refl _)]
      simp
    have H8 := Lib.hid hon
    have HXS := Lib.hid hxS
    clear hon hpre hxS hlr
    gi_wp2_with fail
    refine ⟨_, (Plain.box _ _ _).sepF ((Plain.box _ _ _).sepF ((Plain.box _ _ _).sepF ((Plain.box _ _ _).sepF ((Plain.box _ _ _).sepF ((Plain.keys _ _).sepF ((Plain.tq _ _ _ _ _).sepF hRF)))))), H8.out, fun Wb _ h9 => ?_⟩
    have hnI : (pre.length : Int) < (k : Int) := by omega
    have hn0 : (0 : Int) ≤ (pre.length : Int) := by omega
    have hnN : ¬ (k : Int) ≤ (pre.length : Int) := by omega
    have hnN' : ¬ k ≤ pre.length := by omega
    have p10 := (h9.sw0).bx 0 rfl
    have p10f := ((h9.sw0).box1 0).2
    have p30 := (h9.sw2.sw1.sw0).bx 0 rfl
    have p41 := (h9.sw3.sw2.sw1.sw0).bx 1 rfl
    have p50 := (h9.sw4.sw3.sw2.sw1.sw0).bx 0 rfl
    obtain ⟨b, off, rfl, r0, r1⟩ := (h9.sw5.sw4.sw3.sw2.sw1.sw0).key_at HXS.out
    have H9 := Lib.hid h9
    clear h9
    gi_wp2_with fail
    refine wpIn_region_loose (fun A' => A' = Wb.drew) (by kernel_rfl) (by kernel_rfl) (by kernel_rfl) rfl ?_
    have r0' : Wb.drew.cell? ⟨b, off + pre.length * 2, none⟩ = some (.int .i64 x2) := r0
    have r1' : Wb.drew.cell? ⟨b, off + pre.length * 2 + 1, none⟩ = some (.int .i64 x1) := r1
    have q10 := (((H9.out.below (Below.refl _ Wb).drew)).sw0).bx 0 rfl
    have q10f := ((((H9.out.below (Below.refl _ Wb).drew)).sw0).box1 0).2
    have q30 := (((H9.out.below (Below.refl _ Wb).drew)).sw2.sw1.sw0).bx 0 rfl
    have q41 := (((H9.out.below (Below.refl _ Wb).drew)).sw3.sw2.sw1.sw0).bx 1 rfl
    have q50 := (((H9.out.below (Below.refl _ Wb).drew)).sw4.sw3.sw2.sw1.sw0).bx 0 rfl
    repeat (first
      | (refine loose_skip (by rfl) ?_; simp only [Act.put, List.setIfInBounds_toArray, List.set_cons_zero, List.set_cons_succ])
      | (refine loose_val (v := ?_) (by rfl) ?_ ?_; rotate_left; (focus (intro A' hA'; subst hA'; go_simp; first | done | with_reducible rfl)); simp only [Act.put, List.setIfInBounds_toArray, List.set_cons_zero, List.set_cons_succ]))
    refine loose_nil ?_
    intro wz hz
    subst hz
    have hn1 : (pre.length : Int) + 1 ≤ 700000 := by omega
    have h11 := ((H9.out.below (Below.refl _ Wb).drew).sw0).box_set 0 (.int .i64 ((pre.length : Int) + 1))
    have H11 := Lib.hid (h11.sw0)
    clear h11
    gi_wp2_with fail
    have e : (((pre ++ [(x1, x2)]).length : Nat) : Int) = (pre.length : Int) + 1 := by simp
    show On w0 _ (sep _ (sep (boxA (b0 + 1 + 1) 3 #[.int .i64 (((pre ++ [(x1, x2)]).length : Nat) : Int)]) _))
    rw [e]
    exact H11.out
  case done =>
    intro D A hD hon hKd
    rw [HK.out] at hon
    have h12 := hon.mk_add (D := D) hKd
    have hnx := T_next (h12.sw7.sw6.sw5.sw4.sw3.sw2.sw1.sw0) HS.out
    have H12 := Lib.hid h12
    -- the end: the last return
    have hend : ∀ w2, Below A.heap.size A w2 → w2.cell? ⟨b0 + 1 + 1, 0, none⟩ = some (.int .i64 (k : Int)) ∧ w2.cell? ⟨b0, 0, none⟩ = some (.pointer (some ⟨rb, 0, none⟩)) ∧ w2.cell? ⟨rb, 1, none⟩ = some (.pointer (some ⟨hb, 0, none⟩)) ∧ w2.cell? ⟨rb, 2, none⟩ = some (.int .i64 now) ∧
        w2.cell? ⟨rb, 3, none⟩ = some (.int .i64 worst) ∧ w2.cell? ⟨hb, 0, none⟩ = some (.slice la k lc) ∧ w2.cell? ⟨b0 + 1, 0, none⟩ = some (.bool false) ∧ w2.frozen? ⟨b0 + 1, 0, none⟩ = false ∧
        (∀ A', A' = w2 → Calls Try.prog 46 #[.pointer (some ⟨tb, 0, none⟩)] A' fun e w' => e = .returned (.int .i64 now) ∧ w' = w2) ∧ (∀ A', A' = w2 → Calls Try.prog 47 #[.pointer (some ⟨tb, 0, none⟩)] A' fun e w' => e = .returned (.int .i64 worst) ∧ w' = w2) ∧
        (∀ tm : Array Value, tm[4]? = some (.pointer (some ⟨b0 + 1, 0, none⟩)) → bodyPostM Fence.wide 9 Try.prog Try.f53 (fun e w' => e = Ending.returned (.bool true) ∧ On w0 w' (sep (tqA tb most S now worst) (sep (rqA rb most S now worst) R))) .ret { tmps := tm, defers := [{ target := .collected D, args := #[] }] } (w2.setCell ⟨b0 + 1, 0, none⟩ (.bool true))) := fun w2 hb2 => by
      have h := h12.below hb2
      have c20 := (h.sw1.sw0).bx 0 rfl
      have c30 := (h.sw2.sw1.sw0).bx 0 rfl
      have c30f := ((h.sw2.sw1.sw0).box1 0).2
      have c40 := (h.sw3.sw2.sw1.sw0).bx 0 rfl
      have c51 := (h.sw4.sw3.sw2.sw1.sw0).bx 1 rfl
      have c52 := (h.sw4.sw3.sw2.sw1.sw0).bx 2 rfl
      have c53 := (h.sw4.sw3.sw2.sw1.sw0).bx 3 rfl
      have c60 := (h.sw5.sw4.sw3.sw2.sw1.sw0).bx 0 rfl
      have ht := (h.sw7.sw6.sw5.sw4.sw3.sw2.sw1.sw0)
      refine ⟨c20, c40, c51, c52, c53, c60, c30, c30f, fun A' hA => by subst hA; exact (T_now ht).mono fun e w' ⟨h1, h2⟩ => ⟨h1, h2.symm⟩, fun A' hA => by subst hA; exact (T_worst ht).mono fun e w' ⟨h1, h2⟩ => ⟨h1, h2.symm⟩, fun tm htm => ?_⟩
      have h10 := (h.sw2.sw1.sw0).box_set 0 (.bool true)
      have hmk := h10.sw0.mk_get
      refine fin_markF (n := w3.heap.size) (X := sep (boxA (b0 + 1) 4 #[.bool true]) (sep (tqA tb most S now worst) (sep (boxA rb 154 #[.int .i64 most, .pointer (some ⟨hb, 0, none⟩), .int .i64 now, .int .i64 worst]) (sep (boxA hb 32 #[.slice la k lc]) (sep (keysA (.slice la k lc) S) R))))) ((Plain.box _ _ _).sepF ((Plain.tq _ _ _ _ _).sepF ((Plain.box _ _ _).sepF ((Plain.box _ _ _).sepF ((Plain.keys _ _).sepF hRF))))) hD (h10.sw0.sw1.sw2.sw3.sw7.sw6.sw5).out1.out1.out1.out1 (Nat.le_trans (Nat.le_trans H6.out.to_below.size hD) (Nat.le_refl _)) hmk fun A'' h11 => ⟨?_, rfl, ?_⟩
      · have := (h11.box1 0).1
        simp only [List.getElem?_toArray] at this
        simp [results, Try.f53, go_sem, htm, this]
      · have h12 : On w0 A'' (sep (rqA rb most S now worst) (sep (tqA tb most S now worst) R)) := ((h11.out1.sw1.sw0.sw2.sw1).ref_shut.sw1.sw0).rq_shut
        exact h12.sw0
    have HEnd := Lib.hid hend
    have gk : ((k : Int) == (k : Int)) = true := by simp
    have gnow : (now == now) = true := by simp
    have gw : (worst == worst) = true := by simp
    by_cases hk0 : k = 0
    · have hS0 : S = [] := List.eq_nil_of_length_eq_zero (HK.out.trans hk0)
      have e1 : (S.headD (0, 0)).2 = 0 := by rw [hS0]; rfl
      have e2 : headE S = 14 := by rw [hS0]; rfl
      rw [e1, e2] at hnx
      have HNx := Lib.hid hnx
      have z1 : ((k : Int) == 0) = true := by simp [hk0]
      have z2 : ¬ (0 : Int) < (k : Int) := by omega
      have z3 : ¬ 0 < k := by omega
      clear hon hKd h12 hend hnx hS0 e1 e2 hk0
      gi_wp2_with fail
      refine ⟨trivial, ?_⟩
      refine (callsIn_wide.2 HNx.out).mono ?_
      rintro e w2 ⟨rfl, hb2⟩
      obtain ⟨q1, q2, q3, q4, q5, q6, q7, q8, _, _, _⟩ := HEnd.out w2 hb2
      obtain ⟨s1, s2, s3, s4, s5, s6, s7, s8, hnow, hworst, hfin⟩ := HEnd.out w2.drew hb2.drew
      have HNow := Lib.hid hnow
      have HWorst := Lib.hid hworst
      have HFin := Lib.hid hfin
      clear hnow hworst hfin
      gi_wp2_with fail
      refine wpIn_wide.2 ?_
      refine wp_region_tailL (os := ?_) (s := ?_) (fun A' => A' = w2.drew) (by simp only [List.dropLast]; rfl) (by rfl) (by kernel_rfl) (by kernel_rfl) (by kernel_rfl) rfl ?_
      repeat (first
        | (refine loose_skip (by rfl) ?_; simp only [Act.put, List.setIfInBounds_toArray, List.set_cons_zero, List.set_cons_succ])
        | (refine loose_val (v := ?_) (by rfl) ?_ ?_; rotate_left; (focus (intro A' hA'; subst hA'; go_simp; first | done | with_reducible rfl)); simp only [Act.put, List.setIfInBounds_toArray, List.set_cons_zero, List.set_cons_succ])
        | (refine loose_call HNow.out (by rfl) ?_ ?_; (focus (intro A' hA'; go_simp; done)); simp only [Act.put, List.setIfInBounds_toArray, List.set_cons_zero, List.set_cons_succ])
        | (refine loose_call HWorst.out (by rfl) ?_ ?_; (focus (intro A' hA'; go_simp; done)); simp only [Act.put, List.setIfInBounds_toArray, List.set_cons_zero, List.set_cons_succ]))
      refine loose_nil ?_
      intro wz hz
      subst hz
      go_wp2_with fail
      gi_wp2_with fail
      exact HFin.out _ rfl
    · obtain ⟨x, hx⟩ : ∃ x, S[0]? = some x := ⟨_, List.getElem?_eq_getElem (by have := HK.out; omega)⟩
      obtain ⟨S', hS0⟩ : ∃ S', S = x :: S' := by
        cases S with
        | nil => cases hx
        | cons y S' => exact ⟨S', by rw [Option.some.inj hx]⟩
      have e1 : (S.headD (0, 0)).2 = x.2 := by rw [hS0]; rfl
      have e2 : headE S = 0 := by rw [hS0]; rfl
      rw [e1, e2] at hnx
      have HNx := Lib.hid hnx
      have HX := Lib.hid hx
      have z1 : ((k : Int) == 0) = false := by simp; omega
      have z2 : (0 : Int) < (k : Int) := by omega
      clear hon hKd h12 hend hnx hS0 e1 e2 hk0 hx
      gi_wp2_with fail
      refine ⟨trivial, ?_⟩
      refine (callsIn_wide.2 HNx.out).mono ?_
      rintro e w2 ⟨rfl, hb2⟩
      obtain ⟨q1, q2, q3, q4, q5, q6, q7, q8, _, _, _⟩ := HEnd.out w2 hb2
      obtain ⟨s1, s2, s3, s4, s5, s6, s7, s8, hnow, hworst, hfin⟩ := HEnd.out w2.drew hb2.drew
      have HNow := Lib.hid hnow
      have HWorst := Lib.hid hworst
      have HFin := Lib.hid hfin
      obtain ⟨b, off, rfl, r0, _⟩ := ((H12.out.below hb2).sw6.sw5.sw4.sw3.sw2.sw1.sw0).key_at HX.out
      simp only [Nat.zero_mul, Nat.add_zero] at r0
      clear hnow hworst hfin
      gi_wp2_with fail
      refine wpIn_wide.2 ?_
      refine wp_region_tailL (os := ?_) (s := ?_) (fun A' => A' = w2.drew) (by simp only [List.dropLast]; rfl) (by rfl) (by kernel_rfl) (by kernel_rfl) (by kernel_rfl) rfl ?_
      repeat (first
        | (refine loose_skip (by rfl) ?_; simp only [Act.put, List.setIfInBounds_toArray, List.set_cons_zero, List.set_cons_succ])
        | (refine loose_val (v := ?_) (by rfl) ?_ ?_; rotate_left; (focus (intro A' hA'; subst hA'; go_simp; first | done | with_reducible rfl)); simp only [Act.put, List.setIfInBounds_toArray, List.set_cons_zero, List.set_cons_succ])
        | (refine loose_call HNow.out (by rfl) ?_ ?_; (focus (intro A' hA'; go_simp; done)); simp only [Act.put, List.setIfInBounds_toArray, List.set_cons_zero, List.set_cons_succ])
        | (refine loose_call HWorst.out (by rfl) ?_ ?_; (focus (intro A' hA'; go_simp; done)); simp only [Act.put, List.setIfInBounds_toArray, List.set_cons_zero, List.set_cons_succ]))
      refine loose_nil ?_
      intro wz hz
      subst hz
      go_wp2_with fail
      gi_wp2_with fail
      exact HFin.out _ rfl
  case stop =>
    intro D c pre A _ _ h _
    exact (On.pr_open (p := False) (On.comm h)).1.elim
end
end Go.Proofs.Ytkjpkhpiojahkaa
