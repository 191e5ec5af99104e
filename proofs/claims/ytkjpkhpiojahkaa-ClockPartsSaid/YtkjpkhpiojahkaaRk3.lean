/-
  The document's clock in memory: drop.
-/
import Derived.Test.YtkjpkhpiojahkaaRk2
namespace Go.Proofs.Ytkjpkhpiojahkaa
set_option linter.unusedVariables false
open Go.RowKit Hp
attribute [local go_sem] Oper.semAt_some
theorem tms_drop : ∀ (L : List Tm) (j : Nat), (L.drop j).flatMap tmC = (L.flatMap tmC).drop (j * 4)
  | _, 0 => by simp
  | [], j + 1 => by simp
  | t :: L, j + 1 => by
    rw [List.drop_succ_cons, tms_drop L j, List.flatMap_cons, show (j + 1) * 4 = (tmC t).length + j * 4 by rw [tmC_len]; omega, List.drop_append, List.drop_eq_nil_of_le (show (tmC t).length ≤ (tmC t).length + j * 4 by omega), List.nil_append, Nat.add_sub_cancel_left]
theorem tms_take : ∀ (L : List Tm) (j : Nat), (L.take j).flatMap tmC = (L.flatMap tmC).take (j * 4)
  | _, 0 => by simp
  | [], j + 1 => by simp
  | t :: L, j + 1 => by
    rw [List.take_succ_cons, List.flatMap_cons, tms_take L j, List.flatMap_cons, show (j + 1) * 4 = (tmC t).length + j * 4 by rw [tmC_len]; omega, List.take_append, List.take_of_length_le (show (tmC t).length ≤ (tmC t).length + j * 4 by omega), Nat.add_sub_cancel_left]
theorem tms_len (L : List Tm) : (L.flatMap tmC).length = L.length * 4 := by
  induction L with
  | nil => rfl
  | cons t L ih => rw [List.flatMap_cons, List.length_append, ih, tmC_len, List.length_cons]; omega
theorem tms_one (L : List Tm) : ∀ u ∈ L.flatMap tmC, u.oneCell' = true := fun u hu => by
  obtain ⟨t, _, ht⟩ := List.mem_flatMap.1 hu
  simp [tmC] at ht
  rcases ht with rfl | rfl | rfl | rfl <;> rfl
theorem tmsA_of {w : World} {v : Value} {X : List Tm} {n : Nat} {xs : List Value} (h : w.ownsRow 0 124 4 v n xs) (hn : X.length = n) (hx : xs = X.flatMap tmC) : (tmsA v X).holds w (fun k => v.ownBlock = some k) := by
  subst hn
  subst hx
  exact ⟨h, fun _ => Iff.rfl⟩
theorem On.tms_of {w0 w : World} {R : Ast} {v : Value} {X : List Tm} {n : Nat} {xs : List Value} (h : On w0 w (sep (rowA v 124 4 n xs) R)) (hn : X.length = n) (hx : xs = X.flatMap tmC) : On w0 w (sep (tmsA v X) R) := by
  subst hn
  subst hx
  exact h
section
variable {w0 w : World} {R : Ast} {rb : Nat} {r : Rk} {L : List Tm}
theorem On.tms_read {g n c : Nat} (h : On w0 w (sep (tmsA (.slice (some ⟨g, 0, none⟩) n c) L) R)) (hn : L.length = n) (j m cc : Nat) (hj : j + m ≤ n) :
    Reads w (.slice (some ⟨g, j * 4, none⟩) m cc) 4 m (((L.drop j).take m).flatMap tmC) := by
  refine .inr ⟨_, _, rfl, ?_, fun k u hu => ?_⟩
  · rw [tms_len, List.length_take, List.length_drop]
    omega
  · obtain ⟨F, ⟨how, _⟩, _⟩ := h.get1
    rcases own_parts how with ⟨h1, _⟩ | ⟨g', cap, cur, h1, _⟩
    · cases h1
    · cases h1
      rw [tms_take, tms_drop, List.getElem?_take] at hu
      split at hu
      · rw [List.getElem?_drop] at hu
        rw [Addr.add_lit]
        exact own_cellG how hu
      · cases hu
theorem On.tms_own {v : Value} (h : On w0 w (sep (tmsA v L) R)) : w.ownsRow 0 124 4 v L.length (L.flatMap tmC) := by
  obtain ⟨F, ⟨how, _⟩, _⟩ := h.get1
  exact how
set_option maxRecDepth 100000 in
set_option maxHeartbeats 8000000 in
theorem RK_drop (h : On w0 w (sep (rkA rb r) R)) (hl : r.L.length < 100000) {j : Nat} (hj : j < r.L.length) :
    Calls Try.prog 137 #[.pointer (some ⟨rb, 0, none⟩), .int .i64 (j : Int)] w fun e w' => e = .returned (.tuple #[]) ∧ On w0 w' (sep (rkA rb { r with L := r.L.eraseIdx j }) R) := by
  obtain ⟨v1, v2, h⟩ := h.rk_open
  obtain ⟨a, c, rfl, hlc⟩ := h.sw0.tms_form
  have h' : On w0 w (sep (boxA rb 116 #[.slice a r.L.length c, v2, .int .i64 r.now, .int .i64 r.worst]) (sep (tmsA (.slice a r.L.length c) r.L) (sep (latA v2 r.lates) R))) := h
  obtain ⟨n, hn⟩ : ∃ n, r.L.length = n := ⟨_, rfl⟩
  rw [hn] at h' hl hj hlc
  obtain ⟨g, rfl⟩ : ∃ g, a = some ⟨g, 0, none⟩ := by
    obtain ⟨g, e, _⟩ := h'.sw0.tms_at (k := 0) (t := r.L[0]'(by omega)) (List.getElem?_eq_getElem (by omega))
    exact ⟨g, e⟩
  have q0 := h'.bx 0 rfl
  have hrd := h'.sw0.tms_read hn 0 j c (by omega)
  rw [List.drop_zero, Nat.zero_mul] at hrd
  have HRd := Lib.hid hrd
  have HN := Lib.hid hn
  have H := Lib.hid h'
  have h1 : (j : Int) < (n : Int) := by omega
  have hj0 : (0 : Int) ≤ (j : Int) := by omega
  have hjc : (j : Int) ≤ (c : Int) := by omega
  have hjcN : j ≤ c := by omega
  have hj1 : (j : Int) + 1 ≤ (n : Int) := by omega
  have hj1N : j + 1 ≤ n := by omega
  have hone := tms_one (r.L.take j)
  have hmx : 0 + j ≤ maxLen := by unfold maxLen; omega
  have hby : (0 + j) * 32 ≤ 140737488355328 := by omega
  have hzw : IntKind.i64.wrap ((j : Int) + 1) = (j : Int) + 1 := IntWalk.i64_in _ (by omega)
  have HLn := Lib.hid (show (r.L.eraseIdx j).length = 0 + j + (n - (j + 1)) by rw [List.length_eraseIdx, hn, if_pos hj]; omega)
  have HEr := Lib.hid (show [] ++ (r.L.take j).flatMap tmC ++ ((r.L.drop (j + 1)).take (n - (j + 1))).flatMap tmC = (r.L.eraseIdx j).flatMap tmC by
    rw [List.nil_append, ← List.flatMap_append, List.take_of_length_le (l := r.L.drop (j + 1)) (by rw [List.length_drop, hn]; exact Nat.le_refl _), ← List.eraseIdx_eq_take_drop_succ])
  have hone2 := tms_one ((r.L.drop (j + 1)).take (n - (j + 1)))
  have hmx2 : 0 + j + (n - (j + 1)) ≤ maxLen := by unfold maxLen; omega
  have hby2 : (0 + j + (n - (j + 1))) * 32 ≤ 140737488355328 := by omega
  clear h h' hn hrd
  by_cases hc1 : c = j + 1
  · have hn1 := Lib.hid (show n - (j + 1) = 0 by omega)
    subst hc1
    have HB := Lib.hid (fun w2 : World => (by rw [hn1.out]; exact .inr ⟨_, _, rfl, rfl, fun k u hu => by simp at hu⟩ : Reads w2 (.slice (some ⟨g, 0, none⟩) 0 0) 4 (n - (j + 1)) (((r.L.drop (j + 1)).take (n - (j + 1))).flatMap tmC)))
    go_enter Try.func137, Try.ntmps137
    go_wp2_with (first
      | (at_builtin; go_loud (refine wpList_append_any (by rfl) _ _ 114 (by rfl) 124 4 32 tmSlice (.slice none 0 0) 0 [] (by rfl) (World.ownsRow_nil _ _ _ _) (.slice (some ⟨g, 0, none⟩) j _) j ((r.L.take j).flatMap tmC) (by rfl) HRd.out hone hmx hby ?_; intro v' w2 hown hgrow hat; obtain ⟨qq, qn, qcc, rfl⟩ := own_form hown; (obtain rfl : qn = j := by have := own_len hown; omega); (have hby1 := below_grown hgrow (by intro j hj; simp [Value.ownBlock] at hj) (Nat.le_refl _)); (have h4 := H.out.add hby1 (tmsA_of (X := r.L.take qn) hown (by rw [List.length_take, HN.out]; omega) (List.nil_append _)) (own_new hat (by simp [Value.ownBlock]) (Nat.le_refl _))); (have q1 := h4.sw0.bx 0 rfl); (have q1f := (h4.sw0.box1 0).2); (have HRd2 := Lib.hid (fun cc => On.tms_read (h4.sw1.sw0) HN.out (qn + 1) (n - (qn + 1)) cc (by omega))); (have HOwn := Lib.hid hown); (have H4 := Lib.hid h4); clear hown hgrow hat h4 hby1))
      | (at_builtin; go_loud (refine wpList_append_any (by rfl) _ _ 114 (by rfl) 124 4 32 tmSlice (.slice qq qn qcc) (0 + qn) ([] ++ (r.L.take qn).flatMap tmC) (by rfl) HOwn.out _ (n - (qn + 1)) (((r.L.drop (qn + 1)).take (n - (qn + 1))).flatMap tmC) (by rfl) (by first | exact HRd2.out _ | exact HB.out _) hone2 hmx2 hby2 ?_; intro v' w3 hown hgrow hat; obtain ⟨q2, n2, c2, rfl⟩ := own_form hown; (have h5 := H4.out.row_push (Below.refl _ _) hgrow hown hat); (have h6 := h5.tms_of HLn.out HEr.out); (have r0 := h6.sw0.bx 0 rfl); (have r0f := (h6.sw0.box1 0).2); (have HQ2 := Lib.hid (own_len hown)); (have H6 := Lib.hid h6); clear hown hgrow hat h5 h6)))
    obtain rfl := HQ2.out
    have h7 := H6.out.sw0.box_set 0 (.slice q2 (0 + qn + (n - (qn + 1))) c2)
    refine bodyPost_end (results_none rfl _ _ _) rfl ?_
    exact ⟨rfl, On.rk_shut (r := { r with L := r.L.eraseIdx qn }) (h7.sw1.sw0).out1⟩
  · have hc2 : ¬ c - (j + 1) = 0 := by omega
    go_enter Try.func137, Try.ntmps137
    go_wp2_with (first
      | (at_builtin; go_loud (refine wpList_append_any (by rfl) _ _ 114 (by rfl) 124 4 32 tmSlice (.slice none 0 0) 0 [] (by rfl) (World.ownsRow_nil _ _ _ _) (.slice (some ⟨g, 0, none⟩) j _) j ((r.L.take j).flatMap tmC) (by rfl) HRd.out hone hmx hby ?_; intro v' w2 hown hgrow hat; obtain ⟨qq, qn, qcc, rfl⟩ := own_form hown; (obtain rfl : qn = j := by have := own_len hown; omega); (have hby1 := below_grown hgrow (by intro j hj; simp [Value.ownBlock] at hj) (Nat.le_refl _)); (have h4 := H.out.add hby1 (tmsA_of (X := r.L.take qn) hown (by rw [List.length_take, HN.out]; omega) (List.nil_append _)) (own_new hat (by simp [Value.ownBlock]) (Nat.le_refl _))); (have q1 := h4.sw0.bx 0 rfl); (have q1f := (h4.sw0.box1 0).2); (have HRd2 := Lib.hid (fun cc => On.tms_read (h4.sw1.sw0) HN.out (qn + 1) (n - (qn + 1)) cc (by omega))); (have HOwn := Lib.hid hown); (have H4 := Lib.hid h4); clear hown hgrow hat h4 hby1))
      | (at_builtin; go_loud (refine wpList_append_any (by rfl) _ _ 114 (by rfl) 124 4 32 tmSlice (.slice qq qn qcc) (0 + qn) ([] ++ (r.L.take qn).flatMap tmC) (by rfl) HOwn.out _ (n - (qn + 1)) (((r.L.drop (qn + 1)).take (n - (qn + 1))).flatMap tmC) (by rfl) (by first | exact HRd2.out _ | exact HB.out _) hone2 hmx2 hby2 ?_; intro v' w3 hown hgrow hat; obtain ⟨q2, n2, c2, rfl⟩ := own_form hown; (have h5 := H4.out.row_push (Below.refl _ _) hgrow hown hat); (have h6 := h5.tms_of HLn.out HEr.out); (have r0 := h6.sw0.bx 0 rfl); (have r0f := (h6.sw0.box1 0).2); (have HQ2 := Lib.hid (own_len hown)); (have H6 := Lib.hid h6); clear hown hgrow hat h5 h6)))
    obtain rfl := HQ2.out
    have h7 := H6.out.sw0.box_set 0 (.slice q2 (0 + qn + (n - (qn + 1))) c2)
    refine bodyPost_end (results_none rfl _ _ _) rfl ?_
    exact ⟨rfl, On.rk_shut (r := { r with L := r.L.eraseIdx qn }) (h7.sw1.sw0).out1⟩
end
end Go.Proofs.Ytkjpkhpiojahkaa
