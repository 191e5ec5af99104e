/-
  Plain facts on binary heaps, part 3: what goes. No program in sight.
-/
import Derived.Test.YtecfenoidcolfaaHeap2
namespace Go.Proofs.Ytecfenoidcolfaa.Hp
set_option linter.unusedVariables false

section
variable {α : Type} {lt : α → α → Bool}

theorem getD_take (A : List (It α)) (d : It α) (m j : Nat) (h : j < m) : (A.take m).getD j d = A.getD j d := by
  rw [List.getD_eq_getElem?_getD, List.getD_eq_getElem?_getD, List.getElem?_take_of_lt h]
theorem IsHeap.take {A : List (It α)} {d : It α} (h : IsHeap lt A d) (m : Nat) : IsHeap lt (A.take m) d := by
  intro j h0 hj
  rw [List.length_take] at hj
  rw [getD_take _ _ _ _ (by omega), getD_take _ _ _ _ (by omega)]
  exact h j h0 (by omega)
theorem Pos.take {A : List (It α)} {d : It α} {f : Int → Option Nat} (h : Pos A d f) {last : Nat} (hl : last + 1 = A.length) : Pos (A.take last) d (putN f (A.getD last d).1 none) := by
  refine ⟨fun k hk => ?_, fun y v hy => ?_⟩
  · rw [List.length_take] at hk
    rw [getD_take _ _ _ _ (by omega), putN_other _ (fun e => by have := h.inj (by omega) (by omega) e; omega)]
    exact h.1 k (by omega)
  · by_cases e : y = (A.getD last d).1
    · subst e; rw [putN_same] at hy; cases hy
    · rw [putN_other _ e] at hy
      obtain ⟨k, hk, e'⟩ := h.2 y v hy
      have : k ≠ last := fun hkl => e (by rw [← e', hkl])
      refine ⟨k, by rw [List.length_take]; omega, ?_⟩
      rw [getD_take _ _ _ _ (by omega)]
      exact e'
theorem Pos.mid {A : List (It α)} {d : It α} {f : Int → Option Nat} (h : Pos A d f) {i last : Nat} (hi : i < last) (hl : last + 1 = A.length) :
    Pos ((A.take last).set i (A.getD last d)) d (putN (putN f (A.getD i d).1 none) (A.getD last d).1 (some i)) := by
  have hit : i < (A.take last).length := by rw [List.length_take]; omega
  have e0 : ∀ j, j < last → ((A.take last).set i (A.getD last d)).getD j d = if j = i then A.getD last d else A.getD j d := fun j hj => by
    rw [getD_set _ _ _ _ _ hit, getD_take _ _ _ _ hj]
  refine ⟨fun k hk => ?_, fun y v hy => ?_⟩
  · rw [List.length_set, List.length_take] at hk
    rw [e0 k (by omega)]
    by_cases hki : k = i
    · subst hki; rw [if_pos rfl, putN_same]
    · rw [if_neg hki, putN_other _ (fun e => by have := h.inj (by omega) (by omega) e; omega), putN_other _ (fun e => by have := h.inj (by omega) (by omega) e; omega)]
      exact h.1 k (by omega)
  · by_cases e : y = (A.getD last d).1
    · exact ⟨i, by rw [List.length_set]; exact hit, by rw [e0 i hi, if_pos rfl, e]⟩
    · rw [putN_other _ e] at hy
      by_cases e2 : y = (A.getD i d).1
      · subst e2; rw [putN_same] at hy; cases hy
      · rw [putN_other _ e2] at hy
        obtain ⟨k, hk, e'⟩ := h.2 y v hy
        have h1 : k ≠ last := fun hkl => e (by rw [← e', hkl])
        have h2 : k ≠ i := fun hkl => e2 (by rw [← e', hkl])
        exact ⟨k, by rw [List.length_set, List.length_take]; omega, by rw [e0 k (by omega), if_neg h2]; exact e'⟩
theorem Pos.change {A : List (It α)} {d : It α} {f : Int → Option Nat} (h : Pos A d f) {i : Nat} (hi : i < A.length) (k : α) : Pos (A.set i ((A.getD i d).1, k)) d f := by
  have e0 : ∀ j, ((A.set i ((A.getD i d).1, k)).getD j d).1 = (A.getD j d).1 := fun j => by
    rw [getD_set _ _ _ _ _ hi]
    split
    · rename_i e; rw [e]
    · rfl
  refine ⟨fun j hj => ?_, fun y v hy => ?_⟩
  · rw [List.length_set] at hj
    rw [e0]
    exact h.1 j hj
  · obtain ⟨j, hj, e⟩ := h.2 y v hy
    exact ⟨j, by rw [List.length_set]; exact hj, by rw [e0]; exact e⟩

theorem getD_of {A : List (It α)} {d : It α} {i : Nat} (hi : i < A.length) : A.getD i d = A[i] := by
  rw [List.getD_eq_getElem?_getD, List.getElem?_eq_getElem hi]; rfl
theorem take_snoc {A : List (It α)} {last : Nat} (hl : last + 1 = A.length) (d : It α) : A.take last ++ [A.getD last d] = A := by
  have h1 : A.take (last + 1) = A := List.take_of_length_le (by omega)
  rw [List.take_add_one, List.getElem?_eq_getElem (by omega)] at h1
  rw [getD_of (by omega)]
  simpa using h1
theorem drop_last [BEq α] [LawfulBEq α] {A : List (It α)} {last : Nat} (hl : last + 1 = A.length) (d : It α) : (A.take last).Perm (A.erase (A.getD last d)) := by
  rw [List.perm_iff_count]
  intro a
  rw [List.count_erase]
  have h := congrArg (List.count a) (take_snoc hl d)
  rw [List.count_append, List.count_singleton] at h
  omega
theorem drop_mid [BEq α] [LawfulBEq α] {A : List (It α)} {i last : Nat} (hi : i < last) (hl : last + 1 = A.length) (d : It α) : ((A.take last).set i (A.getD last d)).Perm (A.erase (A.getD i d)) := by
  have hit : i < (A.take last).length := by rw [List.length_take]; omega
  rw [List.perm_iff_count]
  intro a
  rw [List.count_erase, List.count_set hit]
  have h := congrArg (List.count a) (take_snoc hl d)
  rw [List.count_append, List.count_singleton] at h
  have e : (A.take last)[i] = A.getD i d := by rw [getD_of (by omega)]; simp
  rw [e]
  have h1 : (if A.getD i d == a then 1 else 0) ≤ (A.take last).count a := by
    split
    · rename_i h
      exact List.count_pos_iff.2 (by rw [← eq_of_beq h, ← e]; exact List.getElem_mem _)
    · omega
  omega
theorem change_perm [BEq α] [LawfulBEq α] {A : List (It α)} {i : Nat} (hi : i < A.length) (d x : It α) : (A.set i x).Perm (x :: A.erase (A.getD i d)) := by
  rw [List.perm_iff_count]
  intro a
  rw [List.count_cons, List.count_erase, List.count_set hi, getD_of hi]
end
end Go.Proofs.Ytecfenoidcolfaa.Hp
