/-
  Clock: a clock's struct is built.
-/
import Derived.Test.YtkjpkhpiojahkaaCk1
namespace Go.Proofs.Ytkjpkhpiojahkaa
set_option linter.unusedVariables false
open Go.RowKit Hp
theorem fold_get (off : Nat) : ∀ (L : List Value) (s : Nat) (cells : Array Value) (k : Nat),
    ((L.zipIdx s).foldl (fun cs p => cs.setIfInBounds (off + p.2) p.1) cells)[k]? = if off + s ≤ k ∧ k < off + s + L.length ∧ k < cells.size then L[k - (off + s)]? else cells[k]?
  | [], s, cells, k => by
    rw [if_neg]
    · rfl
    · simp only [List.length_nil]; omega
  | x :: L, s, cells, k => by
    rw [List.zipIdx_cons, List.foldl_cons, fold_get off L (s + 1), Array.size_setIfInBounds, Array.getElem?_setIfInBounds]
    simp only [List.length_cons]
    by_cases h1 : off + s = k
    · subst h1
      rw [if_neg (by omega), if_pos rfl]
      by_cases h2 : off + s < cells.size
      · rw [if_pos h2, if_pos (by omega), Nat.sub_self]
        rfl
      · rw [if_neg h2, if_neg (by omega), Array.getElem?_eq_none (by omega)]
    · rw [if_neg h1]
      by_cases h2 : off + (s + 1) ≤ k ∧ k < off + (s + 1) + L.length ∧ k < cells.size
      · rw [if_pos h2, if_pos (by omega), show k - (off + s) = (k - (off + (s + 1))) + 1 by omega, List.getElem?_cons_succ]
      · rw [if_neg h2, if_neg (by omega)]
theorem fold_size (off : Nat) : ∀ (L : List Value) (s : Nat) (cells : Array Value), ((L.zipIdx s).foldl (fun cs p => cs.setIfInBounds (off + p.2) p.1) cells).size = cells.size
  | [], _, _ => rfl
  | x :: L, s, cells => by rw [List.zipIdx_cons, List.foldl_cons, fold_size off L (s + 1), Array.size_setIfInBounds]
theorem bld_size (nq : Nat) (ats : List Int) : (List.foldl (fun cs x => cs.setIfInBounds (1 + x.snd) x.fst) (Try.zeroCells172.setIfInBounds 0 (.pointer (some ⟨nq, 0, none⟩))) (intL ats).zipIdx).size = 516 := by
  have hz : Try.zeroCells172.size = 516 := by kernel_rfl
  have hs := fold_size 1 (intL ats) 0 (Try.zeroCells172.setIfInBounds 0 (.pointer (some ⟨nq, 0, none⟩)))
  rw [Array.size_setIfInBounds, hz] at hs
  exact hs
theorem bld_key (nq : Nat) (q : Option Addr) (n cc : Nat) (ats : List Int) (now worst : Int) (hl : ats.length = 512) : ((((List.foldl (fun cs x => cs.setIfInBounds (1 + x.snd) x.fst) (Try.zeroCells172.setIfInBounds 0 (.pointer (some ⟨nq, 0, none⟩))) (intL ats).zipIdx).setIfInBounds 513 (.slice q n cc)).setIfInBounds 514 (.int .i64 now)).setIfInBounds 515 (.int .i64 worst)) = ckCells nq ats (.slice q n cc) now worst := by
  have hz : Try.zeroCells172.size = 516 := by kernel_rfl
  have hs := bld_size nq ats
  have hil : (intL ats).length = 512 := by rw [ints_len]; exact hl
  have hck : (ckCells nq ats (.slice q n cc) now worst).size = 516 := by
    unfold ckCells
    simp [hil]
  apply Array.ext_getElem?
  intro k
  rw [Array.getElem?_setIfInBounds, Array.getElem?_setIfInBounds, Array.getElem?_setIfInBounds, Array.size_setIfInBounds, Array.size_setIfInBounds, hs]
  by_cases k5 : 515 = k
  · subst k5
    rw [if_pos rfl, if_pos (by omega), ck_worst hl]
  · rw [if_neg k5]
    by_cases k4 : 514 = k
    · subst k4
      rw [if_pos rfl, if_pos (by omega), ck_now hl]
    · rw [if_neg k4]
      by_cases k3 : 513 = k
      · subst k3
        rw [if_pos rfl, if_pos (by omega), ck_lates hl]
      · rw [if_neg k3, fold_get 1 (intL ats) 0, Array.size_setIfInBounds, hz, hil]
        by_cases k1 : 1 + 0 ≤ k ∧ k < 1 + 0 + 512 ∧ k < 516
        · rw [if_pos k1]
          obtain ⟨j, rfl⟩ : ∃ j, k = 1 + j := ⟨k - 1, by omega⟩
          obtain ⟨x, hx⟩ : ∃ x, ats[j]? = some x := ⟨_, List.getElem?_eq_getElem (by omega)⟩
          rw [ck_at hx, show 1 + j - (1 + 0) = j by omega, ints_get hx]
        · rw [if_neg k1, Array.getElem?_setIfInBounds, hz]
          by_cases k0 : 0 = k
          · subst k0
            rw [if_pos rfl, if_pos (by omega), ck_q]
          · rw [if_neg k0, Array.getElem?_eq_none (by omega), Array.getElem?_eq_none (by omega)]
end Go.Proofs.Ytkjpkhpiojahkaa
