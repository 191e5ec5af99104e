/-
  Place: plain facts on where servers are laid, for the laws. No program in sight.
-/
import Derived.Test.YtkjpkhpiojahkaaPl1
namespace Go.Proofs.Ytkjpkhpiojahkaa
set_option linter.unusedVariables false
open Go.RowKit Hp

theorem putB_stay {out : List Int} {id : Int} {i : Nat} (hi : out[i]?.getD 0 ≠ -1) (hlt : i < out.length) : (putB out id)[i]?.getD 0 = out[i]?.getD 0 := by
  unfold putB
  split
  · rfl
  · rw [List.getElem?_set]
    split
    · rename_i e
      exfalso
      have hm : out[i] = -1 := by
        have := List.getElem_idxOf (x := (-1 : Int)) (xs := out) (by rw [e]; exact hlt)
        simpa [e] using this
      rw [List.getElem?_eq_getElem hlt, Option.getD_some] at hi
      exact hi hm
    · rfl
theorem fillB_stay {ids : List Int} {i : Nat} : ∀ {out : List Int}, out[i]?.getD 0 ≠ -1 → i < out.length → (fillB out ids)[i]?.getD 0 = out[i]?.getD 0 := by
  induction ids with
  | nil => intro out _ _; rfl
  | cons x ids ih =>
    intro out hi hlt
    show (fillB (putB out x) ids)[i]?.getD 0 = _
    have h1 := putB_stay (id := x) hi hlt
    rw [ih (by rw [h1]; exact hi) (by rw [putB_length]; exact hlt), h1]
theorem putB_mem {B out : List Int} {id : Int} (h : Laid B out) (hB : id ∈ B) (hl : B.length ≤ out.length) : id ∈ putB out id := by
  unfold putB
  split
  · assumption
  · rename_i hid
    have := h.idle hB hl hid
    have hlt := List.idxOf_lt_length_iff.2 this
    refine List.mem_iff_getElem.2 ⟨out.idxOf (-1), by rw [List.length_set]; exact hlt, ?_⟩
    rw [List.getElem_set_self]
theorem mem_stay {out out2 : List Int} (hl : out2.length = out.length) (h : ∀ i, i < out.length → out[i]?.getD 0 ≠ -1 → out2[i]?.getD 0 = out[i]?.getD 0) {x : Int} (hx : x ∈ out) (hne : x ≠ -1) : x ∈ out2 := by
  obtain ⟨i, hi, e⟩ := List.mem_iff_getElem.1 hx
  have := h i hi (by rw [List.getElem?_eq_getElem hi, Option.getD_some, e]; exact hne)
  rw [List.getElem?_eq_getElem hi, List.getElem?_eq_getElem (by omega), Option.getD_some, Option.getD_some, e] at this
  exact List.mem_iff_getElem.2 ⟨i, by omega, this⟩
theorem fillB_laid {B : List Int} (hB : ∀ x ∈ B, x ≠ -1) : ∀ {ids out : List Int}, Laid B out → (∀ x ∈ ids, x ∈ B) → B.length ≤ out.length → Laid B (fillB out ids) ∧ ∀ x ∈ ids, x ∈ fillB out ids := by
  intro ids
  induction ids with
  | nil => intro out h _ _; exact ⟨h, fun x hx => by cases hx⟩
  | cons y ids ih =>
    intro out h hi hl
    have hy := hi y (List.mem_cons_self ..)
    have h1 := h.put hy (hB y hy)
    have hl1 : B.length ≤ (putB out y).length := by rw [putB_length]; exact hl
    obtain ⟨h2, h3⟩ := ih h1 (fun x hx => hi x (List.mem_cons_of_mem _ hx)) hl1
    refine ⟨h2, fun x hx => ?_⟩
    rcases List.mem_cons.1 hx with rfl | hx
    · exact mem_stay (out := putB out x) (out2 := fillB (putB out x) ids) (fillB_length _ _) (fun i hi2 hne => fillB_stay hne hi2) (putB_mem h hy hl) (hB x hy)
    · exact h3 x hx
theorem fillB_same {out : List Int} : ∀ {ids : List Int}, (∀ x ∈ ids, x ∈ out) → fillB out ids = out
  | [], _ => rfl
  | y :: ids, h => by
    have e : putB out y = out := by unfold putB; rw [if_pos (h y (List.mem_cons_self ..))]
    show fillB (putB out y) ids = out
    rw [e]
    exact fillB_same fun x hx => h x (List.mem_cons_of_mem _ hx)
theorem outB_same {B out : List Int} (h : Laid B out) : outB B out = out := by
  unfold outB
  rw [List.map_congr_left (g := id)]
  · simp
  · intro x hx
    rcases h.mem x hx with h1 | h1
    · subst h1
      split <;> rfl
    · rw [if_pos h1]; rfl
/-- what the laws ask of where servers run -/
structure Placed (r a : List Int) (B : List Int) : Prop where
  len : a.length = r.length
  laid : Laid B a
  all : ∀ x ∈ B, x ∈ a
  stay : ∀ i : Nat, i < r.length → r[i]?.getD 0 ∈ B → a[i]?.getD 0 = r[i]?.getD 0
theorem bestI_length (S : List (It Int)) (n : Nat) : (bestI S n).length = min n S.length := by unfold bestI; rw [List.length_map, List.length_take]
theorem place_placed {r : List Int} {S : List (It Int)} (hr : workE r = 0) (hS : ∀ x ∈ S, 0 ≤ x.1) : Placed r (placeL r S) (bestI S r.length) := by
  obtain ⟨B, hB⟩ : ∃ B, bestI S r.length = B := ⟨_, rfl⟩
  have hBl : B.length ≤ r.length := by rw [← hB, bestI_length]; exact Nat.min_le_left _ _
  have hB0 : ∀ x ∈ B, x ≠ -1 := fun x hx => by
    rw [← hB] at hx
    obtain ⟨y, hy, rfl⟩ := List.mem_map.1 hx
    have := hS y (List.mem_of_mem_take hy)
    omega
  have h1 := fillB_laid hB0 (ids := B) (Laid.start (B := B) hr) (fun x hx => hx) (by rw [outB_length]; exact hBl)
  have e : placeL r S = fillB (outB B r) B := by unfold placeL; rw [hB]
  rw [hB, e]
  refine ⟨by rw [fillB_length, outB_length], h1.1, h1.2, fun i hi hm => ?_⟩
  have ho : (outB B r)[i]?.getD 0 = r[i]?.getD 0 := by
    unfold outB
    rw [List.getElem?_map, List.getElem?_eq_getElem hi] at *
    simp only [Option.map_some, Option.getD_some] at *
    rw [if_pos hm]
  rw [fillB_stay (by rw [ho]; exact hB0 _ hm) (by rw [outB_length]; exact hi), ho]
/-- to place twice is as once -/
theorem place_again {r a : List Int} {S : List (It Int)} (h : Placed r a (bestI S r.length)) : placeL a S = a := by
  unfold placeL
  rw [h.len, outB_same h.laid]
  exact fillB_same h.all
end Go.Proofs.Ytkjpkhpiojahkaa
