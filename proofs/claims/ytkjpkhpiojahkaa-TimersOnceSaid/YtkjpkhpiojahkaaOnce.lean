/-
  Timers: plain facts on timers that are numbered, and flags of which are armed. No program in sight.
-/
import Derived.Test.YtkjpkhpiojahkaaTA
namespace Go.Proofs.Ytkjpkhpiojahkaa
set_option linter.unusedVariables false
open Go.RowKit Hp

/-- the flags tell which timers are armed; timer j is armed for zs j -/
structure Rel (zs : List Int) (S : List (It Int)) (A : List Bool) : Prop where
  len : A.length = zs.length
  mem : ∀ x ∈ S, ∃ j : Nat, j < zs.length ∧ x.1 = (j : Int) ∧ zs[j]?.getD 0 = x.2
  arm : ∀ j : Nat, j < zs.length → A[j]? = some (has S (j : Int))
section
variable {zs : List Int} {S T : List (It Int)} {A : List Bool} {x : It Int}
theorem has_cons' (x : It Int) (S : List (It Int)) (id : Int) : has (x :: S) id = (x.1 == id || has S id) := by unfold has; rw [List.any_cons]
theorem Rel.start (zs : List Int) : Rel zs [] (List.replicate zs.length false) :=
  ⟨by simp, (fun x hx => by cases hx), fun j hj => by rw [List.getElem?_replicate, if_pos hj]; rfl⟩
theorem Rel.get (h : Rel zs S A) {j : Nat} (hj : j < zs.length) : A[j]? = some (has S (j : Int)) := h.arm j hj
/-- the head is answered -/
theorem Rel.fire (h : Rel zs (x :: T) A) (hd : (x :: T).Pairwise fun a b => a.1 ≠ b.1) {j : Nat} (hj : x.1 = (j : Int)) : Rel zs T (A.set j false) := by
  refine ⟨by rw [List.length_set]; exact h.len, fun y hy => h.mem y (List.mem_cons_of_mem _ hy), fun i hi => ?_⟩
  rw [List.getElem?_set]
  by_cases hij : j = i
  · subst hij
    rw [if_pos rfl, if_pos (by rw [h.len]; exact hi)]
    congr 1
    refine (has_none.2 fun y hy => ?_).symm
    have := (List.pairwise_cons.1 hd).1 y hy
    omega
  · rw [if_neg hij, h.arm i hi, has_cons']
    have : (x.1 == (i : Int)) = false := by simp; omega
    rw [this, Bool.false_or]
/-- timer i is armed -/
theorem Rel.put (h : Rel zs S A) {i : Nat} (hi : i < zs.length) (hn : has S (i : Int) = false) : Rel zs (ins ltI ((i : Int), zs[i]?.getD 0) S) (A.set i true) := by
  refine ⟨by rw [List.length_set]; exact h.len, fun y hy => ?_, fun j hj => ?_⟩
  · rcases ins_mem.1 hy with rfl | hy
    · exact ⟨i, hi, rfl, rfl⟩
    · exact h.mem y hy
  · have hp : has (ins ltI ((i : Int), zs[i]?.getD 0) S) (j : Int) = (((i : Int) == (j : Int)) || has S (j : Int)) := by
      rw [← has_cons' ((i : Int), zs[i]?.getD 0)]
      unfold has
      exact (ins_perm _ _).any_eq
    rw [hp, List.getElem?_set]
    by_cases hij : i = j
    · subst hij
      rw [if_pos rfl, if_pos (by rw [h.len]; exact hi)]
      simp
    · rw [if_neg hij, h.arm j hj]
      have : ((i : Int) == (j : Int)) = false := by simp; omega
      rw [this, Bool.false_or]
theorem Rel.keep (h : Rel zs S A) {i : Nat} (hi : i < zs.length) (hn : has S (i : Int) = false) : A.set i false = A := by
  refine List.ext_getElem? fun j => ?_
  rw [List.getElem?_set]
  split
  · rename_i e
    subst e
    rw [if_pos (by rw [h.len]; exact hi), h.arm _ hi, hn]
  · rfl
theorem Rel.sub (h : Rel zs (S ++ T) A) : ∀ x ∈ T, ∃ j : Nat, j < zs.length ∧ x.1 = (j : Int) ∧ zs[j]?.getD 0 = x.2 := fun x hx => h.mem x (List.mem_append.2 (.inr hx))
end
theorem bef_of_ahead {x y : It Int} (h : Hp.ahead ltI x y = true) : bef (x.2, x.1) (y.2, y.1) = true := by
  rw [ahead_iff] at h
  simp only [ltI, decide_eq_true_eq, decide_eq_false_iff_not] at h
  simp only [bef, Bool.or_eq_true, Bool.and_eq_true, decide_eq_true_eq]
  omega
/-- a slice of flags of its own -/
def flagA (g n : Nat) (A : List Bool) : Ast := rowA (.slice (some ⟨g, 0, none⟩) n n) 4 1 n (A.map Value.bool)
theorem Plain.flag (g n : Nat) (A : List Bool) : Plain (flagA g n A) := Plain.row _ _ _ _ _
section
variable {w0 w : World} {g n i : Nat} {A : List Bool} {R : Ast} {b : Bool}
theorem On.flag (h : On w0 w (sep (flagA g n A) R)) (hi : A[i]? = some b) : w.cell? ⟨g, i, none⟩ = some (.bool b) ∧ w.frozen? ⟨g, i, none⟩ = false := by
  obtain ⟨F, hF, _⟩ := h.get1
  exact ⟨own_cellG hF.1 (by rw [List.getElem?_map, hi]; rfl), own_freeG hF.1 i⟩
theorem On.flag_set (h : On w0 w (sep (flagA g n A) R)) (i : Nat) (b : Bool) : On w0 (w.setCell ⟨g, i, none⟩ (.bool b)) (sep (flagA g n (A.set i b)) R) := by
  have := h.step1 fun F hF => rowA_set (i := i) (y := .bool b) hF
  unfold flagA
  rw [List.map_set]
  exact this
theorem made_flags (n : Nat) : (madeCells (Value.bool false).cells (n * 1)).toList = (List.replicate n false).map Value.bool := by
  rw [List.map_replicate, List.eq_replicate_iff]
  refine ⟨by simp [madeCells], fun b hb => ?_⟩
  simp [madeCells, Value.cells] at hb
  obtain ⟨x, _, rfl⟩ := hb
  simp [Nat.mod_one]
end
end Go.Proofs.Ytkjpkhpiojahkaa
