/-
  Place: plain facts on the last one of those that run. No program in sight.
-/
import Derived.Test.YtkjpkhpiojahkaaPl2
namespace Go.Proofs.Ytkjpkhpiojahkaa
set_option linter.unusedVariables false
open Go.RowKit Hp

/-- those that run, in order -/
def hitS (r : List Int) (S : List (It Int)) : List (It Int) := S.filter fun x => decide (x.1 ∈ r)
/-- the last one -/
def lastH (H : List (It Int)) : It Int := H.getLast?.getD (0, 0)
theorem hitS_snoc {r : List Int} {S : List (It Int)} {x : It Int} : hitS r (S ++ [x]) = if x.1 ∈ r then hitS r S ++ [x] else hitS r S := by
  unfold hitS
  rw [List.filter_append]
  by_cases h : x.1 ∈ r
  · rw [if_pos h]; simp [h]
  · rw [if_neg h]; simp [h]
theorem lastH_snoc (H : List (It Int)) (x : It Int) : lastH (H ++ [x]) = x := by unfold lastH; simp
def victE (r : List Int) (S : List (It Int)) : Int := if (hitS r S).length = 0 then 14 else 0
def victW (r : List Int) (S : List (It Int)) : Int := if (hitS r S).length = 0 then 0 else atI r (lastH (hitS r S)).1
/-- is a server wanted ahead of the last one, or of an idle worker? -/
def beatsB (r : List Int) (S : List (It Int)) (t id : Int) : Bool := decide ((hitS r S).length < r.length) || bef (t, id) ((lastH (hitS r S)).2, (lastH (hitS r S)).1)
theorem lastH_mem {H : List (It Int)} (h : H.length ≠ 0) : lastH H ∈ H := by
  unfold lastH
  cases hg : H.getLast? with
  | none => rw [List.getLast?_eq_none_iff] at hg; exact absurd (by rw [hg]; rfl) h
  | some x => exact List.mem_of_getLast? hg
end Go.Proofs.Ytkjpkhpiojahkaa
