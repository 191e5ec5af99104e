/-
  A slice of ints that came in, as the walks want it.
-/
import Derived.Test.YtkjpkhpiojahkaaBase
import Derived.WalkKit
import Derived.ProofKit
import Derived.OpenShut
namespace Go.Proofs.Ytkjpkhpiojahkaa
set_option linter.unusedVariables false
open Go.RowKit

/-- the numbers of a slice that came in -/
def IntsAt (w : World) (a : Option Addr) (zs : List Int) : Prop :=
  ∀ k, k < zs.length → ∃ b off, a = some ⟨b, off, none⟩ ∧ b < w.heap.size ∧ w.cell? ⟨b, off + k, none⟩ = some (.int .i64 (zs[k]?.getD 0))
theorem ret_bool {a b : Bool} (h : a = b) : Ending.returned (.bool a) = .returned (.bool b) := by rw [h]
theorem ret_int {k : IntKind} {a b : Int} (h : a = b) : Ending.returned (.int k a) = .returned (.int k b) := by rw [h]
theorem IntsAt.below {w w' : World} {B : Nat} {a : Option Addr} {zs : List Int} (h : IntsAt w a zs) (hB : w.heap.size ≤ B) (hb : Below B w w') : IntsAt w' a zs := by
  intro k hk
  obtain ⟨b, off, ha, h1, h2⟩ := h k hk
  exact ⟨b, off, ha, Nat.lt_of_lt_of_le h1 hb.size, (hb.cell (by show b < B; omega)).trans h2⟩

theorem IntsAt.row {w : World} {a : Option Addr} {zs : List Int} (h : IntsAt w a zs) (hl : zs.length ≠ 0) :
    ∃ b off, a = some ⟨b, off, none⟩ ∧ b < w.heap.size ∧ ∀ k, k < zs.length → w.cell? ⟨b, off + k, none⟩ = some (.int .i64 (zs[k]?.getD 0)) := by
  obtain ⟨b, off, ha, hb, _⟩ := h 0 (by omega)
  refine ⟨b, off, ha, hb, fun k hk => ?_⟩
  obtain ⟨b', off', ha', _, hc⟩ := h k hk
  rw [ha] at ha'
  cases ha'
  exact hc

/-- a slice of integers that came in: it is nil, or it leads to a row of 'cap' cells -/
def IsRow (k : IntKind) (w : World) (a : Option Addr) (len cap : Nat) (zs : List Int) : Prop :=
  (a = none ∧ len = 0 ∧ cap = 0 ∧ zs = []) ∨
  ∃ x, a = some x ∧ len ≤ cap ∧ cap ≤ maxLen ∧ zs.length = cap ∧ (∀ i, i < zs.length → w.cell? (x.add i) = some (.int k (zs.getD i 0))) ∧ ∀ n ∈ zs, (Lit.int k n).wf = true

theorem IsRow.ints {w : World} {a : Option Addr} {len cap : Nat} {zs : List Int} (h : IsRow .i64 w a len cap zs) :
    ∃ xs : List Int, xs.length = len ∧ IntsAt w a xs ∧ len ≤ cap ∧ ∀ x ∈ xs, (Lit.int .i64 x).wf = true := by
  rcases h with ⟨rfl, rfl, rfl, rfl⟩ | ⟨x, rfl, h1, h2, h3, h4, h5⟩
  · exact ⟨[], rfl, fun k hk => by simp at hk, Nat.le_refl _, by simp⟩
  · refine ⟨zs.take len, by rw [List.length_take]; omega, fun k hk => ?_, h1, fun y hy => h5 y (List.mem_of_mem_take hy)⟩
    rw [List.length_take] at hk
    have h0 := h4 0 (by omega)
    have hx : x.spot = none := by
      have hadd : x.add 0 = x := by unfold Addr.add; simp
      rw [hadd] at h0
      unfold World.cell? at h0
      split at h0
      · split at h0
        · cases h0
        · rename_i hs; simpa using hs
      · cases h0
    obtain ⟨b, off, spot⟩ := x
    dsimp only at hx
    subst hx
    have hk4 := h4 k (by omega)
    have ha : (⟨b, off, none⟩ : Addr).add k = ⟨b, off + k, none⟩ := by unfold Addr.add; split <;> simp_all
    rw [ha] at hk4
    refine ⟨b, off, rfl, World.block_lt_of_cell? w _ hk4, ?_⟩
    rw [hk4, List.getElem?_take_of_lt (by omega), List.getD]
end Go.Proofs.Ytkjpkhpiojahkaa
