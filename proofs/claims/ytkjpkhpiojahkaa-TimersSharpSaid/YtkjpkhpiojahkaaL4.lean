/-
  Walk: the law HeapPlays.
-/
import Derived.Test.YtkjpkhpiojahkaaSame
namespace Go.Proofs.Ytkjpkhpiojahkaa
set_option linter.unusedVariables false
open Go.RowKit Hp

/-- calls of a slice that came in: what is asked, the key, the number -/
def OpsAt (w : World) (a : Option Addr) (os : List (Int × Int × Int)) : Prop :=
  (os.length = 0 ∨ ∃ b off, a = some ⟨b, off, none⟩ ∧ b < w.heap.size ∧ ∀ k, k < os.length → w.cell? ⟨b, off + k * 3, none⟩ = some (.int .i64 (os[k]?.getD (0, 0, 0)).1) ∧
    w.cell? ⟨b, off + k * 3 + 1, none⟩ = some (.int .i64 (os[k]?.getD (0, 0, 0)).2.1) ∧ w.cell? ⟨b, off + k * 3 + 2, none⟩ = some (.int .i64 (os[k]?.getD (0, 0, 0)).2.2)) ∧
  ∀ o ∈ os, (Lit.int .i64 o.2.2).wf = true

theorem refA_new (w : World) : (refA w.heap.size []).holds (w.alloc (.cells #[.slice none 0 0] 32)) (fun j => j = w.heap.size) :=
  ⟨.slice none 0 0, ⟨heap_alloc_new w _, World.ownsRow_nil _ _ _ _⟩, fun j => by simp [Value.ownBlock]⟩

end Go.Proofs.Ytkjpkhpiojahkaa
