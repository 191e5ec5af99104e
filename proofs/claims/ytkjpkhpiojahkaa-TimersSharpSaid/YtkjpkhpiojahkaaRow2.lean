/-
  A row of the call's own that grows by append. Over any program.
-/
import Derived.Test.YtkjpkhpiojahkaaQP
namespace Go.Proofs.Ytkjpkhpiojahkaa
set_option linter.unusedVariables false
open Go.RowKit Hp

theorem On.row_push {w0 w w1 w' : World} {v v' : Value} {t size n m : Nat} {xs ys : List Value} {R : Ast} (h : On w0 w (sep (rowA v t size n xs) R)) (hb : Below w.heap.size w w1) (hg : w1.grownBy w' v.ownBlock)
    (hown : w'.ownsRow 0 t size v' m ys) (hat : v'.ownBlock = v.ownBlock ∨ v'.ownBlock = some w1.heap.size) : On w0 w' (sep (rowA v' t size m ys) R) := by
  refine h.step1 fun F hF => ?_
  have hg' : Mod (fun j => v.ownBlock = some j) w1 w' := (Mod.refl _ w1).grown hg fun k hk _ => ⟨hk, fun o ho' => by
    rcases own_parts hF.1 with ⟨h1, _⟩ | ⟨g, cap, cur, h1, _, h3, _⟩
    · rw [h1] at hk; simp [Value.ownBlock] at hk
    · rw [h1] at hk; simp [Value.ownBlock] at hk
      subst hk
      have h4 := (Mod.of_below (S := none') hb).obj h3 (fun h => h)
      rw [h4] at ho'
      cases ho'
      rfl⟩
  have hs := hb.size
  refine ⟨fun j => v'.ownBlock = some j, ⟨hown, fun j => Iff.rfl⟩, ((Mod.of_below hb).trans' hg').mono fun j hj _ => (hF.2 j).2 hj, fun j hj => ?_⟩
  rcases hat with h1 | h1
  · rw [h1] at hj; exact .inl ((hF.2 j).2 hj)
  · rw [h1] at hj; cases hj; exact .inr (by omega)
theorem cells_reads (w : World) (cs : Array Value) (t : Nat) : Reads (w.alloc (.cells cs t)) (.slice (some ⟨w.heap.size, 0, none⟩) 1 1) cs.size 1 cs.toList := by
  refine .inr ⟨_, _, rfl, by simp, fun j u hu => ?_⟩
  rw [add_zero', World.cell?_alloc_at _ _ _ _ rfl]
  simpa using hu
end Go.Proofs.Ytkjpkhpiojahkaa
