/-
  Walk: the chapter's example.
-/
import Derived.Test.YtkjpkhpiojahkaaHO
import Derived.Test.YtkjpkhpiojahkaaBase
namespace Go.Proofs.Ytkjpkhpiojahkaa
set_option linter.unusedVariables false
open Go.RowKit Hp

/-- a heap, as a piece of memory -/
def heapA (hb lf : Nat) (lt : Int → Int → Bool) (M : List (It Int)) : Ast where
  holds w F := HeapAt w hb lf lt F M
  stable := fun h hm hS => h.mod hm hS
  lt := fun h hj => h.lt_F hj

abbrev H (hb : Nat) (M : List (It Int)) : Ast := heapA hb 113 ltI M

section
variable {w0 w : World} {hb : Nat} {M : List (It Int)} {R : Ast}
theorem H_perm {M' : List (It Int)} (hp : M.Perm M') (F : Nat → Prop) (h : (H hb M).holds w F) : (H hb M').holds w F := HeapAt.perm h hp
theorem H_put (h : On w0 w (sep (H hb M) R)) (id k : Int) (h0 : 0 ≤ id) (hw : (Lit.int .i64 id).wf = true) (hn : ∀ x ∈ M, x.1 ≠ id) (hM : M.length < 1000000) :
    Calls Try.prog 116 #[.pointer (some ⟨hb, 0, none⟩), .int .i64 id, .int .i64 k] w fun e w' => e = .returned (.int .i64 0) ∧ On w0 w' (sep (H hb ((id, k) :: M)) R) :=
  h.call1 (B := H hb ((id, k) :: M)) fun _ hF => Put_ok lessI hF id k h0 hw hn hM
theorem H_take {x1 x2 : Int} (h : On w0 w (sep (H hb ((x1, x2) :: M)) R)) (hs : Sorted ltI ((x1, x2) :: M)) (hM : M.length < 999999) :
    Calls Try.prog 118 #[.pointer (some ⟨hb, 0, none⟩)] w fun e w' => e = .returned (.tuple #[.int .i64 x1, .int .i64 x2, .int .i64 0]) ∧ On w0 w' (sep (H hb M) R) :=
  h.call1 (B := H hb M) fun _ hF => Take_some lessI hF hs hM
theorem H_take_none (h : On w0 w (sep (H hb []) R)) :
    Calls Try.prog 118 #[.pointer (some ⟨hb, 0, none⟩)] w fun e w' => e = .returned (.tuple #[.int .i64 0, .int .i64 0, .int .i64 14]) ∧ On w0 w' (sep (H hb []) R) :=
  h.call1 (B := H hb []) fun _ hF => (Take_none hF).mono fun _ _ ⟨he, hb⟩ => ⟨he, Step.below (A := H _ []) hF hb⟩
end
/-- nothing -/
def emp : Ast where
  holds _ F := ∀ j, ¬ F j
  stable := fun h _ _ => h
  lt := fun h hj => (h _ hj).elim
theorem On.emp (w : World) : On w w emp := ⟨fun _ => False, fun _ h => h, Below.refl _ _, fun _ h => h.elim⟩
theorem H_new {w0 w : World} {R : Ast} (h : On w0 w R) : Calls Try.prog 112 #[.func (.func 113) #[] #[]] w fun e w' => ∃ hb, e = .returned (.tuple #[.pointer (some ⟨hb, 0, none⟩), .int .i64 0]) ∧ On w0 w' (sep (H hb []) R) :=
  (New_ok ltI w).mono fun _ _ ⟨hb, F, he, h1, h2, h3⟩ => ⟨hb, he, h.add (B := H hb []) h2 h1 h3⟩

end Go.Proofs.Ytkjpkhpiojahkaa
