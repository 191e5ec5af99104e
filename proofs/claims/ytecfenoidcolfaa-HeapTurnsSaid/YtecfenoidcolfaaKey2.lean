/-
  A key that came in by value.
-/
import Derived.Test.YtecfenoidcolfaaOps
import Derived.WideShapes
namespace Go.Proofs.Ytecfenoidcolfaa
set_option linter.unusedVariables false
open Go.RowKit Go.ChangeShapes Go.WideShapes Go.Deep

set_option maxRecDepth 100000 in
theorem open_key2 {Hd : Type} {enc : TypeId × Value → Hd} {w w' : World} {base b0 : Nat} {spare : Nat → Bool} {held : Bool} {r : Reach} {v : Value} {d : DataW Hd} {ps : List MemPlace}
    (hval : Value.okWide Try.prog w' r b0 32 v) (h : DataW.Trod enc Try.prog w base spare held 32 v d ps) :
    ∃ p q : Int, v = .agg #[.int .i64 p, .int .i64 q] ∧ (Lit.int .i64 p).wf = true ∧ (Lit.int .i64 q).wf = true := by
  obtain ⟨fuel, hf⟩ := h
  obtain ⟨f0, f1, hs, _⟩ := Ke.Try.fields32
  obtain ⟨cs, rfl, _⟩ := okWide_struct hs hval
  obtain ⟨p, q, hcs, hp, hq⟩ := Ke.open_key hf
  refine ⟨p, q, ?_, hp, hq⟩
  have : cs.toList = [.int .i64 p, .int .i64 q] := by simpa [Value.cells] using hcs
  rw [← Array.toArray_toList (xs := cs), this]
end Go.Proofs.Ytecfenoidcolfaa
