/-
  A slice of calls that came in, as the walks want it.
-/
import Derived.Test.YtkjpkhpiojahkaaL4
import Derived.Test.YtkjpkhpiojahkaaLK
namespace Go.Proofs.Ytkjpkhpiojahkaa
set_option linter.unusedVariables false
open Go.RowKit Go.ChangeShapes Go.WideShapes Go.Deep

variable {Hd : Type} {enc : TypeId × Value → Hd} {w : World} {base : Nat} {spare : Nat → Bool} {held : Bool}
end Go.Proofs.Ytkjpkhpiojahkaa
