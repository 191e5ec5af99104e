/-
  Walk: the heap is the document's answer's.
-/
import Derived.Test.YtkjpkhpiojahkaaDoes
import Derived.Test.YtkjpkhpiojahkaaBase
namespace Go.Proofs.Ytkjpkhpiojahkaa
set_option linter.unusedVariables false
open Go.RowKit Hp
attribute [local go_sem] Oper.semAt_some

section
variable {w : World} {hb rb : Nat} {S : List (It Int)} {F : Nat → Prop} {v : Value}

end
end Go.Proofs.Ytkjpkhpiojahkaa
