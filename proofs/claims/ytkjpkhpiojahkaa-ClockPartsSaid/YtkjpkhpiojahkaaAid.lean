/-
  Aids: the cells of a box by name.
-/
import Derived.Test.YtkjpkhpiojahkaaBase0
namespace Go.Proofs.Ytkjpkhpiojahkaa
set_option linter.unusedVariables false
open Go.RowKit

def nthV : List Value → Nat → Option Value
  | a :: _, 0 => some a
  | _ :: l, k + 1 => nthV l k
  | [], _ => none
theorem nthV_eq : ∀ (l : List Value) (k : Nat), nthV l k = l[k]?
  | [], k => by cases k <;> rfl
  | _ :: _, 0 => rfl
  | _ :: l, k + 1 => by rw [nthV, nthV_eq l k]; rfl
theorem On.bx {w0 w : World} {R : Ast} {bn t : Nat} {cs : Array Value} (h : On w0 w (sep (boxA bn t cs) R)) (k : Nat) {v : Value} (e : nthV cs.toList k = some v) : w.cell? ⟨bn, k, none⟩ = some v := (h.box1 k).1.trans (by rw [← e, nthV_eq, Array.getElem?_toList])
theorem drewC {w : World} {p : Addr} {v : Value} (h : w.cell? p = some v) : w.drew.cell? p = some v := h
theorem run_store_func {P : Program} (w : World) (a : Addr) (m : Mode) (f : Fn) (ts ks : Array Value) : (store a (.func f ts ks) m).run P w = stored P w a (.func f ts ks) m := run_store P w a _ m rfl
end Go.Proofs.Ytkjpkhpiojahkaa
