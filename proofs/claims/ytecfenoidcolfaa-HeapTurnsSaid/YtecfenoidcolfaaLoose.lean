/-
  A region that draws its order, whose operations only read and whose callees keep a class of worlds: one walk in the order of the text. Over any program.
-/
import Derived.Deep.Quiet
import Derived.BigQuiet
namespace Go.Proofs.Ytecfenoidcolfaa
set_option linter.unusedVariables false

/-- the walk, behind a name that no tactic looks through -/
structure Loose (P : Program) (ops : Array Oper) (C : World → Prop) (Q : Act → Prop) (l : List Oper) (a : Act) : Prop where
  out : wpQuiet P ops C Q l a

section
variable {P : Program} {ops : Array Oper} {C : World → Prop} {Q : Act → Prop} {a : Act} {o : Oper} {rest : List Oper} {v : Value}
theorem loose_nil (h : Q a) : Loose P ops C Q [] a := ⟨h⟩
theorem loose_skip (hw : Region.wanted o (yielded ops a.tmps) = false) (h : Loose P ops C Q rest (a.put o.dst undef)) : Loose P ops C Q (o :: rest) a := ⟨BigFrame.wpQuiet_skip hw h.out⟩
theorem loose_val (hw : Region.wanted o (yielded ops a.tmps) = true) (hv : ∀ w, C w → (execOp a.eval o).run P w = .ok (.value v) w) (h : Loose P ops C Q rest (a.put o.dst v)) : Loose P ops C Q (o :: rest) a :=
  ⟨BigFrame.wpQuiet_want hw fun K hK => ⟨v, fun w hw' => by unfold Oper.quietAt; rw [hv w hw']; exact ⟨rfl, rfl⟩, hK _ h.out⟩⟩
theorem loose_call {f : FuncId} {args : Array Value} (hc : ∀ w, C w → Calls P f args w fun e w' => e = .returned v ∧ C w') (hw : Region.wanted o (yielded ops a.tmps) = true)
    (hv : ∀ w, C w → (execOp a.eval o).run P w = .ok (.enter f args) w) (h : Loose P ops C Q rest (a.put o.dst v)) : Loose P ops C Q (o :: rest) a :=
  ⟨BigFrame.wpQuiet_want hw fun K hK => ⟨v, fun w hw' => by unfold Oper.quietAt; rw [hv w hw']; exact ⟨rfl, hc w hw'⟩, hK _ h.out⟩⟩
end

theorem wp_region_loose {P : Program} {id : Nat} {Q : Exit → Act → World → Prop} {a : Act} {w : World} {l : List Oper} (C : World → Prop) (hm : P.follows .mixedOrders = true) (hB : Region.lexB .any l.toArray = true) (hC : C w.drew)
    (h : Loose P l.toArray C (fun a' => ∀ w', C w' → Q .normal a' w') l a) : (Code.region id l.toArray true).wp P Q a w :=
  wp_region_quiet (C := C) hm hB hC (by simpa using h.out)
end Go.Proofs.Ytecfenoidcolfaa
