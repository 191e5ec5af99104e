/-
  Clock: what Step holds.
-/
import Derived.Test.YtkjpkhpiojahkaaCk5
import Derived.Test.YtkjpkhpiojahkaaFst
namespace Go.Proofs.Ytkjpkhpiojahkaa
set_option linter.unusedVariables false
open Go.RowKit Hp
attribute [local go_sem] Oper.semAt_some
def evC (v : Ev) : List Value := [.int .i64 v.kind, .int .i64 v.id, .int .i64 v.at', .int .i64 v.late, .int .i64 v.now]
def ev0 : Ev := ⟨0, 0, 0, 0, 0⟩
def evV (v : Option Ev) : Value := .agg (evC (v.getD ev0)).toArray
section
variable {w0 w : World} {R : Ast} {cb : Nat} {c : Ck}
theorem On.ev_set {b : Nat} {x0 x1 x2 x3 x4 v0 v1 v2 v3 v4 : Value} (h : On w0 w (sep (boxA b 109 #[x0, x1, x2, x3, x4]) R)) :
    On w0 (((((w.setCell ⟨b, 0, none⟩ v0).setCell ⟨b, 1, none⟩ v1).setCell ⟨b, 2, none⟩ v2).setCell ⟨b, 3, none⟩ v3).setCell ⟨b, 4, none⟩ v4) (sep (boxA b 109 #[v0, v1, v2, v3, v4]) R) :=
  ((((h.box_set 0 v0).box_set 1 v1).box_set 2 v2).box_set 3 v3).box_set 4 v4
theorem On.res_set {br bi be : Nat} {x y x0 x1 x2 x3 x4 v0 v1 v2 v3 v4 a b : Value} (h : On w0 w (sep (boxA br 40 #[x]) (sep (boxA bi 4 #[y]) (sep (boxA be 109 #[x0, x1, x2, x3, x4]) R)))) :
    On w0 (((((((w.setCell ⟨be, 0, none⟩ v0).setCell ⟨be, 1, none⟩ v1).setCell ⟨be, 2, none⟩ v2).setCell ⟨be, 3, none⟩ v3).setCell ⟨be, 4, none⟩ v4).setCell ⟨bi, 0, none⟩ a).setCell ⟨br, 0, none⟩ b) (sep (boxA br 40 #[b]) (sep (boxA bi 4 #[a]) (sep (boxA be 109 #[v0, v1, v2, v3, v4]) R))) := by
  have h1 := (h.sw1.sw0).ev_set (v0 := v0) (v1 := v1) (v2 := v2) (v3 := v3) (v4 := v4)
  have h2 := (h1.sw1.sw0).box_set 0 a
  exact (h2.sw1.sw0).box_set 0 b
theorem step_results {A : World} {X : Ast} {br bi be : Nat} {E : Int} {b : Bool} {v : Ev} {tm : Array Value} (h : On w0 A (sep (boxA br 40 #[.int .i64 E]) (sep (boxA bi 4 #[.bool b]) (sep (boxA be 109 (evC v).toArray) X))))
    (t4 : tm[4]? = some (.pointer (some ⟨be, 0, none⟩))) (t5 : tm[5]? = some (.pointer (some ⟨bi, 0, none⟩))) (t6 : tm[6]? = some (.pointer (some ⟨br, 0, none⟩))) :
    (results Try.f87 tm).run Try.prog A = .ok (.tuple #[.agg (evC v).toArray, .bool b, .int .i64 E]) A := by
  have c0 := h.bx 0 rfl
  have c1 := h.sw0.bx 0 rfl
  have h2 := (h.sw1.sw0)
  unfold evC at h2 ⊢
  have d0 := h2.bx 0 rfl
  have d1 := h2.bx 1 rfl
  have d2 := h2.bx 2 rfl
  have d3 := h2.bx 3 rfl
  have d4 := h2.bx 4 rfl
  simp [results, Try.f87, go_sem, t4, t5, t6, c0, c1, d0, d1, d2, d3, d4]
theorem res_ctl {w : World} {br bi be D : Nat} {v0 v1 v2 v3 v4 a b : Value} (h : w.heap[D]? = some (.deferred (some []))) :
    (((((((w.setCell ⟨be, 0, none⟩ v0).setCell ⟨be, 1, none⟩ v1).setCell ⟨be, 2, none⟩ v2).setCell ⟨be, 3, none⟩ v3).setCell ⟨be, 4, none⟩ v4).setCell ⟨bi, 0, none⟩ a).setCell ⟨br, 0, none⟩ b).heap[D]? = some (.deferred (some [])) :=
  setCell_ctl (setCell_ctl (setCell_ctl (setCell_ctl (setCell_ctl (setCell_ctl (setCell_ctl h (.inl rfl)) (.inl rfl)) (.inl rfl)) (.inl rfl)) (.inl rfl)) (.inl rfl)) (.inl rfl)
theorem step_fin {A : World} {X : Ast} {br bi be n D m : Nat} {E : Int} {b : Bool} {v : Ev} {tm : Array Value} {Post : Ending → World → Prop} (h : On w0 A (sep (boxA br 40 #[.int .i64 E]) (sep (boxA bi 4 #[.bool b]) (sep (boxA be 109 (evC v).toArray) X))))
    (hX : PlainF n X) (hn : n ≤ D) (hD : w0.heap.size ≤ D) (hK : A.heap[D]? = some (.deferred (some [])))
    (t4 : tm[4]? = some (.pointer (some ⟨be, 0, none⟩))) (t5 : tm[5]? = some (.pointer (some ⟨bi, 0, none⟩))) (t6 : tm[6]? = some (.pointer (some ⟨br, 0, none⟩)))
    (k : ∀ A', On w0 A' X → Post (.returned (.tuple #[.agg (evC v).toArray, .bool b, .int .i64 E])) A') :
    bodyPostM Fence.wide m Try.prog Try.f87 Post .ret { tmps := tm, defers := [{ target := .collected D, args := #[] }] } A :=
  fin_markF (n := n) (v := .tuple #[.agg (evC v).toArray, .bool b, .int .i64 E]) ((Plain.box _ _ _).sepF ((Plain.box _ _ _).sepF ((Plain.box _ _ _).sepF hX))) hn h hD hK fun A' h' => ⟨step_results h' t4 t5 t6, k A' h'.out1.out1.out1⟩
/-- what Step's call holds: the results, the arguments, the clock's parts -/
def stpA (b0 cb tb : Nat) (to : Int) (v : Value) (lates ats : List Int) (R : Ast) (e : Int) (b : Bool) (x : Ev) (S : List (It Int)) (now worst : Int) : Ast :=
  sep (boxA (b0 + 1 + 1 + 1 + 1) 40 #[.int .i64 e]) (sep (boxA (b0 + 1 + 1 + 1) 4 #[.bool b]) (sep (boxA (b0 + 1 + 1) 109 (evC x).toArray) (sep (boxA (b0 + 1) 3 #[.int .i64 to]) (sep (boxA b0 101 #[.pointer (some ⟨cb, 0, none⟩)]) (sep (boxA cb 172 (ckCells tb ats v now worst)) (sep (tqA tb 512 S 0 0) (sep (latA v lates) R)))))))
theorem Plain.stp {n b0 cb tb : Nat} {to : Int} {v : Value} {lates ats : List Int} {e : Int} {b : Bool} {x : Ev} {S : List (It Int)} {now worst : Int} (hR : PlainF n R) : PlainF n (stpA b0 cb tb to v lates ats R e b x S now worst) :=
  (Plain.box _ _ _).sepF ((Plain.box _ _ _).sepF ((Plain.box _ _ _).sepF ((Plain.box _ _ _).sepF ((Plain.box _ _ _).sepF ((Plain.box _ _ _).sepF ((Plain.tq _ _ _ _ _).sepF ((Plain.lat _ _).sepF hR)))))))
def stF (X : Ast) : List (It Int) → Ast
  | [] => X
  | _ :: _ => prA False
def sxF (X Y : Ast) : Code → Ast
  | .ret => X
  | .exit 0 => Y
  | _ => prA False
theorem stF_plain {n : Nat} {X : Ast} (h : PlainF n X) : ∀ s, PlainF n (stF X s)
  | [] => h
  | _ :: _ => (Plain.pr _).f _
theorem sxF_plain {n : Nat} {X Y : Ast} (h : PlainF n X) (h' : PlainF n Y) (c : Code) : PlainF n (sxF X Y c) := by
  unfold sxF
  split
  · exact h
  · exact h'
  · exact (Plain.pr _).f _
end
end Go.Proofs.Ytkjpkhpiojahkaa
