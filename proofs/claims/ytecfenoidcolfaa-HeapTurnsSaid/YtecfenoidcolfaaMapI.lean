/-
  A map with keys of kind int, as a function from numbers to values. Over any program.
-/
import Derived.Test.YtecfenoidcolfaaIter
import Derived.Maps.OwnSet
namespace Go.Proofs.Ytecfenoidcolfaa
set_option linter.unusedVariables false
open Go.RowKit

def heldR (v : Value) : Option (DataW Value × List MemPlace) := some (.held v, [])

/-- block b is a map of at most n entries; f tells what it holds -/
def mapI (w : World) (P : Program) (k : TypeId) (b n : Nat) (f : Int → Option Value) : Prop :=
  ∃ D : DataW Value, w.ownsMap P k heldR b n D ∧ Maps.IsMap D ∧
    ∀ x : Int, Maps.has D (.int .i64 x) = (f x).isSome ∧ ∀ z, D.atKey (.int .i64 x) z = (match f x with | some v => .held v | none => z)

section
variable {P : Program} {w w' : World} {k t e : TypeId} {b n : Nat} {f : Int → Option Value}

theorem mapI_made (w : World) (P : Program) (k : TypeId) : mapI (w.alloc (.map #[] 0)) P k w.heap.size 0 (fun _ => none) :=
  ⟨.map [], World.ownsMap_made _ _ _ _, Maps.isMap_empty, fun x => ⟨rfl, fun z => rfl⟩⟩
theorem mapI.lt (h : mapI w P k b n f) : b < w.heap.size := by
  obtain ⟨D, h, _⟩ := h
  exact h.lt
theorem mapI.is (h : mapI w P k b n f) : ∃ es c, w.heap[b]? = some (.map es c) := by
  obtain ⟨D, ⟨es, c, h, _⟩, _⟩ := h
  exact ⟨es, c, h⟩
theorem mapI.of_same (h : mapI w P k b n f) (hs : w'.heap[b]? = w.heap[b]?) : mapI w' P k b n f := by
  obtain ⟨D, ⟨es, c, h, r⟩, r'⟩ := h
  exact ⟨D, ⟨es, c, by rw [hs]; exact h, r⟩, r'⟩
theorem mapI.mod {S : Nat → Prop} (h : mapI w P k b n f) (hm : Mod S w w') (hb : ¬ S b) : mapI w' P k b n f := h.of_same (hm.same h.lt hb)
theorem mapI.mv {S : Nat → Prop} {B : Nat} (h : mapI w P k b n f) (hm : Mv S B w w') (hb : ¬ S b) : mapI w' P k b n f := by
  obtain ⟨es, c, ho⟩ := h.is
  exact h.of_same (by rw [hm.obj ho rfl hb, ho])
theorem mapI.keeps {R : Nat → Prop} (h : mapI w P k b n f) (hm : Keeps R w w') (hb : R b) : mapI w' P k b n f := by
  obtain ⟨es, c, ho⟩ := h.is
  exact h.of_same (by rw [hm.block _ _ ho rfl hb, ho])
theorem mapI.mono (h : mapI w P k b n f) {n' : Nat} (hn : n ≤ n') : mapI w P k b n' f := by
  obtain ⟨D, h, r⟩ := h
  exact ⟨D, h.mono hn, r⟩

theorem mapI.lookup (h : mapI w P k b n f) (hk : P.underlying k = some (.int .i64)) (ht : P.underlying t = some (.map k e)) {z : Value} (hz : (zeroValue e).run P w = .ok z w) {x : Int} (hx : (Lit.int .i64 x).wf = true) :
    (Instr.lookup t (.map (some b)) (.int .i64 x) false).run P w = .ok ((f x).getD z) w := by
  obtain ⟨D, h, _, hf⟩ := h
  obtain ⟨v, ps, hrun, hv⟩ := h.lookup (Maps.int_keyed hk) ht hz (zd := .held z) (zp := []) rfl (Maps.keyOf_int_mk hk hx)
  rw [(hf x).2] at hv
  rw [hrun]
  cases hfx : f x <;> rw [hfx] at hv <;> simp [heldR] at hv <;> simp [hv]
theorem mapI.look_ok (h : mapI w P k b n f) (hk : P.underlying k = some (.int .i64)) (ht : P.underlying t = some (.map k e)) {z : Value} (hz : (zeroValue e).run P w = .ok z w) {x : Int} (hx : (Lit.int .i64 x).wf = true) :
    (Instr.lookup t (.map (some b)) (.int .i64 x) true).run P w = .ok (.tuple #[(f x).getD z, .bool (f x).isSome]) w := by
  obtain ⟨D, h, _, hf⟩ := h
  obtain ⟨v, ps, hrun, hv⟩ := h.look_ok (Maps.int_keyed hk) ht hz (zd := .held z) (zp := []) rfl (Maps.keyOf_int_mk hk hx)
  rw [(hf x).2] at hv
  rw [hrun, (hf x).1]
  cases hfx : f x <;> rw [hfx] at hv <;> simp [heldR] at hv <;> simp [hv]

def put (f : Int → Option Value) (x : Int) (v : Option Value) : Int → Option Value := fun y => if y = x then v else f y
theorem put_same (f : Int → Option Value) (x : Int) (v : Option Value) : put f x v x = v := if_pos rfl
theorem put_other (f : Int → Option Value) {x y : Int} (h : y ≠ x) (v : Option Value) : put f x v y = f y := if_neg h

theorem lit_ne {x y : Int} (h : y ≠ x) : (Lit.int .i64 y) ≠ .int .i64 x := fun e => h (by injection e)

theorem mapI.update (h : mapI w P k b n f) (hk : P.underlying k = some (.int .i64)) (ht : P.underlying t = some (.map k e)) (hn : n < maxLen) {x : Int} (hx : (Lit.int .i64 x).wf = true) (v : Value) :
    ∃ w', (Instr.mapUpdate t (.map (some b)) (.int .i64 x) v).run P w = .ok () w' ∧ mapI w' P k b (n + 1) (put f x (some v)) ∧ Mod (fun j => j = b) w w' := by
  have hctl : ∀ o, w.heap[b]? = some o → ctl o = false := by
    obtain ⟨es, c, hb⟩ := h.is
    intro o ho
    rw [hb] at ho
    cases ho
    rfl
  obtain ⟨D, h, hD, hf⟩ := h
  obtain ⟨w', hrun, h', hg⟩ := h.update (Maps.int_keyed hk) ht hn (key := .int .i64 x) (val := v) (kl := .int .i64 x) (d := .held v) (ps := []) (Maps.keyOf_int_mk hk hx) rfl
  refine ⟨w', hrun, ⟨_, h', hD.put _ _, fun y => ?_⟩, (Mod.refl _ w).grown hg (fun j e _ => by cases e; exact ⟨rfl, hctl⟩)⟩
  · by_cases hy : y = x
    · subst hy
      rw [Maps.has_put_same hD (by trivial), put_same]
      exact ⟨rfl, fun z => Maps.atKey_put_same hD (by trivial) _ _⟩
    · rw [Maps.has_put_other (lit_ne hy), put_other _ hy]
      exact ⟨(hf y).1, fun z => by rw [Maps.atKey_put_other (lit_ne hy)]; exact (hf y).2 z⟩

theorem mapI.drop (h : mapI w P k b n f) (hk : P.underlying k = some (.int .i64)) (ht : P.underlying t = some (.map k e)) {x : Int} (hx : (Lit.int .i64 x).wf = true) (ty : TypeId) :
    ∃ w', (Builtin.delete_ #[t, k] ty #[.map (some b), .int .i64 x]).run P w = .ok (.tuple #[]) w' ∧ mapI w' P k b n (put f x none) ∧ Mod (fun j => j = b) w w' := by
  obtain ⟨D, h, hD, hf⟩ := h
  obtain ⟨w', hrun, h', es, c, es', c', hb, rfl⟩ := h.drop (Maps.int_keyed hk) ht (Maps.keyOf_int_mk hk hx) ty
  refine ⟨_, hrun, ⟨_, h', hD.del _, fun y => ?_⟩, ⟨rfl, rfl, rfl, by simp [ChangeMaps.setBlock], fun j o ho hc => ?_⟩⟩
  · by_cases hy : y = x
    · subst hy
      rw [Maps.has_del_same, put_same]
      exact ⟨rfl, fun z => Maps.atKey_del_same _⟩
    · rw [Maps.has_del_other (lit_ne hy), put_other _ hy]
      exact ⟨(hf y).1, fun z => by rw [Maps.atKey_del_other (lit_ne hy)]; exact (hf y).2 z⟩
  · by_cases hj : j = b
    · subst hj
      rw [hb] at ho
      cases ho
      rcases hc with hc | hc
      · cases hc
      · exact absurd rfl hc
    · rw [ChangeMaps.heap_setBlock_other hb _ hj]; exact ho
end
end Go.Proofs.Ytecfenoidcolfaa
