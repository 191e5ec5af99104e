/-
  A map from ints to places, with the number of its entries told sharply. Over any program.
-/
import Derived.Test.YtecfenoidcolfaaMapI
import Derived.Test.YtecfenoidcolfaaHeap2
namespace Go.Proofs.Ytecfenoidcolfaa
set_option linter.unusedVariables false
open Go.RowKit Hp

def lift (f : Int → Option Nat) : Int → Option Value := fun x => (f x).map fun i => .int .i64 (i : Int)
theorem lift_put (f : Int → Option Nat) (x : Int) (v : Option Nat) : lift (putN f x v) = put (lift f) x (v.map fun i => .int .i64 (i : Int)) := by
  funext y
  unfold lift putN put
  split <;> rfl
theorem lift_some {f : Int → Option Nat} {x : Int} {k : Nat} (h : f x = some k) : lift f x = some (.int .i64 (k : Int)) := by rw [lift, h]; rfl
theorem lift_none {f : Int → Option Nat} {x : Int} (h : f x = none) : lift f x = none := by rw [lift, h]; rfl

/-- block b is a map of n entries; f tells the places that it holds -/
def mapT (w : World) (P : Program) (k : TypeId) (b n : Nat) (f : Int → Option Nat) : Prop :=
  ∃ D : DataW Value, w.ownsMap P k heldR b n D ∧ Maps.size D = n ∧
    ∀ x : Int, Maps.has D (.int .i64 x) = (lift f x).isSome ∧ ∀ z, D.atKey (.int .i64 x) z = (match lift f x with | some v => .held v | none => z)

section
variable {P : Program} {w w' : World} {k t e : TypeId} {b n : Nat} {f : Int → Option Nat}

theorem mapT.toI (h : mapT w P k b n f) : mapI w P k b n (lift f) := by
  obtain ⟨D, h1, _, h2⟩ := h
  exact ⟨D, h1, h1.isMap, h2⟩
theorem own_tight {D : DataW Value} {m : Nat} (h : w.ownsMap P k heldR b m D) : w.ownsMap P k heldR b (Maps.size D) D := by
  obtain ⟨es, c, h1, h2, h3, rfl⟩ := h
  exact ⟨es, c, h1, h2, by simp [Maps.size, length_sorted], rfl⟩
theorem mapT_made (w : World) (P : Program) (k : TypeId) : mapT (w.alloc (.map #[] 0)) P k w.heap.size 0 (fun _ => none) :=
  ⟨.map [], World.ownsMap_made _ _ _ _, rfl, fun x => ⟨rfl, fun z => rfl⟩⟩
theorem mapT.is (h : mapT w P k b n f) : ∃ es c, w.heap[b]? = some (.map es c) := h.toI.is
theorem mapT.lt (h : mapT w P k b n f) : b < w.heap.size := h.toI.lt
theorem mapT.of_same (h : mapT w P k b n f) (hs : w'.heap[b]? = w.heap[b]?) : mapT w' P k b n f := by
  obtain ⟨D, ⟨es, c, h, r⟩, r'⟩ := h
  exact ⟨D, ⟨es, c, by rw [hs]; exact h, r⟩, r'⟩
theorem mapT.of_obj (h : mapT w P k b n f) (hs : ∀ o, w.heap[b]? = some o → ctl o = false → w'.heap[b]? = some o) : mapT w' P k b n f := by
  obtain ⟨es, c, ho⟩ := h.is
  exact h.of_same (by rw [hs _ ho rfl, ho])
theorem mapT.mod {S : Nat → Prop} (h : mapT w P k b n f) (hm : Mod S w w') (hb : ¬ S b) : mapT w' P k b n f := h.of_same (hm.same h.lt hb)

theorem mapT.update (h : mapT w P k b n f) (hk : P.underlying k = some (.int .i64)) (ht : P.underlying t = some (.map k e)) (hn : n < maxLen) {x : Int} (hx : (Lit.int .i64 x).wf = true) (i : Nat) :
    ∃ w', (Instr.mapUpdate t (.map (some b)) (.int .i64 x) (.int .i64 (i : Int))).run P w = .ok () w' ∧ mapT w' P k b (if (f x).isSome then n else n + 1) (putN f x (some i)) ∧ Mod (fun j => j = b) w w' := by
  have hctl : ∀ o, w.heap[b]? = some o → ctl o = false := by
    obtain ⟨es, c, hb⟩ := h.is
    intro o ho
    rw [hb] at ho
    cases ho
    rfl
  obtain ⟨D, h, hs, hf⟩ := h
  have hD := h.isMap
  obtain ⟨w', hrun, h', hg⟩ := h.update (Maps.int_keyed hk) ht hn (key := .int .i64 x) (val := .int .i64 (i : Int)) (kl := .int .i64 x) (d := .held (.int .i64 (i : Int))) (ps := []) (Maps.keyOf_int_mk hk hx) rfl
  have hsz := Maps.size_put (h.tidy (Maps.int_keyed hk)) (k := .int .i64 x) (.held (.int .i64 (i : Int)))
  have hh : Maps.has D (.int .i64 x) = (f x).isSome := by rw [(hf x).1, lift]; cases f x <;> rfl
  rw [hh, hs] at hsz
  refine ⟨w', hrun, ⟨_, hsz ▸ own_tight h', hsz, fun y => ?_⟩, (Mod.refl _ w).grown hg (fun j e _ => by cases e; exact ⟨rfl, hctl⟩)⟩
  rw [lift_put]
  by_cases hy : y = x
  · subst hy
    rw [Maps.has_put_same hD (by trivial), put_same]
    exact ⟨rfl, fun z => Maps.atKey_put_same hD (by trivial) _ _⟩
  · rw [Maps.has_put_other (lit_ne hy), put_other _ hy]
    exact ⟨(hf y).1, fun z => by rw [Maps.atKey_put_other (lit_ne hy)]; exact (hf y).2 z⟩

theorem mapT.drop (h : mapT w P k b n f) (hk : P.underlying k = some (.int .i64)) (ht : P.underlying t = some (.map k e)) {x : Int} (hx : (Lit.int .i64 x).wf = true) (ty : TypeId) :
    ∃ w', (Builtin.delete_ #[t, k] ty #[.map (some b), .int .i64 x]).run P w = .ok (.tuple #[]) w' ∧ mapT w' P k b (if (f x).isSome then n - 1 else n) (putN f x none) ∧ Mod (fun j => j = b) w w' := by
  obtain ⟨D, h, hs, hf⟩ := h
  have hD := h.isMap
  obtain ⟨w', hrun, h', es, c, es', c', hb, rfl⟩ := h.drop (Maps.int_keyed hk) ht (Maps.keyOf_int_mk hk hx) ty
  have hsz := Maps.size_del (h.tidy (Maps.int_keyed hk)) (k := .int .i64 x)
  have hh : Maps.has D (.int .i64 x) = (f x).isSome := by rw [(hf x).1, lift]; cases f x <;> rfl
  rw [hh, hs] at hsz
  have hsz' : Maps.size (D.del (.int .i64 x)) = if (f x).isSome then n - 1 else n := by cases hi : (f x).isSome <;> simp [hi] at hsz ⊢ <;> omega
  refine ⟨_, hrun, ⟨_, hsz' ▸ own_tight h', hsz', fun y => ?_⟩, ⟨rfl, rfl, rfl, by simp [ChangeMaps.setBlock], fun j o ho hc => ?_⟩⟩
  · rw [lift_put]
    by_cases hy : y = x
    · subst hy
      rw [Maps.has_del_same, put_same]
      exact ⟨rfl, fun z => Maps.atKey_del_same _⟩
    · rw [Maps.has_del_other (lit_ne hy), put_other _ hy]
      exact ⟨(hf y).1, fun z => by rw [Maps.atKey_del_other (lit_ne hy)]; exact (hf y).2 z⟩
  · by_cases hj : j = b
    · subst hj
      rw [hb] at ho
      cases ho
      rcases hc with hc | hc
      · cases hc
      · exact absurd rfl hc
    · rw [ChangeMaps.heap_setBlock_other hb _ hj]; exact ho
end
end Go.Proofs.Ytecfenoidcolfaa
