/-
  What lies in memory, piece beside piece: each piece has blocks of its own. Over any program.
-/
import Derived.Test.YtecfenoidcolfaaCel
import Derived.Deep.AppendLies
namespace Go.Proofs.Ytecfenoidcolfaa
set_option linter.unusedVariables false
open Go.RowKit

/-- a piece of memory: what is said of the world, of blocks F -/
structure Ast where
  holds : World → (Nat → Prop) → Prop
  stable : ∀ {w w' : World} {F S : Nat → Prop}, holds w F → Mod S w w' → (∀ j, F j → ¬ S j) → holds w' F
  lt : ∀ {w : World} {F : Nat → Prop} {j : Nat}, holds w F → F j → j < w.heap.size

/-- two pieces beside one another -/
def sep (A B : Ast) : Ast where
  holds w F := ∃ Fa Fb, A.holds w Fa ∧ B.holds w Fb ∧ (∀ j, Fa j → ¬ Fb j) ∧ ∀ j, F j ↔ Fa j ∨ Fb j
  stable := fun ⟨Fa, Fb, h1, h2, h3, h4⟩ hm hS => ⟨Fa, Fb, A.stable h1 hm fun j hj => hS j ((h4 j).2 (.inl hj)), B.stable h2 hm fun j hj => hS j ((h4 j).2 (.inr hj)), h3, h4⟩
  lt := fun ⟨Fa, Fb, h1, h2, _, h4⟩ hj => by
    rcases (h4 _).1 hj with h | h
    · exact A.lt h1 h
    · exact B.lt h2 h

/-- what a call does to the blocks F: the piece B is there then -/
def Step (F : Nat → Prop) (w w' : World) (B : Ast) : Prop := ∃ F', B.holds w' F' ∧ Mod F w w' ∧ ∀ j, F' j → F j ∨ w.heap.size ≤ j

section
variable {A B C R : Ast} {F Fa : Nat → Prop} {w w' w'' w0 : World} {P : Program} {f : FuncId} {args : Array Value} {Q : Ending → Prop}

theorem Step.refl (h : A.holds w F) : Step F w w A := ⟨F, h, Mod.refl _ _, fun _ h => .inl h⟩
theorem Step.below (h : A.holds w F) (hb : Below w.heap.size w w') : Step F w w' A := ⟨F, A.stable (S := none') h (Mod.of_below hb) fun _ _ h => h, Mod.of_below hb, fun _ h => .inl h⟩
theorem Step.trans (h : Step F w w' B) (k : ∀ F', B.holds w' F' → Step F' w' w'' C) : Step F w w'' C := by
  obtain ⟨F', h1, h2, h3⟩ := h
  obtain ⟨F2, k1, k2, k3⟩ := k F' h1
  exact ⟨F2, k1, h2.trans k2 (fun j hj hl => (h3 j hj).resolve_right (by omega)), fun j hj => (k3 j hj).elim (h3 j) fun hle => .inr (by have := h2.size; omega)⟩
theorem Step.mono (h : Step F w w' B) (k : ∀ F', B.holds w' F' → C.holds w' F') : Step F w w' C := by
  obtain ⟨F', h1, h2, h3⟩ := h
  exact ⟨F', k F' h1, h2, h3⟩
theorem sep_comm (h : (sep A B).holds w F) : (sep B A).holds w F := by
  obtain ⟨Fa, Fb, h1, h2, h3, h4⟩ := h
  exact ⟨Fb, Fa, h2, h1, fun j hb ha => h3 j ha hb, fun j => (h4 j).trans or_comm⟩
theorem sep_assoc (h : (sep (sep A B) C).holds w F) : (sep A (sep B C)).holds w F := by
  obtain ⟨Fab, Fc, ⟨Fa, Fb, a1, a2, a3, a4⟩, h2, h3, h4⟩ := h
  refine ⟨Fa, fun j => Fb j ∨ Fc j, a1, ⟨Fb, Fc, a2, h2, fun j hb hc => h3 j ((a4 j).2 (.inr hb)) hc, fun j => Iff.rfl⟩, fun j ha hbc => ?_, fun j => ?_⟩
  · rcases hbc with hb | hc
    · exact a3 j ha hb
    · exact h3 j ((a4 j).2 (.inl ha)) hc
  · rw [h4, a4]
    constructor
    · rintro ((h | h) | h)
      · exact .inl h
      · exact .inr (.inl h)
      · exact .inr (.inr h)
    · rintro (h | h | h)
      · exact .inl (.inl h)
      · exact .inl (.inr h)
      · exact .inr h
theorem sep_assoc' (h : (sep A (sep B C)).holds w F) : (sep (sep A B) C).holds w F :=
  sep_comm (sep_assoc (sep_comm (sep_assoc (sep_comm h))))
theorem sep_mono (h : (sep A R).holds w F) (k : ∀ F', A.holds w F' → B.holds w F') : (sep B R).holds w F := by
  obtain ⟨Fa, Fb, h1, h2, h3, h4⟩ := h
  exact ⟨Fa, Fb, k _ h1, h2, h3, h4⟩
theorem sep_left (h : (sep A (sep B C)).holds w F) : (sep B (sep A C)).holds w F :=
  sep_assoc (sep_mono (sep_assoc' h) fun _ h => sep_comm h)
theorem sep_monoR (h : (sep R A).holds w F) (k : ∀ F', A.holds w F' → B.holds w F') : (sep R B).holds w F := sep_comm (sep_mono (sep_comm h) k)
/-- what happens to one piece leaves the other -/
theorem Step.frame (h : (sep A R).holds w F) (k : ∀ F', A.holds w F' → Step F' w w' B) : Step F w w' (sep B R) := by
  obtain ⟨Fa, Fr, h1, h2, h3, h4⟩ := h
  obtain ⟨F', k1, k2, k3⟩ := k Fa h1
  refine ⟨fun j => F' j ∨ Fr j, ⟨F', Fr, k1, R.stable h2 k2 fun j hr ha => h3 j ha hr, fun j hj hr => ?_, fun j => Iff.rfl⟩, k2.mono fun j hj _ => (h4 j).2 (.inl hj), fun j hj => ?_⟩
  · rcases k3 j hj with h | h
    · exact h3 j h hr
    · have := R.lt h2 hr; omega
  · rcases hj with hj | hj
    · exact (k3 j hj).imp (fun h => (h4 j).2 (.inl h)) id
    · exact .inl ((h4 j).2 (.inr hj))

/-- behind w0, all that is new lies in these pieces (or is nobody's) -/
def On (w0 w : World) (A : Ast) : Prop := ∃ F, A.holds w F ∧ Below w0.heap.size w0 w ∧ ∀ j, F j → w0.heap.size ≤ j

theorem below_mod {S : Nat → Prop} (h : Below w0.heap.size w0 w) (hm : Mod S w w') (hS : ∀ j, S j → w0.heap.size ≤ j) : Below w0.heap.size w0 w' :=
  ((Mod.of_below (S := none') h).trans hm fun j hj hl => by have := hS j hj; omega).to_below
theorem On.step (h : On w0 w A) (k : ∀ F, A.holds w F → Step F w w' B) : On w0 w' B := by
  obtain ⟨F, h1, h2, h3⟩ := h
  obtain ⟨F', k1, k2, k3⟩ := k F h1
  exact ⟨F', k1, below_mod h2 k2 h3, fun j hj => (k3 j hj).elim (h3 j) fun hle => by have := h2.size; omega⟩
theorem On.step1 (h : On w0 w (sep A R)) (k : ∀ F, A.holds w F → Step F w w' B) : On w0 w' (sep B R) := h.step fun _ hF => Step.frame hF k
theorem On.mono (h : On w0 w A) (k : ∀ F, A.holds w F → B.holds w F) : On w0 w B := by
  obtain ⟨F, h1, h2, h3⟩ := h
  exact ⟨F, k F h1, h2, h3⟩
theorem On.mono1 (h : On w0 w (sep A R)) (k : ∀ F, A.holds w F → B.holds w F) : On w0 w (sep B R) := h.mono fun _ hF => sep_mono hF k
theorem On.comm (h : On w0 w (sep A B)) : On w0 w (sep B A) := h.mono fun _ => sep_comm
theorem On.left (h : On w0 w (sep A (sep B C))) : On w0 w (sep B (sep A C)) := h.mono fun _ => sep_left
theorem On.third {D : Ast} (h : On w0 w (sep A (sep B (sep C D)))) : On w0 w (sep C (sep A (sep B D))) := h.mono fun _ h => sep_left (sep_monoR h fun _ => sep_left)
theorem On.fourth {D E : Ast} (h : On w0 w (sep A (sep B (sep C (sep D E))))) : On w0 w (sep D (sep A (sep B (sep C E)))) := h.mono fun _ h => sep_left (sep_monoR h fun _ h => sep_left (sep_monoR h fun _ => sep_left))
theorem On.sink2 {D : Ast} (h : On w0 w (sep C (sep A (sep B D)))) : On w0 w (sep A (sep B (sep C D))) := h.mono fun _ h => sep_monoR (sep_left h) fun _ => sep_left
theorem On.sink3 {D E : Ast} (h : On w0 w (sep D (sep A (sep B (sep C E))))) : On w0 w (sep A (sep B (sep C (sep D E)))) := h.mono fun _ h => sep_monoR (sep_left h) fun _ h => sep_monoR (sep_left h) fun _ => sep_left
theorem On.assoc (h : On w0 w (sep (sep A B) C)) : On w0 w (sep A (sep B C)) := h.mono fun _ => sep_assoc
theorem On.assoc' (h : On w0 w (sep A (sep B C))) : On w0 w (sep (sep A B) C) := h.mono fun _ => sep_assoc'
theorem On.below (h : On w0 w A) (hb : Below w.heap.size w w') : On w0 w' A := h.step fun _ hF => Step.below hF hb
theorem On.to_below (h : On w0 w A) : Below w0.heap.size w0 w := by
  obtain ⟨F, _, h2, _⟩ := h
  exact h2
theorem On.get (h : On w0 w A) : ∃ F, A.holds w F ∧ ∀ j, F j → w0.heap.size ≤ j := by
  obtain ⟨F, h1, _, h3⟩ := h
  exact ⟨F, h1, h3⟩
theorem On.get1 (h : On w0 w (sep A R)) : ∃ F, A.holds w F ∧ ∀ j, F j → w0.heap.size ≤ j := by
  obtain ⟨F, ⟨Fa, Fb, h1, _, _, h4⟩, _, h3⟩ := h
  exact ⟨Fa, h1, fun j hj => h3 j ((h4 j).2 (.inl hj))⟩
theorem On.out1 (h : On w0 w (sep A R)) : On w0 w R := by
  obtain ⟨F, ⟨Fa, Fb, _, h1, _, h4⟩, h2, h3⟩ := h
  exact ⟨Fb, h1, h2, fun j hj => h3 j ((h4 j).2 (.inr hj))⟩
/-- a piece more, of new blocks -/
theorem On.add (h : On w0 w A) (hb : Below w.heap.size w w') (hB : B.holds w' F) (hF : ∀ j, F j → w.heap.size ≤ j) : On w0 w' (sep B A) := by
  obtain ⟨Fa, h1, h2, h3⟩ := h
  refine ⟨fun j => F j ∨ Fa j, ⟨F, Fa, hB, A.stable (S := none') h1 (Mod.of_below hb) (fun _ _ h => h), fun j hj ha => ?_, fun j => Iff.rfl⟩, h2.trans (hb.mono h2.size), fun j hj => ?_⟩
  · have := hF j hj
    have := A.lt h1 ha
    omega
  · rcases hj with hj | hj
    · have := hF j hj
      have := h2.size
      omega
    · exact h3 j hj
theorem On.first (hb : Below w0.heap.size w0 w) (hB : B.holds w F) (hF : ∀ j, F j → w0.heap.size ≤ j) : On w0 w B := ⟨F, hB, hb, hF⟩
theorem On.call (h : On w0 w A) (k : ∀ F, A.holds w F → Calls P f args w fun e w' => Q e ∧ Step F w w' B) : Calls P f args w fun e w' => Q e ∧ On w0 w' B := by
  obtain ⟨F, h1, h2, h3⟩ := h
  exact (k F h1).mono fun e w' ⟨q, F', k1, k2, k3⟩ => ⟨q, F', k1, below_mod h2 k2 h3, fun j hj => (k3 j hj).elim (h3 j) fun hle => by have := h2.size; omega⟩
theorem On.call1 (h : On w0 w (sep A R)) (k : ∀ F, A.holds w F → Calls P f args w fun e w' => Q e ∧ Step F w w' B) : Calls P f args w fun e w' => Q e ∧ On w0 w' (sep B R) := by
  obtain ⟨F, hF, h2, h3⟩ := h
  obtain ⟨Fa, Fr, a1, a2, a3, a4⟩ := hF
  refine (k Fa a1).mono fun e w' ⟨q, hs⟩ => ⟨q, ?_⟩
  have hst : Step F w w' (sep B R) := by
    obtain ⟨F', k1, k2, k3⟩ := hs
    refine ⟨fun j => F' j ∨ Fr j, ⟨F', Fr, k1, R.stable a2 k2 fun j hr ha => a3 j ha hr, fun j hj hr => ?_, fun j => Iff.rfl⟩, k2.mono fun j hj _ => (a4 j).2 (.inl hj), fun j hj => ?_⟩
    · rcases k3 j hj with h | h
      · exact a3 j h hr
      · have := R.lt a2 hr; omega
    · rcases hj with hj | hj
      · exact (k3 j hj).imp (fun h => (a4 j).2 (.inl h)) id
      · exact .inl ((a4 j).2 (.inr hj))
  obtain ⟨F', k1, k2, k3⟩ := hst
  exact ⟨F', k1, below_mod h2 k2 h3, fun j hj => (k3 j hj).elim (h3 j) fun hle => by have := h2.size; omega⟩
end

/-- a row of the call's own -/
def rowA (v : Value) (t size n : Nat) (xs : List Value) : Ast where
  holds w F := w.ownsRow 0 t size v n xs ∧ ∀ j, F j ↔ v.ownBlock = some j
  stable := fun ⟨h1, h2⟩ hm hS => ⟨own_same h1 fun j o hj ho _ => hm.obj ho (hS j ((h2 j).2 hj)), h2⟩
  lt := fun ⟨h1, h2⟩ hj => own_lt h1 ((h2 _).1 hj)
theorem rowA_of {w : World} {B g n cp t size : Nat} {xs : List Value} (h : w.ownsRow B t size (.slice (some ⟨g, 0, none⟩) n cp) n xs) : (rowA (.slice (some ⟨g, 0, none⟩) n cp) t size n xs).holds w (fun j => j = g) :=
  ⟨⟨h.1, h.2.imp id fun ⟨g', cap, cur, h1, _, h3⟩ => ⟨g', cap, cur, h1, Nat.zero_le _, h3⟩⟩, fun j => by simp [Value.ownBlock, eq_comm]⟩
/-- a block of cells of the call's own -/
def boxA (b t : Nat) (cs : Array Value) : Ast where
  holds w F := w.heap[b]? = some (.cells cs t (0, 0)) ∧ ∀ j, F j ↔ j = b
  stable := fun ⟨h1, h2⟩ hm hS => ⟨hm.obj h1 (hS b ((h2 b).2 rfl)), h2⟩
  lt := fun ⟨h1, h2⟩ hj => by rw [(h2 _).1 hj]; exact lt_of_some h1

theorem boxA_cell {w : World} {b t : Nat} {cs : Array Value} {F : Nat → Prop} (h : (boxA b t cs).holds w F) (k : Nat) : w.cell? ⟨b, k, none⟩ = cs[k]? := by
  simp [World.cell?, h.1]
theorem boxA_free {w : World} {b t : Nat} {cs : Array Value} {F : Nat → Prop} (h : (boxA b t cs).holds w F) (k : Nat) : w.frozen? ⟨b, k, none⟩ = false := by
  simp [World.frozen?, h.1]
theorem boxA_set {w : World} {b t : Nat} {cs : Array Value} {F : Nat → Prop} (h : (boxA b t cs).holds w F) (k : Nat) (v : Value) : Step F w (w.setCell ⟨b, k, none⟩ v) (boxA b t (cs.setIfInBounds k v)) := by
  refine ⟨F, ⟨?_, h.2⟩, (Mod.refl F w).setCell (p := ⟨b, k, none⟩) (fun _ => (h.2 b).2 rfl) _, fun _ h => .inl h⟩
  simp [World.setCell, Array.getElem?_modify, h.1]
theorem boxA_new (w : World) (t : Nat) (cs : Array Value) : (boxA w.heap.size t cs).holds (w.alloc (.cells cs t)) (fun j => j = w.heap.size) :=
  ⟨heap_alloc_new w _, fun _ => Iff.rfl⟩
theorem rowA_set {w : World} {g n cp i t size : Nat} {xs : List Value} {F : Nat → Prop} {y : Value} (h : (rowA (.slice (some ⟨g, 0, none⟩) n cp) t size n xs).holds w F) :
    Step F w (w.setCell ⟨g, i, none⟩ y) (rowA (.slice (some ⟨g, 0, none⟩) n cp) t size n (xs.set i y)) :=
  ⟨F, ⟨own_setG h.1, h.2⟩, (Mod.refl F w).setCell (p := ⟨g, i, none⟩) (fun _ => (h.2 g).2 rfl) _, fun _ h => .inl h⟩
end Go.Proofs.Ytecfenoidcolfaa
