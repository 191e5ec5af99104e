/-
  Frames of worlds, and a range over a function: the iterator by a contract, the caller by one law. Over any program.
  A map with keys of kind int, as a function from numbers to values. Over any program.
  Plain facts on binary heaps that lie in lists. No program in sight.
  Plain facts on binary heaps, part 2: places, the least one, lists in order. No program in sight.
  Plain facts on binary heaps, part 3: what goes. No program in sight.
  A map from ints to places, with the number of its entries told sharply. Over any program.
  Rows of structures: a slice's cells, told item by item. Over any program.
  A region that draws its order, whose operations only read and whose callees keep a class of worlds: one walk in the order of the text. Over any program.
  The loose walk of a region, in a round of a range over a function. Over any program.
  A range over a function whose iterator makes blocks of its own while the rounds make theirs. Over any program.
  What lies in memory, piece beside piece: each piece has blocks of its own. Over any program.
  Pieces beside one another: two neighbours change places. Over any program.
  append onto a row of the call's own, out of whatever slice reads as a list. Over any program.
  Ranges over functions, told by pieces of memory. Over any program.
  A region that draws its order, whose last operation comes behind all others: the loose walk of the others, then that one. Over any program.
  A region that draws its order, whose last operation comes behind all others (by a chain of edges): the loose walk of the others, then that one; also in a round of a range over a function. Over any program.
-/
import Derived.RangeFuncNested
import Derived.RangeFuncBound
import Derived.RangeFuncCalls
import Derived.RangeFuncLeaves
import Derived.WalkKit
import Derived.Deep.Draws
import Derived.Maps.OwnSet
import Derived.ProofKit
import Derived.Deep.Quiet
import Derived.BigQuiet
import Derived.OrdersIn
import Derived.TacticsIn
import Derived.Deep.AppendLies
import Derived.Maps.AppendAt
import Derived.OwnWalkIn
/-! ### Frames of worlds, and a range over a function: the iterator by a contract, the caller by one law. Over any program.
  A map with keys of kind int, as a function from numbers to values. Over any program.
  Plain facts on binary heaps that lie in lists. No program in sight.
  Plain facts on binary heaps, part 2: places, the least one, lists in order. No program in sight.
  Plain facts on binary heaps, part 3: what goes. No program in sight.
  A map from ints to places, with the number of its entries told sharply. Over any program.
  Rows of structures: a slice's cells, told item by item. Over any program.
  A region that draws its order, whose operations only read and whose callees keep a class of worlds: one walk in the order of the text. Over any program.
  The loose walk of a region, in a round of a range over a function. Over any program.
  A range over a function whose iterator makes blocks of its own while the rounds make theirs. Over any program.
  What lies in memory, piece beside piece: each piece has blocks of its own. Over any program.
  Pieces beside one another: two neighbours change places. Over any program.
  append onto a row of the call's own, out of whatever slice reads as a list. Over any program. -/
/-! ### Frames of worlds, and a range over a function: the iterator by a contract, the caller by one law. Over any program. -/
namespace Go.Proofs.Ytkjpkhpiojahkaa
set_option linter.unusedVariables false
open Go.RowKit

/-- the blocks of book-keeping of loops over functions -/
def ctl : Obj → Bool
  | .loop _ => true
  | .deferred _ => true
  | _ => false

/-- What a call does: of what was there, only blocks of S may have turned, and none of book-keeping. -/
structure Mod (S : Nat → Prop) (w w' : World) : Prop where
  os : w'.os = w.os
  tape : w'.tape = w.tape
  output : w'.output = w.output
  size : w.heap.size ≤ w'.heap.size
  block : ∀ k o, w.heap[k]? = some o → (ctl o = true ∨ ¬ S k) → w'.heap[k]? = some o

/-- What an iterator does between rounds: blocks of S, and of book-keeping from B on, may turn. -/
structure Mv (S : Nat → Prop) (B : Nat) (w w' : World) : Prop where
  os : w'.os = w.os
  tape : w'.tape = w.tape
  output : w'.output = w.output
  size : w.heap.size ≤ w'.heap.size
  block : ∀ k o, w.heap[k]? = some o → (if ctl o = true then k < B else ¬ S k) → w'.heap[k]? = some o

/-- What a round keeps for the iterator: the blocks of R. -/
structure Keeps (R : Nat → Prop) (w w' : World) : Prop where
  size : w.heap.size ≤ w'.heap.size
  block : ∀ k o, w.heap[k]? = some o → ctl o = false → R k → w'.heap[k]? = some o

/-- The blocks of book-keeping from B on lie as they lay. -/
def Ctl (B : Nat) (w w' : World) : Prop := w.heap.size ≤ w'.heap.size ∧ ∀ k o, B ≤ k → w.heap[k]? = some o → ctl o = true → w'.heap[k]? = some o

def none' : Nat → Prop := fun _ => False

theorem lt_of_some {w : World} {k : Nat} {o : Obj} (h : w.heap[k]? = some o) : k < w.heap.size := (Array.getElem?_eq_some_iff.1 h).1

section
variable {S T R : Nat → Prop} {B C : Nat} {a b c w w' : World}
theorem Mod.refl (S : Nat → Prop) (w : World) : Mod S w w := ⟨rfl, rfl, rfl, Nat.le_refl _, fun _ _ h _ => h⟩
theorem Mod.trans (h : Mod S a b) (k : Mod T b c) (hT : ∀ i, T i → i < a.heap.size → S i) : Mod S a c :=
  ⟨k.os.trans h.os, k.tape.trans h.tape, k.output.trans h.output, Nat.le_trans h.size k.size, fun i o ho hc =>
    k.block i o (h.block i o ho hc) (hc.imp id fun hs ht => hs (hT i ht (lt_of_some ho)))⟩
theorem Mod.trans' (h : Mod S a b) (k : Mod S b c) : Mod S a c := h.trans k fun _ h _ => h
theorem Mod.mono (h : Mod S a b) (hS : ∀ i, S i → i < a.heap.size → T i) : Mod T a b :=
  ⟨h.os, h.tape, h.output, h.size, fun i o ho hc => h.block i o ho (hc.imp id fun ht hs => ht (hS i hs (lt_of_some ho)))⟩
theorem Mod.drew (h : Mod S a b) : Mod S a b.drew := ⟨h.os, h.tape, h.output, h.size, h.block⟩
theorem Mod.drewN (h : Mod S a b) (n : Nat) : Mod S a (b.drewN n) := ⟨h.os, h.tape, h.output, h.size, h.block⟩
theorem Mod.alloc (h : Mod S a b) (o : Obj) : Mod S a (b.alloc o) :=
  ⟨h.os, h.tape, h.output, by simp; have := h.size; omega, fun i x hx hc => by
    have := h.block i x hx hc
    rw [Below.heap_alloc _ _ _ (lt_of_some this)]; exact this⟩
theorem Mod.below (h : Mod S a b) (k : Below B b c) (hB : ∀ i, B ≤ i → i < a.heap.size → S i ∧ ∀ o, a.heap[i]? = some o → ctl o = false) : Mod S a c :=
  ⟨k.os.trans h.os, k.tape.trans h.tape, k.output.trans h.output, Nat.le_trans h.size k.size, fun i o ho hc => by
    have hlt := lt_of_some ho
    rw [k.block i (Nat.lt_of_not_le fun hle => by
      obtain ⟨h1, h2⟩ := hB i hle hlt
      rcases hc with hc | hc
      · rw [h2 o ho] at hc; cases hc
      · exact hc h1)]
    exact h.block i o ho hc⟩
theorem Mod.of_below (k : Below w.heap.size w w') : Mod S w w' := (Mod.refl S w).below k fun i h1 h2 => by omega
theorem Mod.to_below (h : Mod none' w w') : Below w.heap.size w w' :=
  ⟨h.os, h.tape, h.output, h.size, fun k hk => by
    have : w.heap[k]? = some w.heap[k] := Array.getElem?_eq_getElem hk
    rw [this]; exact h.block k _ this (.inr fun hf => hf)⟩
theorem setCell_ctl {p : Addr} {u : Value} {k : Nat} {o : Obj} (h : w.heap[k]? = some o) (hc : ctl o = true ∨ k ≠ p.block) : (w.setCell p u).heap[k]? = some o := by
  by_cases hk : k = p.block
  · subst hk
    simp only [World.setCell, Array.getElem?_modify, h, if_true, Option.map_some]
    rcases hc with hc | hc
    · cases o <;> first | rfl | cases hc
    · exact absurd rfl hc
  · rw [Below.heap_setCell _ _ _ _ hk]; exact h
theorem Mod.setCell (h : Mod S a b) {p : Addr} (hp : p.block < a.heap.size → S p.block) (u : Value) : Mod S a (b.setCell p u) :=
  ⟨h.os, h.tape, h.output, by have := h.size; simpa [World.setCell] using this, fun i o ho hc =>
    setCell_ctl (h.block i o ho hc) (hc.imp id fun hs e => hs (by subst e; exact hp (lt_of_some ho)))⟩
theorem Mod.grown {row : Option Nat} (h : Mod S a b) (hg : b.grownBy c row) (hr : ∀ k, row = some k → (k < a.heap.size → S k ∧ ∀ o, a.heap[k]? = some o → ctl o = false)) : Mod S a c :=
  ⟨hg.os.trans h.os, hg.tape.trans h.tape, hg.output.trans h.output, Nat.le_trans h.size hg.size, fun i o ho hc => by
    have h1 := h.block i o ho hc
    rw [hg.block i (lt_of_some h1) fun e => by
      obtain ⟨h2, h3⟩ := hr i e.symm (lt_of_some ho)
      rcases hc with hc | hc
      · rw [h3 o ho] at hc; cases hc
      · exact hc h2]
    exact h1⟩
theorem Mod.obj (h : Mod S a b) {k : Nat} {o : Obj} (ho : a.heap[k]? = some o) (hk : ¬ S k) : b.heap[k]? = some o := h.block k o ho (.inr hk)
theorem Mod.cell (h : Mod S a b) {p : Addr} {v : Value} (hp : a.cell? p = some v) (hk : ¬ S p.block) : b.cell? p = some v := by
  unfold World.cell? at *
  cases ho : a.heap[p.block]? with
  | none => rw [ho] at hp; cases hp
  | some o => rw [h.obj ho hk]; rw [ho] at hp; exact hp
theorem Mod.same (h : Mod S a b) {k : Nat} (hlt : k < a.heap.size) (hk : ¬ S k) : b.heap[k]? = a.heap[k]? := by
  have : a.heap[k]? = some a.heap[k] := Array.getElem?_eq_getElem hlt
  rw [this]; exact h.obj this hk
theorem Mod.ctl (h : Mod S a b) (B : Nat) : Ctl B a b := ⟨h.size, fun k o _ ho hc => h.block k o ho (.inl hc)⟩
theorem Mod.keeps (h : Mod S a b) (hR : ∀ k, R k → k < a.heap.size → ¬ S k) : Keeps R a b :=
  ⟨h.size, fun k o ho _ hr => h.obj ho (hR k hr (lt_of_some ho))⟩
theorem Mod.mv (h : Mod S a b) (B : Nat) : Mv S B a b := ⟨h.os, h.tape, h.output, h.size, fun k o ho hc => by
  split at hc
  · exact h.block k o ho (.inl (by assumption))
  · exact h.block k o ho (.inr hc)⟩

theorem Mv.trans (h : Mv S B a b) (k : Mv S B b c) : Mv S B a c :=
  ⟨k.os.trans h.os, k.tape.trans h.tape, k.output.trans h.output, Nat.le_trans h.size k.size, fun i o ho hc => k.block i o (h.block i o ho hc) hc⟩
theorem Mv.mono (h : Mv S B a b) (hS : ∀ i, S i → i < a.heap.size → T i) (hB : C ≤ B) : Mv T C a b :=
  ⟨h.os, h.tape, h.output, h.size, fun i o ho hc => h.block i o ho (by
    split
    · rename_i h1; rw [if_pos h1] at hc; omega
    · rename_i h1; rw [if_neg h1] at hc; exact fun hs => hc (hS i hs (lt_of_some ho)))⟩
theorem Mv.obj (h : Mv S B a b) {k : Nat} {o : Obj} (ho : a.heap[k]? = some o) (hn : ctl o = false) (hk : ¬ S k) : b.heap[k]? = some o :=
  h.block k o ho (by rw [if_neg (by rw [hn]; exact Bool.false_ne_true)]; exact hk)
theorem cells_of_cell {a : World} {p : Addr} {v : Value} (hp : a.cell? p = some v) : ∃ cs t fr, a.heap[p.block]? = some (.cells cs t fr) := by
  unfold World.cell? at hp
  split at hp
  · rename_i c e f h; exact ⟨c, e, f, h⟩
  · cases hp
theorem Mv.cell (h : Mv S B a b) {p : Addr} {v : Value} (hp : a.cell? p = some v) (hk : ¬ S p.block) : b.cell? p = some v := by
  obtain ⟨cs, t, fr, ho⟩ := cells_of_cell hp
  unfold World.cell? at *
  rw [h.obj ho rfl hk]; rw [ho] at hp; exact hp
theorem Mv.frozen (h : Mv S B a b) {p : Addr} {v : Value} (hp : a.cell? p = some v) (hk : ¬ S p.block) : b.frozen? p = a.frozen? p := by
  obtain ⟨cs, t, fr, ho⟩ := cells_of_cell hp
  unfold World.frozen?
  rw [h.obj ho rfl hk, ho]
theorem Mod.frozen (h : Mod S a b) {p : Addr} {v : Value} (hp : a.cell? p = some v) (hk : ¬ S p.block) : b.frozen? p = a.frozen? p := (h.mv 0).frozen hp hk
/-- what a call has turned is what it had turned, behind an iterator's step -/
theorem Mod.then_mv (h : Mod S a b) (k : Mv T B b c) (hT : ∀ i, T i → i < a.heap.size → S i) (hB : a.heap.size ≤ B) : Mod S a c :=
  ⟨k.os.trans h.os, k.tape.trans h.tape, k.output.trans h.output, Nat.le_trans h.size k.size, fun i o ho hc => k.block i o (h.block i o ho hc) (by
    have := lt_of_some ho
    split
    · omega
    · rename_i h1
      rcases hc with hc | hc
      · exact absurd hc h1
      · exact fun ht => hc (hT i ht this))⟩
theorem Mv.putObj (w : World) (l : Nat) (o o' : Obj) (hl : w.heap[l]? = some o) (hc : Proofs.Ytkjpkhpiojahkaa.ctl o = true) (hB : B ≤ l) : Mv S B w (w.putObj l o') :=
  ⟨rfl, rfl, rfl, by simp [World.putObj], fun k x hx hk => by
    rw [World.putObj_heap_other (fun e => ?_)]
    · exact hx
    · subst e
      rw [hl] at hx
      cases hx
      rw [if_pos hc] at hk
      omega⟩

theorem Keeps.refl (R : Nat → Prop) (w : World) : Keeps R w w := ⟨Nat.le_refl _, fun _ _ h _ _ => h⟩
theorem Keeps.trans (h : Keeps R a b) (k : Keeps R b c) : Keeps R a c := ⟨Nat.le_trans h.size k.size, fun i o ho hc hr => k.block i o (h.block i o ho hc hr) hc hr⟩
theorem Keeps.mono (h : Keeps R a b) (hS : ∀ i, S i → R i) : Keeps S a b := ⟨h.size, fun i o ho hc hr => h.block i o ho hc (hS i hr)⟩
theorem Keeps.cell (h : Keeps R a b) {p : Addr} {v : Value} (hp : a.cell? p = some v) (hk : R p.block) : b.cell? p = some v := by
  obtain ⟨cs, t, fr, ho⟩ := cells_of_cell hp
  unfold World.cell? at *
  rw [h.block _ _ ho rfl hk]; rw [ho] at hp; exact hp
theorem Keeps.frozen (h : Keeps R a b) {p : Addr} {v : Value} (hp : a.cell? p = some v) (hk : R p.block) : b.frozen? p = a.frozen? p := by
  obtain ⟨cs, t, fr, ho⟩ := cells_of_cell hp
  unfold World.frozen?
  rw [h.block _ _ ho rfl hk, ho]
theorem Mv.keeps (h : Mv S B a b) (hR : ∀ k, R k → ¬ S k) : Keeps R a b := ⟨h.size, fun k o ho hc hr => h.obj ho hc (hR k hr)⟩
theorem Ctl.refl (B : Nat) (w : World) : Ctl B w w := ⟨Nat.le_refl _, fun _ _ _ h _ => h⟩
theorem Ctl.trans (h : Ctl B a b) (k : Ctl B b c) : Ctl B a c := ⟨Nat.le_trans h.1 k.1, fun i o hB ho hc => k.2 i o hB (h.2 i o hB ho hc) hc⟩
theorem Ctl.mono (h : Ctl B a b) (hB : B ≤ C) : Ctl C a b := ⟨h.1, fun i o hi ho hc => h.2 i o (Nat.le_trans hB hi) ho hc⟩
end

/-- **AN ITERATOR**: it hands out the list xs, one by one, as long as a round answers yes. R: the blocks that a round must keep for it; S: the blocks that it turns itself. -/
def Iter {α : Type} (F : Fence) (n : Nat) (P : Program) (g : Nat) (lb : Array Value) (encs : α → Array Value) (R S : Nat → Prop) (xs : List α) (w : World) : Prop :=
  ∀ (l : Nat) (J Jx : List α → World → Prop) (W : World), Keeps R w W → w.heap.size ≤ W.heap.size →
    (∀ s A A', J s A → Mv S W.heap.size A A' → J s A') → (∀ s A A', Jx s A → Mv S W.heap.size A A' → Jx s A') →
    (∀ pre x A, J pre A → pre ++ [x] <+: xs → YieldAt F (n - 1) P l (encs x) A fun e A' =>
      (e = .returned (.bool true) ∧ J (pre ++ [x]) A' ∧ Keeps R A A' ∧ Ctl W.heap.size A A') ∨
      (e = .returned (.bool false) ∧ Jx (pre ++ [x]) A' ∧ Keeps R A A' ∧ Ctl W.heap.size A A')) →
    J [] W →
    CallsIn F n P g (#[.func (.yield l) #[] #[]] ++ lb) W fun e W' => (∃ v, e = .returned v) ∧ (J xs W' ∨ ∃ pre, pre <+: xs ∧ Jx pre W')

theorem Iter.inRound {α : Type} {F : Fence} {n : Nat} {P : Program} {g : Nat} {lb : Array Value} {encs : α → Array Value} {R S : Nat → Prop} {xs : List α} {w : World} (l : Nat)
    (h : Iter F n P g lb encs R S xs w) : Iter (F.inRound l) n P g lb encs R S xs w := h

/-- how a round may be left -/
def outPost {α : Type} (B : Nat) (R : Nat → Prop) (I : List α → World → Prop) (Ix : Code → List α → World → Prop) (xs : List α) (W : World) : Exit → Act → World → Prop
  | .normal, _, W' => Ctl B W W' ∧ Keeps R W W' ∧ I xs W'
  | .ret, _, W' => Ctl B W W' ∧ Keeps R W W' ∧ Ix .ret xs W'
  | .exit id, _, W' => Ctl B W W' ∧ Keeps R W W' ∧ Ix (.exit id) xs W'
  | .goto t, _, W' => Ctl B W W' ∧ Keeps R W W' ∧ Ix (.goto t) xs W'
  | .panic _, _, _ => False
  | .outgrown, _, _ => False

section
variable {F : Fence} {n : Nat} {P : Program} {α : Type} {g : Operand} {ps : Array Tmp} {assign body : Code} {Q : Exit → Act → World → Prop} {a : Act} {w : World}

/-- The law, wherever the loop stands: what 'enterLoop' gives is a premise. -/
theorem wpIn_range_core (l dn : Nat) (mark : List Deferred) (W1 : Nat → World)
    (hen : ∀ fn, (Instr.enterLoop fn a.tmps ps assign body F.round).run P w = .ok (l, mark) (W1 fn))
    (hrec : ∀ fn, (W1 fn).heap[l]? = some (.loop { state := .ready, pending := none, fn, tmps := a.tmps, params := ps, assign, body, defers := dn }))
    (hm1 : ∀ fn, Mod none' w (W1 fn)) (hl : w.heap.size ≤ l)
    (h1 : 1 ≤ n) {gf : Nat} {lb : Array Value} (hg : a.eval g = .func (.func gf) #[] lb) (hFg : F.fn gf) (eg : ∀ args w, (callFunc gf args).run P w = .ok (.enter gf args) w)
    {encs : α → Array Value} {R S : Nat → Prop} {xs : List α} {w0 : World} (hseq : Iter F (n - 1) P gf lb encs R S xs w0) (hk0 : Keeps R w0 w) (hps : ∀ x, (encs x).size = ps.size)
    (I : List α → World → Prop) (Ix : Code → List α → World → Prop)
    (hI : ∀ s A A', I s A → Mv S w.heap.size A A' → I s A') (hIx : ∀ c s A A', Ix c s A → Mv S w.heap.size A A' → Ix c s A') (h0 : I [] w)
    (hround : ∀ (pre : List α) (x : α) (W : World), (∃ r, W.heap[l]? = some (.loop r)) → I pre W → pre ++ [x] <+: xs →
      assign.wpIn (F.inRound l) (n - 1 - 1) P (Exit.then (fun a' Wa => Ctl w.heap.size W Wa ∧ Keeps R W Wa ∧ ∀ Wb, Mv none' w.heap.size Wa Wb → (∃ r, Wb.heap[l]? = some (.loop r)) →
          body.wpIn (F.inRound l) (n - 1 - 1) P (outPost w.heap.size R I Ix (pre ++ [x]) Wb) a' Wb) (fun _ _ _ => False))
        { tmps := (ps.zip (encs x)).foldl (fun t (p, v) => t.setIfInBounds p v) a.tmps, defers := [] } W)
    (hdone : ∀ (W : World), I xs W → (∀ fn k o, w.heap.size ≤ k → (W1 fn).heap[k]? = some o → ctl o = true → k ≠ l → W.heap[k]? = some o) → Q .normal { a with defers := mark ++ a.defers } W)
    (hstop : ∀ (c : Code) (pre : List α) (W : World), pre <+: xs → Ix c pre W → (∀ fn k o, w.heap.size ≤ k → (W1 fn).heap[k]? = some o → ctl o = true → k ≠ l → W.heap[k]? = some o) → c.wpIn F n P Q { a with defers := mark ++ a.defers } W)
    (hW1 : ∀ fn fn' k, k ≠ l → (W1 fn).heap[k]? = (W1 fn').heap[k]?) :
    (Code.rangeFunc g ps assign body).wpIn F n P Q a w := by
  refine wpIn_rangeFunc ?_
  intro fn hfn
  have hL1 := hrec fn
  have hM1 := hm1 fn
  have he1 := hen fn
  replace hdone : ∀ (W : World), I xs W → (∀ k o, w.heap.size ≤ k → (W1 fn).heap[k]? = some o → ctl o = true → k ≠ l → W.heap[k]? = some o) → Q .normal { a with defers := mark ++ a.defers } W :=
    fun W hi hk => hdone W hi fun fn' k o h1 h2 h3 h4 => hk k o h1 (by rw [hW1 fn fn' k h4]; exact h2) h3 h4
  replace hstop : ∀ (c : Code) (pre : List α) (W : World), pre <+: xs → Ix c pre W → (∀ k o, w.heap.size ≤ k → (W1 fn).heap[k]? = some o → ctl o = true → k ≠ l → W.heap[k]? = some o) → c.wpIn F n P Q { a with defers := mark ++ a.defers } W :=
    fun c pre W hp hi hk => hstop c pre W hp hi fun fn' k o h1 h2 h3 h4 => hk k o h1 (by rw [hW1 fn fn' k h4]; exact h2) h3 h4
  clear hen hrec hm1 hW1
  generalize W1 fn = W1 at *
  obtain ⟨rec, hrec⟩ : ∃ rec : LoopState → Option Code → Loop, rec = fun st pe => { state := st, pending := pe, fn, tmps := a.tmps, params := ps, assign, body, defers := dn } := ⟨_, rfl⟩
  replace hL1 : W1.heap[l]? = some (.loop (rec .ready none)) := by rw [hrec]; exact hL1
  have hlt1 : l < W1.heap.size := lt_of_some hL1
  have hsz1 := hM1.size
  have hI1 : I [] W1 := hI _ _ _ h0 ((hM1.mv _).mono (fun i h _ => h.elim) (Nat.le_refl _))
  -- what of the book-keeping is not this loop's own
  let Rest : World → Prop := fun W => ∀ k o, w.heap.size ≤ k → W1.heap[k]? = some o → ctl o = true → k ≠ l → W.heap[k]? = some o
  have hrest_mv : ∀ A A', Rest A → Mv S W1.heap.size A A' → Rest A' := fun A A' h hm k o hk ho hc hkl =>
    hm.block k o (h k o hk ho hc hkl) (by rw [if_pos hc]; exact lt_of_some ho)
  have hrest_ctl : ∀ A A', Rest A → Ctl w.heap.size A A' → Rest A' := fun A A' h hm k o hk ho hc hkl => hm.2 k o hk (h k o hk ho hc hkl) hc
  have hrest_put : ∀ (A : World) (o' : Obj), Rest A → Rest (A.putObj l o') := fun A o' h k o hk ho hc hkl => by
    rw [World.putObj_heap_other hkl]; exact h k o hk ho hc hkl
  refine ⟨l, mark, W1, { target := .fn (.func gf) lb, args := #[.func (.yield l) #[] #[]] }, W1, gf, #[.func (.yield l) #[] #[]] ++ lb, W1, he1, ?_, ?_, ?_, fun _ => h1, ?_⟩
  · simp only [resolve, hg]
    simp [go_sem]
  · intro f' hf'; simp [Target.leads] at hf'; subst hf'; exact hFg
  · simp [invoke, go_sem, eg]
  · refine (hseq l
      (fun pre W => I pre W ∧ W.heap[l]? = some (.loop (rec .ready none)) ∧ Rest W)
      (fun pre W => ∃ c, Ix c pre W ∧ W.heap[l]? = some (.loop (rec .done (some c))) ∧ Rest W)
      W1 (hk0.trans (hM1.keeps fun _ _ _ h => h)) (Nat.le_trans hk0.size hsz1)
      (fun s A A' hs hm => ⟨hI _ _ _ hs.1 (hm.mono (fun _ h _ => h) hsz1), hm.block l _ hs.2.1 (by simpa [ctl] using hlt1), hrest_mv _ _ hs.2.2 hm⟩)
      (fun s A A' hs hm => by
        obtain ⟨c, h1, h2, h3⟩ := hs
        exact ⟨c, hIx c _ _ _ h1 (hm.mono (fun _ h _ => h) hsz1), hm.block l _ h2 (by simpa [ctl] using hlt1), hrest_mv _ _ h3 hm⟩)
      ?_ ⟨hI1, hL1, fun k o _ ho _ _ => ho⟩).mono ?_
    · -- one round
      rintro pre x W ⟨hi, hlW, hrW⟩ hpre
      have hy := run_yield (P := P) (args := encs x) hlW (by rw [hrec]; exact hps x)
      rw [hrec] at hy
      refine ⟨fn, _, assign, body, hy, roundIn_of_wpIn hfn (wpIn_mono (hround pre x W ⟨_, hlW⟩ hi hpre) ?_)⟩
      clear hy
      intro ex a' Wa hK
      cases ex with
      | normal =>
        obtain ⟨hca, hka, hbody⟩ := hK
        have hla := hca.2 l _ hl hlW rfl
        have hra := hrest_ctl _ _ hrW hca
        refine ⟨_, run_beginRound hla (by rw [hrec]), ?_⟩
        obtain ⟨Wb, hWb⟩ : ∃ Wb, Wa.putObj l (.loop { rec .ready none with state := .busy }) = Wb := ⟨_, rfl⟩
        have hmb : Mv none' w.heap.size Wa Wb := by rw [← hWb]; exact Mv.putObj _ _ _ _ hla rfl hl
        have hlb : Wb.heap[l]? = some (.loop { rec .ready none with state := .busy }) := by rw [← hWb]; exact World.putObj_heap_same (lt_of_some hla)
        have hrb : Rest Wb := by rw [← hWb]; exact hrest_put _ _ hra
        rw [hWb]
        have hkb : Keeps R W Wb := hka.trans (hmb.keeps fun _ _ h => h)
        have hcb : ∀ k o, W1.heap.size ≤ k → W.heap[k]? = some o → ctl o = true → Wb.heap[k]? = some o := fun k o hk ho hc => by
          rw [← hWb, World.putObj_heap_other (by omega)]; exact hca.2 k o (by omega) ho hc
        refine wpIn_mono (hbody Wb hmb ⟨_, hlb⟩) ?_
        have fin : ∀ (jump : Option Code) (W3 : World), Ctl w.heap.size Wb W3 → Keeps R Wb W3 →
            ∃ W4, (Instr.endRound l jump).run P W3 = .ok (.bool jump.isNone) W4 ∧ Mv none' w.heap.size W3 W4 ∧ W4.heap[l]? = some (.loop (rec (if jump.isNone then .ready else .done) jump)) ∧ Rest W4 ∧ Keeps R W W4 ∧ Ctl W1.heap.size W W4 := fun jump W3 hc3 hk3 => by
          have hl3 := hc3.2 l _ hl hlb rfl
          have hr3 := run_endRound (P := P) jump hl3
          rw [hrec] at hr3
          refine ⟨_, hr3, Mv.putObj _ _ _ _ hl3 rfl hl, by rw [hrec]; exact World.putObj_heap_same (lt_of_some hl3), hrest_put _ _ (hrest_ctl _ _ hrb hc3), ?_, ?_, ?_⟩
          · exact (hkb.trans hk3).trans ((Mv.putObj (S := none') (B := w.heap.size) _ _ _ _ hl3 rfl hl).keeps fun _ _ h => h)
          · have h5 := (hkb.trans hk3).size
            simpa [World.putObj] using h5
          · intro k o hk ho hc
            rw [World.putObj_heap_other (by omega)]
            exact hc3.2 k o (by omega) (hcb k o hk ho hc) hc
        intro ex a3 W3 hp
        cases ex with
        | normal =>
          obtain ⟨hc3, hk3, hi3⟩ := hp
          obtain ⟨W4, hr4, hm4, hl4, hrr, hk4, hc4⟩ := fin none W3 hc3 hk3
          exact ⟨_, _, hr4, .inl ⟨rfl, ⟨hI _ _ _ hi3 (hm4.mono (fun i h _ => h.elim) (Nat.le_refl _)), hl4, hrr⟩, hk4, hc4⟩⟩
        | ret =>
          obtain ⟨hc3, hk3, hi3⟩ := hp
          obtain ⟨W4, hr4, hm4, hl4, hrr, hk4, hc4⟩ := fin (some .ret) W3 hc3 hk3
          exact ⟨_, _, hr4, .inr ⟨rfl, ⟨.ret, hIx _ _ _ _ hi3 (hm4.mono (fun i h _ => h.elim) (Nat.le_refl _)), hl4, hrr⟩, hk4, hc4⟩⟩
        | exit id =>
          obtain ⟨hc3, hk3, hi3⟩ := hp
          obtain ⟨W4, hr4, hm4, hl4, hrr, hk4, hc4⟩ := fin (some (.exit id)) W3 hc3 hk3
          exact ⟨_, _, hr4, .inr ⟨rfl, ⟨.exit id, hIx _ _ _ _ hi3 (hm4.mono (fun i h _ => h.elim) (Nat.le_refl _)), hl4, hrr⟩, hk4, hc4⟩⟩
        | goto t =>
          obtain ⟨hc3, hk3, hi3⟩ := hp
          obtain ⟨W4, hr4, hm4, hl4, hrr, hk4, hc4⟩ := fin (some (.goto t)) W3 hc3 hk3
          exact ⟨_, _, hr4, .inr ⟨rfl, ⟨.goto t, hIx _ _ _ _ hi3 (hm4.mono (fun i h _ => h.elim) (Nat.le_refl _)), hl4, hrr⟩, hk4, hc4⟩⟩
        | panic ch => exact hp.elim
        | outgrown => exact hp.elim
      | ret => exact hK.elim
      | exit id => exact hK.elim
      | goto t => exact hK.elim
      | panic ch => exact hK.elim
      | outgrown => exact hK.elim
    · -- behind the iterator
      rintro e W2 ⟨⟨v, rfl⟩, (⟨hi, hl2, hr2⟩ | ⟨pre, hpre, c, hi, hl2, hr2⟩)⟩
      · exact ⟨none, _, by have := run_endLoop (P := P) hl2 (by rw [hrec]; simp); rw [hrec] at this; exact this,
          hdone _ (hI _ _ _ hi (Mv.putObj _ _ _ _ hl2 rfl hl)) (hrest_put _ _ hr2)⟩
      · exact ⟨some c, _, by have := run_endLoop (P := P) hl2 (by rw [hrec]; simp); rw [hrec] at this; exact this,
          hstop c pre _ hpre (hIx c _ _ _ hi (Mv.putObj _ _ _ _ hl2 rfl hl)) (hrest_put _ _ hr2)⟩

/-- **A RANGE OVER A FUNCTION, IN NO ROUND OF ANOTHER ONE.** -/
theorem wpIn_range (hro : F.round = none) (h1 : 1 ≤ n) {gf : Nat} {lb : Array Value} (hg : a.eval g = .func (.func gf) #[] lb) (hFg : F.fn gf) (eg : ∀ args w, (callFunc gf args).run P w = .ok (.enter gf args) w)
    {encs : α → Array Value} {R S : Nat → Prop} {xs : List α} {w0 : World} (hseq : Iter F (n - 1) P gf lb encs R S xs w0) (hk0 : Keeps R w0 w) (hps : ∀ x, (encs x).size = ps.size)
    (I : List α → World → Prop) (Ix : Code → List α → World → Prop)
    (hI : ∀ s A A', I s A → Mv S w.heap.size A A' → I s A') (hIx : ∀ c s A A', Ix c s A → Mv S w.heap.size A A' → Ix c s A') (h0 : I [] w)
    (hround : ∀ (l : Nat) (pre : List α) (x : α) (W : World), w.heap.size ≤ l → (∃ r, W.heap[l]? = some (.loop r)) → I pre W → pre ++ [x] <+: xs →
      assign.wpIn (F.inRound l) (n - 1 - 1) P (Exit.then (fun a' Wa => Ctl w.heap.size W Wa ∧ Keeps R W Wa ∧ ∀ Wb, Mv none' w.heap.size Wa Wb → (∃ r, Wb.heap[l]? = some (.loop r)) →
          body.wpIn (F.inRound l) (n - 1 - 1) P (outPost w.heap.size R I Ix (pre ++ [x]) Wb) a' Wb) (fun _ _ _ => False))
        { tmps := (ps.zip (encs x)).foldl (fun t (p, v) => t.setIfInBounds p v) a.tmps, defers := [] } W)
    (hdone : ∀ (D : Nat) (W : World), w.heap.size ≤ D → I xs W → W.heap[D]? = some (.deferred (some [])) → Q .normal { a with defers := { target := .collected D, args := #[] } :: a.defers } W)
    (hstop : ∀ (D : Nat) (c : Code) (pre : List α) (W : World), w.heap.size ≤ D → pre <+: xs → Ix c pre W → W.heap[D]? = some (.deferred (some [])) → c.wpIn F n P Q { a with defers := { target := .collected D, args := #[] } :: a.defers } W) :
    (Code.rangeFunc g ps assign body).wpIn F n P Q a w := by
  have hK : ∀ fn, ((w.alloc (.deferred (some []))).alloc (.loop { state := .ready, pending := none, fn, tmps := a.tmps, params := ps, assign, body, defers := w.heap.size })).heap[w.heap.size]? = some (.deferred (some [])) := fun fn =>
    (Below.heap_alloc _ _ _ (by simp)).trans (World.alloc_heap_new w _)
  refine wpIn_range_core (w.heap.size + 1) w.heap.size [{ target := .collected w.heap.size, args := #[] }]
    (fun fn => (w.alloc (.deferred (some []))).alloc (.loop { state := .ready, pending := none, fn, tmps := a.tmps, params := ps, assign, body, defers := w.heap.size }))
    (fun fn => by rw [hro]; exact run_enterLoop_outer _ _ _ _ _) (fun fn => ?_) (fun fn => ((Mod.refl _ w).alloc _).alloc _) (by omega) h1 hg hFg eg hseq hk0 hps I Ix hI hIx h0
    (fun pre x W => hround _ pre x W (by omega)) (fun W hi hk => ?_) (fun c pre W hp hi hk => ?_) (fun fn fn' k hk => ?_)
  · have := World.alloc_heap_new (w.alloc (.deferred (some []))) (.loop { state := .ready, pending := none, fn, tmps := a.tmps, params := ps, assign, body, defers := w.heap.size })
    rwa [World.size_alloc] at this
  · exact hdone _ W (Nat.le_refl _) hi (hk 0 _ _ (Nat.le_refl _) (hK 0) rfl (by omega))
  · exact hstop _ c pre W (Nat.le_refl _) hp hi (hk 0 _ _ (Nat.le_refl _) (hK 0) rfl (by omega))
  · show (Array.push _ _)[k]? = (Array.push _ _)[k]?
    simp only [Array.getElem?_push]
    have : (w.alloc (.deferred (some []))).heap.size = w.heap.size + 1 := by simp
    rw [if_neg (by omega), if_neg (by omega)]

/-- **A RANGE OVER A FUNCTION IN A ROUND OF ANOTHER ONE.** -/
theorem wpIn_range_in {l₀ : Nat} {r₀ : Loop} (hro : F.round = some l₀) (hl₀ : w.heap[l₀]? = some (.loop r₀)) (h1 : 1 ≤ n) {gf : Nat} {lb : Array Value} (hg : a.eval g = .func (.func gf) #[] lb) (hFg : F.fn gf) (eg : ∀ args w, (callFunc gf args).run P w = .ok (.enter gf args) w)
    {encs : α → Array Value} {R S : Nat → Prop} {xs : List α} {w0 : World} (hseq : Iter F (n - 1) P gf lb encs R S xs w0) (hk0 : Keeps R w0 w) (hps : ∀ x, (encs x).size = ps.size)
    (I : List α → World → Prop) (Ix : Code → List α → World → Prop)
    (hI : ∀ s A A', I s A → Mv S w.heap.size A A' → I s A') (hIx : ∀ c s A A', Ix c s A → Mv S w.heap.size A A' → Ix c s A') (h0 : I [] w)
    (hround : ∀ (l : Nat) (pre : List α) (x : α) (W : World), w.heap.size ≤ l → (∃ r, W.heap[l]? = some (.loop r)) → I pre W → pre ++ [x] <+: xs →
      assign.wpIn (F.inRound l) (n - 1 - 1) P (Exit.then (fun a' Wa => Ctl w.heap.size W Wa ∧ Keeps R W Wa ∧ ∀ Wb, Mv none' w.heap.size Wa Wb → (∃ r, Wb.heap[l]? = some (.loop r)) →
          body.wpIn (F.inRound l) (n - 1 - 1) P (outPost w.heap.size R I Ix (pre ++ [x]) Wb) a' Wb) (fun _ _ _ => False))
        { tmps := (ps.zip (encs x)).foldl (fun t (p, v) => t.setIfInBounds p v) a.tmps, defers := [] } W)
    (hdone : ∀ (W : World), I xs W → Q .normal a W)
    (hstop : ∀ (c : Code) (pre : List α) (W : World), pre <+: xs → Ix c pre W → c.wpIn F n P Q a W) :
    (Code.rangeFunc g ps assign body).wpIn F n P Q a w := by
  refine wpIn_range_core w.heap.size r₀.defers []
    (fun fn => w.alloc (.loop { state := .ready, pending := none, fn, tmps := a.tmps, params := ps, assign, body, defers := r₀.defers }))
    (fun fn => by rw [hro]; exact run_enterLoop_inner hl₀ _ _ _ _ _) (fun fn => World.alloc_heap_new _ _) (fun fn => (Mod.refl _ w).alloc _) (Nat.le_refl _) h1 hg hFg eg hseq hk0 hps I Ix hI hIx h0
    (fun pre x W => hround _ pre x W (Nat.le_refl _)) (fun W hi _ => hdone W hi) (fun c pre W hp hi _ => hstop c pre W hp hi) (fun fn fn' k hk => ?_)
  show (Array.push _ _)[k]? = (Array.push _ _)[k]?
  simp only [Array.getElem?_push]
  rw [if_neg (by omega), if_neg (by omega)]
end
end Go.Proofs.Ytkjpkhpiojahkaa

/-! ### A map with keys of kind int, as a function from numbers to values. Over any program. -/
namespace Go.Proofs.Ytkjpkhpiojahkaa
set_option linter.unusedVariables false
open Go.RowKit

def heldR (v : Value) : Option (DataW Value × List MemPlace) := some (.held v, [])

/-- block b is a map of at most n entries; f tells what it holds -/
def mapI (w : World) (P : Program) (k : TypeId) (b n : Nat) (f : Int → Option Value) : Prop :=
  ∃ D : DataW Value, w.ownsMap P k heldR b n D ∧ Maps.IsMap D ∧
    ∀ x : Int, Maps.has D (.int .i64 x) = (f x).isSome ∧ ∀ z, D.atKey (.int .i64 x) z = (match f x with | some v => .held v | none => z)

section
variable {P : Program} {w w' : World} {k t e : TypeId} {b n : Nat} {f : Int → Option Value}

theorem mapI_made (w : World) (P : Program) (k : TypeId) : mapI (w.alloc (.map #[] 0)) P k w.heap.size 0 (fun _ => none) :=
  ⟨.map [], World.ownsMap_made _ _ _ _, Maps.isMap_empty, fun x => ⟨rfl, fun z => rfl⟩⟩
theorem mapI.lt (h : mapI w P k b n f) : b < w.heap.size := by
  obtain ⟨D, h, _⟩ := h
  exact h.lt
theorem mapI.is (h : mapI w P k b n f) : ∃ es c, w.heap[b]? = some (.map es c) := by
  obtain ⟨D, ⟨es, c, h, _⟩, _⟩ := h
  exact ⟨es, c, h⟩
theorem mapI.of_same (h : mapI w P k b n f) (hs : w'.heap[b]? = w.heap[b]?) : mapI w' P k b n f := by
  obtain ⟨D, ⟨es, c, h, r⟩, r'⟩ := h
  exact ⟨D, ⟨es, c, by rw [hs]; exact h, r⟩, r'⟩
theorem mapI.mod {S : Nat → Prop} (h : mapI w P k b n f) (hm : Mod S w w') (hb : ¬ S b) : mapI w' P k b n f := h.of_same (hm.same h.lt hb)
theorem mapI.mv {S : Nat → Prop} {B : Nat} (h : mapI w P k b n f) (hm : Mv S B w w') (hb : ¬ S b) : mapI w' P k b n f := by
  obtain ⟨es, c, ho⟩ := h.is
  exact h.of_same (by rw [hm.obj ho rfl hb, ho])
theorem mapI.keeps {R : Nat → Prop} (h : mapI w P k b n f) (hm : Keeps R w w') (hb : R b) : mapI w' P k b n f := by
  obtain ⟨es, c, ho⟩ := h.is
  exact h.of_same (by rw [hm.block _ _ ho rfl hb, ho])
theorem mapI.mono (h : mapI w P k b n f) {n' : Nat} (hn : n ≤ n') : mapI w P k b n' f := by
  obtain ⟨D, h, r⟩ := h
  exact ⟨D, h.mono hn, r⟩

theorem mapI.lookup (h : mapI w P k b n f) (hk : P.underlying k = some (.int .i64)) (ht : P.underlying t = some (.map k e)) {z : Value} (hz : (zeroValue e).run P w = .ok z w) {x : Int} (hx : (Lit.int .i64 x).wf = true) :
    (Instr.lookup t (.map (some b)) (.int .i64 x) false).run P w = .ok ((f x).getD z) w := by
  obtain ⟨D, h, _, hf⟩ := h
  obtain ⟨v, ps, hrun, hv⟩ := h.lookup (Maps.int_keyed hk) ht hz (zd := .held z) (zp := []) rfl (Maps.keyOf_int_mk hk hx)
  rw [(hf x).2] at hv
  rw [hrun]
  cases hfx : f x <;> rw [hfx] at hv <;> simp [heldR] at hv <;> simp [hv]
theorem mapI.look_ok (h : mapI w P k b n f) (hk : P.underlying k = some (.int .i64)) (ht : P.underlying t = some (.map k e)) {z : Value} (hz : (zeroValue e).run P w = .ok z w) {x : Int} (hx : (Lit.int .i64 x).wf = true) :
    (Instr.lookup t (.map (some b)) (.int .i64 x) true).run P w = .ok (.tuple #[(f x).getD z, .bool (f x).isSome]) w := by
  obtain ⟨D, h, _, hf⟩ := h
  obtain ⟨v, ps, hrun, hv⟩ := h.look_ok (Maps.int_keyed hk) ht hz (zd := .held z) (zp := []) rfl (Maps.keyOf_int_mk hk hx)
  rw [(hf x).2] at hv
  rw [hrun, (hf x).1]
  cases hfx : f x <;> rw [hfx] at hv <;> simp [heldR] at hv <;> simp [hv]

def put (f : Int → Option Value) (x : Int) (v : Option Value) : Int → Option Value := fun y => if y = x then v else f y
theorem put_same (f : Int → Option Value) (x : Int) (v : Option Value) : put f x v x = v := if_pos rfl
theorem put_other (f : Int → Option Value) {x y : Int} (h : y ≠ x) (v : Option Value) : put f x v y = f y := if_neg h

theorem lit_ne {x y : Int} (h : y ≠ x) : (Lit.int .i64 y) ≠ .int .i64 x := fun e => h (by injection e)

theorem mapI.update (h : mapI w P k b n f) (hk : P.underlying k = some (.int .i64)) (ht : P.underlying t = some (.map k e)) (hn : n < maxLen) {x : Int} (hx : (Lit.int .i64 x).wf = true) (v : Value) :
    ∃ w', (Instr.mapUpdate t (.map (some b)) (.int .i64 x) v).run P w = .ok () w' ∧ mapI w' P k b (n + 1) (put f x (some v)) ∧ Mod (fun j => j = b) w w' := by
  have hctl : ∀ o, w.heap[b]? = some o → ctl o = false := by
    obtain ⟨es, c, hb⟩ := h.is
    intro o ho
    rw [hb] at ho
    cases ho
    rfl
  obtain ⟨D, h, hD, hf⟩ := h
  obtain ⟨w', hrun, h', hg⟩ := h.update (Maps.int_keyed hk) ht hn (key := .int .i64 x) (val := v) (kl := .int .i64 x) (d := .held v) (ps := []) (Maps.keyOf_int_mk hk hx) rfl
  refine ⟨w', hrun, ⟨_, h', hD.put _ _, fun y => ?_⟩, (Mod.refl _ w).grown hg (fun j e _ => by cases e; exact ⟨rfl, hctl⟩)⟩
  · by_cases hy : y = x
    · subst hy
      rw [Maps.has_put_same hD (by trivial), put_same]
      exact ⟨rfl, fun z => Maps.atKey_put_same hD (by trivial) _ _⟩
    · rw [Maps.has_put_other (lit_ne hy), put_other _ hy]
      exact ⟨(hf y).1, fun z => by rw [Maps.atKey_put_other (lit_ne hy)]; exact (hf y).2 z⟩

theorem mapI.drop (h : mapI w P k b n f) (hk : P.underlying k = some (.int .i64)) (ht : P.underlying t = some (.map k e)) {x : Int} (hx : (Lit.int .i64 x).wf = true) (ty : TypeId) :
    ∃ w', (Builtin.delete_ #[t, k] ty #[.map (some b), .int .i64 x]).run P w = .ok (.tuple #[]) w' ∧ mapI w' P k b n (put f x none) ∧ Mod (fun j => j = b) w w' := by
  obtain ⟨D, h, hD, hf⟩ := h
  obtain ⟨w', hrun, h', es, c, es', c', hb, rfl⟩ := h.drop (Maps.int_keyed hk) ht (Maps.keyOf_int_mk hk hx) ty
  refine ⟨_, hrun, ⟨_, h', hD.del _, fun y => ?_⟩, ⟨rfl, rfl, rfl, by simp [ChangeMaps.setBlock], fun j o ho hc => ?_⟩⟩
  · by_cases hy : y = x
    · subst hy
      rw [Maps.has_del_same, put_same]
      exact ⟨rfl, fun z => Maps.atKey_del_same _⟩
    · rw [Maps.has_del_other (lit_ne hy), put_other _ hy]
      exact ⟨(hf y).1, fun z => by rw [Maps.atKey_del_other (lit_ne hy)]; exact (hf y).2 z⟩
  · by_cases hj : j = b
    · subst hj
      rw [hb] at ho
      cases ho
      rcases hc with hc | hc
      · cases hc
      · exact absurd rfl hc
    · rw [ChangeMaps.heap_setBlock_other hb _ hj]; exact ho
end
end Go.Proofs.Ytkjpkhpiojahkaa

/-! ### Plain facts on binary heaps that lie in lists. No program in sight. -/
namespace Go.Proofs.Ytkjpkhpiojahkaa.Hp
set_option linter.unusedVariables false

/-- an order that tells keys apart so far -/
structure Swo {α : Type} (lt : α → α → Bool) : Prop where
  irrefl : ∀ a, lt a a = false
  trans : ∀ a b c, lt a b = true → lt b c = true → lt a c = true
  ntrans : ∀ a b c, lt a b = false → lt b c = false → lt a c = false

/-- a number and its key -/
abbrev It (α : Type) := Int × α

section
variable {α : Type} (lt : α → α → Bool)

def ahead (a b : It α) : Bool := lt a.2 b.2 || (!lt b.2 a.2 && decide (a.1 < b.1))

variable {lt}
theorem Swo.asymm (h : Swo lt) {a b : α} (hab : lt a b = true) : lt b a = false := by
  cases hba : lt b a with
  | false => rfl
  | true => have := h.trans a b a hab hba; rw [h.irrefl] at this; cases this
theorem ahead_irrefl (h : Swo lt) (a : It α) : ahead lt a a = false := by simp [ahead, h.irrefl]
theorem ahead_iff (a b : It α) : ahead lt a b = true ↔ lt a.2 b.2 = true ∨ (lt b.2 a.2 = false ∧ a.1 < b.1) := by simp [ahead]
theorem nahead_iff (a b : It α) : ahead lt a b = false ↔ lt a.2 b.2 = false ∧ (lt b.2 a.2 = true ∨ b.1 ≤ a.1) := by
  cases h1 : lt a.2 b.2 <;> cases h2 : lt b.2 a.2 <;> simp [ahead, h1, h2]
theorem ahead_trans (h : Swo lt) {a b c : It α} (hab : ahead lt a b = true) (hbc : ahead lt b c = true) : ahead lt a c = true := by
  rw [ahead_iff] at *
  rcases hab with hab | ⟨hab, h1⟩
  · rcases hbc with hbc | ⟨hbc, h2⟩
    · exact .inl (h.trans _ _ _ hab hbc)
    · left
      cases hac : lt a.2 c.2 with
      | true => rfl
      | false => have := h.ntrans _ _ _ hac hbc; rw [hab] at this; cases this
  · rcases hbc with hbc | ⟨hbc, h2⟩
    · left
      cases hac : lt a.2 c.2 with
      | true => rfl
      | false => have := h.ntrans _ _ _ hab hac; rw [hbc] at this; cases this
    · exact .inr ⟨h.ntrans _ _ _ hbc hab, by omega⟩
theorem ahead_asymm (h : Swo lt) {a b : It α} (hab : ahead lt a b = true) : ahead lt b a = false := by
  cases hba : ahead lt b a with
  | false => rfl
  | true => have := ahead_trans h hab hba; rw [ahead_irrefl h] at this; cases this
theorem nahead_trans (h : Swo lt) {a b c : It α} (hab : ahead lt a b = false) (hbc : ahead lt b c = false) : ahead lt a c = false := by
  rw [nahead_iff] at *
  obtain ⟨h1, h2⟩ := hab
  obtain ⟨h3, h4⟩ := hbc
  refine ⟨h.ntrans _ _ _ h1 h3, ?_⟩
  rcases h2 with h2 | h2
  · left
    cases hca : lt c.2 a.2 with
    | true => rfl
    | false => have := h.ntrans _ _ _ h3 hca; rw [h2] at this; cases this
  · rcases h4 with h4 | h4
    · left
      cases hca : lt c.2 a.2 with
      | true => rfl
      | false => have := h.ntrans _ _ _ hca h1; rw [h4] at this; cases this
    · right; omega
theorem ahead_total (h : Swo lt) {a b : It α} (hne : a.1 ≠ b.1) : ahead lt a b = true ∨ ahead lt b a = true := by
  rw [ahead_iff, ahead_iff]
  cases h1 : lt a.2 b.2 <;> cases h2 : lt b.2 a.2 <;> simp
  omega

/-- no number is ahead of the one above it -/
def IsHeap (lt : α → α → Bool) (l : List (It α)) (d : It α) : Prop := ∀ j, 0 < j → j < l.length → ahead lt (l.getD j d) (l.getD ((j - 1) / 2) d) = false

/-- all is in order but that the one at i may be ahead of the one above it -/
def UpOk (lt : α → α → Bool) (l : List (It α)) (d : It α) (i : Nat) : Prop :=
  (∀ j, 0 < j → j < l.length → j ≠ i → ahead lt (l.getD j d) (l.getD ((j - 1) / 2) d) = false) ∧
  (0 < i → ∀ j, 0 < j → j < l.length → (j - 1) / 2 = i → ahead lt (l.getD j d) (l.getD ((i - 1) / 2) d) = false)
/-- all is in order but that those below i may be ahead of it -/
def DownOk (lt : α → α → Bool) (l : List (It α)) (d : It α) (i : Nat) : Prop :=
  (∀ j, 0 < j → j < l.length → (j - 1) / 2 ≠ i → ahead lt (l.getD j d) (l.getD ((j - 1) / 2) d) = false) ∧
  (0 < i → ∀ j, 0 < j → j < l.length → (j - 1) / 2 = i → ahead lt (l.getD j d) (l.getD ((i - 1) / 2) d) = false)

theorem getD_set (l : List (It α)) (i j : Nat) (x d : It α) (hi : i < l.length) : (l.set i x).getD j d = if j = i then x else l.getD j d := by
  by_cases h : j = i
  · subst h; simp [List.getD, hi]
  · rw [if_neg h]; simp [List.getD, List.getElem?_set_ne (Ne.symm h)]

theorem UpOk.heap {l : List (It α)} {d : It α} {i : Nat} (h : UpOk lt l d i) (hs : i = 0 ∨ ahead lt (l.getD i d) (l.getD ((i - 1) / 2) d) = false) : IsHeap lt l d := by
  intro j h0 hj
  by_cases hji : j = i
  · subst hji
    rcases hs with hs | hs
    · omega
    · exact hs
  · exact h.1 j h0 hj hji

/-- the step of up: the one above i comes down, x goes up -/
theorem UpOk.step (ho : Swo lt) {l : List (It α)} {d x : It α} {i : Nat} (hi : 0 < i) (hl : i < l.length) (h : UpOk lt (l.set i x) d i)
    (ha : ahead lt x (l.getD ((i - 1) / 2) d) = true) : UpOk lt ((l.set i (l.getD ((i - 1) / 2) d)).set ((i - 1) / 2) x) d ((i - 1) / 2) := by
  obtain ⟨p, hpp⟩ : ∃ p, (i - 1) / 2 = p := ⟨_, rfl⟩
  rw [hpp] at ha ⊢
  have hp : p < i := by omega
  have hpl : p < l.length := by omega
  obtain ⟨h1, h2⟩ := h
  have e0 : ∀ j, (l.set i x).getD j d = if j = i then x else l.getD j d := fun j => getD_set l i j x d hl
  have e1 : ∀ j, ((l.set i (l.getD p d)).set p x).getD j d = if j = p then x else if j = i then l.getD p d else l.getD j d := fun j => by
    rw [getD_set _ _ _ _ _ (by rw [List.length_set]; exact hpl), getD_set _ _ _ _ _ hl]
  simp only [List.length_set] at h1 h2
  simp only [e0] at h1 h2
  have hni : ∀ j, 0 < j → j < l.length → j ≠ i → (j - 1) / 2 ≠ i → ahead lt (l.getD j d) (l.getD ((j - 1) / 2) d) = false := fun j a b c e => by
    have := h1 j a b c
    rwa [if_neg c, if_neg e] at this
  have hch : ∀ j, 0 < j → j < l.length → (j - 1) / 2 = i → ahead lt (l.getD j d) (l.getD p d) = false := fun j a b c => by
    have := h2 hi j a b c
    rwa [if_neg (by omega), hpp, if_neg (by omega)] at this
  refine ⟨fun j a b c => ?_, fun hp0 j a b c => ?_⟩
  · simp only [List.length_set] at b
    rw [e1, e1, if_neg c]
    by_cases hji : j = i
    · subst hji
      rw [if_pos rfl, hpp, if_pos rfl]
      exact ahead_asymm ho ha
    · rw [if_neg hji]
      by_cases hjp : (j - 1) / 2 = p
      · rw [hjp, if_pos rfl]
        have h3 := hni j a b hji (by omega)
        rw [hjp] at h3
        cases hx : ahead lt (l.getD j d) x with
        | false => rfl
        | true => have := ahead_trans ho hx ha; rw [h3] at this; cases this
      · rw [if_neg hjp]
        by_cases hjc : (j - 1) / 2 = i
        · rw [if_pos hjc]; exact hch j a b hjc
        · rw [if_neg hjc]; exact hni j a b hji hjc
  · simp only [List.length_set] at b
    have hpar : ahead lt (l.getD p d) (l.getD ((p - 1) / 2) d) = false := hni p hp0 (by omega) (by omega) (by omega)
    rw [e1 j, if_neg (show j ≠ p by omega), e1, if_neg (show (p - 1) / 2 ≠ p by omega), if_neg (show (p - 1) / 2 ≠ i by omega)]
    by_cases hji : j = i
    · subst hji; rw [if_pos rfl]; exact hpar
    · rw [if_neg hji]
      have h3 := hni j a b hji (by omega)
      rw [c] at h3
      exact nahead_trans ho h3 hpar

theorem DownOk.heap (ho : Swo lt) {l : List (It α)} {d : It α} {i : Nat} (h : DownOk lt l d i)
    (hs : ∀ j, 0 < j → j < l.length → (j - 1) / 2 = i → ahead lt (l.getD j d) (l.getD i d) = false) : IsHeap lt l d := by
  intro j h0 hj
  by_cases hji : (j - 1) / 2 = i
  · rw [hji]; exact hs j h0 hj hji
  · exact h.1 j h0 hj hji

/-- the step of down: the lesser one below i comes up, x goes down -/
theorem DownOk.step (ho : Swo lt) {l : List (It α)} {d x : It α} {i c : Nat} (hc : 0 < c) (hcl : c < l.length) (hci : (c - 1) / 2 = i) (h : DownOk lt (l.set i x) d i)
    (hmin : ∀ j, 0 < j → j < l.length → (j - 1) / 2 = i → ahead lt (l.getD j d) (l.getD c d) = false)
    (ha : ahead lt (l.getD c d) x = true) : DownOk lt ((l.set i (l.getD c d)).set c x) d c := by
  have hil : i < c := by omega
  have hl : i < l.length := by omega
  obtain ⟨h1, h2⟩ := h
  have e0 : ∀ j, (l.set i x).getD j d = if j = i then x else l.getD j d := fun j => getD_set l i j x d hl
  have e1 : ∀ j, ((l.set i (l.getD c d)).set c x).getD j d = if j = c then x else if j = i then l.getD c d else l.getD j d := fun j => by
    rw [getD_set _ _ _ _ _ (by rw [List.length_set]; exact hcl), getD_set _ _ _ _ _ hl]
  simp only [List.length_set] at h1 h2
  simp only [e0] at h1 h2
  refine ⟨fun j a b e => ?_, fun _ j a b e => ?_⟩
  · simp only [List.length_set] at b
    rw [e1, e1]
    by_cases hjc : j = c
    · subst hjc
      rw [if_pos rfl, hci, if_neg (by omega), if_pos rfl]
      exact ahead_asymm ho ha
    · rw [if_neg hjc, if_neg e]
      by_cases hpi : (j - 1) / 2 = i
      · rw [hpi, if_pos rfl, if_neg (by omega)]
        exact hmin j a b hpi
      · rw [if_neg hpi]
        by_cases hji : j = i
        · subst hji
          rw [if_pos rfl]
          have := h2 a c hc hcl hci
          rwa [if_neg (by omega), if_neg (by omega)] at this
        · rw [if_neg hji]
          have := h1 j a b hpi
          rwa [if_neg hji, if_neg hpi] at this
  · simp only [List.length_set] at b
    rw [e1, e1, hci, if_neg (by omega), if_neg (by omega), if_neg (by omega), if_pos rfl]
    have := h1 j a b (by omega)
    rwa [if_neg (by omega), e, if_neg (by omega)] at this

/-- a heap in which one was exchanged: what up and down start from -/
theorem IsHeap.upOk (ho : Swo lt) {l : List (It α)} {d x : It α} {i : Nat} (hl : i < l.length) (h : IsHeap lt l d) (hi : 0 < i) (ha : ahead lt x (l.getD ((i - 1) / 2) d) = true) : UpOk lt (l.set i x) d i := by
  have e0 : ∀ j, (l.set i x).getD j d = if j = i then x else l.getD j d := fun j => getD_set l i j x d hl
  refine ⟨fun j a b c => ?_, fun _ j a b c => ?_⟩
  · simp only [List.length_set] at b
    rw [e0, e0, if_neg c]
    split
    · rename_i hp
      have h1 := h j a b
      rw [hp] at h1
      have h2 := nahead_trans ho h1 (h i hi hl)
      cases hx : ahead lt (l.getD j d) x with
      | false => rfl
      | true => have := ahead_trans ho hx ha; rw [h2] at this; cases this
    · exact h j a b
  · simp only [List.length_set] at b
    rw [e0, e0, if_neg (by omega), if_neg (by omega)]
    have h1 := h j a b
    rw [c] at h1
    exact nahead_trans ho h1 (h i hi hl)
theorem IsHeap.downOk (ho : Swo lt) {l : List (It α)} {d x : It α} {i : Nat} (hl : i < l.length) (h : IsHeap lt l d) (hi : i = 0 ∨ ahead lt x (l.getD ((i - 1) / 2) d) = false) : DownOk lt (l.set i x) d i := by
  have e0 : ∀ j, (l.set i x).getD j d = if j = i then x else l.getD j d := fun j => getD_set l i j x d hl
  refine ⟨fun j a b c => ?_, fun hi0 j a b c => ?_⟩
  · simp only [List.length_set] at b
    rw [e0, e0, if_neg c]
    split
    · rename_i hp
      subst hp
      rcases hi with hi | hi
      · omega
      · exact hi
    · exact h j a b
  · simp only [List.length_set] at b
    rw [e0, e0, if_neg (by omega), if_neg (by omega)]
    have h1 := h j a b
    rw [c] at h1
    exact nahead_trans ho h1 (h i hi0 hl)
theorem IsHeap.down_self {l : List (It α)} {d : It α} {i : Nat} (ho : Swo lt) (hl : i < l.length) (h : IsHeap lt l d) : DownOk lt (l.set i (l.getD i d)) d i := by
  refine h.downOk ho hl ?_
  rcases Nat.eq_zero_or_pos i with h0 | h0
  · exact .inl h0
  · exact .inr (h i h0 hl)

/-- two places exchanged -/
theorem set_perm [DecidableEq α] (l : List (It α)) (d x : It α) (i p : Nat) (hi : i < l.length) (hp : p < l.length) (hne : p ≠ i) : ((l.set i (l.getD p d)).set p x).Perm (l.set i x) := by
  rw [List.perm_iff_count]
  intro a
  have hg : l.getD p d = l[p] := by simp [List.getD, hp]
  rw [hg, List.count_set (by rw [List.length_set]; exact hp), List.count_set hi, List.count_set hi, List.getElem_set_ne (Ne.symm hne)]
  have h1 : (if l[i] == a then 1 else 0) ≤ l.count a := by
    split
    · rename_i h
      exact List.count_pos_iff.2 (by rw [← eq_of_beq h]; exact List.getElem_mem _)
    · omega
  split <;> split <;> split <;> first | omega | skip
  all_goals (split at h1 <;> omega)
end
end Go.Proofs.Ytkjpkhpiojahkaa.Hp

/-! ### Plain facts on binary heaps, part 2: places, the least one, lists in order. No program in sight. -/
namespace Go.Proofs.Ytkjpkhpiojahkaa.Hp
set_option linter.unusedVariables false

section
variable {α : Type} {lt : α → α → Bool}

theorem IsHeap.least (ho : Swo lt) {l : List (It α)} {d : It α} (h : IsHeap lt l d) : ∀ j, j < l.length → ahead lt (l.getD j d) (l.getD 0 d) = false := by
  intro j
  induction j using Nat.strongRecOn with
  | _ j ih =>
    intro hj
    rcases Nat.eq_zero_or_pos j with h0 | h0
    · subst h0; exact ahead_irrefl ho _
    · exact nahead_trans ho (h j h0 hj) (ih ((j - 1) / 2) (by omega) (by omega))

/-- where every number of a list is, but for the one at place i -/
def PosBut (l : List (It α)) (d : It α) (i : Nat) (f : Int → Option Nat) : Prop :=
  (∀ k, k < l.length → k ≠ i → f (l.getD k d).1 = some k) ∧ (∀ y v, f y = some v → ∃ k, k < l.length ∧ (l.getD k d).1 = y) ∧ (∀ k, k < l.length → k ≠ i → (l.getD k d).1 ≠ (l.getD i d).1)
/-- where every number of a list is -/
def Pos (l : List (It α)) (d : It α) (f : Int → Option Nat) : Prop :=
  (∀ k, k < l.length → f (l.getD k d).1 = some k) ∧ (∀ y v, f y = some v → ∃ k, k < l.length ∧ (l.getD k d).1 = y)

def putN (f : Int → Option Nat) (x : Int) (v : Option Nat) : Int → Option Nat := fun y => if y = x then v else f y
theorem putN_same (f : Int → Option Nat) (x : Int) (v : Option Nat) : putN f x v x = v := if_pos rfl
theorem putN_other (f : Int → Option Nat) {x y : Int} (h : y ≠ x) (v : Option Nat) : putN f x v y = f y := if_neg h

theorem Pos.inj {l : List (It α)} {d : It α} {f : Int → Option Nat} (h : Pos l d f) {j k : Nat} (hj : j < l.length) (hk : k < l.length) (e : (l.getD j d).1 = (l.getD k d).1) : j = k := by
  have h1 := h.1 j hj
  have h2 := h.1 k hk
  rw [e, h2] at h1
  exact (Option.some.inj h1).symm
theorem Pos.but {l : List (It α)} {d : It α} {f : Int → Option Nat} (h : Pos l d f) {i : Nat} (hi : i < l.length) : PosBut l d i f :=
  ⟨fun k hk _ => h.1 k hk, h.2, fun k hk hne e => hne (h.inj hk hi e)⟩
theorem Pos.some_iff {l : List (It α)} {d : It α} {f : Int → Option Nat} (h : Pos l d f) {y : Int} {k : Nat} : f y = some k ↔ k < l.length ∧ (l.getD k d).1 = y := by
  constructor
  · intro hy
    obtain ⟨k', hk', e⟩ := h.2 y k hy
    have := h.1 k' hk'
    rw [e, hy] at this
    cases this
    exact ⟨hk', e⟩
  · rintro ⟨hk, rfl⟩
    exact h.1 k hk
theorem Pos.none_iff {l : List (It α)} {d : It α} {f : Int → Option Nat} (h : Pos l d f) {y : Int} : f y = none ↔ ∀ x ∈ l, x.1 ≠ y := by
  constructor
  · intro hy x hx e
    obtain ⟨k, hk, rfl⟩ := List.mem_iff_getElem.1 hx
    have := h.1 k hk
    rw [List.getD_eq_getElem?_getD, List.getElem?_eq_getElem hk, Option.getD_some, e, hy] at this
    cases this
  · intro hx
    cases hy : f y with
    | none => rfl
    | some v =>
      obtain ⟨k, hk, e⟩ := h.2 y v hy
      rw [List.getD_eq_getElem?_getD, List.getElem?_eq_getElem hk, Option.getD_some] at e
      exact absurd e (hx _ (List.getElem_mem hk))

/-- the last step: the one that was carried is laid down -/
theorem PosBut.lay {l : List (It α)} {d : It α} {i : Nat} {f : Int → Option Nat} (h : PosBut l d i f) (hi : i < l.length) : Pos l d (putN f (l.getD i d).1 (some i)) := by
  refine ⟨fun k hk => ?_, fun y v hy => ?_⟩
  · by_cases hki : k = i
    · subst hki; rw [putN_same]
    · rw [putN_other _ (h.2.2 k hk hki)]; exact h.1 k hk hki
  · by_cases hy' : y = (l.getD i d).1
    · exact ⟨i, hi, hy'.symm⟩
    · rw [putN_other _ hy'] at hy; exact h.2.1 y v hy

/-- the step of up and of down: the one at p goes to i, the one that is carried to p -/
theorem PosBut.step {l : List (It α)} {d x : It α} {i p : Nat} {f : Int → Option Nat} (h : PosBut (l.set i x) d i f) (hi : i < l.length) (hp : p < l.length) (hne : p ≠ i) :
    PosBut ((l.set i (l.getD p d)).set p x) d p (putN f (l.getD p d).1 (some i)) ∧ f (l.getD p d).1 = some p := by
  have e0 : ∀ j, (l.set i x).getD j d = if j = i then x else l.getD j d := fun j => getD_set l i j x d hi
  have e1 : ∀ j, ((l.set i (l.getD p d)).set p x).getD j d = if j = p then x else if j = i then l.getD p d else l.getD j d := fun j => by
    rw [getD_set _ _ _ _ _ (by rw [List.length_set]; exact hp), getD_set _ _ _ _ _ hi]
  obtain ⟨h1, h2, h3⟩ := h
  simp only [List.length_set, e0] at h1 h2 h3
  have hfp : f (l.getD p d).1 = some p := by have := h1 p hp hne; rwa [if_neg hne] at this
  have hdis : ∀ k, k < l.length → k ≠ i → k ≠ p → (l.getD k d).1 ≠ (l.getD p d).1 := fun k hk hki hkp e => by
    have := h1 k hk hki
    rw [if_neg hki, e, hfp] at this
    exact hkp (Option.some.inj this).symm
  refine ⟨⟨fun k hk hkp => ?_, fun y v hy => ?_, fun k hk hkp => ?_⟩, hfp⟩
  · simp only [List.length_set] at hk
    rw [e1, if_neg hkp]
    by_cases hki : k = i
    · subst hki; rw [if_pos rfl, putN_same]
    · rw [if_neg hki, putN_other _ (hdis k hk hki hkp)]
      have := h1 k hk hki
      rwa [if_neg hki] at this
  · simp only [List.length_set]
    by_cases hy' : y = (l.getD p d).1
    · exact ⟨i, hi, by rw [e1, if_neg (Ne.symm hne), if_pos rfl, hy']⟩
    · rw [putN_other _ hy'] at hy
      obtain ⟨k, hk, e⟩ := h2 y v hy
      by_cases hki : k = i
      · rw [if_pos hki] at e
        exact ⟨p, hp, by rw [e1, if_pos rfl]; exact e⟩
      · rw [if_neg hki] at e
        have hkp : k ≠ p := fun h => hy' (by rw [← e, h])
        exact ⟨k, hk, by rw [e1, if_neg hkp, if_neg hki]; exact e⟩
  · simp only [List.length_set] at hk
    rw [e1, e1, if_pos rfl, if_neg hkp]
    by_cases hki : k = i
    · subst hki
      rw [if_pos rfl]
      have := h3 p hp hne
      simpa [hne] using this
    · rw [if_neg hki]
      have := h3 k hk hki
      simpa [hki] using this

/-! ### lists in order -/
def Sorted (lt : α → α → Bool) (l : List (It α)) : Prop := l.Pairwise fun a b => ahead lt a b = true

def ins (lt : α → α → Bool) (x : It α) : List (It α) → List (It α)
  | [] => [x]
  | y :: l => if ahead lt y x then y :: ins lt x l else x :: y :: l
theorem ins_perm (x : It α) : ∀ l : List (It α), (ins lt x l).Perm (x :: l)
  | [] => List.Perm.refl _
  | y :: l => by
    rw [ins]
    split
    · exact ((ins_perm x l).cons y).trans (List.Perm.swap _ _ _)
    · exact List.Perm.refl _
theorem ins_mem {x y : It α} {l : List (It α)} : y ∈ ins lt x l ↔ y = x ∨ y ∈ l := by
  rw [(ins_perm x l).mem_iff, List.mem_cons]
theorem ins_length (x : It α) (l : List (It α)) : (ins lt x l).length = l.length + 1 := (ins_perm x l).length_eq
theorem ins_sorted (ho : Swo lt) {x : It α} : ∀ {l : List (It α)}, Sorted lt l → (∀ y ∈ l, y.1 ≠ x.1) → Sorted lt (ins lt x l)
  | [], _, _ => List.pairwise_singleton _ _
  | y :: l, h, hx => by
    rw [ins]
    split
    · rename_i hy
      refine List.pairwise_cons.2 ⟨fun z hz => ?_, ins_sorted ho (List.pairwise_cons.1 h).2 fun z hz => hx z (List.mem_cons_of_mem _ hz)⟩
      rcases ins_mem.1 hz with rfl | hz
      · exact hy
      · exact (List.pairwise_cons.1 h).1 z hz
    · rename_i hy
      have hxy : ahead lt x y = true := (ahead_total ho (hx y List.mem_cons_self)).resolve_left hy
      refine List.pairwise_cons.2 ⟨fun z hz => ?_, h⟩
      rcases List.mem_cons.1 hz with rfl | hz
      · exact hxy
      · exact ahead_trans ho hxy ((List.pairwise_cons.1 h).1 z hz)
theorem Sorted.nodup_ids (_ho : Swo lt) {l : List (It α)} (h : l.Pairwise fun a b => a.1 ≠ b.1) : (l.map (·.1)).Nodup := by
  rw [List.Nodup, List.pairwise_map]; exact h
theorem Sorted.eq_of_perm (ho : Swo lt) : ∀ {l m : List (It α)}, Sorted lt l → Sorted lt m → l.Perm m → l = m
  | [], m, _, _, hp => (List.nil_perm.1 hp).symm
  | x :: l, [], _, _, hp => absurd hp.symm (by simp)
  | x :: l, y :: m, hl, hm, hp => by
    have hxy : x = y := by
      rcases List.mem_cons.1 (hp.mem_iff.1 List.mem_cons_self) with h | h
      · exact h
      · rcases List.mem_cons.1 (hp.mem_iff.2 List.mem_cons_self) with h' | h'
        · exact h'.symm
        · have a := (List.pairwise_cons.1 hm).1 x h
          have b := (List.pairwise_cons.1 hl).1 y h'
          rw [ahead_asymm ho a] at b
          cases b
    subst hxy
    rw [Sorted.eq_of_perm ho (List.pairwise_cons.1 hl).2 (List.pairwise_cons.1 hm).2 ((List.perm_cons x).1 hp)]
/-- the first of a list in order is the one that lies first in a heap -/
theorem IsHeap.head (ho : Swo lt) {l : List (It α)} {d x : It α} {m : List (It α)} (h : IsHeap lt l d) (hp : l.Perm (x :: m)) (hs : Sorted lt (x :: m)) : l.getD 0 d = x := by
  have hl : 0 < l.length := by rw [hp.length_eq]; simp
  obtain ⟨k, hk, e⟩ := List.mem_iff_getElem.1 (hp.mem_iff.2 List.mem_cons_self)
  have h1 := h.least ho k hk
  have e' : l.getD k d = x := by rw [List.getD_eq_getElem?_getD, List.getElem?_eq_getElem hk, Option.getD_some, e]
  rw [e'] at h1
  have h2 : l.getD 0 d ∈ l := by rw [List.getD_eq_getElem?_getD, List.getElem?_eq_getElem hl, Option.getD_some]; exact List.getElem_mem hl
  rcases List.mem_cons.1 (hp.mem_iff.1 h2) with h3 | h3
  · exact h3
  · have := (List.pairwise_cons.1 hs).1 _ h3
    rw [h1] at this
    cases this

/-- a list put in order -/
def srt (lt : α → α → Bool) : List (It α) → List (It α)
  | [] => []
  | x :: l => ins lt x (srt lt l)
theorem srt_perm : ∀ l : List (It α), (srt lt l).Perm l
  | [] => List.Perm.refl _
  | x :: l => (ins_perm x _).trans ((srt_perm l).cons x)
theorem srt_sorted (ho : Swo lt) : ∀ {l : List (It α)}, (l.Pairwise fun a b => a.1 ≠ b.1) → Sorted lt (srt lt l)
  | [], _ => List.Pairwise.nil
  | x :: l, h => ins_sorted ho (srt_sorted ho (List.pairwise_cons.1 h).2) fun y hy => Ne.symm ((List.pairwise_cons.1 h).1 y ((srt_perm l).mem_iff.1 hy))
theorem distinct_perm {l m : List (It α)} (hp : l.Perm m) (h : l.Pairwise fun a b => a.1 ≠ b.1) : m.Pairwise fun a b => a.1 ≠ b.1 := (hp.pairwise_iff fun h => Ne.symm h).1 h
theorem Pos.distinct {l : List (It α)} {d : It α} {f : Int → Option Nat} (h : Pos l d f) : l.Pairwise fun a b => a.1 ≠ b.1 := by
  rw [List.pairwise_iff_getElem]
  intro i j hi hj hij e
  have : i = j := h.inj (d := d) hi hj (by rw [List.getD_eq_getElem?_getD, List.getD_eq_getElem?_getD, List.getElem?_eq_getElem hi, List.getElem?_eq_getElem hj]; exact e)
  omega
end
end Go.Proofs.Ytkjpkhpiojahkaa.Hp

/-! ### Plain facts on binary heaps, part 3: what goes. No program in sight. -/
namespace Go.Proofs.Ytkjpkhpiojahkaa.Hp
set_option linter.unusedVariables false

section
variable {α : Type} {lt : α → α → Bool}

theorem getD_take (A : List (It α)) (d : It α) (m j : Nat) (h : j < m) : (A.take m).getD j d = A.getD j d := by
  rw [List.getD_eq_getElem?_getD, List.getD_eq_getElem?_getD, List.getElem?_take_of_lt h]
theorem IsHeap.take {A : List (It α)} {d : It α} (h : IsHeap lt A d) (m : Nat) : IsHeap lt (A.take m) d := by
  intro j h0 hj
  rw [List.length_take] at hj
  rw [getD_take _ _ _ _ (by omega), getD_take _ _ _ _ (by omega)]
  exact h j h0 (by omega)
theorem Pos.take {A : List (It α)} {d : It α} {f : Int → Option Nat} (h : Pos A d f) {last : Nat} (hl : last + 1 = A.length) : Pos (A.take last) d (putN f (A.getD last d).1 none) := by
  refine ⟨fun k hk => ?_, fun y v hy => ?_⟩
  · rw [List.length_take] at hk
    rw [getD_take _ _ _ _ (by omega), putN_other _ (fun e => by have := h.inj (by omega) (by omega) e; omega)]
    exact h.1 k (by omega)
  · by_cases e : y = (A.getD last d).1
    · subst e; rw [putN_same] at hy; cases hy
    · rw [putN_other _ e] at hy
      obtain ⟨k, hk, e'⟩ := h.2 y v hy
      have : k ≠ last := fun hkl => e (by rw [← e', hkl])
      refine ⟨k, by rw [List.length_take]; omega, ?_⟩
      rw [getD_take _ _ _ _ (by omega)]
      exact e'
theorem Pos.mid {A : List (It α)} {d : It α} {f : Int → Option Nat} (h : Pos A d f) {i last : Nat} (hi : i < last) (hl : last + 1 = A.length) :
    Pos ((A.take last).set i (A.getD last d)) d (putN (putN f (A.getD i d).1 none) (A.getD last d).1 (some i)) := by
  have hit : i < (A.take last).length := by rw [List.length_take]; omega
  have e0 : ∀ j, j < last → ((A.take last).set i (A.getD last d)).getD j d = if j = i then A.getD last d else A.getD j d := fun j hj => by
    rw [getD_set _ _ _ _ _ hit, getD_take _ _ _ _ hj]
  refine ⟨fun k hk => ?_, fun y v hy => ?_⟩
  · rw [List.length_set, List.length_take] at hk
    rw [e0 k (by omega)]
    by_cases hki : k = i
    · subst hki; rw [if_pos rfl, putN_same]
    · rw [if_neg hki, putN_other _ (fun e => by have := h.inj (by omega) (by omega) e; omega), putN_other _ (fun e => by have := h.inj (by omega) (by omega) e; omega)]
      exact h.1 k (by omega)
  · by_cases e : y = (A.getD last d).1
    · exact ⟨i, by rw [List.length_set]; exact hit, by rw [e0 i hi, if_pos rfl, e]⟩
    · rw [putN_other _ e] at hy
      by_cases e2 : y = (A.getD i d).1
      · subst e2; rw [putN_same] at hy; cases hy
      · rw [putN_other _ e2] at hy
        obtain ⟨k, hk, e'⟩ := h.2 y v hy
        have h1 : k ≠ last := fun hkl => e (by rw [← e', hkl])
        have h2 : k ≠ i := fun hkl => e2 (by rw [← e', hkl])
        exact ⟨k, by rw [List.length_set, List.length_take]; omega, by rw [e0 k (by omega), if_neg h2]; exact e'⟩
theorem Pos.change {A : List (It α)} {d : It α} {f : Int → Option Nat} (h : Pos A d f) {i : Nat} (hi : i < A.length) (k : α) : Pos (A.set i ((A.getD i d).1, k)) d f := by
  have e0 : ∀ j, ((A.set i ((A.getD i d).1, k)).getD j d).1 = (A.getD j d).1 := fun j => by
    rw [getD_set _ _ _ _ _ hi]
    split
    · rename_i e; rw [e]
    · rfl
  refine ⟨fun j hj => ?_, fun y v hy => ?_⟩
  · rw [List.length_set] at hj
    rw [e0]
    exact h.1 j hj
  · obtain ⟨j, hj, e⟩ := h.2 y v hy
    exact ⟨j, by rw [List.length_set]; exact hj, by rw [e0]; exact e⟩

theorem getD_of {A : List (It α)} {d : It α} {i : Nat} (hi : i < A.length) : A.getD i d = A[i] := by
  rw [List.getD_eq_getElem?_getD, List.getElem?_eq_getElem hi]; rfl
theorem take_snoc {A : List (It α)} {last : Nat} (hl : last + 1 = A.length) (d : It α) : A.take last ++ [A.getD last d] = A := by
  have h1 : A.take (last + 1) = A := List.take_of_length_le (by omega)
  rw [List.take_add_one, List.getElem?_eq_getElem (by omega)] at h1
  rw [getD_of (by omega)]
  simpa using h1
theorem drop_last [BEq α] [LawfulBEq α] {A : List (It α)} {last : Nat} (hl : last + 1 = A.length) (d : It α) : (A.take last).Perm (A.erase (A.getD last d)) := by
  rw [List.perm_iff_count]
  intro a
  rw [List.count_erase]
  have h := congrArg (List.count a) (take_snoc hl d)
  rw [List.count_append, List.count_singleton] at h
  omega
theorem drop_mid [BEq α] [LawfulBEq α] {A : List (It α)} {i last : Nat} (hi : i < last) (hl : last + 1 = A.length) (d : It α) : ((A.take last).set i (A.getD last d)).Perm (A.erase (A.getD i d)) := by
  have hit : i < (A.take last).length := by rw [List.length_take]; omega
  rw [List.perm_iff_count]
  intro a
  rw [List.count_erase, List.count_set hit]
  have h := congrArg (List.count a) (take_snoc hl d)
  rw [List.count_append, List.count_singleton] at h
  have e : (A.take last)[i] = A.getD i d := by rw [getD_of (by omega)]; simp
  rw [e]
  have h1 : (if A.getD i d == a then 1 else 0) ≤ (A.take last).count a := by
    split
    · rename_i h
      exact List.count_pos_iff.2 (by rw [← eq_of_beq h, ← e]; exact List.getElem_mem _)
    · omega
  omega
theorem change_perm [BEq α] [LawfulBEq α] {A : List (It α)} {i : Nat} (hi : i < A.length) (d x : It α) : (A.set i x).Perm (x :: A.erase (A.getD i d)) := by
  rw [List.perm_iff_count]
  intro a
  rw [List.count_cons, List.count_erase, List.count_set hi, getD_of hi]
end
end Go.Proofs.Ytkjpkhpiojahkaa.Hp

/-! ### A map from ints to places, with the number of its entries told sharply. Over any program. -/
namespace Go.Proofs.Ytkjpkhpiojahkaa
set_option linter.unusedVariables false
open Go.RowKit Hp

def lift (f : Int → Option Nat) : Int → Option Value := fun x => (f x).map fun i => .int .i64 (i : Int)
theorem lift_put (f : Int → Option Nat) (x : Int) (v : Option Nat) : lift (putN f x v) = put (lift f) x (v.map fun i => .int .i64 (i : Int)) := by
  funext y
  unfold lift putN put
  split <;> rfl
theorem lift_some {f : Int → Option Nat} {x : Int} {k : Nat} (h : f x = some k) : lift f x = some (.int .i64 (k : Int)) := by rw [lift, h]; rfl
theorem lift_none {f : Int → Option Nat} {x : Int} (h : f x = none) : lift f x = none := by rw [lift, h]; rfl

/-- block b is a map of n entries; f tells the places that it holds -/
def mapT (w : World) (P : Program) (k : TypeId) (b n : Nat) (f : Int → Option Nat) : Prop :=
  ∃ D : DataW Value, w.ownsMap P k heldR b n D ∧ Maps.size D = n ∧
    ∀ x : Int, Maps.has D (.int .i64 x) = (lift f x).isSome ∧ ∀ z, D.atKey (.int .i64 x) z = (match lift f x with | some v => .held v | none => z)

section
variable {P : Program} {w w' : World} {k t e : TypeId} {b n : Nat} {f : Int → Option Nat}

theorem mapT.toI (h : mapT w P k b n f) : mapI w P k b n (lift f) := by
  obtain ⟨D, h1, _, h2⟩ := h
  exact ⟨D, h1, h1.isMap, h2⟩
theorem own_tight {D : DataW Value} {m : Nat} (h : w.ownsMap P k heldR b m D) : w.ownsMap P k heldR b (Maps.size D) D := by
  obtain ⟨es, c, h1, h2, h3, rfl⟩ := h
  exact ⟨es, c, h1, h2, by simp [Maps.size, length_sorted], rfl⟩
theorem mapT_made (w : World) (P : Program) (k : TypeId) : mapT (w.alloc (.map #[] 0)) P k w.heap.size 0 (fun _ => none) :=
  ⟨.map [], World.ownsMap_made _ _ _ _, rfl, fun x => ⟨rfl, fun z => rfl⟩⟩
theorem mapT.is (h : mapT w P k b n f) : ∃ es c, w.heap[b]? = some (.map es c) := h.toI.is
theorem mapT.lt (h : mapT w P k b n f) : b < w.heap.size := h.toI.lt
theorem mapT.of_same (h : mapT w P k b n f) (hs : w'.heap[b]? = w.heap[b]?) : mapT w' P k b n f := by
  obtain ⟨D, ⟨es, c, h, r⟩, r'⟩ := h
  exact ⟨D, ⟨es, c, by rw [hs]; exact h, r⟩, r'⟩
theorem mapT.of_obj (h : mapT w P k b n f) (hs : ∀ o, w.heap[b]? = some o → ctl o = false → w'.heap[b]? = some o) : mapT w' P k b n f := by
  obtain ⟨es, c, ho⟩ := h.is
  exact h.of_same (by rw [hs _ ho rfl, ho])
theorem mapT.mod {S : Nat → Prop} (h : mapT w P k b n f) (hm : Mod S w w') (hb : ¬ S b) : mapT w' P k b n f := h.of_same (hm.same h.lt hb)

theorem mapT.update (h : mapT w P k b n f) (hk : P.underlying k = some (.int .i64)) (ht : P.underlying t = some (.map k e)) (hn : n < maxLen) {x : Int} (hx : (Lit.int .i64 x).wf = true) (i : Nat) :
    ∃ w', (Instr.mapUpdate t (.map (some b)) (.int .i64 x) (.int .i64 (i : Int))).run P w = .ok () w' ∧ mapT w' P k b (if (f x).isSome then n else n + 1) (putN f x (some i)) ∧ Mod (fun j => j = b) w w' := by
  have hctl : ∀ o, w.heap[b]? = some o → ctl o = false := by
    obtain ⟨es, c, hb⟩ := h.is
    intro o ho
    rw [hb] at ho
    cases ho
    rfl
  obtain ⟨D, h, hs, hf⟩ := h
  have hD := h.isMap
  obtain ⟨w', hrun, h', hg⟩ := h.update (Maps.int_keyed hk) ht hn (key := .int .i64 x) (val := .int .i64 (i : Int)) (kl := .int .i64 x) (d := .held (.int .i64 (i : Int))) (ps := []) (Maps.keyOf_int_mk hk hx) rfl
  have hsz := Maps.size_put (h.tidy (Maps.int_keyed hk)) (k := .int .i64 x) (.held (.int .i64 (i : Int)))
  have hh : Maps.has D (.int .i64 x) = (f x).isSome := by rw [(hf x).1, lift]; cases f x <;> rfl
  rw [hh, hs] at hsz
  refine ⟨w', hrun, ⟨_, hsz ▸ own_tight h', hsz, fun y => ?_⟩, (Mod.refl _ w).grown hg (fun j e _ => by cases e; exact ⟨rfl, hctl⟩)⟩
  rw [lift_put]
  by_cases hy : y = x
  · subst hy
    rw [Maps.has_put_same hD (by trivial), put_same]
    exact ⟨rfl, fun z => Maps.atKey_put_same hD (by trivial) _ _⟩
  · rw [Maps.has_put_other (lit_ne hy), put_other _ hy]
    exact ⟨(hf y).1, fun z => by rw [Maps.atKey_put_other (lit_ne hy)]; exact (hf y).2 z⟩

theorem mapT.drop (h : mapT w P k b n f) (hk : P.underlying k = some (.int .i64)) (ht : P.underlying t = some (.map k e)) {x : Int} (hx : (Lit.int .i64 x).wf = true) (ty : TypeId) :
    ∃ w', (Builtin.delete_ #[t, k] ty #[.map (some b), .int .i64 x]).run P w = .ok (.tuple #[]) w' ∧ mapT w' P k b (if (f x).isSome then n - 1 else n) (putN f x none) ∧ Mod (fun j => j = b) w w' := by
  obtain ⟨D, h, hs, hf⟩ := h
  have hD := h.isMap
  obtain ⟨w', hrun, h', es, c, es', c', hb, rfl⟩ := h.drop (Maps.int_keyed hk) ht (Maps.keyOf_int_mk hk hx) ty
  have hsz := Maps.size_del (h.tidy (Maps.int_keyed hk)) (k := .int .i64 x)
  have hh : Maps.has D (.int .i64 x) = (f x).isSome := by rw [(hf x).1, lift]; cases f x <;> rfl
  rw [hh, hs] at hsz
  have hsz' : Maps.size (D.del (.int .i64 x)) = if (f x).isSome then n - 1 else n := by cases hi : (f x).isSome <;> simp [hi] at hsz ⊢ <;> omega
  refine ⟨_, hrun, ⟨_, hsz' ▸ own_tight h', hsz', fun y => ?_⟩, ⟨rfl, rfl, rfl, by simp [ChangeMaps.setBlock], fun j o ho hc => ?_⟩⟩
  · rw [lift_put]
    by_cases hy : y = x
    · subst hy
      rw [Maps.has_del_same, put_same]
      exact ⟨rfl, fun z => Maps.atKey_del_same _⟩
    · rw [Maps.has_del_other (lit_ne hy), put_other _ hy]
      exact ⟨(hf y).1, fun z => by rw [Maps.atKey_del_other (lit_ne hy)]; exact (hf y).2 z⟩
  · by_cases hj : j = b
    · subst hj
      rw [hb] at ho
      cases ho
      rcases hc with hc | hc
      · cases hc
      · exact absurd rfl hc
    · rw [ChangeMaps.heap_setBlock_other hb _ hj]; exact ho
end
end Go.Proofs.Ytkjpkhpiojahkaa

/-! ### Rows of structures: a slice's cells, told item by item. Over any program. -/
namespace Go.Proofs.Ytkjpkhpiojahkaa
set_option linter.unusedVariables false
open Go.RowKit Hp

theorem flat_at {β : Type} (g : β → List Value) (sz : Nat) (hg : ∀ x, (g x).length = sz) : ∀ (A : List β) (k j : Nat) (x : β), A[k]? = some x → j < sz → (A.flatMap g)[k * sz + j]? = (g x)[j]?
  | [], k, j, x, h, _ => by simp at h
  | a :: A, 0, j, x, h, hj => by
    simp at h
    subst h
    rw [List.flatMap_cons, List.getElem?_append_left (by rw [hg]; omega)]
    simp
  | a :: A, k + 1, j, x, h, hj => by
    rw [List.flatMap_cons, List.getElem?_append_right (by rw [hg, Nat.succ_mul]; omega), hg]
    have : (k + 1) * sz + j - sz = k * sz + j := by rw [Nat.succ_mul]; omega
    rw [this]
    exact flat_at g sz hg A k j x (by simpa using h) hj
theorem flat_length {β : Type} (g : β → List Value) (sz : Nat) (hg : ∀ x, (g x).length = sz) : ∀ A : List β, (A.flatMap g).length = A.length * sz
  | [] => by simp
  | a :: A => by rw [List.flatMap_cons, List.length_append, hg, flat_length g sz hg A, List.length_cons, Nat.succ_mul]; omega
theorem flat_set {β : Type} (g : β → List Value) (sz : Nat) (hg : ∀ x, (g x).length = sz) (A : List β) (k : Nat) (x : β) (hk : k < A.length) (l : List Value) (hl : l.length = A.length * sz)
    (h : ∀ i, i < A.length * sz → l[i]? = if k * sz ≤ i ∧ i < k * sz + sz then (g x)[i - k * sz]? else (A.flatMap g)[i]?) : l = (A.set k x).flatMap g := by
  apply List.ext_getElem?
  intro i
  have hlen := flat_length g sz hg (A.set k x)
  rw [List.length_set] at hlen
  by_cases hi : i < A.length * sz
  · rw [h i hi]
    have hsz : 0 < sz := by
      rcases Nat.eq_zero_or_pos sz with h0 | h0
      · subst h0; omega
      · exact h0
    have hd : i = i / sz * sz + i % sz := by rw [Nat.mul_comm]; exact (Nat.div_add_mod i sz).symm
    have hm : i % sz < sz := Nat.mod_lt _ hsz
    have hq : i / sz < A.length := by rw [Nat.div_lt_iff_lt_mul hsz]; exact hi
    by_cases hki : i / sz = k
    · rw [if_pos (by rw [← hki]; omega)]
      have := flat_at g sz hg (A.set k x) k (i % sz) x (by rw [List.getElem?_set_self hk]) hm
      rw [← hki] at this ⊢
      rw [← hd] at this
      rw [this]
      congr 1
      omega
    · rw [if_neg]
      · have e1 := flat_at g sz hg A (i / sz) (i % sz) _ (List.getElem?_eq_getElem hq) hm
        have e2 := flat_at g sz hg (A.set k x) (i / sz) (i % sz) A[i / sz] (by rw [List.getElem?_set_ne (Ne.symm hki)]; exact List.getElem?_eq_getElem hq) hm
        rw [← hd] at e1 e2
        rw [e1, e2]
      · rintro ⟨h1, h2⟩
        apply hki
        have a1 : k ≤ i / sz := by rw [Nat.le_div_iff_mul_le hsz]; exact h1
        have a2 : i / sz < k + 1 := by rw [Nat.div_lt_iff_lt_mul hsz, Nat.succ_mul]; exact h2
        omega
  · rw [List.getElem?_eq_none (by omega), List.getElem?_eq_none (by omega)]

theorem own_parts {w : World} {B n t size : Nat} {v : Value} {xs : List Value} (h : w.ownsRow B t size v n xs) :
    (v = .slice none 0 0 ∧ n = 0) ∨ ∃ g cap cur, v = .slice (some ⟨g, 0, none⟩) n cap ∧ B ≤ g ∧ w.heap[g]? = some (.cells cur t (0, 0)) ∧ n ≤ cap ∧ cap ≤ maxLen ∧ cur.size = cap * size ∧ cur.toList.take (n * size) = xs := h.2
theorem own_slice {w : World} {B n t size : Nat} {v : Value} {xs : List Value} (h : w.ownsRow B t size v n xs) (hn : 0 < n) :
    ∃ g cap, v = .slice (some ⟨g, 0, none⟩) n cap ∧ g < w.heap.size ∧ v.ownBlock = some g := by
  rcases own_parts h with ⟨_, h0⟩ | ⟨g, cap, cur, rfl, _, hg, _⟩
  · omega
  · exact ⟨g, cap, rfl, lt_of_some hg, rfl⟩
theorem own_setG {w : World} {B g n cp i t size : Nat} {xs : List Value} {y : Value} (h : w.ownsRow B t size (.slice (some ⟨g, 0, none⟩) n cp) n xs) :
    (w.setCell ⟨g, i, none⟩ y).ownsRow B t size (.slice (some ⟨g, 0, none⟩) n cp) n (xs.set i y) := by
  obtain ⟨h1, h2⟩ := h
  refine ⟨by simpa using h1, ?_⟩
  rcases h2 with ⟨hv, _⟩ | ⟨g', cap, cur, hv, hb, hg, hn, hm, hs, ht⟩
  · cases hv
  · injection hv with ha _ hcp
    injection ha with ha
    injection ha with ha
    subst ha
    subst hcp
    refine .inr ⟨g, cp, cur.setIfInBounds i y, rfl, hb, ?_, hn, hm, by simpa using hs, ?_⟩
    · simp [World.setCell, Array.getElem?_modify, hg]
    · rw [Array.toList_setIfInBounds, List.take_set, ht]
theorem own_cellG {w : World} {B g n cp i t size : Nat} {xs : List Value} {y : Value} (h : w.ownsRow B t size (.slice (some ⟨g, 0, none⟩) n cp) n xs) (hi : xs[i]? = some y) : w.cell? ⟨g, i, none⟩ = some y := by
  have := h.cells (g := g) rfl i y hi
  have ha : (⟨g, 0, none⟩ : Addr).add i = ⟨g, 0 + i, none⟩ := by unfold Addr.add; split <;> simp_all
  rwa [ha, Nat.zero_add] at this
theorem own_freeG {w : World} {B g n cp : Nat} {xs : List Value} {t size : Nat} (h : w.ownsRow B t size (.slice (some ⟨g, 0, none⟩) n cp) n xs) (o : Nat) : w.frozen? ⟨g, o, none⟩ = false := by
  rcases own_parts h with ⟨hv, _⟩ | ⟨g', cap, cur, hv, hb, hg, _⟩
  · cases hv
  · injection hv with ha _ _
    injection ha with ha
    injection ha with ha
    subst ha
    simp [World.frozen?, hg]
theorem own_same {w w' : World} {B n t size : Nat} {v : Value} {xs : List Value} (h : w.ownsRow B t size v n xs) (hs : ∀ j o, v.ownBlock = some j → w.heap[j]? = some o → ctl o = false → w'.heap[j]? = some o) : w'.ownsRow B t size v n xs := by
  refine ⟨h.1, ?_⟩
  rcases own_parts h with hn | ⟨g, cap, cur, rfl, hb, hg, rest⟩
  · exact .inl hn
  · exact .inr ⟨g, cap, cur, rfl, hb, hs g _ rfl hg rfl, rest⟩
theorem own_lt {w : World} {B n t size : Nat} {v : Value} {xs : List Value} (h : w.ownsRow B t size v n xs) {j : Nat} (hj : v.ownBlock = some j) : j < w.heap.size := by
  rcases own_parts h with ⟨rfl, _⟩ | ⟨g, cap, cur, rfl, hb, hg, rest⟩
  · simp [Value.ownBlock] at hj
  · simp [Value.ownBlock] at hj
    subst hj
    exact lt_of_some hg
/-- the front of a row is a row -/
theorem own_take {w : World} {B g n m cp t size : Nat} {xs : List Value} (h : w.ownsRow B t size (.slice (some ⟨g, 0, none⟩) n cp) n xs) (hm : m ≤ n) :
    w.ownsRow B t size (.slice (some ⟨g, 0, none⟩) m cp) m (xs.take (m * size)) := by
  have hl := h.1
  have hmul : m * size ≤ n * size := Nat.mul_le_mul_right _ hm
  refine ⟨by rw [List.length_take, hl]; omega, ?_⟩
  rcases own_parts h with ⟨hv, _⟩ | ⟨g', cap, cur, hv, hb, hg, hn, hmx, hs, ht⟩
  · cases hv
  · injection hv with ha _ hcp
    injection ha with ha
    injection ha with ha
    subst ha
    subst hcp
    refine .inr ⟨g, cp, cur, rfl, hb, hg, by omega, hmx, hs, ?_⟩
    rw [← ht, List.take_take, Nat.min_eq_left hmul]
end Go.Proofs.Ytkjpkhpiojahkaa

/-! ### A region that draws its order, whose operations only read and whose callees keep a class of worlds: one walk in the order of the text. Over any program. -/
namespace Go.Proofs.Ytkjpkhpiojahkaa
set_option linter.unusedVariables false

/-- the walk, behind a name that no tactic looks through -/
structure Loose (P : Program) (ops : Array Oper) (C : World → Prop) (Q : Act → Prop) (l : List Oper) (a : Act) : Prop where
  out : wpQuiet P ops C Q l a

section
variable {P : Program} {ops : Array Oper} {C : World → Prop} {Q : Act → Prop} {a : Act} {o : Oper} {rest : List Oper} {v : Value}
theorem loose_nil (h : Q a) : Loose P ops C Q [] a := ⟨h⟩
theorem loose_skip (hw : Region.wanted o (yielded ops a.tmps) = false) (h : Loose P ops C Q rest (a.put o.dst undef)) : Loose P ops C Q (o :: rest) a := ⟨BigFrame.wpQuiet_skip hw h.out⟩
theorem loose_val (hw : Region.wanted o (yielded ops a.tmps) = true) (hv : ∀ w, C w → (execOp a.eval o).run P w = .ok (.value v) w) (h : Loose P ops C Q rest (a.put o.dst v)) : Loose P ops C Q (o :: rest) a :=
  ⟨BigFrame.wpQuiet_want hw fun K hK => ⟨v, fun w hw' => by unfold Oper.quietAt; rw [hv w hw']; exact ⟨rfl, rfl⟩, hK _ h.out⟩⟩
theorem loose_call {f : FuncId} {args : Array Value} (hc : ∀ w, C w → Calls P f args w fun e w' => e = .returned v ∧ C w') (hw : Region.wanted o (yielded ops a.tmps) = true)
    (hv : ∀ w, C w → (execOp a.eval o).run P w = .ok (.enter f args) w) (h : Loose P ops C Q rest (a.put o.dst v)) : Loose P ops C Q (o :: rest) a :=
  ⟨BigFrame.wpQuiet_want hw fun K hK => ⟨v, fun w hw' => by unfold Oper.quietAt; rw [hv w hw']; exact ⟨rfl, hc w hw'⟩, hK _ h.out⟩⟩
end

theorem wp_region_loose {P : Program} {id : Nat} {Q : Exit → Act → World → Prop} {a : Act} {w : World} {l : List Oper} (C : World → Prop) (hm : P.follows .mixedOrders = true) (hB : Region.lexB .any l.toArray = true) (hC : C w.drew)
    (h : Loose P l.toArray C (fun a' => ∀ w', C w' → Q .normal a' w') l a) : (Code.region id l.toArray true).wp P Q a w :=
  wp_region_quiet (C := C) hm hB hC (by simpa using h.out)
end Go.Proofs.Ytkjpkhpiojahkaa

/-! ### The loose walk of a region, in a round of a range over a function. Over any program. -/
namespace Go.Proofs.Ytkjpkhpiojahkaa
set_option linter.unusedVariables false

section
variable {P : Program} {ops : Array Oper} {md : Region.Mode} {C : World → Prop} {n l : Nat}

def noDefer (o : Oper) : Bool := match o.op with | .defer _ => false | _ => true
theorem noDefer_ne {o : Oper} (h : noDefer o = true) : ∀ c, o.op ≠ .defer c := fun c e => by
  unfold noDefer at h
  rw [e] at h
  cases h

theorem wpIn_of_quiet {o : Oper} {a : Act} {K : Act → Prop} {K' : Act → World → Prop} {Q' : Exit → Act → World → Prop} {w : World} (hd : ∀ c, o.op ≠ .defer c) (hw : C w) (h : ∀ a w', C w' → K a → K' a w') (hh : o.quiet P a C K) :
    o.wpIn (Fence.wide.inRound l) n P a w K' Q' := by
  obtain ⟨v, h1, h2⟩ := hh
  have h3 := h1 w hw
  unfold Oper.quietAt at h3
  refine ⟨fun _ _ => trivial, ?_⟩
  rw [Oper.semAt_eq _ _ _ hd]
  generalize (execOp a.eval o).run P w = r at *
  cases r with
  | ok x w' =>
    cases x <;> simp only [Oper.quietUpon] at h3 <;> simp only [Oper.uponIn]
    case value u =>
      obtain ⟨e1, e2⟩ := h3
      rw [e1, e2]
      exact h _ _ hw h2
    case skip =>
      obtain ⟨e1, e2⟩ := h3
      rw [e1, ← e2]
      exact h _ _ hw h2
    case enter f args =>
      obtain ⟨e1, hc⟩ := h3
      rw [e1]
      refine ⟨(fun h => by cases h), ?_⟩
      exact CallsIn.inRound l ((callsIn_wide.2 hc).mono fun e w'' ⟨he, hw''⟩ => by subst he; exact h _ _ hw'' h2)
  | halt x w' => simp only [Oper.quietUpon] at h3

theorem wpOpIn_of_qOp {i : Nat} {a : Act} {K : Act → Prop} {K' : Act → World → Prop} {Q' : Exit → Act → World → Prop} {w : World} (hd : ∀ o, ops[i]? = some o → ∀ c, o.op ≠ .defer c) (hC : C w) (h : ∀ a w', C w' → K a → K' a w') (hh : qOp P ops C i K a) :
    wpOpIn (Fence.wide.inRound l) n P ops Q' i K' a w := by
  unfold qOp at hh
  unfold wpOpIn
  split
  · rename_i ho; simp only [ho] at hh; exact h _ _ hC hh
  · rename_i o ho
    simp only [ho] at hh
    split
    · rename_i hw; simp only [hw, if_true] at hh; exact wpIn_of_quiet (hd o ho) hC h hh
    · rename_i hw; simp only [hw] at hh; exact ⟨fun _ _ => trivial, h _ _ hC hh⟩

theorem wpAnyIn_of_quiet {Q : Act → Prop} {Q' : Exit → Act → World → Prop} (hd : ∀ (i : Nat) o, ops[i]? = some o → ∀ c, o.op ≠ .defer c) (hQ : ∀ a w, C w → Q a → Q' .normal a w) : ∀ (fuel : Nat) (listed : Array Bool) (a : Act) (w : World), C w →
    wpAnyQ P md ops C Q fuel listed a → wpAnyIn (Fence.wide.inRound l) n P md ops Q' fuel listed a w
  | 0, _, _, _, hw, h => ⟨h.1, hQ _ _ hw h.2⟩
  | fuel + 1, _, _, _, hw, h => ⟨fun h0 => hQ _ _ hw (h.1 h0), fun i hi => wpOpIn_of_qOp (hd i) hw (fun a' w' hw' => wpAnyIn_of_quiet hd hQ fuel _ a' w' hw') (h.2 i hi)⟩

theorem wpIn_region_loose {id : Nat} {Q : Exit → Act → World → Prop} {a : Act} {w : World} {os : List Oper} (C : World → Prop) (hm : P.follows .mixedOrders = true) (hB : Region.lexB .any os.toArray = true) (hd : os.all noDefer = true) (hC : C w.drew)
    (h : Loose P os.toArray C (fun a' => ∀ w', C w' → Q .normal a' w') os a) : (Code.region id os.toArray true).wpIn (Fence.wide.inRound l) n P Q a w := by
  simp only [Region.lexB, Bool.and_eq_true] at hB
  refine wpIn_region_any hm (wpAnyIn_of_quiet (C := C) (Q := fun a' => ∀ w', C w' → Q .normal a' w') (fun i o ho => ?_) (fun _ w' hw' h => h w' hw') _ _ _ _ hC ?_)
  · rw [List.getElem?_toArray] at ho
    exact noDefer_ne (List.all_eq_true.1 hd o (List.mem_of_getElem? ho))
  · have := wpAnyQ_lex (C := C) (md := .any) hB.1 os 0 (Array.replicate os.toArray.size false) a (by simp) (by simpa using hB.2) h.out
    simpa using this
end
end Go.Proofs.Ytkjpkhpiojahkaa

/-! ### A range over a function whose iterator makes blocks of its own while the rounds make theirs. Over any program. -/
namespace Go.Proofs.Ytkjpkhpiojahkaa
set_option linter.unusedVariables false
open Go.RowKit

/-- **AN ITERATOR**, whose own blocks are told as they come: it hands out the list xs, one by one, as long as a round answers yes. R: the blocks that a round must keep for it from the first; O0: those of its own from the first; O: its own by now (it turns no others). -/
def Iter2 {α : Type} (F : Fence) (n : Nat) (P : Program) (g : Nat) (lb : Array Value) (encs : α → Array Value) (R O0 : Nat → Prop) (xs : List α) (w : World) : Prop :=
  ∀ (l : Nat) (J Jx : (Nat → Prop) → List α → World → Prop) (W : World), Keeps (fun j => R j ∨ O0 j) w W → w.heap.size ≤ W.heap.size →
    (∀ O O' s A A', J O s A → Mv O W.heap.size A A' → (∀ j, O' j → O j ∨ A.heap.size ≤ j) → J O' s A') → (∀ O O' s A A', Jx O s A → Mv O W.heap.size A A' → (∀ j, O' j → O j ∨ A.heap.size ≤ j) → Jx O' s A') →
    (∀ O pre x A, J O pre A → (∀ j, O j → (O0 j ∨ W.heap.size ≤ j) ∧ j < A.heap.size) → pre ++ [x] <+: xs → YieldAt F (n - 1) P l (encs x) A fun e A' =>
      (e = .returned (.bool true) ∧ J O (pre ++ [x]) A' ∧ Keeps (fun j => R j ∨ O j) A A' ∧ Ctl W.heap.size A A') ∨
      (e = .returned (.bool false) ∧ Jx O (pre ++ [x]) A' ∧ Keeps (fun j => R j ∨ O j) A A' ∧ Ctl W.heap.size A A')) →
    J O0 [] W →
    CallsIn F n P g (#[.func (.yield l) #[] #[]] ++ lb) W fun e W' => (∃ v, e = .returned v) ∧ ((∃ O, J O xs W') ∨ ∃ O pre, pre <+: xs ∧ Jx O pre W')

/-- how a round may be left -/
def outPost2 {α : Type} (B : Nat) (R : Nat → Prop) (I : List α → World → Prop) (Ix : Code → List α → World → Prop) (xs : List α) (W : World) : Exit → Act → World → Prop
  | .normal, _, W' => Ctl B W W' ∧ Keeps R W W' ∧ I xs W'
  | .ret, _, W' => Ctl B W W' ∧ Keeps R W W' ∧ Ix .ret xs W'
  | .exit id, _, W' => Ctl B W W' ∧ Keeps R W W' ∧ Ix (.exit id) xs W'
  | .goto t, _, W' => Ctl B W W' ∧ Keeps R W W' ∧ Ix (.goto t) xs W'
  | .panic _, _, _ => False
  | .outgrown, _, _ => False

section
variable {F : Fence} {n : Nat} {P : Program} {α : Type} {g : Operand} {ps : Array Tmp} {assign body : Code} {Q : Exit → Act → World → Prop} {a : Act} {w : World}

/-- The law, wherever the loop stands: what 'enterLoop' gives is a premise. -/
theorem wpIn_range_core2 (l dn : Nat) (mark : List Deferred) (W1 : Nat → World)
    (hen : ∀ fn, (Instr.enterLoop fn a.tmps ps assign body F.round).run P w = .ok (l, mark) (W1 fn))
    (hrec : ∀ fn, (W1 fn).heap[l]? = some (.loop { state := .ready, pending := none, fn, tmps := a.tmps, params := ps, assign, body, defers := dn }))
    (hm1 : ∀ fn, Mod none' w (W1 fn)) (hl : w.heap.size ≤ l)
    (h1 : 1 ≤ n) {gf : Nat} {lb : Array Value} (hg : a.eval g = .func (.func gf) #[] lb) (hFg : F.fn gf) (eg : ∀ args w, (callFunc gf args).run P w = .ok (.enter gf args) w)
    {encs : α → Array Value} {R O0 : Nat → Prop} {xs : List α} {w0 : World} (hseq : Iter2 F (n - 1) P gf lb encs R O0 xs w0) (hk0 : Keeps (fun j => R j ∨ O0 j) w0 w) (hps : ∀ x, (encs x).size = ps.size)
    (I : (Nat → Prop) → List α → World → Prop) (Ix : Code → (Nat → Prop) → List α → World → Prop)
    (hI : ∀ O O' s A A', I O s A → Mv O w.heap.size A A' → (∀ j, O' j → O j ∨ A.heap.size ≤ j) → I O' s A') (hIx : ∀ c O O' s A A', Ix c O s A → Mv O w.heap.size A A' → (∀ j, O' j → O j ∨ A.heap.size ≤ j) → Ix c O' s A') (h0 : I O0 [] w)
    (hround : ∀ (O : Nat → Prop) (pre : List α) (x : α) (W : World), (∃ r, W.heap[l]? = some (.loop r)) → I O pre W → (∀ j, O j → (O0 j ∨ w.heap.size ≤ j) ∧ j < W.heap.size) → pre ++ [x] <+: xs →
      assign.wpIn (F.inRound l) (n - 1 - 1) P (Exit.then (fun a' Wa => Ctl w.heap.size W Wa ∧ Keeps (fun j => R j ∨ O j) W Wa ∧ ∀ Wb, Mv none' w.heap.size Wa Wb → (∃ r, Wb.heap[l]? = some (.loop r)) →
          body.wpIn (F.inRound l) (n - 1 - 1) P (outPost2 w.heap.size (fun j => R j ∨ O j) (I O) (fun c => Ix c O) (pre ++ [x]) Wb) a' Wb) (fun _ _ _ => False))
        { tmps := (ps.zip (encs x)).foldl (fun t (p, v) => t.setIfInBounds p v) a.tmps, defers := [] } W)
    (hdone : ∀ (O : Nat → Prop) (W : World), I O xs W → (∀ fn k o, w.heap.size ≤ k → (W1 fn).heap[k]? = some o → ctl o = true → k ≠ l → W.heap[k]? = some o) → Q .normal { a with defers := mark ++ a.defers } W)
    (hstop : ∀ (c : Code) (O : Nat → Prop) (pre : List α) (W : World), pre <+: xs → Ix c O pre W → (∀ fn k o, w.heap.size ≤ k → (W1 fn).heap[k]? = some o → ctl o = true → k ≠ l → W.heap[k]? = some o) → c.wpIn F n P Q { a with defers := mark ++ a.defers } W)
    (hW1 : ∀ fn fn' k, k ≠ l → (W1 fn).heap[k]? = (W1 fn').heap[k]?) :
    (Code.rangeFunc g ps assign body).wpIn F n P Q a w := by
  refine wpIn_rangeFunc ?_
  intro fn hfn
  have hL1 := hrec fn
  have hM1 := hm1 fn
  have he1 := hen fn
  replace hdone : ∀ (O : Nat → Prop) (W : World), I O xs W → (∀ k o, w.heap.size ≤ k → (W1 fn).heap[k]? = some o → ctl o = true → k ≠ l → W.heap[k]? = some o) → Q .normal { a with defers := mark ++ a.defers } W :=
    fun O W hi hk => hdone O W hi fun fn' k o h1 h2 h3 h4 => hk k o h1 (by rw [hW1 fn fn' k h4]; exact h2) h3 h4
  replace hstop : ∀ (c : Code) (O : Nat → Prop) (pre : List α) (W : World), pre <+: xs → Ix c O pre W → (∀ k o, w.heap.size ≤ k → (W1 fn).heap[k]? = some o → ctl o = true → k ≠ l → W.heap[k]? = some o) → c.wpIn F n P Q { a with defers := mark ++ a.defers } W :=
    fun c O pre W hp hi hk => hstop c O pre W hp hi fun fn' k o h1 h2 h3 h4 => hk k o h1 (by rw [hW1 fn fn' k h4]; exact h2) h3 h4
  clear hen hrec hm1 hW1
  generalize W1 fn = W1 at *
  obtain ⟨rec, hrec⟩ : ∃ rec : LoopState → Option Code → Loop, rec = fun st pe => { state := st, pending := pe, fn, tmps := a.tmps, params := ps, assign, body, defers := dn } := ⟨_, rfl⟩
  replace hL1 : W1.heap[l]? = some (.loop (rec .ready none)) := by rw [hrec]; exact hL1
  have hlt1 : l < W1.heap.size := lt_of_some hL1
  have hsz1 := hM1.size
  have hI1 : I O0 [] W1 := hI _ _ _ _ _ h0 ((hM1.mv _).mono (fun i h _ => h.elim) (Nat.le_refl _)) (fun _ h => .inl h)
  -- what of the book-keeping is not this loop's own
  let Rest : World → Prop := fun W => ∀ k o, w.heap.size ≤ k → W1.heap[k]? = some o → ctl o = true → k ≠ l → W.heap[k]? = some o
  have hrest_mv : ∀ O A A', Rest A → Mv O W1.heap.size A A' → Rest A' := fun O A A' h hm k o hk ho hc hkl =>
    hm.block k o (h k o hk ho hc hkl) (by rw [if_pos hc]; exact lt_of_some ho)
  have hrest_ctl : ∀ A A', Rest A → Ctl w.heap.size A A' → Rest A' := fun A A' h hm k o hk ho hc hkl => hm.2 k o hk (h k o hk ho hc hkl) hc
  have hrest_put : ∀ (A : World) (o' : Obj), Rest A → Rest (A.putObj l o') := fun A o' h k o hk ho hc hkl => by
    rw [World.putObj_heap_other hkl]; exact h k o hk ho hc hkl
  refine ⟨l, mark, W1, { target := .fn (.func gf) lb, args := #[.func (.yield l) #[] #[]] }, W1, gf, #[.func (.yield l) #[] #[]] ++ lb, W1, he1, ?_, ?_, ?_, fun _ => h1, ?_⟩
  · simp only [resolve, hg]
    simp [go_sem]
  · intro f' hf'; simp [Target.leads] at hf'; subst hf'; exact hFg
  · simp [invoke, go_sem, eg]
  · refine (hseq l
      (fun O pre W => I O pre W ∧ W.heap[l]? = some (.loop (rec .ready none)) ∧ Rest W)
      (fun O pre W => ∃ c, Ix c O pre W ∧ W.heap[l]? = some (.loop (rec .done (some c))) ∧ Rest W)
      W1 (hk0.trans (hM1.keeps fun _ _ _ h => h)) (Nat.le_trans hk0.size hsz1)
      (fun O O' s A A' hs hm hg => ⟨hI _ _ _ _ _ hs.1 (hm.mono (fun _ h _ => h) hsz1) hg, hm.block l _ hs.2.1 (by simpa [ctl] using hlt1), hrest_mv _ _ _ hs.2.2 hm⟩)
      (fun O O' s A A' hs hm hg => by
        obtain ⟨c, h1, h2, h3⟩ := hs
        exact ⟨c, hIx c _ _ _ _ _ h1 (hm.mono (fun _ h _ => h) hsz1) hg, hm.block l _ h2 (by simpa [ctl] using hlt1), hrest_mv _ _ _ h3 hm⟩)
      ?_ ⟨hI1, hL1, fun k o _ ho _ _ => ho⟩).mono ?_
    · -- one round
      rintro O pre x W ⟨hi, hlW, hrW⟩ hO hpre
      have hy := run_yield (P := P) (args := encs x) hlW (by rw [hrec]; exact hps x)
      rw [hrec] at hy
      refine ⟨fn, _, assign, body, hy, roundIn_of_wpIn hfn (wpIn_mono (hround O pre x W ⟨_, hlW⟩ hi (fun j hj => ⟨(hO j hj).1.imp (fun h => h) (fun h => Nat.le_trans hsz1 h), (hO j hj).2⟩) hpre) ?_)⟩
      clear hy
      intro ex a' Wa hK
      cases ex with
      | normal =>
        obtain ⟨hca, hka, hbody⟩ := hK
        have hla := hca.2 l _ hl hlW rfl
        have hra := hrest_ctl _ _ hrW hca
        refine ⟨_, run_beginRound hla (by rw [hrec]), ?_⟩
        obtain ⟨Wb, hWb⟩ : ∃ Wb, Wa.putObj l (.loop { rec .ready none with state := .busy }) = Wb := ⟨_, rfl⟩
        have hmb : Mv none' w.heap.size Wa Wb := by rw [← hWb]; exact Mv.putObj _ _ _ _ hla rfl hl
        have hlb : Wb.heap[l]? = some (.loop { rec .ready none with state := .busy }) := by rw [← hWb]; exact World.putObj_heap_same (lt_of_some hla)
        have hrb : Rest Wb := by rw [← hWb]; exact hrest_put _ _ hra
        rw [hWb]
        have hkb : Keeps (fun j => R j ∨ O j) W Wb := hka.trans (hmb.keeps fun _ _ h => h)
        have hcb : ∀ k o, W1.heap.size ≤ k → W.heap[k]? = some o → ctl o = true → Wb.heap[k]? = some o := fun k o hk ho hc => by
          rw [← hWb, World.putObj_heap_other (by omega)]; exact hca.2 k o (by omega) ho hc
        refine wpIn_mono (hbody Wb hmb ⟨_, hlb⟩) ?_
        have fin : ∀ (jump : Option Code) (W3 : World), Ctl w.heap.size Wb W3 → Keeps (fun j => R j ∨ O j) Wb W3 →
            ∃ W4, (Instr.endRound l jump).run P W3 = .ok (.bool jump.isNone) W4 ∧ Mv none' w.heap.size W3 W4 ∧ W4.heap[l]? = some (.loop (rec (if jump.isNone then .ready else .done) jump)) ∧ Rest W4 ∧ Keeps (fun j => R j ∨ O j) W W4 ∧ Ctl W1.heap.size W W4 := fun jump W3 hc3 hk3 => by
          have hl3 := hc3.2 l _ hl hlb rfl
          have hr3 := run_endRound (P := P) jump hl3
          rw [hrec] at hr3
          refine ⟨_, hr3, Mv.putObj _ _ _ _ hl3 rfl hl, by rw [hrec]; exact World.putObj_heap_same (lt_of_some hl3), hrest_put _ _ (hrest_ctl _ _ hrb hc3), ?_, ?_, ?_⟩
          · exact (hkb.trans hk3).trans ((Mv.putObj (S := none') (B := w.heap.size) _ _ _ _ hl3 rfl hl).keeps fun _ _ h => h)
          · have h5 := (hkb.trans hk3).size
            simpa [World.putObj] using h5
          · intro k o hk ho hc
            rw [World.putObj_heap_other (by omega)]
            exact hc3.2 k o (by omega) (hcb k o hk ho hc) hc
        intro ex a3 W3 hp
        cases ex with
        | normal =>
          obtain ⟨hc3, hk3, hi3⟩ := hp
          obtain ⟨W4, hr4, hm4, hl4, hrr, hk4, hc4⟩ := fin none W3 hc3 hk3
          exact ⟨_, _, hr4, .inl ⟨rfl, ⟨hI _ _ _ _ _ hi3 (hm4.mono (fun i h _ => h.elim) (Nat.le_refl _)) (fun _ h => .inl h), hl4, hrr⟩, hk4, hc4⟩⟩
        | ret =>
          obtain ⟨hc3, hk3, hi3⟩ := hp
          obtain ⟨W4, hr4, hm4, hl4, hrr, hk4, hc4⟩ := fin (some .ret) W3 hc3 hk3
          exact ⟨_, _, hr4, .inr ⟨rfl, ⟨.ret, hIx _ _ _ _ _ _ hi3 (hm4.mono (fun i h _ => h.elim) (Nat.le_refl _)) (fun _ h => .inl h), hl4, hrr⟩, hk4, hc4⟩⟩
        | exit id =>
          obtain ⟨hc3, hk3, hi3⟩ := hp
          obtain ⟨W4, hr4, hm4, hl4, hrr, hk4, hc4⟩ := fin (some (.exit id)) W3 hc3 hk3
          exact ⟨_, _, hr4, .inr ⟨rfl, ⟨.exit id, hIx _ _ _ _ _ _ hi3 (hm4.mono (fun i h _ => h.elim) (Nat.le_refl _)) (fun _ h => .inl h), hl4, hrr⟩, hk4, hc4⟩⟩
        | goto t =>
          obtain ⟨hc3, hk3, hi3⟩ := hp
          obtain ⟨W4, hr4, hm4, hl4, hrr, hk4, hc4⟩ := fin (some (.goto t)) W3 hc3 hk3
          exact ⟨_, _, hr4, .inr ⟨rfl, ⟨.goto t, hIx _ _ _ _ _ _ hi3 (hm4.mono (fun i h _ => h.elim) (Nat.le_refl _)) (fun _ h => .inl h), hl4, hrr⟩, hk4, hc4⟩⟩
        | panic ch => exact hp.elim
        | outgrown => exact hp.elim
      | ret => exact hK.elim
      | exit id => exact hK.elim
      | goto t => exact hK.elim
      | panic ch => exact hK.elim
      | outgrown => exact hK.elim
    · -- behind the iterator
      rintro e W2 ⟨⟨v, rfl⟩, (⟨O, hi, hl2, hr2⟩ | ⟨O, pre, hpre, c, hi, hl2, hr2⟩)⟩
      · exact ⟨none, _, by have := run_endLoop (P := P) hl2 (by rw [hrec]; simp); rw [hrec] at this; exact this,
          hdone O _ (hI _ _ _ _ _ hi (Mv.putObj _ _ _ _ hl2 rfl hl) (fun _ h => .inl h)) (hrest_put _ _ hr2)⟩
      · exact ⟨some c, _, by have := run_endLoop (P := P) hl2 (by rw [hrec]; simp); rw [hrec] at this; exact this,
          hstop c O pre _ hpre (hIx c _ _ _ _ _ hi (Mv.putObj _ _ _ _ hl2 rfl hl) (fun _ h => .inl h)) (hrest_put _ _ hr2)⟩

/-- **A RANGE OVER A FUNCTION, IN NO ROUND OF ANOTHER ONE.** -/
theorem wpIn_range2 (hro : F.round = none) (h1 : 1 ≤ n) {gf : Nat} {lb : Array Value} (hg : a.eval g = .func (.func gf) #[] lb) (hFg : F.fn gf) (eg : ∀ args w, (callFunc gf args).run P w = .ok (.enter gf args) w)
    {encs : α → Array Value} {R O0 : Nat → Prop} {xs : List α} {w0 : World} (hseq : Iter2 F (n - 1) P gf lb encs R O0 xs w0) (hk0 : Keeps (fun j => R j ∨ O0 j) w0 w) (hps : ∀ x, (encs x).size = ps.size)
    (I : (Nat → Prop) → List α → World → Prop) (Ix : Code → (Nat → Prop) → List α → World → Prop)
    (hI : ∀ O O' s A A', I O s A → Mv O w.heap.size A A' → (∀ j, O' j → O j ∨ A.heap.size ≤ j) → I O' s A') (hIx : ∀ c O O' s A A', Ix c O s A → Mv O w.heap.size A A' → (∀ j, O' j → O j ∨ A.heap.size ≤ j) → Ix c O' s A') (h0 : I O0 [] w)
    (hround : ∀ (l : Nat) (O : Nat → Prop) (pre : List α) (x : α) (W : World), w.heap.size ≤ l → (∃ r, W.heap[l]? = some (.loop r)) → I O pre W → (∀ j, O j → (O0 j ∨ w.heap.size ≤ j) ∧ j < W.heap.size) → pre ++ [x] <+: xs →
      assign.wpIn (F.inRound l) (n - 1 - 1) P (Exit.then (fun a' Wa => Ctl w.heap.size W Wa ∧ Keeps (fun j => R j ∨ O j) W Wa ∧ ∀ Wb, Mv none' w.heap.size Wa Wb → (∃ r, Wb.heap[l]? = some (.loop r)) →
          body.wpIn (F.inRound l) (n - 1 - 1) P (outPost2 w.heap.size (fun j => R j ∨ O j) (I O) (fun c => Ix c O) (pre ++ [x]) Wb) a' Wb) (fun _ _ _ => False))
        { tmps := (ps.zip (encs x)).foldl (fun t (p, v) => t.setIfInBounds p v) a.tmps, defers := [] } W)
    (hdone : ∀ (D : Nat) (O : Nat → Prop) (W : World), w.heap.size ≤ D → I O xs W → W.heap[D]? = some (.deferred (some [])) → Q .normal { a with defers := { target := .collected D, args := #[] } :: a.defers } W)
    (hstop : ∀ (D : Nat) (c : Code) (O : Nat → Prop) (pre : List α) (W : World), w.heap.size ≤ D → pre <+: xs → Ix c O pre W → W.heap[D]? = some (.deferred (some [])) → c.wpIn F n P Q { a with defers := { target := .collected D, args := #[] } :: a.defers } W) :
    (Code.rangeFunc g ps assign body).wpIn F n P Q a w := by
  have hK : ∀ fn, ((w.alloc (.deferred (some []))).alloc (.loop { state := .ready, pending := none, fn, tmps := a.tmps, params := ps, assign, body, defers := w.heap.size })).heap[w.heap.size]? = some (.deferred (some [])) := fun fn =>
    (Below.heap_alloc _ _ _ (by simp)).trans (World.alloc_heap_new w _)
  refine wpIn_range_core2 (w.heap.size + 1) w.heap.size [{ target := .collected w.heap.size, args := #[] }]
    (fun fn => (w.alloc (.deferred (some []))).alloc (.loop { state := .ready, pending := none, fn, tmps := a.tmps, params := ps, assign, body, defers := w.heap.size }))
    (fun fn => by rw [hro]; exact run_enterLoop_outer _ _ _ _ _) (fun fn => ?_) (fun fn => ((Mod.refl _ w).alloc _).alloc _) (by omega) h1 hg hFg eg hseq hk0 hps I Ix hI hIx h0
    (fun O pre x W => hround _ O pre x W (by omega)) (fun O W hi hk => ?_) (fun c O pre W hp hi hk => ?_) (fun fn fn' k hk => ?_)
  · have := World.alloc_heap_new (w.alloc (.deferred (some []))) (.loop { state := .ready, pending := none, fn, tmps := a.tmps, params := ps, assign, body, defers := w.heap.size })
    rwa [World.size_alloc] at this
  · exact hdone _ O W (Nat.le_refl _) hi (hk 0 _ _ (Nat.le_refl _) (hK 0) rfl (by omega))
  · exact hstop _ c O pre W (Nat.le_refl _) hp hi (hk 0 _ _ (Nat.le_refl _) (hK 0) rfl (by omega))
  · show (Array.push _ _)[k]? = (Array.push _ _)[k]?
    simp only [Array.getElem?_push]
    have : (w.alloc (.deferred (some []))).heap.size = w.heap.size + 1 := by simp
    rw [if_neg (by omega), if_neg (by omega)]

/-- **A RANGE OVER A FUNCTION IN A ROUND OF ANOTHER ONE.** -/
theorem wpIn_range_in2 {l₀ : Nat} {r₀ : Loop} (hro : F.round = some l₀) (hl₀ : w.heap[l₀]? = some (.loop r₀)) (h1 : 1 ≤ n) {gf : Nat} {lb : Array Value} (hg : a.eval g = .func (.func gf) #[] lb) (hFg : F.fn gf) (eg : ∀ args w, (callFunc gf args).run P w = .ok (.enter gf args) w)
    {encs : α → Array Value} {R O0 : Nat → Prop} {xs : List α} {w0 : World} (hseq : Iter2 F (n - 1) P gf lb encs R O0 xs w0) (hk0 : Keeps (fun j => R j ∨ O0 j) w0 w) (hps : ∀ x, (encs x).size = ps.size)
    (I : (Nat → Prop) → List α → World → Prop) (Ix : Code → (Nat → Prop) → List α → World → Prop)
    (hI : ∀ O O' s A A', I O s A → Mv O w.heap.size A A' → (∀ j, O' j → O j ∨ A.heap.size ≤ j) → I O' s A') (hIx : ∀ c O O' s A A', Ix c O s A → Mv O w.heap.size A A' → (∀ j, O' j → O j ∨ A.heap.size ≤ j) → Ix c O' s A') (h0 : I O0 [] w)
    (hround : ∀ (l : Nat) (O : Nat → Prop) (pre : List α) (x : α) (W : World), w.heap.size ≤ l → (∃ r, W.heap[l]? = some (.loop r)) → I O pre W → (∀ j, O j → (O0 j ∨ w.heap.size ≤ j) ∧ j < W.heap.size) → pre ++ [x] <+: xs →
      assign.wpIn (F.inRound l) (n - 1 - 1) P (Exit.then (fun a' Wa => Ctl w.heap.size W Wa ∧ Keeps (fun j => R j ∨ O j) W Wa ∧ ∀ Wb, Mv none' w.heap.size Wa Wb → (∃ r, Wb.heap[l]? = some (.loop r)) →
          body.wpIn (F.inRound l) (n - 1 - 1) P (outPost2 w.heap.size (fun j => R j ∨ O j) (I O) (fun c => Ix c O) (pre ++ [x]) Wb) a' Wb) (fun _ _ _ => False))
        { tmps := (ps.zip (encs x)).foldl (fun t (p, v) => t.setIfInBounds p v) a.tmps, defers := [] } W)
    (hdone : ∀ (O : Nat → Prop) (W : World), I O xs W → Q .normal a W)
    (hstop : ∀ (c : Code) (O : Nat → Prop) (pre : List α) (W : World), pre <+: xs → Ix c O pre W → c.wpIn F n P Q a W) :
    (Code.rangeFunc g ps assign body).wpIn F n P Q a w := by
  refine wpIn_range_core2 w.heap.size r₀.defers []
    (fun fn => w.alloc (.loop { state := .ready, pending := none, fn, tmps := a.tmps, params := ps, assign, body, defers := r₀.defers }))
    (fun fn => by rw [hro]; exact run_enterLoop_inner hl₀ _ _ _ _ _) (fun fn => World.alloc_heap_new _ _) (fun fn => (Mod.refl _ w).alloc _) (Nat.le_refl _) h1 hg hFg eg hseq hk0 hps I Ix hI hIx h0
    (fun O pre x W => hround _ O pre x W (Nat.le_refl _)) (fun O W hi _ => hdone O W hi) (fun c O pre W hp hi _ => hstop c O pre W hp hi) (fun fn fn' k hk => ?_)
  show (Array.push _ _)[k]? = (Array.push _ _)[k]?
  simp only [Array.getElem?_push]
  rw [if_neg (by omega), if_neg (by omega)]
end
end Go.Proofs.Ytkjpkhpiojahkaa

/-! ### What lies in memory, piece beside piece: each piece has blocks of its own. Over any program. -/
namespace Go.Proofs.Ytkjpkhpiojahkaa
set_option linter.unusedVariables false
open Go.RowKit

/-- a piece of memory: what is said of the world, of blocks F -/
structure Ast where
  holds : World → (Nat → Prop) → Prop
  stable : ∀ {w w' : World} {F S : Nat → Prop}, holds w F → Mod S w w' → (∀ j, F j → ¬ S j) → holds w' F
  lt : ∀ {w : World} {F : Nat → Prop} {j : Nat}, holds w F → F j → j < w.heap.size

/-- two pieces beside one another -/
def sep (A B : Ast) : Ast where
  holds w F := ∃ Fa Fb, A.holds w Fa ∧ B.holds w Fb ∧ (∀ j, Fa j → ¬ Fb j) ∧ ∀ j, F j ↔ Fa j ∨ Fb j
  stable := fun ⟨Fa, Fb, h1, h2, h3, h4⟩ hm hS => ⟨Fa, Fb, A.stable h1 hm fun j hj => hS j ((h4 j).2 (.inl hj)), B.stable h2 hm fun j hj => hS j ((h4 j).2 (.inr hj)), h3, h4⟩
  lt := fun ⟨Fa, Fb, h1, h2, _, h4⟩ hj => by
    rcases (h4 _).1 hj with h | h
    · exact A.lt h1 h
    · exact B.lt h2 h

/-- what a call does to the blocks F: the piece B is there then -/
def Step (F : Nat → Prop) (w w' : World) (B : Ast) : Prop := ∃ F', B.holds w' F' ∧ Mod F w w' ∧ ∀ j, F' j → F j ∨ w.heap.size ≤ j

section
variable {A B C R : Ast} {F Fa : Nat → Prop} {w w' w'' w0 : World} {P : Program} {f : FuncId} {args : Array Value} {Q : Ending → Prop}

theorem Step.refl (h : A.holds w F) : Step F w w A := ⟨F, h, Mod.refl _ _, fun _ h => .inl h⟩
theorem Step.below (h : A.holds w F) (hb : Below w.heap.size w w') : Step F w w' A := ⟨F, A.stable (S := none') h (Mod.of_below hb) fun _ _ h => h, Mod.of_below hb, fun _ h => .inl h⟩
theorem Step.trans (h : Step F w w' B) (k : ∀ F', B.holds w' F' → Step F' w' w'' C) : Step F w w'' C := by
  obtain ⟨F', h1, h2, h3⟩ := h
  obtain ⟨F2, k1, k2, k3⟩ := k F' h1
  exact ⟨F2, k1, h2.trans k2 (fun j hj hl => (h3 j hj).resolve_right (by omega)), fun j hj => (k3 j hj).elim (h3 j) fun hle => .inr (by have := h2.size; omega)⟩
theorem Step.mono (h : Step F w w' B) (k : ∀ F', B.holds w' F' → C.holds w' F') : Step F w w' C := by
  obtain ⟨F', h1, h2, h3⟩ := h
  exact ⟨F', k F' h1, h2, h3⟩
theorem sep_comm (h : (sep A B).holds w F) : (sep B A).holds w F := by
  obtain ⟨Fa, Fb, h1, h2, h3, h4⟩ := h
  exact ⟨Fb, Fa, h2, h1, fun j hb ha => h3 j ha hb, fun j => (h4 j).trans or_comm⟩
theorem sep_assoc (h : (sep (sep A B) C).holds w F) : (sep A (sep B C)).holds w F := by
  obtain ⟨Fab, Fc, ⟨Fa, Fb, a1, a2, a3, a4⟩, h2, h3, h4⟩ := h
  refine ⟨Fa, fun j => Fb j ∨ Fc j, a1, ⟨Fb, Fc, a2, h2, fun j hb hc => h3 j ((a4 j).2 (.inr hb)) hc, fun j => Iff.rfl⟩, fun j ha hbc => ?_, fun j => ?_⟩
  · rcases hbc with hb | hc
    · exact a3 j ha hb
    · exact h3 j ((a4 j).2 (.inl ha)) hc
  · rw [h4, a4]
    constructor
    · rintro ((h | h) | h)
      · exact .inl h
      · exact .inr (.inl h)
      · exact .inr (.inr h)
    · rintro (h | h | h)
      · exact .inl (.inl h)
      · exact .inl (.inr h)
      · exact .inr h
theorem sep_assoc' (h : (sep A (sep B C)).holds w F) : (sep (sep A B) C).holds w F :=
  sep_comm (sep_assoc (sep_comm (sep_assoc (sep_comm h))))
theorem sep_mono (h : (sep A R).holds w F) (k : ∀ F', A.holds w F' → B.holds w F') : (sep B R).holds w F := by
  obtain ⟨Fa, Fb, h1, h2, h3, h4⟩ := h
  exact ⟨Fa, Fb, k _ h1, h2, h3, h4⟩
theorem sep_left (h : (sep A (sep B C)).holds w F) : (sep B (sep A C)).holds w F :=
  sep_assoc (sep_mono (sep_assoc' h) fun _ h => sep_comm h)
theorem sep_monoR (h : (sep R A).holds w F) (k : ∀ F', A.holds w F' → B.holds w F') : (sep R B).holds w F := sep_comm (sep_mono (sep_comm h) k)
/-- what happens to one piece leaves the other -/
theorem Step.frame (h : (sep A R).holds w F) (k : ∀ F', A.holds w F' → Step F' w w' B) : Step F w w' (sep B R) := by
  obtain ⟨Fa, Fr, h1, h2, h3, h4⟩ := h
  obtain ⟨F', k1, k2, k3⟩ := k Fa h1
  refine ⟨fun j => F' j ∨ Fr j, ⟨F', Fr, k1, R.stable h2 k2 fun j hr ha => h3 j ha hr, fun j hj hr => ?_, fun j => Iff.rfl⟩, k2.mono fun j hj _ => (h4 j).2 (.inl hj), fun j hj => ?_⟩
  · rcases k3 j hj with h | h
    · exact h3 j h hr
    · have := R.lt h2 hr; omega
  · rcases hj with hj | hj
    · exact (k3 j hj).imp (fun h => (h4 j).2 (.inl h)) id
    · exact .inl ((h4 j).2 (.inr hj))

/-- behind w0, all that is new lies in these pieces (or is nobody's) -/
def On (w0 w : World) (A : Ast) : Prop := ∃ F, A.holds w F ∧ Below w0.heap.size w0 w ∧ ∀ j, F j → w0.heap.size ≤ j

theorem below_mod {S : Nat → Prop} (h : Below w0.heap.size w0 w) (hm : Mod S w w') (hS : ∀ j, S j → w0.heap.size ≤ j) : Below w0.heap.size w0 w' :=
  ((Mod.of_below (S := none') h).trans hm fun j hj hl => by have := hS j hj; omega).to_below
theorem On.step (h : On w0 w A) (k : ∀ F, A.holds w F → Step F w w' B) : On w0 w' B := by
  obtain ⟨F, h1, h2, h3⟩ := h
  obtain ⟨F', k1, k2, k3⟩ := k F h1
  exact ⟨F', k1, below_mod h2 k2 h3, fun j hj => (k3 j hj).elim (h3 j) fun hle => by have := h2.size; omega⟩
theorem On.step1 (h : On w0 w (sep A R)) (k : ∀ F, A.holds w F → Step F w w' B) : On w0 w' (sep B R) := h.step fun _ hF => Step.frame hF k
theorem On.mono (h : On w0 w A) (k : ∀ F, A.holds w F → B.holds w F) : On w0 w B := by
  obtain ⟨F, h1, h2, h3⟩ := h
  exact ⟨F, k F h1, h2, h3⟩
theorem On.mono1 (h : On w0 w (sep A R)) (k : ∀ F, A.holds w F → B.holds w F) : On w0 w (sep B R) := h.mono fun _ hF => sep_mono hF k
theorem On.comm (h : On w0 w (sep A B)) : On w0 w (sep B A) := h.mono fun _ => sep_comm
theorem On.left (h : On w0 w (sep A (sep B C))) : On w0 w (sep B (sep A C)) := h.mono fun _ => sep_left
theorem On.third {D : Ast} (h : On w0 w (sep A (sep B (sep C D)))) : On w0 w (sep C (sep A (sep B D))) := h.mono fun _ h => sep_left (sep_monoR h fun _ => sep_left)
theorem On.fourth {D E : Ast} (h : On w0 w (sep A (sep B (sep C (sep D E))))) : On w0 w (sep D (sep A (sep B (sep C E)))) := h.mono fun _ h => sep_left (sep_monoR h fun _ h => sep_left (sep_monoR h fun _ => sep_left))
theorem On.sink2 {D : Ast} (h : On w0 w (sep C (sep A (sep B D)))) : On w0 w (sep A (sep B (sep C D))) := h.mono fun _ h => sep_monoR (sep_left h) fun _ => sep_left
theorem On.sink3 {D E : Ast} (h : On w0 w (sep D (sep A (sep B (sep C E))))) : On w0 w (sep A (sep B (sep C (sep D E)))) := h.mono fun _ h => sep_monoR (sep_left h) fun _ h => sep_monoR (sep_left h) fun _ => sep_left
theorem On.assoc (h : On w0 w (sep (sep A B) C)) : On w0 w (sep A (sep B C)) := h.mono fun _ => sep_assoc
theorem On.assoc' (h : On w0 w (sep A (sep B C))) : On w0 w (sep (sep A B) C) := h.mono fun _ => sep_assoc'
theorem On.below (h : On w0 w A) (hb : Below w.heap.size w w') : On w0 w' A := h.step fun _ hF => Step.below hF hb
theorem On.to_below (h : On w0 w A) : Below w0.heap.size w0 w := by
  obtain ⟨F, _, h2, _⟩ := h
  exact h2
theorem On.get (h : On w0 w A) : ∃ F, A.holds w F ∧ ∀ j, F j → w0.heap.size ≤ j := by
  obtain ⟨F, h1, _, h3⟩ := h
  exact ⟨F, h1, h3⟩
theorem On.get1 (h : On w0 w (sep A R)) : ∃ F, A.holds w F ∧ ∀ j, F j → w0.heap.size ≤ j := by
  obtain ⟨F, ⟨Fa, Fb, h1, _, _, h4⟩, _, h3⟩ := h
  exact ⟨Fa, h1, fun j hj => h3 j ((h4 j).2 (.inl hj))⟩
theorem On.out1 (h : On w0 w (sep A R)) : On w0 w R := by
  obtain ⟨F, ⟨Fa, Fb, _, h1, _, h4⟩, h2, h3⟩ := h
  exact ⟨Fb, h1, h2, fun j hj => h3 j ((h4 j).2 (.inr hj))⟩
/-- a piece more, of new blocks -/
theorem On.add (h : On w0 w A) (hb : Below w.heap.size w w') (hB : B.holds w' F) (hF : ∀ j, F j → w.heap.size ≤ j) : On w0 w' (sep B A) := by
  obtain ⟨Fa, h1, h2, h3⟩ := h
  refine ⟨fun j => F j ∨ Fa j, ⟨F, Fa, hB, A.stable (S := none') h1 (Mod.of_below hb) (fun _ _ h => h), fun j hj ha => ?_, fun j => Iff.rfl⟩, h2.trans (hb.mono h2.size), fun j hj => ?_⟩
  · have := hF j hj
    have := A.lt h1 ha
    omega
  · rcases hj with hj | hj
    · have := hF j hj
      have := h2.size
      omega
    · exact h3 j hj
theorem On.first (hb : Below w0.heap.size w0 w) (hB : B.holds w F) (hF : ∀ j, F j → w0.heap.size ≤ j) : On w0 w B := ⟨F, hB, hb, hF⟩
theorem On.call (h : On w0 w A) (k : ∀ F, A.holds w F → Calls P f args w fun e w' => Q e ∧ Step F w w' B) : Calls P f args w fun e w' => Q e ∧ On w0 w' B := by
  obtain ⟨F, h1, h2, h3⟩ := h
  exact (k F h1).mono fun e w' ⟨q, F', k1, k2, k3⟩ => ⟨q, F', k1, below_mod h2 k2 h3, fun j hj => (k3 j hj).elim (h3 j) fun hle => by have := h2.size; omega⟩
theorem On.call1 (h : On w0 w (sep A R)) (k : ∀ F, A.holds w F → Calls P f args w fun e w' => Q e ∧ Step F w w' B) : Calls P f args w fun e w' => Q e ∧ On w0 w' (sep B R) := by
  obtain ⟨F, hF, h2, h3⟩ := h
  obtain ⟨Fa, Fr, a1, a2, a3, a4⟩ := hF
  refine (k Fa a1).mono fun e w' ⟨q, hs⟩ => ⟨q, ?_⟩
  have hst : Step F w w' (sep B R) := by
    obtain ⟨F', k1, k2, k3⟩ := hs
    refine ⟨fun j => F' j ∨ Fr j, ⟨F', Fr, k1, R.stable a2 k2 fun j hr ha => a3 j ha hr, fun j hj hr => ?_, fun j => Iff.rfl⟩, k2.mono fun j hj _ => (a4 j).2 (.inl hj), fun j hj => ?_⟩
    · rcases k3 j hj with h | h
      · exact a3 j h hr
      · have := R.lt a2 hr; omega
    · rcases hj with hj | hj
      · exact (k3 j hj).imp (fun h => (a4 j).2 (.inl h)) id
      · exact .inl ((a4 j).2 (.inr hj))
  obtain ⟨F', k1, k2, k3⟩ := hst
  exact ⟨F', k1, below_mod h2 k2 h3, fun j hj => (k3 j hj).elim (h3 j) fun hle => by have := h2.size; omega⟩
end

/-- a row of the call's own -/
def rowA (v : Value) (t size n : Nat) (xs : List Value) : Ast where
  holds w F := w.ownsRow 0 t size v n xs ∧ ∀ j, F j ↔ v.ownBlock = some j
  stable := fun ⟨h1, h2⟩ hm hS => ⟨own_same h1 fun j o hj ho _ => hm.obj ho (hS j ((h2 j).2 hj)), h2⟩
  lt := fun ⟨h1, h2⟩ hj => own_lt h1 ((h2 _).1 hj)
theorem rowA_of {w : World} {B g n cp t size : Nat} {xs : List Value} (h : w.ownsRow B t size (.slice (some ⟨g, 0, none⟩) n cp) n xs) : (rowA (.slice (some ⟨g, 0, none⟩) n cp) t size n xs).holds w (fun j => j = g) :=
  ⟨⟨h.1, h.2.imp id fun ⟨g', cap, cur, h1, _, h3⟩ => ⟨g', cap, cur, h1, Nat.zero_le _, h3⟩⟩, fun j => by simp [Value.ownBlock, eq_comm]⟩
/-- a block of cells of the call's own -/
def boxA (b t : Nat) (cs : Array Value) : Ast where
  holds w F := w.heap[b]? = some (.cells cs t (0, 0)) ∧ ∀ j, F j ↔ j = b
  stable := fun ⟨h1, h2⟩ hm hS => ⟨hm.obj h1 (hS b ((h2 b).2 rfl)), h2⟩
  lt := fun ⟨h1, h2⟩ hj => by rw [(h2 _).1 hj]; exact lt_of_some h1

theorem boxA_cell {w : World} {b t : Nat} {cs : Array Value} {F : Nat → Prop} (h : (boxA b t cs).holds w F) (k : Nat) : w.cell? ⟨b, k, none⟩ = cs[k]? := by
  simp [World.cell?, h.1]
theorem boxA_free {w : World} {b t : Nat} {cs : Array Value} {F : Nat → Prop} (h : (boxA b t cs).holds w F) (k : Nat) : w.frozen? ⟨b, k, none⟩ = false := by
  simp [World.frozen?, h.1]
theorem boxA_set {w : World} {b t : Nat} {cs : Array Value} {F : Nat → Prop} (h : (boxA b t cs).holds w F) (k : Nat) (v : Value) : Step F w (w.setCell ⟨b, k, none⟩ v) (boxA b t (cs.setIfInBounds k v)) := by
  refine ⟨F, ⟨?_, h.2⟩, (Mod.refl F w).setCell (p := ⟨b, k, none⟩) (fun _ => (h.2 b).2 rfl) _, fun _ h => .inl h⟩
  simp [World.setCell, Array.getElem?_modify, h.1]
theorem boxA_new (w : World) (t : Nat) (cs : Array Value) : (boxA w.heap.size t cs).holds (w.alloc (.cells cs t)) (fun j => j = w.heap.size) :=
  ⟨heap_alloc_new w _, fun _ => Iff.rfl⟩
theorem rowA_set {w : World} {g n cp i t size : Nat} {xs : List Value} {F : Nat → Prop} {y : Value} (h : (rowA (.slice (some ⟨g, 0, none⟩) n cp) t size n xs).holds w F) :
    Step F w (w.setCell ⟨g, i, none⟩ y) (rowA (.slice (some ⟨g, 0, none⟩) n cp) t size n (xs.set i y)) :=
  ⟨F, ⟨own_setG h.1, h.2⟩, (Mod.refl F w).setCell (p := ⟨g, i, none⟩) (fun _ => (h.2 g).2 rfl) _, fun _ h => .inl h⟩
end Go.Proofs.Ytkjpkhpiojahkaa

/-! ### Pieces beside one another: two neighbours change places. Over any program. -/
namespace Go.Proofs.Ytkjpkhpiojahkaa
set_option linter.unusedVariables false
open Go.RowKit
theorem On.sw0 {w0 w : World} {A0 A1 R : Ast} (h : On w0 w (sep A0 (sep A1 R))) : On w0 w (sep A1 (sep A0 R)) := h.mono (fun _ h => sep_left h)
theorem On.sw1 {w0 w : World} {A0 A1 A2 R : Ast} (h : On w0 w (sep A0 (sep A1 (sep A2 R)))) : On w0 w (sep A0 (sep A2 (sep A1 R))) := h.mono (fun _ h => sep_monoR h fun _ h => sep_left h)
theorem On.sw2 {w0 w : World} {A0 A1 A2 A3 R : Ast} (h : On w0 w (sep A0 (sep A1 (sep A2 (sep A3 R))))) : On w0 w (sep A0 (sep A1 (sep A3 (sep A2 R)))) := h.mono (fun _ h => sep_monoR h fun _ h => sep_monoR h fun _ h => sep_left h)
theorem On.sw3 {w0 w : World} {A0 A1 A2 A3 A4 R : Ast} (h : On w0 w (sep A0 (sep A1 (sep A2 (sep A3 (sep A4 R)))))) : On w0 w (sep A0 (sep A1 (sep A2 (sep A4 (sep A3 R))))) := h.mono (fun _ h => sep_monoR h fun _ h => sep_monoR h fun _ h => sep_monoR h fun _ h => sep_left h)
theorem On.sw4 {w0 w : World} {A0 A1 A2 A3 A4 A5 R : Ast} (h : On w0 w (sep A0 (sep A1 (sep A2 (sep A3 (sep A4 (sep A5 R))))))) : On w0 w (sep A0 (sep A1 (sep A2 (sep A3 (sep A5 (sep A4 R)))))) := h.mono (fun _ h => sep_monoR h fun _ h => sep_monoR h fun _ h => sep_monoR h fun _ h => sep_monoR h fun _ h => sep_left h)
theorem On.sw5 {w0 w : World} {A0 A1 A2 A3 A4 A5 A6 R : Ast} (h : On w0 w (sep A0 (sep A1 (sep A2 (sep A3 (sep A4 (sep A5 (sep A6 R)))))))) : On w0 w (sep A0 (sep A1 (sep A2 (sep A3 (sep A4 (sep A6 (sep A5 R))))))) := h.mono (fun _ h => sep_monoR h fun _ h => sep_monoR h fun _ h => sep_monoR h fun _ h => sep_monoR h fun _ h => sep_monoR h fun _ h => sep_left h)
theorem On.sw6 {w0 w : World} {A0 A1 A2 A3 A4 A5 A6 A7 R : Ast} (h : On w0 w (sep A0 (sep A1 (sep A2 (sep A3 (sep A4 (sep A5 (sep A6 (sep A7 R))))))))) : On w0 w (sep A0 (sep A1 (sep A2 (sep A3 (sep A4 (sep A5 (sep A7 (sep A6 R)))))))) := h.mono (fun _ h => sep_monoR h fun _ h => sep_monoR h fun _ h => sep_monoR h fun _ h => sep_monoR h fun _ h => sep_monoR h fun _ h => sep_monoR h fun _ h => sep_left h)
theorem On.sw7 {w0 w : World} {A0 A1 A2 A3 A4 A5 A6 A7 A8 R : Ast} (h : On w0 w (sep A0 (sep A1 (sep A2 (sep A3 (sep A4 (sep A5 (sep A6 (sep A7 (sep A8 R)))))))))) : On w0 w (sep A0 (sep A1 (sep A2 (sep A3 (sep A4 (sep A5 (sep A6 (sep A8 (sep A7 R))))))))) := h.mono (fun _ h => sep_monoR h fun _ h => sep_monoR h fun _ h => sep_monoR h fun _ h => sep_monoR h fun _ h => sep_monoR h fun _ h => sep_monoR h fun _ h => sep_monoR h fun _ h => sep_left h)
theorem On.sw8 {w0 w : World} {A0 A1 A2 A3 A4 A5 A6 A7 A8 A9 R : Ast} (h : On w0 w (sep A0 (sep A1 (sep A2 (sep A3 (sep A4 (sep A5 (sep A6 (sep A7 (sep A8 (sep A9 R))))))))))) : On w0 w (sep A0 (sep A1 (sep A2 (sep A3 (sep A4 (sep A5 (sep A6 (sep A7 (sep A9 (sep A8 R)))))))))) := h.mono (fun _ h => sep_monoR h fun _ h => sep_monoR h fun _ h => sep_monoR h fun _ h => sep_monoR h fun _ h => sep_monoR h fun _ h => sep_monoR h fun _ h => sep_monoR h fun _ h => sep_monoR h fun _ h => sep_left h)
section
variable {w0 w : World} {R : Ast} {bn t : Nat} {cs : Array Value}
theorem On.box1 (h : On w0 w (sep (boxA bn t cs) R)) (k : Nat) : w.cell? ⟨bn, k, none⟩ = cs[k]? ∧ w.frozen? ⟨bn, k, none⟩ = false := by
  obtain ⟨F, hF, _⟩ := h.get1
  exact ⟨boxA_cell hF k, boxA_free hF k⟩
theorem On.box_set (h : On w0 w (sep (boxA bn t cs) R)) (k : Nat) (v : Value) : On w0 (w.setCell ⟨bn, k, none⟩ v) (sep (boxA bn t (cs.setIfInBounds k v)) R) := h.step1 fun _ hF => boxA_set hF k v
/-- a round that turns one box alone -/
theorem On.box_mod {w' : World} {cs' : Array Value} (h : On w0 w (sep (boxA bn t cs) R)) (hm : Mod (fun j => j = bn) w w') (ho : w'.heap[bn]? = some (.cells cs' t (0, 0))) : On w0 w' (sep (boxA bn t cs') R) :=
  h.step1 fun F hF => ⟨F, ⟨ho, hF.2⟩, hm.mono fun j hj _ => (hF.2 j).2 hj, fun _ h => .inl h⟩
theorem On.new1 (h : On w0 w R) (t : Nat) (cs : Array Value) : On w0 (w.alloc (.cells cs t)) (sep (boxA w.heap.size t cs) R) :=
  h.add ((Below.refl _ w).alloc (Nat.le_refl _) _) (boxA_new w t cs) (fun j hj => by omega)
theorem On.obj1 (h : On w0 w (sep (boxA bn t cs) R)) : w.heap[bn]? = some (.cells cs t (0, 0)) := by
  obtain ⟨F, hF, _⟩ := h.get1
  exact hF.1
end
end Go.Proofs.Ytkjpkhpiojahkaa

/-! ### append onto a row of the call's own, out of whatever slice reads as a list. Over any program. -/
namespace Go.Proofs.Ytkjpkhpiojahkaa
set_option linter.unusedVariables false
open Go.RowKit

/-- a slice value that reads as m elements, their cells news -/
def Reads (w : World) (x : Value) (size m : Nat) (news : List Value) : Prop :=
  (x = .slice none 0 0 ∧ m = 0 ∧ news = []) ∨ ∃ ad c, x = .slice (some ad) m c ∧ news.length = m * size ∧ ∀ j u, news[j]? = some u → w.cell? (ad.add j) = some u

section
variable {P : Program} {w w' : World}
theorem Reads.below {B : Nat} {x : Value} {size m : Nat} {news : List Value} (h : Reads w x size m news) (hB : w.heap.size ≤ B) (hb : Below B w w') : Reads w' x size m news := by
  rcases h with h | ⟨ad, c, h1, h2, h3⟩
  · exact .inl h
  · refine .inr ⟨ad, c, h1, h2, fun j u hu => ?_⟩
    have := h3 j u hu
    have hlt := World.block_lt_of_cell? w _ this
    exact (hb.cell (by omega)).trans this
theorem run_append_any (base : Nat) (t ty e : TypeId) (i : TypeInfo) (z : Value) (size bytes : Nat) (ht : P.underlying t = some (.slice e)) (hi : P.info? e = some i) (hz : i.zero = some z)
    (hsize : i.size = size) (hby : i.bytes = bytes) (hzs : z.cells.size = size) (hsz : 0 < size)
    (v : Value) (n : Nat) (xs : List Value) (hown : w.ownsRow base e size v n xs)
    (x : Value) (m : Nat) (news : List Value) (hx : Reads w x size m news) (h1 : ∀ u ∈ news, u.oneCell' = true)
    (h63 : n + m ≤ maxLen) (hbytes : (n + m) * bytes ≤ 140737488355328) (hbase : base ≤ w.heap.size) :
    ∃ v' w', (Builtin.append_ #[t, t] ty #[v, x]).run P w = .ok v' w' ∧ w'.ownsRow base e size v' (n + m) (xs ++ news) ∧ w.grownBy w' v.ownBlock ∧ (v'.ownBlock = v.ownBlock ∨ v'.ownBlock = some w.heap.size) := by
  rcases hx with ⟨rfl, rfl, rfl⟩ | ⟨ad, c, rfl, hl, hn⟩
  · refine ⟨v, w, ?_, by simpa using hown, ⟨rfl, rfl, rfl, Nat.le_refl _, fun _ _ _ => rfl⟩, .inl rfl⟩
    rcases own_parts hown with ⟨rfl, rfl⟩ | ⟨g, cap, cur, rfl, _, _, hlc, _⟩
    · simp [Builtin.append_, run_underlying ht, sizeOf, typeInfo, hi, Builtin.lenOf, Builtin.firstCells]
    · simp [Builtin.append_, run_underlying ht, sizeOf, typeInfo, hi, Builtin.lenOf, Builtin.firstCells, loadCells, hlc, storeCells]
  · obtain ⟨v', w', h2, h3, h4, _, h5⟩ := run_append_own_at (P := P) w base t ty e i z size bytes ht hi hz hsize hby hzs hsz v n xs hown ad m c news hl hn h1 h63 hbytes hbase
    exact ⟨v', w', h2, h3, h4, h5⟩

/-- the element type of a slice type, in one fact: type t is a slice of e's, of so many cells and bytes -/
structure SliceOf (P : Program) (t e size bytes : Nat) : Prop where
  under : P.underlying t = some (.slice e)
  info : ∃ i z, P.info? e = some i ∧ i.zero = some z ∧ i.size = size ∧ i.bytes = bytes ∧ z.cells.size = size
  pos : 0 < size

theorem wp_append_any {o : Oper} {a : Act} {K : Act → World → Prop} {Q : Exit → Act → World → Prop} (s x : Operand) (t : TypeId)
    (ho : o.op = .call { callee := .builtin .append, args := #[s, x], argTypes := #[t, t] }) (e size bytes : Nat) (hT : SliceOf P t e size bytes)
    (v : Value) (n : Nat) (xs : List Value) (hs : a.eval s = v) (hown : w.ownsRow 0 e size v n xs)
    (y : Value) (m : Nat) (news : List Value) (hx : a.eval x = y) (hy : Reads w y size m news) (h1 : ∀ u ∈ news, u.oneCell' = true)
    (h63 : n + m ≤ maxLen) (hbytes : (n + m) * bytes ≤ 140737488355328)
    (h : ∀ v' w', w'.ownsRow 0 e size v' (n + m) (xs ++ news) → w.grownBy w' v.ownBlock → (v'.ownBlock = v.ownBlock ∨ v'.ownBlock = some w.heap.size) → K (a.put o.dst v') w') : o.wp P a w K Q := by
  obtain ⟨i, z, hi, hz, hz1, hz2, hz3⟩ := hT.info
  obtain ⟨v', w', hr, h2, h3, h5⟩ := run_append_any (P := P) 0 t o.type e i z size bytes hT.under hi hz hz1 hz2 hz3 hT.pos v n xs hown y m news hy h1 h63 hbytes (Nat.zero_le _)
  unfold Oper.wp execOp
  simp only [ho, resolve, invoke, builtin, Sem.run_bind, Sem.run_pure, Result.andThen_ok, List.map_toArray, List.map_cons, List.map_nil, hs, hx, hr]
  exact h v' w' h2 h3 h5
theorem wpList_append_any {ops : Array Oper} {rest : List Oper} {o : Oper} {a : Act} {Q : Exit → Act → World → Prop} (hgd : o.guard = none) (s x : Operand) (t : TypeId)
    (ho : o.op = .call { callee := .builtin .append, args := #[s, x], argTypes := #[t, t] }) (e size bytes : Nat) (hT : SliceOf P t e size bytes)
    (v : Value) (n : Nat) (xs : List Value) (hs : a.eval s = v) (hown : w.ownsRow 0 e size v n xs)
    (y : Value) (m : Nat) (news : List Value) (hx : a.eval x = y) (hy : Reads w y size m news) (h1 : ∀ u ∈ news, u.oneCell' = true)
    (h63 : n + m ≤ maxLen) (hbytes : (n + m) * bytes ≤ 140737488355328)
    (h : ∀ v' w', w'.ownsRow 0 e size v' (n + m) (xs ++ news) → w.grownBy w' v.ownBlock → (v'.ownBlock = v.ownBlock ∨ v'.ownBlock = some w.heap.size) → wpList P ops Q rest (a.put o.dst v') w') : wpList P ops Q (o :: rest) a w :=
  wpList_plain hgd fun _ hK => wp_append_any s x t ho e size bytes hT v n xs hs hown y m news hx hy h1 h63 hbytes fun v' w' h2 h3 h4 => hK _ _ (h v' w' h2 h3 h4)
theorem step_append_any {ops : Array Oper} {o : Oper} {a : Act} {K : Act → World → Prop} {Q : Exit → Act → World → Prop} {E : Prop} (hgd : o.guard = none) (s x : Operand) (t : TypeId)
    (ho : o.op = .call { callee := .builtin .append, args := #[s, x], argTypes := #[t, t] }) (e size bytes : Nat) (hT : SliceOf P t e size bytes)
    (v : Value) (n : Nat) (xs : List Value) (hs : a.eval s = v) (hown : w.ownsRow 0 e size v n xs)
    (y : Value) (m : Nat) (news : List Value) (hx : a.eval x = y) (hy : Reads w y size m news) (h1 : ∀ u ∈ news, u.oneCell' = true)
    (h63 : n + m ≤ maxLen) (hbytes : (n + m) * bytes ≤ 140737488355328)
    (h : ∀ v' w', w'.ownsRow 0 e size v' (n + m) (xs ++ news) → w.grownBy w' v.ownBlock → (v'.ownBlock = v.ownBlock ∨ v'.ownBlock = some w.heap.size) → K (a.put o.dst v') w') :
    if Region.wanted o (yielded ops a.tmps) = true then Oper.wp P o a w K Q else E := by
  have hw : Region.wanted o (yielded ops a.tmps) = true := by simp [Region.wanted, hgd]
  rw [if_pos hw]
  exact wp_append_any s x t ho e size bytes hT v n xs hs hown y m news hx hy h1 h63 hbytes h
theorem wpListIn_append_any {F : Fence} {k : Nat} {ops : Array Oper} {rest : List Oper} {o : Oper} {a : Act} {Q : Exit → Act → World → Prop} (hgd : o.guard = none) (s x : Operand) (t : TypeId)
    (ho : o.op = .call { callee := .builtin .append, args := #[s, x], argTypes := #[t, t] }) (e size bytes : Nat) (hT : SliceOf P t e size bytes)
    (v : Value) (n : Nat) (xs : List Value) (hs : a.eval s = v) (hown : w.ownsRow 0 e size v n xs)
    (y : Value) (m : Nat) (news : List Value) (hx : a.eval x = y) (hy : Reads w y size m news) (h1 : ∀ u ∈ news, u.oneCell' = true)
    (h63 : n + m ≤ maxLen) (hbytes : (n + m) * bytes ≤ 140737488355328)
    (h : ∀ v' w', w'.ownsRow 0 e size v' (n + m) (xs ++ news) → w.grownBy w' v.ownBlock → (v'.ownBlock = v.ownBlock ∨ v'.ownBlock = some w.heap.size) → wpListIn F k P ops Q rest (a.put o.dst v') w') : wpListIn F k P ops Q (o :: rest) a w := by
  refine wpListIn_plain hgd fun K hK => ?_
  obtain ⟨i, z, hi, hz, hz1, hz2, hz3⟩ := hT.info
  obtain ⟨v', w', hr, h2, h3, h5⟩ := run_append_any (P := P) 0 t o.type e i z size bytes hT.under hi hz hz1 hz2 hz3 hT.pos v n xs hown y m news hy h1 h63 hbytes (Nat.zero_le _)
  unfold Oper.wpIn
  refine ⟨?_, ?_⟩
  · simp [Oper.about, ho, resolve, Target.leads, Sem.run_pure]
  · rw [Oper.semAt_plain F _ _ (by rw [ho]; intro c hc'; cases hc')]
    unfold execOp
    simp only [ho, resolve, invoke, builtin, Sem.run_bind, Sem.run_pure, Result.andThen_ok, List.map_toArray, List.map_cons, List.map_nil, hs, hx, hr]
    exact hK _ _ (h v' w' h2 h3 h5)
theorem Reads.of_own {v : Value} {e size n : Nat} {xs : List Value} (h : w.ownsRow 0 e size v n xs) : Reads w v size n xs := by
  rcases own_parts h with ⟨h1, h2⟩ | ⟨g, cap, cur, h1, _⟩
  · refine .inl ⟨h1, h2, List.eq_nil_of_length_eq_zero ?_⟩
    rw [h.1, h2, Nat.zero_mul]
  · subst h1
    refine .inr ⟨_, _, rfl, h.1, fun j u hu => ?_⟩
    have ha : (⟨g, 0, none⟩ : Addr).add j = ⟨g, j, none⟩ := by unfold Addr.add; split <;> simp_all
    rw [ha]
    exact own_cellG h hu
end
end Go.Proofs.Ytkjpkhpiojahkaa

/-! ### Ranges over functions, told by pieces of memory. Over any program. -/
namespace Go.Proofs.Ytkjpkhpiojahkaa
set_option linter.unusedVariables false
open Go.RowKit

/-- a piece that book-keeping of loops does not touch -/
structure Plain (A : Ast) : Prop where
  mv : ∀ {w w' : World} {F S : Nat → Prop} {B : Nat}, A.holds w F → Mv S B w w' → (∀ j, F j → ¬ S j) → A.holds w' F
theorem Plain.sep {A B : Ast} (ha : Plain A) (hb : Plain B) : Plain (sep A B) :=
  ⟨fun ⟨Fa, Fb, h1, h2, h3, h4⟩ hm hS => ⟨Fa, Fb, ha.mv h1 hm (fun j hj => hS j ((h4 j).2 (.inl hj))), hb.mv h2 hm (fun j hj => hS j ((h4 j).2 (.inr hj))), h3, h4⟩⟩
theorem Plain.box (b t : Nat) (cs : Array Value) : Plain (boxA b t cs) := ⟨fun ⟨h1, h2⟩ hm hS => ⟨hm.obj h1 rfl (hS b ((h2 b).2 rfl)), h2⟩⟩
theorem Plain.row (v : Value) (t size n : Nat) (xs : List Value) : Plain (rowA v t size n xs) :=
  ⟨fun ⟨h1, h2⟩ hm hS => ⟨own_same h1 fun j o hj ho hc => hm.obj ho hc (hS j ((h2 j).2 hj)), h2⟩⟩

/-- a fact, as a piece -/
def prA (p : Prop) : Ast where
  holds _ F := p ∧ ∀ j, ¬ F j
  stable := fun h _ _ => h
  lt := fun h hj => (h.2 _ hj).elim
theorem Plain.pr (p : Prop) : Plain (prA p) := ⟨fun h _ _ => h⟩

/-- blocks that lie as they lay in a world; and book-keeping -/
def holdA (K : Nat → Prop) (wx : World) : Ast where
  holds w F := (∀ j, F j ↔ K j) ∧ wx.heap.size ≤ w.heap.size ∧ (∀ j, K j → j < wx.heap.size) ∧ ∀ j o, wx.heap[j]? = some o → (ctl o = true ∨ K j) → w.heap[j]? = some o
  stable := fun ⟨h1, h2, h3, h4⟩ hm hS => ⟨h1, Nat.le_trans h2 hm.size, h3, fun j o ho hc => hm.block j o (h4 j o ho hc) (hc.imp id fun h => hS j ((h1 j).2 h))⟩
  lt := fun ⟨h1, h2, h3, _⟩ hj => Nat.lt_of_lt_of_le (h3 _ ((h1 _).1 hj)) h2

section
variable {w0 w w' wx : World} {A Q R : Ast} {K : Nat → Prop}
theorem On.pr_open {p : Prop} (h : On w0 w (sep (prA p) R)) : p ∧ On w0 w R := by
  obtain ⟨F, hF, _⟩ := h.get1
  exact ⟨hF.1, h.out1⟩
theorem On.pr_shut {p : Prop} (hp : p) (h : On w0 w R) : On w0 w (sep (prA p) R) := by
  obtain ⟨F, h1, h2, h3⟩ := h
  exact ⟨F, ⟨fun _ => False, F, ⟨hp, fun _ h => h⟩, h1, fun _ h => h.elim, fun j => by simp⟩, h2, h3⟩
theorem On.mv {S : Nat → Prop} {B : Nat} (hp : Plain A) (h : On w0 w A) (hm : Mv S B w w') (hS : ∀ j, S j → w.heap.size ≤ j) (hB : w0.heap.size ≤ B) : On w0 w' A := by
  obtain ⟨F, h1, h2, h3⟩ := h
  refine ⟨F, hp.mv h1 hm (fun j hj hs => ?_), ?_, h3⟩
  · have := A.lt h1 hj
    have := hS j hs
    omega
  · refine ((Mod.of_below (S := none') h2).then_mv hm (fun j hj hl => ?_) hB).to_below
    have := hS j hj
    have := h2.size
    omega
theorem On.hold (h : On w0 w (sep Q R)) : ∃ K, Q.holds w K ∧ (∀ j, K j → w0.heap.size ≤ j) ∧ On w0 w (sep (holdA K w) R) := by
  obtain ⟨F, ⟨Fa, Fb, h1, h2, h3, h4⟩, h5, h6⟩ := h
  exact ⟨Fa, h1, fun j hj => h6 j ((h4 j).2 (.inl hj)), F, ⟨Fa, Fb, ⟨fun _ => Iff.rfl, Nat.le_refl _, fun j hj => Q.lt h1 hj, fun _ _ h _ => h⟩, h2, h3, h4⟩, h5, h6⟩
theorem Mv.of_kept (h1 : Below w0.heap.size w0 w) (h2 : Below w0.heap.size w0 w') (hs : w.heap.size ≤ w'.heap.size) (hk : ∀ j o, w.heap[j]? = some o → ctl o = false → K j → w'.heap[j]? = some o) :
    Mv (fun j => ¬ K j) 0 w w' := by
  have m1 := Mod.of_below (S := none') h1
  have m2 := Mod.of_below (S := none') h2
  refine ⟨m2.os.trans m1.os.symm, m2.tape.trans m1.tape.symm, m2.output.trans m1.output.symm, hs, fun j o ho hc => ?_⟩
  split at hc
  · omega
  · rename_i hn
    exact hk j o ho (by simpa using hn) (Classical.not_not.1 hc)
theorem On.unhold (hp : Plain Q) (hq : Q.holds wx K) (hx : Below w0.heap.size w0 wx) (h : On w0 w (sep (holdA K wx) R)) : On w0 w (sep Q R) := by
  have hb := h.to_below
  obtain ⟨F, ⟨Fa, Fb, ⟨k1, k2, k3, k4⟩, h2, h3, h4⟩, h5, h6⟩ := h
  refine ⟨F, ⟨Fa, Fb, ?_, h2, h3, h4⟩, h5, h6⟩
  have : Fa = K := funext fun j => propext (k1 j)
  subst this
  exact hp.mv hq (Mv.of_kept hx hb k2 fun j o ho _ hk => k4 j o ho (.inr hk)) fun j hj hn => hn hj
end

/-- how a round may be left, told by pieces -/
def endR (w0 : World) (K : Nat → Prop) (Wb : World) (St : Ast) (Sx : Code → Ast) : Exit → Act → World → Prop
  | .normal, _, W' => On w0 W' (sep (holdA K Wb) St)
  | .ret, _, W' => On w0 W' (sep (holdA K Wb) (Sx .ret))
  | .exit id, _, W' => On w0 W' (sep (holdA K Wb) (Sx (.exit id)))
  | .goto t, _, W' => On w0 W' (sep (holdA K Wb) (Sx (.goto t)))
  | .panic _, _, _ => False
  | .outgrown, _, _ => False

/-- what holds between rounds -/
def InvR (w0 wx : World) (K : Nat → Prop) (St : Ast) (O : Nat → Prop) (A : World) : Prop :=
  ∃ F, St.holds A F ∧ Below w0.heap.size w0 A ∧ (∀ j, F j → w0.heap.size ≤ j ∧ ¬ K j ∧ ¬ O j) ∧ (∀ j, O j → wx.heap.size ≤ j) ∧ wx.heap.size ≤ A.heap.size ∧
    (∀ j o, wx.heap[j]? = some o → ctl o = false → K j → A.heap[j]? = some o) ∧ (∀ j, K j → j < wx.heap.size ∧ w0.heap.size ≤ j)
section
variable {w0 wx A A' : World} {K O O' : Nat → Prop} {St : Ast}
theorem InvR.mv (hp : Plain St) (h0 : w0.heap.size ≤ wx.heap.size) (h : InvR w0 wx K St O A) (hm : Mv O wx.heap.size A A') (hO : ∀ j, O' j → O j ∨ A.heap.size ≤ j) : InvR w0 wx K St O' A' := by
  obtain ⟨F, h1, h2, h3, h4, h5, h6, h7⟩ := h
  refine ⟨F, hp.mv h1 hm fun j hj => (h3 j hj).2.2, ((Mod.of_below (S := none') h2).then_mv hm (fun j hj hl => ?_) h0).to_below, fun j hj => ⟨(h3 j hj).1, (h3 j hj).2.1, fun ho => ?_⟩, fun j hj => ?_, Nat.le_trans h5 hm.size, fun j o ho hc hk => ?_, h7⟩
  · have := h4 j hj; omega
  · rcases hO j ho with h | h
    · exact (h3 j hj).2.2 h
    · have := St.lt h1 hj; omega
  · rcases hO j hj with h | h
    · exact h4 j h
    · omega
  · exact hm.obj (h6 j o ho hc hk) hc fun h => by have := h4 j h; have := (h7 j hk).1; omega
theorem InvR.on (h : InvR w0 wx K St O A) (hl : ∀ j, O j → j < A.heap.size) (h0 : w0.heap.size ≤ wx.heap.size) : On w0 A (sep (holdA (fun j => K j ∨ O j) A) St) := by
  obtain ⟨F, h1, h2, h3, h4, h5, h6, h7⟩ := h
  refine ⟨fun j => (K j ∨ O j) ∨ F j, ⟨_, F, ⟨fun _ => Iff.rfl, Nat.le_refl _, fun j hj => ?_, fun _ _ h _ => h⟩, h1, fun j hj hf => ?_, fun _ => Iff.rfl⟩, h2, fun j hj => ?_⟩
  · rcases hj with h | h
    · have := (h7 j h).1; omega
    · exact hl j h
  · rcases hj with h | h
    · exact (h3 j hf).2.1 h
    · exact (h3 j hf).2.2 h
  · rcases hj with (h | h) | h
    · exact (h7 j h).2
    · have := h4 j h; omega
    · exact (h3 j h).1
/-- what a round leaves -/
theorem InvR.back {Wb W' : World} {St' : Ast} (h : InvR w0 wx K St O A) (hAb : ∀ j o, A.heap[j]? = some o → ctl o = false → K j ∨ O j → Wb.heap[j]? = some o) (hs : A.heap.size ≤ Wb.heap.size)
    (k : On w0 W' (sep (holdA (fun j => K j ∨ O j) Wb) St')) : Ctl wx.heap.size Wb W' ∧ Keeps (fun j => K j ∨ O j) Wb W' ∧ InvR w0 wx K St' O W' := by
  obtain ⟨F, h1, h2, h3, h4, h5, h6, h7⟩ := h
  obtain ⟨G, ⟨Fa, Fb, ⟨k1, k2, k3, k4⟩, k5, k6, k7⟩, k8, k9⟩ := k
  refine ⟨⟨k2, fun j o _ ho hc => k4 j o ho (.inl hc)⟩, ⟨k2, fun j o ho _ hk => k4 j o ho (.inr hk)⟩, Fb, k5, k8, fun j hj => ⟨k9 j ((k7 j).2 (.inr hj)), fun hk => k6 j ((k1 j).2 (.inl hk)) hj, fun hk => k6 j ((k1 j).2 (.inr hk)) hj⟩, h4, by omega, fun j o ho hc hk => ?_, h7⟩
  exact k4 j o (hAb j o (h6 j o ho hc hk) hc (.inl hk)) (.inr (.inl hk))
end

section
variable {F : Fence} {n : Nat} {P : Program} {α : Type} {g : Operand} {ps : Array Tmp} {assign body : Code} {Q : Exit → Act → World → Prop} {a : Act} {w : World}
/-- **A RANGE OVER A FUNCTION, TOLD BY PIECES OF MEMORY.** Sq: the sequence's piece; St: the state behind the elements so far; M: what the assignment of a round's variables makes of it. -/
theorem wpIn_range_on (hro : F.round = none) (h1 : 1 ≤ n) {gf : Nat} {lb : Array Value} (hg : a.eval g = .func (.func gf) #[] lb) (hFg : F.fn gf) (eg : ∀ args w, (callFunc gf args).run P w = .ok (.enter gf args) w)
    {encs : α → Array Value} {xs : List α} {w0 : World} {Sq : Ast} (hSq : Plain Sq) (St : List α → Ast) (hSt : ∀ s, Plain (St s)) (Sx : Code → List α → Ast) (hSx : ∀ c s, Plain (Sx c s))
    (hon : On w0 w (sep Sq (St [])))
    (hseq : ∀ K, Sq.holds w K → Iter2 F (n - 1) P gf lb encs K none' xs w) (hps : ∀ x, (encs x).size = ps.size)
    (hround : ∀ (K : Nat → Prop) (l : Nat) (pre : List α) (x : α) (W : World), w.heap.size ≤ l → (∃ r, W.heap[l]? = some (.loop r)) → pre ++ [x] <+: xs → On w0 W (sep (holdA K W) (St pre)) →
      assign.wpIn (F.inRound l) (n - 1 - 1) P (Exit.then (fun a' Wa => ∃ M, Plain M ∧ On w0 Wa (sep (holdA K W) M) ∧ ∀ Wb, (∃ r, Wb.heap[l]? = some (.loop r)) → On w0 Wb (sep (holdA K Wb) M) →
          body.wpIn (F.inRound l) (n - 1 - 1) P (endR w0 K Wb (St (pre ++ [x])) (fun c => Sx c (pre ++ [x]))) a' Wb) (fun _ _ _ => False))
        { tmps := (ps.zip (encs x)).foldl (fun t (p, v) => t.setIfInBounds p v) a.tmps, defers := [] } W)
    (hdone : ∀ (D : Nat) (W : World), w.heap.size ≤ D → On w0 W (sep Sq (St xs)) → W.heap[D]? = some (.deferred (some [])) → Q .normal { a with defers := { target := .collected D, args := #[] } :: a.defers } W)
    (hstop : ∀ (D : Nat) (c : Code) (pre : List α) (W : World), w.heap.size ≤ D → pre <+: xs → On w0 W (sep Sq (Sx c pre)) → W.heap[D]? = some (.deferred (some [])) → c.wpIn F n P Q { a with defers := { target := .collected D, args := #[] } :: a.defers } W) :
    (Code.rangeFunc g ps assign body).wpIn F n P Q a w := by
  have hb0 := hon.to_below
  have h0w : w0.heap.size ≤ w.heap.size := hb0.size
  obtain ⟨F1, ⟨Fa, Fb, q1, q2, q3, q4⟩, q5, q6⟩ := hon
  have hK0 : ∀ j, Fa j → j < w.heap.size ∧ w0.heap.size ≤ j := fun j hj => ⟨Sq.lt q1 hj, q6 j ((q4 j).2 (.inl hj))⟩
  have hout : ∀ (S : Ast) (O : Nat → Prop) (W : World), InvR w0 w Fa S O W → On w0 W (sep Sq S) := fun S O W ⟨G, g1, g2, g3, _, g5, g6, _⟩ => by
    refine ⟨fun j => Fa j ∨ G j, ⟨Fa, G, hSq.mv q1 (Mv.of_kept hb0 g2 g5 g6) (fun j hj hn => hn hj), g1, fun j hj hg => (g3 j hg).2.1 hj, fun _ => Iff.rfl⟩, g2, fun j hj => ?_⟩
    rcases hj with h | h
    · exact (hK0 j h).2
    · exact (g3 j h).1
  refine wpIn_range2 hro h1 hg hFg eg (O0 := none') (hseq Fa q1) (Keeps.refl _ _) hps (fun O s A => InvR w0 w Fa (St s) O A) (fun c O s A => InvR w0 w Fa (Sx c s) O A)
    (fun O O' s A A' h hm hO => h.mv (hSt s) h0w hm hO) (fun c O O' s A A' h hm hO => h.mv (hSx c s) h0w hm hO)
    ⟨Fb, q2, q5, fun j hj => ⟨q6 j ((q4 j).2 (.inr hj)), fun hk => q3 j hk hj, fun h => h.elim⟩, fun j hj => hj.elim, Nat.le_refl _, fun j o ho _ _ => ho, hK0⟩
    (fun l O pre x W hl hlr hi hO hpre => ?_) (fun D O W hD hi hK => hdone D W hD (hout _ _ _ hi) hK) (fun D c O pre W hD hp hi hK => hstop D c pre W hD hp (hout _ _ _ hi) hK)
  refine wpIn_mono (hround (fun j => Fa j ∨ O j) l pre x W hl hlr hpre (hi.on (fun j hj => (hO j hj).2) h0w)) (fun e a' Wa hh => ?_)
  cases e with
  | normal =>
    obtain ⟨M, hM, hon1, hbody⟩ := hh
    have hon1' := hon1
    obtain ⟨G, ⟨Ga, Gb, ⟨k1, k2, k3, k4⟩, k5, k6, k7⟩, k8, k9⟩ := hon1
    refine ⟨⟨k2, fun j o _ ho hc => k4 j o ho (.inl hc)⟩, ⟨k2, fun j o ho _ hk => k4 j o ho (.inr hk)⟩, fun Wb hm hr => ?_⟩
    have hon2 : On w0 Wb (sep (holdA (fun j => Fa j ∨ O j) Wb) M) := by
      refine ⟨G, ⟨Ga, Gb, ⟨k1, Nat.le_refl _, fun j hj => ?_, fun _ _ h _ => h⟩, hM.mv k5 hm (fun _ _ h => h), k6, k7⟩, ((Mod.of_below (S := none') k8).then_mv hm (fun _ h _ => h.elim) h0w).to_below, k9⟩
      have := k3 j hj; have := hm.size; omega
    have hAb : ∀ j o, W.heap[j]? = some o → ctl o = false → Fa j ∨ O j → Wb.heap[j]? = some o := fun j o ho hc hk => hm.obj (k4 j o ho (.inr hk)) hc (fun h => h)
    have hs : W.heap.size ≤ Wb.heap.size := Nat.le_trans k2 hm.size
    refine wpIn_mono (hbody Wb hr hon2) (fun e a'' W' hh => ?_)
    cases e with
    | normal => exact hi.back hAb hs hh
    | ret => exact hi.back hAb hs hh
    | exit id => exact hi.back hAb hs hh
    | goto t => exact hi.back hAb hs hh
    | panic v => exact hh
    | outgrown => exact hh
  | ret => exact hh
  | exit id => exact hh
  | goto t => exact hh
  | panic v => exact hh
  | outgrown => exact hh
end

/-- a block of book-keeping that waits -/
def mkA (D : Nat) : Ast where
  holds w F := w.heap[D]? = some (.deferred (some [])) ∧ ∀ j, ¬ F j
  stable := fun ⟨h1, h2⟩ hm _ => ⟨hm.block D _ h1 (.inl rfl), h2⟩
  lt := fun h hj => (h.2 _ hj).elim
theorem On.mk_add {w0 w : World} {R : Ast} {D : Nat} (h : On w0 w R) (hK : w.heap[D]? = some (.deferred (some []))) : On w0 w (sep (mkA D) R) := by
  obtain ⟨F, h1, h2, h3⟩ := h
  exact ⟨F, ⟨fun _ => False, F, ⟨hK, fun _ h => h⟩, h1, fun _ h => h.elim, fun j => by simp⟩, h2, h3⟩
theorem On.mk_get {w0 w : World} {R : Ast} {D : Nat} (h : On w0 w (sep (mkA D) R)) : w.heap[D]? = some (.deferred (some [])) := by
  obtain ⟨F, hF, _⟩ := h.get1
  exact hF.1

/-- leaving a function behind one range -/
theorem fin_mark {w0 A : World} {X : Ast} {m D : Nat} {P : Program} {fn : Func} {t : Array Value} {v : Value} {Post : Ending → World → Prop} {T : Fence} (hX : Plain X) (h : On w0 A X) (hD : w0.heap.size ≤ D) (hK : A.heap[D]? = some (.deferred (some [])))
    (k : ∀ A', On w0 A' X → (results fn t).run P A' = .ok v A' ∧ Post (.returned v) A') :
    bodyPostM T m P fn Post .ret { tmps := t, defers := [{ target := .collected D, args := #[] }] } A := by
  have h' := h.mv hX (Mv.putObj (S := none') (B := w0.heap.size) A D _ (.deferred none) hK rfl hD) (fun _ h => h.elim) (Nat.le_refl _)
  exact ⟨by simp, .inl ⟨_, _, rfl, run_takeDeferred hK, v, (k _ h').1, (k _ h').2⟩⟩
end Go.Proofs.Ytkjpkhpiojahkaa

/-! ### A region that draws its order, whose last operation comes behind all others: the loose walk of the others, then that one. Over any program. -/
namespace Go.Proofs.Ytkjpkhpiojahkaa
set_option linter.unusedVariables false

/-- may the last one stand apart? -/
def tailB (os : List Oper) (s : Oper) : Bool :=
  s.dst.isNone && (List.range os.length).all (fun i => s.after.any fun e => Region.binds .any e && e.on == i) && s.after.all (fun e => !Region.binds .any e || decide (e.on < os.length)) &&
    (List.range os.length).all (fun i => match os[i]? with | some o => o.after.all (fun e => !Region.binds .any e || decide (e.on < i)) | none => true)

section
variable {P : Program} {os : List Oper} {s : Oper} {C : World → Prop}
structure TInv (n : Nat) (l l' : Array Bool) : Prop where
  s1 : l.size = n + 1
  s2 : l'.size = n
  eq : ∀ i, i < n → l[i]? = l'[i]?
  no : l[n]? = some false
theorem TInv.getT {n : Nat} {l l' : Array Bool} (h : TInv n l l') {i : Nat} (hi : i < n) (d : Bool) : l.getD i d = l'.getD i d := by
  rw [Array.getD_eq_getD_getElem?, Array.getD_eq_getD_getElem?, h.eq i hi]
theorem TInv.getF {n : Nat} {l l' : Array Bool} (h : TInv n l l') (i : Nat) : l.getD i false = l'.getD i false := by
  by_cases hi : i < n
  · exact h.getT hi _
  · rw [Array.getD_eq_getD_getElem?, Array.getD_eq_getD_getElem?]
    have e2 : l'[i]? = none := Array.getElem?_eq_none (by rw [h.s2]; omega)
    rw [e2]
    by_cases hn : i = n
    · subst hn; rw [h.no]; rfl
    · rw [Array.getElem?_eq_none (by rw [h.s1]; omega)]
theorem TInv.set {n : Nat} {l l' : Array Bool} (h : TInv n l l') {i : Nat} (hi : i < n) : TInv n (l.setIfInBounds i true) (l'.setIfInBounds i true) :=
  ⟨by rw [Array.size_setIfInBounds]; exact h.s1, by rw [Array.size_setIfInBounds]; exact h.s2, fun j hj => by
    have e := h.eq j hj
    rw [Array.getElem?_setIfInBounds, Array.getElem?_setIfInBounds, e, h.s1, h.s2]
    by_cases hij : i = j
    · subst hij; simp [hi, Nat.lt_succ_of_lt hi]
    · simp [hij], by rw [Array.getElem?_setIfInBounds_ne (by omega)]; exact h.no⟩

theorem tail_ops_at {i : Nat} (hi : i < os.length) : (os ++ [s]).toArray[i]? = os.toArray[i]? := by
  simp [List.getElem?_append_left hi]
theorem ops_last : (os ++ [s]).toArray[os.length]? = some s := by simp
theorem ops_lt {i : Nat} {o : Oper} (h : (os ++ [s]).toArray[i]? = some o) : i ≤ os.length := by
  have := (Array.getElem?_eq_some_iff.1 h).1
  simp at this
  omega
theorem yielded_tail (hs : s.dst = none) (tmps : Array Value) : yielded (os ++ [s]).toArray tmps = yielded os.toArray tmps := by
  funext j
  unfold yielded
  by_cases h : j < os.length
  · rw [tail_ops_at h]
  · by_cases h2 : j = os.length
    · subst h2
      rw [ops_last, Array.getElem?_eq_none (by simp)]
      simp [hs]
    · rw [Array.getElem?_eq_none (by simp; omega), Array.getElem?_eq_none (by simp; omega)]

theorem ready_in {l l' : Array Bool} (h : TInv os.length l l') {i : Nat} (hi : i ∈ Region.ready .any (os ++ [s]).toArray l) (hn : i ≠ os.length) : i ∈ Region.ready .any os.toArray l' := by
  obtain ⟨h1, o, ho, h2⟩ := mem_ready.1 hi
  have hlt : i < os.length := by have := ops_lt ho; omega
  rw [tail_ops_at hlt] at ho
  exact mem_ready.2 ⟨by rw [← h.getT hlt]; exact h1, o, ho, fun e he hb => by rw [← h.getF]; exact h2 e he hb⟩
theorem ready_out {l l' : Array Bool} (h : TInv os.length l l') {i : Nat} (hi : i ∈ Region.ready .any os.toArray l') : i < os.length ∧ i ∈ Region.ready .any (os ++ [s]).toArray l := by
  obtain ⟨h1, o, ho, h2⟩ := mem_ready.1 hi
  have hlt : i < os.length := by have := (Array.getElem?_eq_some_iff.1 ho).1; simpa using this
  exact ⟨hlt, mem_ready.2 ⟨by rw [h.getT hlt]; exact h1, o, by rw [tail_ops_at hlt]; exact ho, fun e he hb => by rw [h.getF]; exact h2 e he hb⟩⟩
theorem getD_tf {l : Array Bool} {i : Nat} (hi : i < l.size) : l.getD i true = l.getD i false := by
  rw [Array.getD_eq_getD_getElem?, Array.getD_eq_getD_getElem?, Array.getElem?_eq_getElem hi]; rfl
theorem ready_last (hT : tailB os s = true) {l l' : Array Bool} (h : TInv os.length l l') (hi : os.length ∈ Region.ready .any (os ++ [s]).toArray l) : Region.ready .any os.toArray l' = [] := by
  refine List.eq_nil_iff_forall_not_mem.2 fun j hj => ?_
  obtain ⟨hlt, hj2⟩ := ready_out (s := s) h hj
  obtain ⟨h1, _⟩ := mem_ready.1 hj
  obtain ⟨_, o, ho, h2⟩ := mem_ready.1 hi
  rw [ops_last] at ho
  cases ho
  simp only [tailB, Bool.and_eq_true, List.all_eq_true, List.mem_range] at hT
  obtain ⟨e, he, hb⟩ := Array.any_eq_true'.1 (hT.1.1.2 j hlt)
  simp only [Bool.and_eq_true, beq_iff_eq] at hb
  have := h2 e he hb.1
  rw [hb.2, h.getF, ← getD_tf (by rw [h.s2]; exact hlt), h1] at this
  cases this
theorem ready_all (hT : tailB os s = true) {l l' : Array Bool} (h : TInv os.length l l') (hr : Region.ready .any os.toArray l' = []) : os.length ∈ Region.ready .any (os ++ [s]).toArray l := by
  simp only [tailB, Bool.and_eq_true, List.all_eq_true, List.mem_range] at hT
  have hall : ∀ i, i < os.length → l'.getD i false = true := by
    intro i
    induction i using Nat.strongRecOn with
    | _ i ih =>
      intro hi
      cases hb : l'.getD i false with
      | true => rfl
      | false =>
        exfalso
        have : i ∈ Region.ready .any os.toArray l' := by
          refine mem_ready.2 ⟨by rw [getD_tf (by rw [h.s2]; exact hi)]; exact hb, os[i], by simp [hi], fun e he hbi => ?_⟩
          have h2 := hT.2 i hi
          rw [List.getElem?_eq_getElem hi] at h2
          have h3 := Array.all_eq_true_iff_forall_mem.1 h2 e he
          rw [hbi] at h3
          have h4 : e.on < i := by simpa using h3
          exact ih e.on h4 (by omega)
        rw [hr] at this
        cases this
  refine mem_ready.2 ⟨?_, s, ops_last, fun e he hb => ?_⟩
  · rw [Array.getD_eq_getD_getElem?, h.no]; rfl
  · have h3 := Array.all_eq_true_iff_forall_mem.1 hT.1.2 e he
    rw [hb] at h3
    rw [h.getF]
    exact hall e.on (by simpa using h3)

theorem wpOp_of_qOp_tail (hs : s.dst = none) {i : Nat} (hi : i < os.length) {a : Act} {K : Act → Prop} {K' : Act → World → Prop} {Q' : Exit → Act → World → Prop} {w : World} (hC : C w) (h : ∀ a w', C w' → K a → K' a w') (hh : qOp P os.toArray C i K a) : wpOp P (os ++ [s]).toArray Q' i K' a w := by
  have := wpOp_of_qOp (Q' := Q') hC h hh
  unfold wpOp at this ⊢
  rw [tail_ops_at hi, yielded_tail hs]
  exact this

theorem wpAny_tail (hT : tailB os s = true) {Q : Act → Prop} {Q' : Exit → Act → World → Prop} (hQ : ∀ a w, C w → Q a → wpOp P (os ++ [s]).toArray Q' os.length (fun a w => Q' .normal a w) a w) :
    ∀ (fuel : Nat) (l l' : Array Bool) (a : Act) (w : World), TInv os.length l l' → C w → wpAnyQ P .any os.toArray C Q fuel l' a → wpAny P .any (os ++ [s]).toArray Q' (fuel + 1) l a w := by
  have hsd : s.dst = none := by
    simp only [tailB, Bool.and_eq_true] at hT
    exact Option.isNone_iff_eq_none.1 hT.1.1.1
  have hlast : ∀ (fuel : Nat) (l l' : Array Bool) (a : Act) (w : World), TInv os.length l l' → C w → Region.ready .any os.toArray l' = [] → Q a → wpOp P (os ++ [s]).toArray Q' os.length (wpAny P .any (os ++ [s]).toArray Q' fuel (l.setIfInBounds os.length true)) a w := by
    intro fuel l l' a w ht hw hr hq
    have hr2 : Region.ready .any (os ++ [s]).toArray (l.setIfInBounds os.length true) = [] := by
      refine List.eq_nil_iff_forall_not_mem.2 fun j hj => ?_
      obtain ⟨h1, o, ho, h2⟩ := mem_ready.1 hj
      have hle := ops_lt ho
      rw [Array.getD_eq_getD_getElem?, Array.getElem?_setIfInBounds] at h1
      by_cases hjn : os.length = j
      · rw [if_pos hjn, if_pos (by rw [ht.s1]; omega)] at h1
        cases h1
      · rw [if_neg hjn] at h1
        obtain ⟨_, o2, ho2, h3⟩ := mem_ready.1 (ready_all hT ht hr)
        rw [ops_last] at ho2
        cases ho2
        have hT' := hT
        simp only [tailB, Bool.and_eq_true, List.all_eq_true, List.mem_range] at hT'
        obtain ⟨e, he, hb⟩ := Array.any_eq_true'.1 (hT'.1.1.2 j (by omega))
        simp only [Bool.and_eq_true, beq_iff_eq] at hb
        have h4 := h3 e he hb.1
        rw [hb.2, ← getD_tf (by rw [ht.s1]; omega), Array.getD_eq_getD_getElem?, h1] at h4
        cases h4
    refine wpOp_mono (fun a' w' h' => ?_) (hQ a w hw hq)
    cases fuel with
    | zero => exact ⟨hr2, h'⟩
    | succ f => exact ⟨fun _ => h', fun i hi => by rw [hr2] at hi; cases hi⟩
  intro fuel
  induction fuel with
  | zero =>
    intro l l' a w ht hw h
    obtain ⟨h1, h2⟩ := h
    refine ⟨fun h0 => (by have := ready_all hT ht h1; rw [h0] at this; cases this), fun i hi => ?_⟩
    by_cases hn : i = os.length
    · subst hn; exact hlast 0 l l' a w ht hw h1 h2
    · have := ready_in ht hi hn
      rw [h1] at this
      cases this
  | succ fuel ih =>
    intro l l' a w ht hw h
    obtain ⟨h1, h2⟩ := h
    refine ⟨fun h0 => ?_, fun i hi => ?_⟩
    · by_cases hr : Region.ready .any os.toArray l' = []
      · have := ready_all hT ht hr
        rw [h0] at this; cases this
      · obtain ⟨j, hj⟩ := List.exists_mem_of_ne_nil _ hr
        have := (ready_out (s := s) ht hj).2
        rw [h0] at this; cases this
    · by_cases hn : i = os.length
      · subst hn
        have hr := ready_last hT ht hi
        exact hlast (fuel + 1) l l' a w ht hw hr (h1 hr)
      · have hi2 := ready_in ht hi hn
        have hlt := (ready_out (s := s) ht hi2).1
        exact wpOp_of_qOp_tail hsd hlt hw (fun a' w' hw' hh => ih _ _ a' w' (ht.set hlt) hw' hh) (h2 i hi2)

theorem wp_region_tail {id : Nat} {Q : Exit → Act → World → Prop} {a : Act} {w : World} {l : List Oper} (C : World → Prop) (hl : l = os ++ [s]) (hm : P.follows .mixedOrders = true) (hB : Region.lexB .any os.toArray = true) (hT : tailB os s = true) (hC : C w.drew)
    (h : Loose P os.toArray C (fun a' => ∀ w', C w' → wpList P (os ++ [s]).toArray Q [s] a' w') os a) : (Code.region id l.toArray true).wp P Q a w := by
  subst hl
  simp only [Region.lexB, Bool.and_eq_true] at hB
  refine wp_region_any hm ?_
  have hq := wpAnyQ_lex (C := C) (md := .any) hB.1 os 0 (Array.replicate os.toArray.size false) a (by simp) (by simpa using hB.2) h.out
  have := wpAny_tail (P := P) (C := C) (Q := fun a' => ∀ w', C w' → wpList P (os ++ [s]).toArray Q [s] a' w') (Q' := Q) hT (fun a' w' hw' hh => by
    have := hh w' hw'
    unfold wpOp
    rw [ops_last]
    exact this) os.length (Array.replicate (os ++ [s]).toArray.size false) (Array.replicate os.toArray.size false) a w.drew
    ⟨by simp, by simp, fun i hi => by simp [hi, Nat.lt_succ_of_lt hi], by simp⟩ hC (by simpa using hq)
  simpa using this
theorem wp_region_tailL {id : Nat} {Q : Exit → Act → World → Prop} {a : Act} {w : World} {l : List Oper} (C : World → Prop) (h1 : l.dropLast = os) (h2 : l.getLast? = some s) (hm : P.follows .mixedOrders = true) (hB : Region.lexB .any os.toArray = true) (hT : tailB os s = true) (hC : C w.drew)
    (h : Loose P os.toArray C (fun a' => ∀ w', C w' → wpList P l.toArray Q [s] a' w') os a) : (Code.region id l.toArray true).wp P Q a w := by
  have hl : l = os ++ [s] := by
    obtain ⟨ys, hy⟩ := List.getLast?_eq_some_iff.1 h2
    rw [hy, List.dropLast_concat] at h1
    rw [hy, h1]
  have h' := h
  rw [hl] at h'
  exact wp_region_tail C hl hm hB hT hC h'
end
end Go.Proofs.Ytkjpkhpiojahkaa

/-! ### A region that draws its order, whose last operation comes behind all others (by a chain of edges): the loose walk of the others, then that one; also in a round of a range over a function. Over any program. -/
namespace Go.Proofs.Ytkjpkhpiojahkaa
set_option linter.unusedVariables false

/-- may the last one stand apart? -/
def tail2B (os : List Oper) (s : Oper) : Bool :=
  s.after.all (fun e => !Region.binds .any e || decide (e.on < os.length)) &&
    (List.range os.length).all (fun i => (s.after.any fun e => Region.binds .any e && e.on == i) || (List.range os.length).any fun j => decide (i < j) && match os[j]? with | some o => (o.after.any fun e => Region.binds .any e && e.on == i) | none => false) &&
    (List.range os.length).all (fun i => match os[i]? with | some o => o.after.all (fun e => !Region.binds .any e || decide (e.on < i)) && (match o.guard with | some (g, _) => decide (g < os.length) | none => true) | none => true)

section
variable {P : Program} {os : List Oper} {s : Oper} {C : World → Prop}
structure UInv (os : List Oper) (l l' : Array Bool) : Prop where
  t : TInv os.length l l'
  cl : ∀ (j : Nat) (o : Oper), os[j]? = some o → l'.getD j false = true → ∀ e ∈ o.after, Region.binds .any e = true → l'.getD e.on false = true
theorem getD_set_any {l : Array Bool} {i j : Nat} (h : (l.setIfInBounds i true).getD j false = true) : j = i ∨ l.getD j false = true := by
  by_cases hij : j = i
  · exact .inl hij
  · right
    rw [Array.getD_eq_getD_getElem?, Array.getElem?_setIfInBounds_ne (Ne.symm hij), ← Array.getD_eq_getD_getElem?] at h
    exact h
theorem getD_set_mono {l : Array Bool} {i j : Nat} (h : l.getD j false = true) : (l.setIfInBounds i true).getD j false = true := by
  by_cases hij : i = j
  · subst hij
    rw [Array.getD_eq_getD_getElem?] at h ⊢
    rw [Array.getElem?_setIfInBounds]
    by_cases hlt : i < l.size
    · simp [hlt]
    · rw [Array.getElem?_eq_none (by omega)] at h
      cases h
  · rw [Array.getD_eq_getD_getElem?, Array.getElem?_setIfInBounds_ne hij, ← Array.getD_eq_getD_getElem?]
    exact h
theorem UInv.set {l l' : Array Bool} (h : UInv os l l') {i : Nat} (hi : i ∈ Region.ready .any os.toArray l') : UInv os (l.setIfInBounds i true) (l'.setIfInBounds i true) := by
  obtain ⟨h1, o, ho, h2⟩ := mem_ready.1 hi
  have hlt : i < os.length := by have := (Array.getElem?_eq_some_iff.1 ho).1; simpa using this
  refine ⟨h.t.set hlt, fun j o' ho' hj e he hb => ?_⟩
  rcases getD_set_any hj with rfl | hj
  · have : o' = o := by
      have h3 : os.toArray[j]? = os[j]? := by simp
      rw [h3] at ho
      rw [ho] at ho'
      exact (Option.some.inj ho').symm
    subst this
    exact getD_set_mono (h2 e he hb)
  · exact getD_set_mono (h.cl j o' ho' hj e he hb)

theorem tail2_all (hT : tail2B os s = true) {l l' : Array Bool} (h : UInv os l l') (hi : os.length ∈ Region.ready .any (os ++ [s]).toArray l) : ∀ i, i < os.length → l'.getD i false = true := by
  obtain ⟨_, o, ho, h2⟩ := mem_ready.1 hi
  rw [ops_last] at ho
  cases ho
  simp only [tail2B, Bool.and_eq_true, List.all_eq_true, List.mem_range] at hT
  have key : ∀ k i, os.length - i = k → i < os.length → l'.getD i false = true := by
    intro k
    induction k using Nat.strongRecOn with
    | _ k ih =>
      intro i hk hi
      have h3 := hT.1.2 i hi
      rw [Bool.or_eq_true] at h3
      rcases h3 with h3 | h3
      · obtain ⟨e, he, hb⟩ := Array.any_eq_true'.1 h3
        simp only [Bool.and_eq_true, beq_iff_eq] at hb
        have := h2 e he hb.1
        rwa [hb.2, h.t.getF] at this
      · obtain ⟨j, hj, hb⟩ := List.any_eq_true.1 h3
        simp only [Bool.and_eq_true, decide_eq_true_eq, List.mem_range] at hj hb
        obtain ⟨hij, hb⟩ := hb
        have hjl := ih (os.length - j) (by omega) j rfl hj
        rw [List.getElem?_eq_getElem hj] at hb
        obtain ⟨e, he, hbe⟩ := Array.any_eq_true'.1 hb
        simp only [Bool.and_eq_true, beq_iff_eq] at hbe
        have := h.cl j os[j] (List.getElem?_eq_getElem hj) hjl e he hbe.1
        rwa [hbe.2] at this
  exact fun i hi => key _ i rfl hi
theorem ready2_last (hT : tail2B os s = true) {l l' : Array Bool} (h : UInv os l l') (hi : os.length ∈ Region.ready .any (os ++ [s]).toArray l) : Region.ready .any os.toArray l' = [] := by
  refine List.eq_nil_iff_forall_not_mem.2 fun j hj => ?_
  obtain ⟨hlt, _⟩ := ready_out (s := s) h.t hj
  obtain ⟨h1, _⟩ := mem_ready.1 hj
  have := tail2_all hT h hi j hlt
  rw [← getD_tf (by rw [h.t.s2]; exact hlt), h1] at this
  cases this
theorem ready2_all (hT : tail2B os s = true) {l l' : Array Bool} (h : UInv os l l') (hr : Region.ready .any os.toArray l' = []) : os.length ∈ Region.ready .any (os ++ [s]).toArray l := by
  simp only [tail2B, Bool.and_eq_true, List.all_eq_true, List.mem_range] at hT
  have hall : ∀ i, i < os.length → l'.getD i false = true := by
    intro i
    induction i using Nat.strongRecOn with
    | _ i ih =>
      intro hi
      cases hb : l'.getD i false with
      | true => rfl
      | false =>
        exfalso
        have : i ∈ Region.ready .any os.toArray l' := by
          refine mem_ready.2 ⟨by rw [getD_tf (by rw [h.t.s2]; exact hi)]; exact hb, os[i], by simp [hi], fun e he hbi => ?_⟩
          have h2 := hT.2 i hi
          rw [List.getElem?_eq_getElem hi] at h2
          simp only [Bool.and_eq_true] at h2
          have h3 := Array.all_eq_true_iff_forall_mem.1 h2.1 e he
          rw [hbi] at h3
          have h4 : e.on < i := by simpa using h3
          exact ih e.on h4 (by omega)
        rw [hr] at this
        cases this
  refine mem_ready.2 ⟨?_, s, ops_last, fun e he hb => ?_⟩
  · rw [Array.getD_eq_getD_getElem?, h.t.no]; rfl
  · have h3 := Array.all_eq_true_iff_forall_mem.1 hT.1.1 e he
    rw [hb] at h3
    rw [h.t.getF]
    exact hall e.on (by simpa using h3)
theorem ready2_nil (hT : tail2B os s = true) {l l' : Array Bool} (h : UInv os l l') (hi : os.length ∈ Region.ready .any (os ++ [s]).toArray l) : Region.ready .any (os ++ [s]).toArray (l.setIfInBounds os.length true) = [] := by
  refine List.eq_nil_iff_forall_not_mem.2 fun j hj => ?_
  obtain ⟨h1, o, ho, _⟩ := mem_ready.1 hj
  have hle := ops_lt ho
  rw [Array.getD_eq_getD_getElem?, Array.getElem?_setIfInBounds] at h1
  by_cases hjn : os.length = j
  · rw [if_pos hjn, if_pos (by rw [h.t.s1]; omega)] at h1
    cases h1
  · rw [if_neg hjn] at h1
    have h4 := tail2_all hT h hi j (by omega)
    rw [← h.t.getF, ← getD_tf (by rw [h.t.s1]; omega), Array.getD_eq_getD_getElem?, h1] at h4
    cases h4

theorem wanted_tail (hT : tail2B os s = true) {i : Nat} {o : Oper} (ho : os[i]? = some o) (tmps : Array Value) : Region.wanted o (yielded (os ++ [s]).toArray tmps) = Region.wanted o (yielded os.toArray tmps) := by
  have hi : i < os.length := (List.getElem?_eq_some_iff.1 ho).1
  simp only [tail2B, Bool.and_eq_true, List.all_eq_true, List.mem_range] at hT
  have h2 := hT.2 i hi
  rw [ho] at h2
  simp only [Bool.and_eq_true] at h2
  unfold Region.wanted
  cases hg : o.guard with
  | none => rfl
  | some gb =>
    obtain ⟨g, b⟩ := gb
    have h3 := h2.2
    rw [hg] at h3
    have hgl : g < os.length := by simpa using h3
    have : yielded (os ++ [s]).toArray tmps g = yielded os.toArray tmps g := by unfold yielded; rw [tail_ops_at hgl]
    simp only [this]

theorem wpOp_tail2 (hT : tail2B os s = true) {i : Nat} (hi : i < os.length) {a : Act} {K : Act → Prop} {K' : Act → World → Prop} {Q' : Exit → Act → World → Prop} {w : World} (hC : C w) (h : ∀ a w', C w' → K a → K' a w') (hh : qOp P os.toArray C i K a) : wpOp P (os ++ [s]).toArray Q' i K' a w := by
  have := wpOp_of_qOp (Q' := Q') hC h hh
  unfold wpOp at this ⊢
  rw [tail_ops_at hi]
  have hat : os.toArray[i]? = os[i]? := by simp
  rw [hat] at this ⊢
  split
  · rename_i ho; simpa [ho] using this
  · rename_i o ho
    rw [wanted_tail hT ho]
    simpa [ho] using this
theorem wpAny_tail2 (hT : tail2B os s = true) {Q : Act → Prop} {Q' : Exit → Act → World → Prop} (hQ : ∀ a w, C w → Q a → wpOp P (os ++ [s]).toArray Q' os.length (fun a w => Q' .normal a w) a w) :
    ∀ (fuel : Nat) (l l' : Array Bool) (a : Act) (w : World), UInv os l l' → C w → wpAnyQ P .any os.toArray C Q fuel l' a → wpAny P .any (os ++ [s]).toArray Q' (fuel + 1) l a w := by
  have hlast : ∀ (fuel : Nat) (l l' : Array Bool) (a : Act) (w : World), UInv os l l' → C w → Region.ready .any os.toArray l' = [] → Q a → wpOp P (os ++ [s]).toArray Q' os.length (wpAny P .any (os ++ [s]).toArray Q' fuel (l.setIfInBounds os.length true)) a w := by
    intro fuel l l' a w ht hw hr hq
    have hr2 := ready2_nil hT ht (ready2_all hT ht hr)
    refine wpOp_mono (fun a' w' h' => ?_) (hQ a w hw hq)
    cases fuel with
    | zero => exact ⟨hr2, h'⟩
    | succ f => exact ⟨fun _ => h', fun i hi => by rw [hr2] at hi; cases hi⟩
  intro fuel
  induction fuel with
  | zero =>
    intro l l' a w ht hw h
    obtain ⟨h1, h2⟩ := h
    refine ⟨fun h0 => (by have := ready2_all hT ht h1; rw [h0] at this; cases this), fun i hi => ?_⟩
    by_cases hn : i = os.length
    · subst hn; exact hlast 0 l l' a w ht hw h1 h2
    · have := ready_in ht.t hi hn
      rw [h1] at this
      cases this
  | succ fuel ih =>
    intro l l' a w ht hw h
    obtain ⟨h1, h2⟩ := h
    refine ⟨fun h0 => ?_, fun i hi => ?_⟩
    · by_cases hr : Region.ready .any os.toArray l' = []
      · have := ready2_all hT ht hr
        rw [h0] at this; cases this
      · obtain ⟨j, hj⟩ := List.exists_mem_of_ne_nil _ hr
        have := (ready_out (s := s) ht.t hj).2
        rw [h0] at this; cases this
    · by_cases hn : i = os.length
      · subst hn
        have hr := ready2_last hT ht hi
        exact hlast (fuel + 1) l l' a w ht hw hr (h1 hr)
      · have hi2 := ready_in ht.t hi hn
        have hlt := (ready_out (s := s) ht.t hi2).1
        exact wpOp_tail2 hT hlt hw (fun a' w' hw' hh => ih _ _ a' w' (ht.set hi2) hw' hh) (h2 i hi2)

theorem UInv.start : UInv os (Array.replicate (os ++ [s]).toArray.size false) (Array.replicate os.toArray.size false) :=
  ⟨⟨by simp, by simp, fun i hi => by simp [hi, Nat.lt_succ_of_lt hi], by simp⟩, fun j o _ hj => by
    rw [Array.getD_eq_getD_getElem?, Array.getElem?_replicate] at hj
    split at hj <;> cases hj⟩

theorem split_last {l : List Oper} (h1 : l.dropLast = os) (h2 : l.getLast? = some s) : l = os ++ [s] := by
  obtain ⟨ys, hy⟩ := List.getLast?_eq_some_iff.1 h2
  rw [hy, List.dropLast_concat] at h1
  rw [hy, h1]

theorem wp_region_last {id : Nat} {Q : Exit → Act → World → Prop} {a : Act} {w : World} {l : List Oper} (C : World → Prop) (h1 : l.dropLast = os) (h2 : l.getLast? = some s) (hm : P.follows .mixedOrders = true) (hB : Region.lexB .any os.toArray = true) (hT : tail2B os s = true) (hC : C w.drew)
    (h : Loose P os.toArray C (fun a' => ∀ w', C w' → wpList P l.toArray Q [s] a' w') os a) : (Code.region id l.toArray true).wp P Q a w := by
  have hl := split_last h1 h2
  subst hl
  simp only [Region.lexB, Bool.and_eq_true] at hB
  refine wp_region_any hm ?_
  have hq := wpAnyQ_lex (C := C) (md := .any) hB.1 os 0 (Array.replicate os.toArray.size false) a (by simp) (by simpa using hB.2) h.out
  have := wpAny_tail2 (P := P) (C := C) (Q := fun a' => ∀ w', C w' → wpList P (os ++ [s]).toArray Q [s] a' w') (Q' := Q) hT (fun a' w' hw' hh => by
    have := hh w' hw'
    unfold wpOp
    rw [ops_last]
    exact this) os.length _ _ a w.drew (UInv.start (s := s)) hC (by simpa using hq)
  simpa using this
end

section
variable {P : Program} {os : List Oper} {s : Oper} {C : World → Prop} {n l₀ : Nat}
theorem wpOpIn_tail2 (hT : tail2B os s = true) (hd : os.all noDefer = true) {i : Nat} (hi : i < os.length) {a : Act} {K : Act → Prop} {K' : Act → World → Prop} {Q' : Exit → Act → World → Prop} {w : World} (hC : C w) (h : ∀ a w', C w' → K a → K' a w') (hh : qOp P os.toArray C i K a) :
    wpOpIn (Fence.wide.inRound l₀) n P (os ++ [s]).toArray Q' i K' a w := by
  have := wpOpIn_of_qOp (l := l₀) (n := n) (Q' := Q') (fun o ho => by
    rw [List.getElem?_toArray] at ho
    exact noDefer_ne (List.all_eq_true.1 hd o (List.mem_of_getElem? ho))) hC h hh
  unfold wpOpIn at this ⊢
  rw [tail_ops_at hi]
  have hat : os.toArray[i]? = os[i]? := by simp
  rw [hat] at this ⊢
  split
  · rename_i ho; simpa [ho] using this
  · rename_i o ho
    rw [wanted_tail hT ho]
    simpa [ho] using this
theorem wpAnyIn_tail2 (hT : tail2B os s = true) (hd : os.all noDefer = true) {Q : Act → Prop} {Q' : Exit → Act → World → Prop} (hQ : ∀ a w, C w → Q a → wpOpIn (Fence.wide.inRound l₀) n P (os ++ [s]).toArray Q' os.length (fun a w => Q' .normal a w) a w) :
    ∀ (fuel : Nat) (l l' : Array Bool) (a : Act) (w : World), UInv os l l' → C w → wpAnyQ P .any os.toArray C Q fuel l' a → wpAnyIn (Fence.wide.inRound l₀) n P .any (os ++ [s]).toArray Q' (fuel + 1) l a w := by
  have hlast : ∀ (fuel : Nat) (l l' : Array Bool) (a : Act) (w : World), UInv os l l' → C w → Region.ready .any os.toArray l' = [] → Q a → wpOpIn (Fence.wide.inRound l₀) n P (os ++ [s]).toArray Q' os.length (wpAnyIn (Fence.wide.inRound l₀) n P .any (os ++ [s]).toArray Q' fuel (l.setIfInBounds os.length true)) a w := by
    intro fuel l l' a w ht hw hr hq
    have hr2 := ready2_nil hT ht (ready2_all hT ht hr)
    refine wpOpIn_mono (fun a' w' h' => ?_) (hQ a w hw hq)
    cases fuel with
    | zero => exact ⟨hr2, h'⟩
    | succ f => exact ⟨fun _ => h', fun i hi => by rw [hr2] at hi; cases hi⟩
  intro fuel
  induction fuel with
  | zero =>
    intro l l' a w ht hw h
    obtain ⟨h1, h2⟩ := h
    refine ⟨fun h0 => (by have := ready2_all hT ht h1; rw [h0] at this; cases this), fun i hi => ?_⟩
    by_cases hn : i = os.length
    · subst hn; exact hlast 0 l l' a w ht hw h1 h2
    · have := ready_in ht.t hi hn
      rw [h1] at this
      cases this
  | succ fuel ih =>
    intro l l' a w ht hw h
    obtain ⟨h1, h2⟩ := h
    refine ⟨fun h0 => ?_, fun i hi => ?_⟩
    · by_cases hr : Region.ready .any os.toArray l' = []
      · have := ready2_all hT ht hr
        rw [h0] at this; cases this
      · obtain ⟨j, hj⟩ := List.exists_mem_of_ne_nil _ hr
        have := (ready_out (s := s) ht.t hj).2
        rw [h0] at this; cases this
    · by_cases hn : i = os.length
      · subst hn
        have hr := ready2_last hT ht hi
        exact hlast (fuel + 1) l l' a w ht hw hr (h1 hr)
      · have hi2 := ready_in ht.t hi hn
        have hlt := (ready_out (s := s) ht.t hi2).1
        exact wpOpIn_tail2 hT hd hlt hw (fun a' w' hw' hh => ih _ _ a' w' (ht.set hi2) hw' hh) (h2 i hi2)
theorem wpIn_region_last {id : Nat} {Q : Exit → Act → World → Prop} {a : Act} {w : World} {l : List Oper} (C : World → Prop) (h1 : l.dropLast = os) (h2 : l.getLast? = some s) (hm : P.follows .mixedOrders = true) (hB : Region.lexB .any os.toArray = true) (hT : tail2B os s = true) (hd : os.all noDefer = true) (hC : C w.drew)
    (h : Loose P os.toArray C (fun a' => ∀ w', C w' → wpListIn (Fence.wide.inRound l₀) n P l.toArray Q [s] a' w') os a) : (Code.region id l.toArray true).wpIn (Fence.wide.inRound l₀) n P Q a w := by
  have hl := split_last h1 h2
  subst hl
  simp only [Region.lexB, Bool.and_eq_true] at hB
  refine wpIn_region_any hm ?_
  have hq := wpAnyQ_lex (C := C) (md := .any) hB.1 os 0 (Array.replicate os.toArray.size false) a (by simp) (by simpa using hB.2) h.out
  have := wpAnyIn_tail2 (P := P) (C := C) (n := n) (l₀ := l₀) (Q := fun a' => ∀ w', C w' → wpListIn (Fence.wide.inRound l₀) n P (os ++ [s]).toArray Q [s] a' w') (Q' := Q) hT hd (fun a' w' hw' hh => by
    have := hh w' hw'
    unfold wpOpIn
    rw [ops_last]
    exact this) os.length _ _ a w.drew (UInv.start (s := s)) hC (by simpa using hq)
  simpa using this
end
end Go.Proofs.Ytkjpkhpiojahkaa
