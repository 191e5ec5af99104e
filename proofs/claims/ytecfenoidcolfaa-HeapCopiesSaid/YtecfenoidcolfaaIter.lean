/-
  Frames of worlds, and a range over a function: the iterator by a contract, the caller by one law. Over any program.
-/
import Derived.RangeFuncNested
import Derived.RangeFuncBound
import Derived.RangeFuncCalls
import Derived.RangeFuncLeaves
import Derived.WalkKit
import Derived.Deep.Draws
namespace Go.Proofs.Ytecfenoidcolfaa
set_option linter.unusedVariables false
open Go.RowKit

/-- the blocks of book-keeping of loops over functions -/
def ctl : Obj → Bool
  | .loop _ => true
  | .deferred _ => true
  | _ => false

/-- What a call does: of what was there, only blocks of S may have turned, and none of book-keeping. -/
structure Mod (S : Nat → Prop) (w w' : World) : Prop where
  os : w'.os = w.os
  tape : w'.tape = w.tape
  output : w'.output = w.output
  size : w.heap.size ≤ w'.heap.size
  block : ∀ k o, w.heap[k]? = some o → (ctl o = true ∨ ¬ S k) → w'.heap[k]? = some o

/-- What an iterator does between rounds: blocks of S, and of book-keeping from B on, may turn. -/
structure Mv (S : Nat → Prop) (B : Nat) (w w' : World) : Prop where
  os : w'.os = w.os
  tape : w'.tape = w.tape
  output : w'.output = w.output
  size : w.heap.size ≤ w'.heap.size
  block : ∀ k o, w.heap[k]? = some o → (if ctl o = true then k < B else ¬ S k) → w'.heap[k]? = some o

/-- What a round keeps for the iterator: the blocks of R. -/
structure Keeps (R : Nat → Prop) (w w' : World) : Prop where
  size : w.heap.size ≤ w'.heap.size
  block : ∀ k o, w.heap[k]? = some o → ctl o = false → R k → w'.heap[k]? = some o

/-- The blocks of book-keeping from B on lie as they lay. -/
def Ctl (B : Nat) (w w' : World) : Prop := w.heap.size ≤ w'.heap.size ∧ ∀ k o, B ≤ k → w.heap[k]? = some o → ctl o = true → w'.heap[k]? = some o

def none' : Nat → Prop := fun _ => False

theorem lt_of_some {w : World} {k : Nat} {o : Obj} (h : w.heap[k]? = some o) : k < w.heap.size := (Array.getElem?_eq_some_iff.1 h).1

section
variable {S T R : Nat → Prop} {B C : Nat} {a b c w w' : World}
theorem Mod.refl (S : Nat → Prop) (w : World) : Mod S w w := ⟨rfl, rfl, rfl, Nat.le_refl _, fun _ _ h _ => h⟩
theorem Mod.trans (h : Mod S a b) (k : Mod T b c) (hT : ∀ i, T i → i < a.heap.size → S i) : Mod S a c :=
  ⟨k.os.trans h.os, k.tape.trans h.tape, k.output.trans h.output, Nat.le_trans h.size k.size, fun i o ho hc =>
    k.block i o (h.block i o ho hc) (hc.imp id fun hs ht => hs (hT i ht (lt_of_some ho)))⟩
theorem Mod.trans' (h : Mod S a b) (k : Mod S b c) : Mod S a c := h.trans k fun _ h _ => h
theorem Mod.mono (h : Mod S a b) (hS : ∀ i, S i → i < a.heap.size → T i) : Mod T a b :=
  ⟨h.os, h.tape, h.output, h.size, fun i o ho hc => h.block i o ho (hc.imp id fun ht hs => ht (hS i hs (lt_of_some ho)))⟩
theorem Mod.drew (h : Mod S a b) : Mod S a b.drew := ⟨h.os, h.tape, h.output, h.size, h.block⟩
theorem Mod.drewN (h : Mod S a b) (n : Nat) : Mod S a (b.drewN n) := ⟨h.os, h.tape, h.output, h.size, h.block⟩
theorem Mod.alloc (h : Mod S a b) (o : Obj) : Mod S a (b.alloc o) :=
  ⟨h.os, h.tape, h.output, by simp; have := h.size; omega, fun i x hx hc => by
    have := h.block i x hx hc
    rw [Below.heap_alloc _ _ _ (lt_of_some this)]; exact this⟩
theorem Mod.below (h : Mod S a b) (k : Below B b c) (hB : ∀ i, B ≤ i → i < a.heap.size → S i ∧ ∀ o, a.heap[i]? = some o → ctl o = false) : Mod S a c :=
  ⟨k.os.trans h.os, k.tape.trans h.tape, k.output.trans h.output, Nat.le_trans h.size k.size, fun i o ho hc => by
    have hlt := lt_of_some ho
    rw [k.block i (Nat.lt_of_not_le fun hle => by
      obtain ⟨h1, h2⟩ := hB i hle hlt
      rcases hc with hc | hc
      · rw [h2 o ho] at hc; cases hc
      · exact hc h1)]
    exact h.block i o ho hc⟩
theorem Mod.of_below (k : Below w.heap.size w w') : Mod S w w' := (Mod.refl S w).below k fun i h1 h2 => by omega
theorem Mod.to_below (h : Mod none' w w') : Below w.heap.size w w' :=
  ⟨h.os, h.tape, h.output, h.size, fun k hk => by
    have : w.heap[k]? = some w.heap[k] := Array.getElem?_eq_getElem hk
    rw [this]; exact h.block k _ this (.inr fun hf => hf)⟩
theorem setCell_ctl {p : Addr} {u : Value} {k : Nat} {o : Obj} (h : w.heap[k]? = some o) (hc : ctl o = true ∨ k ≠ p.block) : (w.setCell p u).heap[k]? = some o := by
  by_cases hk : k = p.block
  · subst hk
    simp only [World.setCell, Array.getElem?_modify, h, if_true, Option.map_some]
    rcases hc with hc | hc
    · cases o <;> first | rfl | cases hc
    · exact absurd rfl hc
  · rw [Below.heap_setCell _ _ _ _ hk]; exact h
theorem Mod.setCell (h : Mod S a b) {p : Addr} (hp : p.block < a.heap.size → S p.block) (u : Value) : Mod S a (b.setCell p u) :=
  ⟨h.os, h.tape, h.output, by have := h.size; simpa [World.setCell] using this, fun i o ho hc =>
    setCell_ctl (h.block i o ho hc) (hc.imp id fun hs e => hs (by subst e; exact hp (lt_of_some ho)))⟩
theorem Mod.grown {row : Option Nat} (h : Mod S a b) (hg : b.grownBy c row) (hr : ∀ k, row = some k → (k < a.heap.size → S k ∧ ∀ o, a.heap[k]? = some o → ctl o = false)) : Mod S a c :=
  ⟨hg.os.trans h.os, hg.tape.trans h.tape, hg.output.trans h.output, Nat.le_trans h.size hg.size, fun i o ho hc => by
    have h1 := h.block i o ho hc
    rw [hg.block i (lt_of_some h1) fun e => by
      obtain ⟨h2, h3⟩ := hr i e.symm (lt_of_some ho)
      rcases hc with hc | hc
      · rw [h3 o ho] at hc; cases hc
      · exact hc h2]
    exact h1⟩
theorem Mod.obj (h : Mod S a b) {k : Nat} {o : Obj} (ho : a.heap[k]? = some o) (hk : ¬ S k) : b.heap[k]? = some o := h.block k o ho (.inr hk)
theorem Mod.cell (h : Mod S a b) {p : Addr} {v : Value} (hp : a.cell? p = some v) (hk : ¬ S p.block) : b.cell? p = some v := by
  unfold World.cell? at *
  cases ho : a.heap[p.block]? with
  | none => rw [ho] at hp; cases hp
  | some o => rw [h.obj ho hk]; rw [ho] at hp; exact hp
theorem Mod.same (h : Mod S a b) {k : Nat} (hlt : k < a.heap.size) (hk : ¬ S k) : b.heap[k]? = a.heap[k]? := by
  have : a.heap[k]? = some a.heap[k] := Array.getElem?_eq_getElem hlt
  rw [this]; exact h.obj this hk
theorem Mod.ctl (h : Mod S a b) (B : Nat) : Ctl B a b := ⟨h.size, fun k o _ ho hc => h.block k o ho (.inl hc)⟩
theorem Mod.keeps (h : Mod S a b) (hR : ∀ k, R k → k < a.heap.size → ¬ S k) : Keeps R a b :=
  ⟨h.size, fun k o ho _ hr => h.obj ho (hR k hr (lt_of_some ho))⟩
theorem Mod.mv (h : Mod S a b) (B : Nat) : Mv S B a b := ⟨h.os, h.tape, h.output, h.size, fun k o ho hc => by
  split at hc
  · exact h.block k o ho (.inl (by assumption))
  · exact h.block k o ho (.inr hc)⟩

theorem Mv.trans (h : Mv S B a b) (k : Mv S B b c) : Mv S B a c :=
  ⟨k.os.trans h.os, k.tape.trans h.tape, k.output.trans h.output, Nat.le_trans h.size k.size, fun i o ho hc => k.block i o (h.block i o ho hc) hc⟩
theorem Mv.mono (h : Mv S B a b) (hS : ∀ i, S i → i < a.heap.size → T i) (hB : C ≤ B) : Mv T C a b :=
  ⟨h.os, h.tape, h.output, h.size, fun i o ho hc => h.block i o ho (by
    split
    · rename_i h1; rw [if_pos h1] at hc; omega
    · rename_i h1; rw [if_neg h1] at hc; exact fun hs => hc (hS i hs (lt_of_some ho)))⟩
theorem Mv.obj (h : Mv S B a b) {k : Nat} {o : Obj} (ho : a.heap[k]? = some o) (hn : ctl o = false) (hk : ¬ S k) : b.heap[k]? = some o :=
  h.block k o ho (by rw [if_neg (by rw [hn]; exact Bool.false_ne_true)]; exact hk)
theorem cells_of_cell {a : World} {p : Addr} {v : Value} (hp : a.cell? p = some v) : ∃ cs t fr, a.heap[p.block]? = some (.cells cs t fr) := by
  unfold World.cell? at hp
  split at hp
  · rename_i c e f h; exact ⟨c, e, f, h⟩
  · cases hp
theorem Mv.cell (h : Mv S B a b) {p : Addr} {v : Value} (hp : a.cell? p = some v) (hk : ¬ S p.block) : b.cell? p = some v := by
  obtain ⟨cs, t, fr, ho⟩ := cells_of_cell hp
  unfold World.cell? at *
  rw [h.obj ho rfl hk]; rw [ho] at hp; exact hp
theorem Mv.frozen (h : Mv S B a b) {p : Addr} {v : Value} (hp : a.cell? p = some v) (hk : ¬ S p.block) : b.frozen? p = a.frozen? p := by
  obtain ⟨cs, t, fr, ho⟩ := cells_of_cell hp
  unfold World.frozen?
  rw [h.obj ho rfl hk, ho]
theorem Mod.frozen (h : Mod S a b) {p : Addr} {v : Value} (hp : a.cell? p = some v) (hk : ¬ S p.block) : b.frozen? p = a.frozen? p := (h.mv 0).frozen hp hk
/-- what a call has turned is what it had turned, behind an iterator's step -/
theorem Mod.then_mv (h : Mod S a b) (k : Mv T B b c) (hT : ∀ i, T i → i < a.heap.size → S i) (hB : a.heap.size ≤ B) : Mod S a c :=
  ⟨k.os.trans h.os, k.tape.trans h.tape, k.output.trans h.output, Nat.le_trans h.size k.size, fun i o ho hc => k.block i o (h.block i o ho hc) (by
    have := lt_of_some ho
    split
    · omega
    · rename_i h1
      rcases hc with hc | hc
      · exact absurd hc h1
      · exact fun ht => hc (hT i ht this))⟩
theorem Mv.putObj (w : World) (l : Nat) (o o' : Obj) (hl : w.heap[l]? = some o) (hc : Proofs.Ytecfenoidcolfaa.ctl o = true) (hB : B ≤ l) : Mv S B w (w.putObj l o') :=
  ⟨rfl, rfl, rfl, by simp [World.putObj], fun k x hx hk => by
    rw [World.putObj_heap_other (fun e => ?_)]
    · exact hx
    · subst e
      rw [hl] at hx
      cases hx
      rw [if_pos hc] at hk
      omega⟩

theorem Keeps.refl (R : Nat → Prop) (w : World) : Keeps R w w := ⟨Nat.le_refl _, fun _ _ h _ _ => h⟩
theorem Keeps.trans (h : Keeps R a b) (k : Keeps R b c) : Keeps R a c := ⟨Nat.le_trans h.size k.size, fun i o ho hc hr => k.block i o (h.block i o ho hc hr) hc hr⟩
theorem Keeps.mono (h : Keeps R a b) (hS : ∀ i, S i → R i) : Keeps S a b := ⟨h.size, fun i o ho hc hr => h.block i o ho hc (hS i hr)⟩
theorem Keeps.cell (h : Keeps R a b) {p : Addr} {v : Value} (hp : a.cell? p = some v) (hk : R p.block) : b.cell? p = some v := by
  obtain ⟨cs, t, fr, ho⟩ := cells_of_cell hp
  unfold World.cell? at *
  rw [h.block _ _ ho rfl hk]; rw [ho] at hp; exact hp
theorem Keeps.frozen (h : Keeps R a b) {p : Addr} {v : Value} (hp : a.cell? p = some v) (hk : R p.block) : b.frozen? p = a.frozen? p := by
  obtain ⟨cs, t, fr, ho⟩ := cells_of_cell hp
  unfold World.frozen?
  rw [h.block _ _ ho rfl hk, ho]
theorem Mv.keeps (h : Mv S B a b) (hR : ∀ k, R k → ¬ S k) : Keeps R a b := ⟨h.size, fun k o ho hc hr => h.obj ho hc (hR k hr)⟩
theorem Ctl.refl (B : Nat) (w : World) : Ctl B w w := ⟨Nat.le_refl _, fun _ _ _ h _ => h⟩
theorem Ctl.trans (h : Ctl B a b) (k : Ctl B b c) : Ctl B a c := ⟨Nat.le_trans h.1 k.1, fun i o hB ho hc => k.2 i o hB (h.2 i o hB ho hc) hc⟩
theorem Ctl.mono (h : Ctl B a b) (hB : B ≤ C) : Ctl C a b := ⟨h.1, fun i o hi ho hc => h.2 i o (Nat.le_trans hB hi) ho hc⟩
end

/-- **AN ITERATOR**: it hands out the list xs, one by one, as long as a round answers yes. R: the blocks that a round must keep for it; S: the blocks that it turns itself. -/
def Iter {α : Type} (F : Fence) (n : Nat) (P : Program) (g : Nat) (lb : Array Value) (encs : α → Array Value) (R S : Nat → Prop) (xs : List α) (w : World) : Prop :=
  ∀ (l : Nat) (J Jx : List α → World → Prop) (W : World), Keeps R w W → w.heap.size ≤ W.heap.size →
    (∀ s A A', J s A → Mv S W.heap.size A A' → J s A') → (∀ s A A', Jx s A → Mv S W.heap.size A A' → Jx s A') →
    (∀ pre x A, J pre A → pre ++ [x] <+: xs → YieldAt F (n - 1) P l (encs x) A fun e A' =>
      (e = .returned (.bool true) ∧ J (pre ++ [x]) A' ∧ Keeps R A A' ∧ Ctl W.heap.size A A') ∨
      (e = .returned (.bool false) ∧ Jx (pre ++ [x]) A' ∧ Keeps R A A' ∧ Ctl W.heap.size A A')) →
    J [] W →
    CallsIn F n P g (#[.func (.yield l) #[] #[]] ++ lb) W fun e W' => (∃ v, e = .returned v) ∧ (J xs W' ∨ ∃ pre, pre <+: xs ∧ Jx pre W')

theorem Iter.inRound {α : Type} {F : Fence} {n : Nat} {P : Program} {g : Nat} {lb : Array Value} {encs : α → Array Value} {R S : Nat → Prop} {xs : List α} {w : World} (l : Nat)
    (h : Iter F n P g lb encs R S xs w) : Iter (F.inRound l) n P g lb encs R S xs w := h

/-- how a round may be left -/
def outPost {α : Type} (B : Nat) (R : Nat → Prop) (I : List α → World → Prop) (Ix : Code → List α → World → Prop) (xs : List α) (W : World) : Exit → Act → World → Prop
  | .normal, _, W' => Ctl B W W' ∧ Keeps R W W' ∧ I xs W'
  | .ret, _, W' => Ctl B W W' ∧ Keeps R W W' ∧ Ix .ret xs W'
  | .exit id, _, W' => Ctl B W W' ∧ Keeps R W W' ∧ Ix (.exit id) xs W'
  | .goto t, _, W' => Ctl B W W' ∧ Keeps R W W' ∧ Ix (.goto t) xs W'
  | .panic _, _, _ => False
  | .outgrown, _, _ => False

section
variable {F : Fence} {n : Nat} {P : Program} {α : Type} {g : Operand} {ps : Array Tmp} {assign body : Code} {Q : Exit → Act → World → Prop} {a : Act} {w : World}

/-- The law, wherever the loop stands: what 'enterLoop' gives is a premise. -/
theorem wpIn_range_core (l dn : Nat) (mark : List Deferred) (W1 : Nat → World)
    (hen : ∀ fn, (Instr.enterLoop fn a.tmps ps assign body F.round).run P w = .ok (l, mark) (W1 fn))
    (hrec : ∀ fn, (W1 fn).heap[l]? = some (.loop { state := .ready, pending := none, fn, tmps := a.tmps, params := ps, assign, body, defers := dn }))
    (hm1 : ∀ fn, Mod none' w (W1 fn)) (hl : w.heap.size ≤ l)
    (h1 : 1 ≤ n) {gf : Nat} {lb : Array Value} (hg : a.eval g = .func (.func gf) #[] lb) (hFg : F.fn gf) (eg : ∀ args w, (callFunc gf args).run P w = .ok (.enter gf args) w)
    {encs : α → Array Value} {R S : Nat → Prop} {xs : List α} {w0 : World} (hseq : Iter F (n - 1) P gf lb encs R S xs w0) (hk0 : Keeps R w0 w) (hps : ∀ x, (encs x).size = ps.size)
    (I : List α → World → Prop) (Ix : Code → List α → World → Prop)
    (hI : ∀ s A A', I s A → Mv S w.heap.size A A' → I s A') (hIx : ∀ c s A A', Ix c s A → Mv S w.heap.size A A' → Ix c s A') (h0 : I [] w)
    (hround : ∀ (pre : List α) (x : α) (W : World), (∃ r, W.heap[l]? = some (.loop r)) → I pre W → pre ++ [x] <+: xs →
      assign.wpIn (F.inRound l) (n - 1 - 1) P (Exit.then (fun a' Wa => Ctl w.heap.size W Wa ∧ Keeps R W Wa ∧ ∀ Wb, Mv none' w.heap.size Wa Wb → (∃ r, Wb.heap[l]? = some (.loop r)) →
          body.wpIn (F.inRound l) (n - 1 - 1) P (outPost w.heap.size R I Ix (pre ++ [x]) Wb) a' Wb) (fun _ _ _ => False))
        { tmps := (ps.zip (encs x)).foldl (fun t (p, v) => t.setIfInBounds p v) a.tmps, defers := [] } W)
    (hdone : ∀ (W : World), I xs W → (∀ fn k o, w.heap.size ≤ k → (W1 fn).heap[k]? = some o → ctl o = true → k ≠ l → W.heap[k]? = some o) → Q .normal { a with defers := mark ++ a.defers } W)
    (hstop : ∀ (c : Code) (pre : List α) (W : World), pre <+: xs → Ix c pre W → (∀ fn k o, w.heap.size ≤ k → (W1 fn).heap[k]? = some o → ctl o = true → k ≠ l → W.heap[k]? = some o) → c.wpIn F n P Q { a with defers := mark ++ a.defers } W)
    (hW1 : ∀ fn fn' k, k ≠ l → (W1 fn).heap[k]? = (W1 fn').heap[k]?) :
    (Code.rangeFunc g ps assign body).wpIn F n P Q a w := by
  refine wpIn_rangeFunc ?_
  intro fn hfn
  have hL1 := hrec fn
  have hM1 := hm1 fn
  have he1 := hen fn
  replace hdone : ∀ (W : World), I xs W → (∀ k o, w.heap.size ≤ k → (W1 fn).heap[k]? = some o → ctl o = true → k ≠ l → W.heap[k]? = some o) → Q .normal { a with defers := mark ++ a.defers } W :=
    fun W hi hk => hdone W hi fun fn' k o h1 h2 h3 h4 => hk k o h1 (by rw [hW1 fn fn' k h4]; exact h2) h3 h4
  replace hstop : ∀ (c : Code) (pre : List α) (W : World), pre <+: xs → Ix c pre W → (∀ k o, w.heap.size ≤ k → (W1 fn).heap[k]? = some o → ctl o = true → k ≠ l → W.heap[k]? = some o) → c.wpIn F n P Q { a with defers := mark ++ a.defers } W :=
    fun c pre W hp hi hk => hstop c pre W hp hi fun fn' k o h1 h2 h3 h4 => hk k o h1 (by rw [hW1 fn fn' k h4]; exact h2) h3 h4
  clear hen hrec hm1 hW1
  generalize W1 fn = W1 at *
  obtain ⟨rec, hrec⟩ : ∃ rec : LoopState → Option Code → Loop, rec = fun st pe => { state := st, pending := pe, fn, tmps := a.tmps, params := ps, assign, body, defers := dn } := ⟨_, rfl⟩
  replace hL1 : W1.heap[l]? = some (.loop (rec .ready none)) := by rw [hrec]; exact hL1
  have hlt1 : l < W1.heap.size := lt_of_some hL1
  have hsz1 := hM1.size
  have hI1 : I [] W1 := hI _ _ _ h0 ((hM1.mv _).mono (fun i h _ => h.elim) (Nat.le_refl _))
  -- what of the book-keeping is not this loop's own
  let Rest : World → Prop := fun W => ∀ k o, w.heap.size ≤ k → W1.heap[k]? = some o → ctl o = true → k ≠ l → W.heap[k]? = some o
  have hrest_mv : ∀ A A', Rest A → Mv S W1.heap.size A A' → Rest A' := fun A A' h hm k o hk ho hc hkl =>
    hm.block k o (h k o hk ho hc hkl) (by rw [if_pos hc]; exact lt_of_some ho)
  have hrest_ctl : ∀ A A', Rest A → Ctl w.heap.size A A' → Rest A' := fun A A' h hm k o hk ho hc hkl => hm.2 k o hk (h k o hk ho hc hkl) hc
  have hrest_put : ∀ (A : World) (o' : Obj), Rest A → Rest (A.putObj l o') := fun A o' h k o hk ho hc hkl => by
    rw [World.putObj_heap_other hkl]; exact h k o hk ho hc hkl
  refine ⟨l, mark, W1, { target := .fn (.func gf) lb, args := #[.func (.yield l) #[] #[]] }, W1, gf, #[.func (.yield l) #[] #[]] ++ lb, W1, he1, ?_, ?_, ?_, fun _ => h1, ?_⟩
  · simp only [resolve, hg]
    simp [go_sem]
  · intro f' hf'; simp [Target.leads] at hf'; subst hf'; exact hFg
  · simp [invoke, go_sem, eg]
  · refine (hseq l
      (fun pre W => I pre W ∧ W.heap[l]? = some (.loop (rec .ready none)) ∧ Rest W)
      (fun pre W => ∃ c, Ix c pre W ∧ W.heap[l]? = some (.loop (rec .done (some c))) ∧ Rest W)
      W1 (hk0.trans (hM1.keeps fun _ _ _ h => h)) (Nat.le_trans hk0.size hsz1)
      (fun s A A' hs hm => ⟨hI _ _ _ hs.1 (hm.mono (fun _ h _ => h) hsz1), hm.block l _ hs.2.1 (by simpa [ctl] using hlt1), hrest_mv _ _ hs.2.2 hm⟩)
      (fun s A A' hs hm => by
        obtain ⟨c, h1, h2, h3⟩ := hs
        exact ⟨c, hIx c _ _ _ h1 (hm.mono (fun _ h _ => h) hsz1), hm.block l _ h2 (by simpa [ctl] using hlt1), hrest_mv _ _ h3 hm⟩)
      ?_ ⟨hI1, hL1, fun k o _ ho _ _ => ho⟩).mono ?_
    · -- one round
      rintro pre x W ⟨hi, hlW, hrW⟩ hpre
      have hy := run_yield (P := P) (args := encs x) hlW (by rw [hrec]; exact hps x)
      rw [hrec] at hy
      refine ⟨fn, _, assign, body, hy, roundIn_of_wpIn hfn (wpIn_mono (hround pre x W ⟨_, hlW⟩ hi hpre) ?_)⟩
      clear hy
      intro ex a' Wa hK
      cases ex with
      | normal =>
        obtain ⟨hca, hka, hbody⟩ := hK
        have hla := hca.2 l _ hl hlW rfl
        have hra := hrest_ctl _ _ hrW hca
        refine ⟨_, run_beginRound hla (by rw [hrec]), ?_⟩
        obtain ⟨Wb, hWb⟩ : ∃ Wb, Wa.putObj l (.loop { rec .ready none with state := .busy }) = Wb := ⟨_, rfl⟩
        have hmb : Mv none' w.heap.size Wa Wb := by rw [← hWb]; exact Mv.putObj _ _ _ _ hla rfl hl
        have hlb : Wb.heap[l]? = some (.loop { rec .ready none with state := .busy }) := by rw [← hWb]; exact World.putObj_heap_same (lt_of_some hla)
        have hrb : Rest Wb := by rw [← hWb]; exact hrest_put _ _ hra
        rw [hWb]
        have hkb : Keeps R W Wb := hka.trans (hmb.keeps fun _ _ h => h)
        have hcb : ∀ k o, W1.heap.size ≤ k → W.heap[k]? = some o → ctl o = true → Wb.heap[k]? = some o := fun k o hk ho hc => by
          rw [← hWb, World.putObj_heap_other (by omega)]; exact hca.2 k o (by omega) ho hc
        refine wpIn_mono (hbody Wb hmb ⟨_, hlb⟩) ?_
        have fin : ∀ (jump : Option Code) (W3 : World), Ctl w.heap.size Wb W3 → Keeps R Wb W3 →
            ∃ W4, (Instr.endRound l jump).run P W3 = .ok (.bool jump.isNone) W4 ∧ Mv none' w.heap.size W3 W4 ∧ W4.heap[l]? = some (.loop (rec (if jump.isNone then .ready else .done) jump)) ∧ Rest W4 ∧ Keeps R W W4 ∧ Ctl W1.heap.size W W4 := fun jump W3 hc3 hk3 => by
          have hl3 := hc3.2 l _ hl hlb rfl
          have hr3 := run_endRound (P := P) jump hl3
          rw [hrec] at hr3
          refine ⟨_, hr3, Mv.putObj _ _ _ _ hl3 rfl hl, by rw [hrec]; exact World.putObj_heap_same (lt_of_some hl3), hrest_put _ _ (hrest_ctl _ _ hrb hc3), ?_, ?_, ?_⟩
          · exact (hkb.trans hk3).trans ((Mv.putObj (S := none') (B := w.heap.size) _ _ _ _ hl3 rfl hl).keeps fun _ _ h => h)
          · have h5 := (hkb.trans hk3).size
            simpa [World.putObj] using h5
          · intro k o hk ho hc
            rw [World.putObj_heap_other (by omega)]
            exact hc3.2 k o (by omega) (hcb k o hk ho hc) hc
        intro ex a3 W3 hp
        cases ex with
        | normal =>
          obtain ⟨hc3, hk3, hi3⟩ := hp
          obtain ⟨W4, hr4, hm4, hl4, hrr, hk4, hc4⟩ := fin none W3 hc3 hk3
          exact ⟨_, _, hr4, .inl ⟨rfl, ⟨hI _ _ _ hi3 (hm4.mono (fun i h _ => h.elim) (Nat.le_refl _)), hl4, hrr⟩, hk4, hc4⟩⟩
        | ret =>
          obtain ⟨hc3, hk3, hi3⟩ := hp
          obtain ⟨W4, hr4, hm4, hl4, hrr, hk4, hc4⟩ := fin (some .ret) W3 hc3 hk3
          exact ⟨_, _, hr4, .inr ⟨rfl, ⟨.ret, hIx _ _ _ _ hi3 (hm4.mono (fun i h _ => h.elim) (Nat.le_refl _)), hl4, hrr⟩, hk4, hc4⟩⟩
        | exit id =>
          obtain ⟨hc3, hk3, hi3⟩ := hp
          obtain ⟨W4, hr4, hm4, hl4, hrr, hk4, hc4⟩ := fin (some (.exit id)) W3 hc3 hk3
          exact ⟨_, _, hr4, .inr ⟨rfl, ⟨.exit id, hIx _ _ _ _ hi3 (hm4.mono (fun i h _ => h.elim) (Nat.le_refl _)), hl4, hrr⟩, hk4, hc4⟩⟩
        | goto t =>
          obtain ⟨hc3, hk3, hi3⟩ := hp
          obtain ⟨W4, hr4, hm4, hl4, hrr, hk4, hc4⟩ := fin (some (.goto t)) W3 hc3 hk3
          exact ⟨_, _, hr4, .inr ⟨rfl, ⟨.goto t, hIx _ _ _ _ hi3 (hm4.mono (fun i h _ => h.elim) (Nat.le_refl _)), hl4, hrr⟩, hk4, hc4⟩⟩
        | panic ch => exact hp.elim
        | outgrown => exact hp.elim
      | ret => exact hK.elim
      | exit id => exact hK.elim
      | goto t => exact hK.elim
      | panic ch => exact hK.elim
      | outgrown => exact hK.elim
    · -- behind the iterator
      rintro e W2 ⟨⟨v, rfl⟩, (⟨hi, hl2, hr2⟩ | ⟨pre, hpre, c, hi, hl2, hr2⟩)⟩
      · exact ⟨none, _, by have := run_endLoop (P := P) hl2 (by rw [hrec]; simp); rw [hrec] at this; exact this,
          hdone _ (hI _ _ _ hi (Mv.putObj _ _ _ _ hl2 rfl hl)) (hrest_put _ _ hr2)⟩
      · exact ⟨some c, _, by have := run_endLoop (P := P) hl2 (by rw [hrec]; simp); rw [hrec] at this; exact this,
          hstop c pre _ hpre (hIx c _ _ _ hi (Mv.putObj _ _ _ _ hl2 rfl hl)) (hrest_put _ _ hr2)⟩

/-- **A RANGE OVER A FUNCTION, IN NO ROUND OF ANOTHER ONE.** -/
theorem wpIn_range (hro : F.round = none) (h1 : 1 ≤ n) {gf : Nat} {lb : Array Value} (hg : a.eval g = .func (.func gf) #[] lb) (hFg : F.fn gf) (eg : ∀ args w, (callFunc gf args).run P w = .ok (.enter gf args) w)
    {encs : α → Array Value} {R S : Nat → Prop} {xs : List α} {w0 : World} (hseq : Iter F (n - 1) P gf lb encs R S xs w0) (hk0 : Keeps R w0 w) (hps : ∀ x, (encs x).size = ps.size)
    (I : List α → World → Prop) (Ix : Code → List α → World → Prop)
    (hI : ∀ s A A', I s A → Mv S w.heap.size A A' → I s A') (hIx : ∀ c s A A', Ix c s A → Mv S w.heap.size A A' → Ix c s A') (h0 : I [] w)
    (hround : ∀ (l : Nat) (pre : List α) (x : α) (W : World), w.heap.size ≤ l → (∃ r, W.heap[l]? = some (.loop r)) → I pre W → pre ++ [x] <+: xs →
      assign.wpIn (F.inRound l) (n - 1 - 1) P (Exit.then (fun a' Wa => Ctl w.heap.size W Wa ∧ Keeps R W Wa ∧ ∀ Wb, Mv none' w.heap.size Wa Wb → (∃ r, Wb.heap[l]? = some (.loop r)) →
          body.wpIn (F.inRound l) (n - 1 - 1) P (outPost w.heap.size R I Ix (pre ++ [x]) Wb) a' Wb) (fun _ _ _ => False))
        { tmps := (ps.zip (encs x)).foldl (fun t (p, v) => t.setIfInBounds p v) a.tmps, defers := [] } W)
    (hdone : ∀ (D : Nat) (W : World), w.heap.size ≤ D → I xs W → W.heap[D]? = some (.deferred (some [])) → Q .normal { a with defers := { target := .collected D, args := #[] } :: a.defers } W)
    (hstop : ∀ (D : Nat) (c : Code) (pre : List α) (W : World), w.heap.size ≤ D → pre <+: xs → Ix c pre W → W.heap[D]? = some (.deferred (some [])) → c.wpIn F n P Q { a with defers := { target := .collected D, args := #[] } :: a.defers } W) :
    (Code.rangeFunc g ps assign body).wpIn F n P Q a w := by
  have hK : ∀ fn, ((w.alloc (.deferred (some []))).alloc (.loop { state := .ready, pending := none, fn, tmps := a.tmps, params := ps, assign, body, defers := w.heap.size })).heap[w.heap.size]? = some (.deferred (some [])) := fun fn =>
    (Below.heap_alloc _ _ _ (by simp)).trans (World.alloc_heap_new w _)
  refine wpIn_range_core (w.heap.size + 1) w.heap.size [{ target := .collected w.heap.size, args := #[] }]
    (fun fn => (w.alloc (.deferred (some []))).alloc (.loop { state := .ready, pending := none, fn, tmps := a.tmps, params := ps, assign, body, defers := w.heap.size }))
    (fun fn => by rw [hro]; exact run_enterLoop_outer _ _ _ _ _) (fun fn => ?_) (fun fn => ((Mod.refl _ w).alloc _).alloc _) (by omega) h1 hg hFg eg hseq hk0 hps I Ix hI hIx h0
    (fun pre x W => hround _ pre x W (by omega)) (fun W hi hk => ?_) (fun c pre W hp hi hk => ?_) (fun fn fn' k hk => ?_)
  · have := World.alloc_heap_new (w.alloc (.deferred (some []))) (.loop { state := .ready, pending := none, fn, tmps := a.tmps, params := ps, assign, body, defers := w.heap.size })
    rwa [World.size_alloc] at this
  · exact hdone _ W (Nat.le_refl _) hi (hk 0 _ _ (Nat.le_refl _) (hK 0) rfl (by omega))
  · exact hstop _ c pre W (Nat.le_refl _) hp hi (hk 0 _ _ (Nat.le_refl _) (hK 0) rfl (by omega))
  · show (Array.push _ _)[k]? = (Array.push _ _)[k]?
    simp only [Array.getElem?_push]
    have : (w.alloc (.deferred (some []))).heap.size = w.heap.size + 1 := by simp
    rw [if_neg (by omega), if_neg (by omega)]

/-- **A RANGE OVER A FUNCTION IN A ROUND OF ANOTHER ONE.** -/
theorem wpIn_range_in {l₀ : Nat} {r₀ : Loop} (hro : F.round = some l₀) (hl₀ : w.heap[l₀]? = some (.loop r₀)) (h1 : 1 ≤ n) {gf : Nat} {lb : Array Value} (hg : a.eval g = .func (.func gf) #[] lb) (hFg : F.fn gf) (eg : ∀ args w, (callFunc gf args).run P w = .ok (.enter gf args) w)
    {encs : α → Array Value} {R S : Nat → Prop} {xs : List α} {w0 : World} (hseq : Iter F (n - 1) P gf lb encs R S xs w0) (hk0 : Keeps R w0 w) (hps : ∀ x, (encs x).size = ps.size)
    (I : List α → World → Prop) (Ix : Code → List α → World → Prop)
    (hI : ∀ s A A', I s A → Mv S w.heap.size A A' → I s A') (hIx : ∀ c s A A', Ix c s A → Mv S w.heap.size A A' → Ix c s A') (h0 : I [] w)
    (hround : ∀ (l : Nat) (pre : List α) (x : α) (W : World), w.heap.size ≤ l → (∃ r, W.heap[l]? = some (.loop r)) → I pre W → pre ++ [x] <+: xs →
      assign.wpIn (F.inRound l) (n - 1 - 1) P (Exit.then (fun a' Wa => Ctl w.heap.size W Wa ∧ Keeps R W Wa ∧ ∀ Wb, Mv none' w.heap.size Wa Wb → (∃ r, Wb.heap[l]? = some (.loop r)) →
          body.wpIn (F.inRound l) (n - 1 - 1) P (outPost w.heap.size R I Ix (pre ++ [x]) Wb) a' Wb) (fun _ _ _ => False))
        { tmps := (ps.zip (encs x)).foldl (fun t (p, v) => t.setIfInBounds p v) a.tmps, defers := [] } W)
    (hdone : ∀ (W : World), I xs W → Q .normal a W)
    (hstop : ∀ (c : Code) (pre : List α) (W : World), pre <+: xs → Ix c pre W → c.wpIn F n P Q a W) :
    (Code.rangeFunc g ps assign body).wpIn F n P Q a w := by
  refine wpIn_range_core w.heap.size r₀.defers []
    (fun fn => w.alloc (.loop { state := .ready, pending := none, fn, tmps := a.tmps, params := ps, assign, body, defers := r₀.defers }))
    (fun fn => by rw [hro]; exact run_enterLoop_inner hl₀ _ _ _ _ _) (fun fn => World.alloc_heap_new _ _) (fun fn => (Mod.refl _ w).alloc _) (Nat.le_refl _) h1 hg hFg eg hseq hk0 hps I Ix hI hIx h0
    (fun pre x W => hround _ pre x W (Nat.le_refl _)) (fun W hi _ => hdone W hi) (fun c pre W hp hi _ => hstop c pre W hp hi) (fun fn fn' k hk => ?_)
  show (Array.push _ _)[k]? = (Array.push _ _)[k]?
  simp only [Array.getElem?_push]
  rw [if_neg (by omega), if_neg (by omega)]
end
end Go.Proofs.Ytecfenoidcolfaa
