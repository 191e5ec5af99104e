/-
  Ranges over functions, told by pieces of memory. Over any program.
-/
import Derived.Test.YtkjpkhpiojahkaaBase
namespace Go.Proofs.Ytkjpkhpiojahkaa
set_option linter.unusedVariables false
open Go.RowKit

/-- a piece that book-keeping of loops does not touch -/
structure Plain (A : Ast) : Prop where
  mv : ∀ {w w' : World} {F S : Nat → Prop} {B : Nat}, A.holds w F → Mv S B w w' → (∀ j, F j → ¬ S j) → A.holds w' F
theorem Plain.sep {A B : Ast} (ha : Plain A) (hb : Plain B) : Plain (sep A B) :=
  ⟨fun ⟨Fa, Fb, h1, h2, h3, h4⟩ hm hS => ⟨Fa, Fb, ha.mv h1 hm (fun j hj => hS j ((h4 j).2 (.inl hj))), hb.mv h2 hm (fun j hj => hS j ((h4 j).2 (.inr hj))), h3, h4⟩⟩
theorem Plain.box (b t : Nat) (cs : Array Value) : Plain (boxA b t cs) := ⟨fun ⟨h1, h2⟩ hm hS => ⟨hm.obj h1 rfl (hS b ((h2 b).2 rfl)), h2⟩⟩
theorem Plain.row (v : Value) (t size n : Nat) (xs : List Value) : Plain (rowA v t size n xs) :=
  ⟨fun ⟨h1, h2⟩ hm hS => ⟨own_same h1 fun j o hj ho hc => hm.obj ho hc (hS j ((h2 j).2 hj)), h2⟩⟩

/-- a fact, as a piece -/
def prA (p : Prop) : Ast where
  holds _ F := p ∧ ∀ j, ¬ F j
  stable := fun h _ _ => h
  lt := fun h hj => (h.2 _ hj).elim
theorem Plain.pr (p : Prop) : Plain (prA p) := ⟨fun h _ _ => h⟩

/-- blocks that lie as they lay in a world; and book-keeping -/
def holdA (K : Nat → Prop) (wx : World) : Ast where
  holds w F := (∀ j, F j ↔ K j) ∧ wx.heap.size ≤ w.heap.size ∧ (∀ j, K j → j < wx.heap.size) ∧ ∀ j o, wx.heap[j]? = some o → (ctl o = true ∨ K j) → w.heap[j]? = some o
  stable := fun ⟨h1, h2, h3, h4⟩ hm hS => ⟨h1, Nat.le_trans h2 hm.size, h3, fun j o ho hc => hm.block j o (h4 j o ho hc) (hc.imp id fun h => hS j ((h1 j).2 h))⟩
  lt := fun ⟨h1, h2, h3, _⟩ hj => Nat.lt_of_lt_of_le (h3 _ ((h1 _).1 hj)) h2

section
variable {w0 w w' wx : World} {A Q R : Ast} {K : Nat → Prop}
theorem On.pr_open {p : Prop} (h : On w0 w (sep (prA p) R)) : p ∧ On w0 w R := by
  obtain ⟨F, hF, _⟩ := h.get1
  exact ⟨hF.1, h.out1⟩
theorem On.pr_shut {p : Prop} (hp : p) (h : On w0 w R) : On w0 w (sep (prA p) R) := by
  obtain ⟨F, h1, h2, h3⟩ := h
  exact ⟨F, ⟨fun _ => False, F, ⟨hp, fun _ h => h⟩, h1, fun _ h => h.elim, fun j => by simp⟩, h2, h3⟩
theorem On.mv {S : Nat → Prop} {B : Nat} (hp : Plain A) (h : On w0 w A) (hm : Mv S B w w') (hS : ∀ j, S j → w.heap.size ≤ j) (hB : w0.heap.size ≤ B) : On w0 w' A := by
  obtain ⟨F, h1, h2, h3⟩ := h
  refine ⟨F, hp.mv h1 hm (fun j hj hs => ?_), ?_, h3⟩
  · have := A.lt h1 hj
    have := hS j hs
    omega
  · refine ((Mod.of_below (S := none') h2).then_mv hm (fun j hj hl => ?_) hB).to_below
    have := hS j hj
    have := h2.size
    omega
theorem On.hold (h : On w0 w (sep Q R)) : ∃ K, Q.holds w K ∧ (∀ j, K j → w0.heap.size ≤ j) ∧ On w0 w (sep (holdA K w) R) := by
  obtain ⟨F, ⟨Fa, Fb, h1, h2, h3, h4⟩, h5, h6⟩ := h
  exact ⟨Fa, h1, fun j hj => h6 j ((h4 j).2 (.inl hj)), F, ⟨Fa, Fb, ⟨fun _ => Iff.rfl, Nat.le_refl _, fun j hj => Q.lt h1 hj, fun _ _ h _ => h⟩, h2, h3, h4⟩, h5, h6⟩
theorem Mv.of_kept (h1 : Below w0.heap.size w0 w) (h2 : Below w0.heap.size w0 w') (hs : w.heap.size ≤ w'.heap.size) (hk : ∀ j o, w.heap[j]? = some o → ctl o = false → K j → w'.heap[j]? = some o) :
    Mv (fun j => ¬ K j) 0 w w' := by
  have m1 := Mod.of_below (S := none') h1
  have m2 := Mod.of_below (S := none') h2
  refine ⟨m2.os.trans m1.os.symm, m2.tape.trans m1.tape.symm, m2.output.trans m1.output.symm, hs, fun j o ho hc => ?_⟩
  split at hc
  · omega
  · rename_i hn
    exact hk j o ho (by simpa using hn) (Classical.not_not.1 hc)
theorem On.unhold (hp : Plain Q) (hq : Q.holds wx K) (hx : Below w0.heap.size w0 wx) (h : On w0 w (sep (holdA K wx) R)) : On w0 w (sep Q R) := by
  have hb := h.to_below
  obtain ⟨F, ⟨Fa, Fb, ⟨k1, k2, k3, k4⟩, h2, h3, h4⟩, h5, h6⟩ := h
  refine ⟨F, ⟨Fa, Fb, ?_, h2, h3, h4⟩, h5, h6⟩
  have : Fa = K := funext fun j => propext (k1 j)
  subst this
  exact hp.mv hq (Mv.of_kept hx hb k2 fun j o ho _ hk => k4 j o ho (.inr hk)) fun j hj hn => hn hj
end

/-- how a round may be left, told by pieces -/
def endR (w0 : World) (K : Nat → Prop) (Wb : World) (St : Ast) (Sx : Code → Ast) : Exit → Act → World → Prop
  | .normal, _, W' => On w0 W' (sep (holdA K Wb) St)
  | .ret, _, W' => On w0 W' (sep (holdA K Wb) (Sx .ret))
  | .exit id, _, W' => On w0 W' (sep (holdA K Wb) (Sx (.exit id)))
  | .goto t, _, W' => On w0 W' (sep (holdA K Wb) (Sx (.goto t)))
  | .panic _, _, _ => False
  | .outgrown, _, _ => False

/-- what holds between rounds -/
def InvR (w0 wx : World) (K : Nat → Prop) (St : Ast) (O : Nat → Prop) (A : World) : Prop :=
  ∃ F, St.holds A F ∧ Below w0.heap.size w0 A ∧ (∀ j, F j → w0.heap.size ≤ j ∧ ¬ K j ∧ ¬ O j) ∧ (∀ j, O j → wx.heap.size ≤ j) ∧ wx.heap.size ≤ A.heap.size ∧
    (∀ j o, wx.heap[j]? = some o → ctl o = false → K j → A.heap[j]? = some o) ∧ (∀ j, K j → j < wx.heap.size ∧ w0.heap.size ≤ j)
section
variable {w0 wx A A' : World} {K O O' : Nat → Prop} {St : Ast}
theorem InvR.mv (hp : Plain St) (h0 : w0.heap.size ≤ wx.heap.size) (h : InvR w0 wx K St O A) (hm : Mv O wx.heap.size A A') (hO : ∀ j, O' j → O j ∨ A.heap.size ≤ j) : InvR w0 wx K St O' A' := by
  obtain ⟨F, h1, h2, h3, h4, h5, h6, h7⟩ := h
  refine ⟨F, hp.mv h1 hm fun j hj => (h3 j hj).2.2, ((Mod.of_below (S := none') h2).then_mv hm (fun j hj hl => ?_) h0).to_below, fun j hj => ⟨(h3 j hj).1, (h3 j hj).2.1, fun ho => ?_⟩, fun j hj => ?_, Nat.le_trans h5 hm.size, fun j o ho hc hk => ?_, h7⟩
  · have := h4 j hj; omega
  · rcases hO j ho with h | h
    · exact (h3 j hj).2.2 h
    · have := St.lt h1 hj; omega
  · rcases hO j hj with h | h
    · exact h4 j h
    · omega
  · exact hm.obj (h6 j o ho hc hk) hc fun h => by have := h4 j h; have := (h7 j hk).1; omega
theorem InvR.on (h : InvR w0 wx K St O A) (hl : ∀ j, O j → j < A.heap.size) (h0 : w0.heap.size ≤ wx.heap.size) : On w0 A (sep (holdA (fun j => K j ∨ O j) A) St) := by
  obtain ⟨F, h1, h2, h3, h4, h5, h6, h7⟩ := h
  refine ⟨fun j => (K j ∨ O j) ∨ F j, ⟨_, F, ⟨fun _ => Iff.rfl, Nat.le_refl _, fun j hj => ?_, fun _ _ h _ => h⟩, h1, fun j hj hf => ?_, fun _ => Iff.rfl⟩, h2, fun j hj => ?_⟩
  · rcases hj with h | h
    · have := (h7 j h).1; omega
    · exact hl j h
  · rcases hj with h | h
    · exact (h3 j hf).2.1 h
    · exact (h3 j hf).2.2 h
  · rcases hj with (h | h) | h
    · exact (h7 j h).2
    · have := h4 j h; omega
    · exact (h3 j h).1
/-- what a round leaves -/
theorem InvR.back {Wb W' : World} {St' : Ast} (h : InvR w0 wx K St O A) (hAb : ∀ j o, A.heap[j]? = some o → ctl o = false → K j ∨ O j → Wb.heap[j]? = some o) (hs : A.heap.size ≤ Wb.heap.size)
    (k : On w0 W' (sep (holdA (fun j => K j ∨ O j) Wb) St')) : Ctl wx.heap.size Wb W' ∧ Keeps (fun j => K j ∨ O j) Wb W' ∧ InvR w0 wx K St' O W' := by
  obtain ⟨F, h1, h2, h3, h4, h5, h6, h7⟩ := h
  obtain ⟨G, ⟨Fa, Fb, ⟨k1, k2, k3, k4⟩, k5, k6, k7⟩, k8, k9⟩ := k
  refine ⟨⟨k2, fun j o _ ho hc => k4 j o ho (.inl hc)⟩, ⟨k2, fun j o ho _ hk => k4 j o ho (.inr hk)⟩, Fb, k5, k8, fun j hj => ⟨k9 j ((k7 j).2 (.inr hj)), fun hk => k6 j ((k1 j).2 (.inl hk)) hj, fun hk => k6 j ((k1 j).2 (.inr hk)) hj⟩, h4, by omega, fun j o ho hc hk => ?_, h7⟩
  exact k4 j o (hAb j o (h6 j o ho hc hk) hc (.inl hk)) (.inr (.inl hk))
end

section
variable {F : Fence} {n : Nat} {P : Program} {α : Type} {g : Operand} {ps : Array Tmp} {assign body : Code} {Q : Exit → Act → World → Prop} {a : Act} {w : World}
/-- **A RANGE OVER A FUNCTION, TOLD BY PIECES OF MEMORY.** Sq: the sequence's piece; St: the state behind the elements so far; M: what the assignment of a round's variables makes of it. -/
theorem wpIn_range_on (hro : F.round = none) (h1 : 1 ≤ n) {gf : Nat} {lb : Array Value} (hg : a.eval g = .func (.func gf) #[] lb) (hFg : F.fn gf) (eg : ∀ args w, (callFunc gf args).run P w = .ok (.enter gf args) w)
    {encs : α → Array Value} {xs : List α} {w0 : World} {Sq : Ast} (hSq : Plain Sq) (St : List α → Ast) (hSt : ∀ s, Plain (St s)) (Sx : Code → List α → Ast) (hSx : ∀ c s, Plain (Sx c s))
    (hon : On w0 w (sep Sq (St [])))
    (hseq : ∀ K, Sq.holds w K → Iter2 F (n - 1) P gf lb encs K none' xs w) (hps : ∀ x, (encs x).size = ps.size)
    (hround : ∀ (K : Nat → Prop) (l : Nat) (pre : List α) (x : α) (W : World), w.heap.size ≤ l → (∃ r, W.heap[l]? = some (.loop r)) → pre ++ [x] <+: xs → On w0 W (sep (holdA K W) (St pre)) →
      assign.wpIn (F.inRound l) (n - 1 - 1) P (Exit.then (fun a' Wa => ∃ M, Plain M ∧ On w0 Wa (sep (holdA K W) M) ∧ ∀ Wb, (∃ r, Wb.heap[l]? = some (.loop r)) → On w0 Wb (sep (holdA K Wb) M) →
          body.wpIn (F.inRound l) (n - 1 - 1) P (endR w0 K Wb (St (pre ++ [x])) (fun c => Sx c (pre ++ [x]))) a' Wb) (fun _ _ _ => False))
        { tmps := (ps.zip (encs x)).foldl (fun t (p, v) => t.setIfInBounds p v) a.tmps, defers := [] } W)
    (hdone : ∀ (D : Nat) (W : World), w.heap.size ≤ D → On w0 W (sep Sq (St xs)) → W.heap[D]? = some (.deferred (some [])) → Q .normal { a with defers := { target := .collected D, args := #[] } :: a.defers } W)
    (hstop : ∀ (D : Nat) (c : Code) (pre : List α) (W : World), w.heap.size ≤ D → pre <+: xs → On w0 W (sep Sq (Sx c pre)) → W.heap[D]? = some (.deferred (some [])) → c.wpIn F n P Q { a with defers := { target := .collected D, args := #[] } :: a.defers } W) :
    (Code.rangeFunc g ps assign body).wpIn F n P Q a w := by
  have hb0 := hon.to_below
  have h0w : w0.heap.size ≤ w.heap.size := hb0.size
  obtain ⟨F1, ⟨Fa, Fb, q1, q2, q3, q4⟩, q5, q6⟩ := hon
  have hK0 : ∀ j, Fa j → j < w.heap.size ∧ w0.heap.size ≤ j := fun j hj => ⟨Sq.lt q1 hj, q6 j ((q4 j).2 (.inl hj))⟩
  have hout : ∀ (S : Ast) (O : Nat → Prop) (W : World), InvR w0 w Fa S O W → On w0 W (sep Sq S) := fun S O W ⟨G, g1, g2, g3, _, g5, g6, _⟩ => by
    refine ⟨fun j => Fa j ∨ G j, ⟨Fa, G, hSq.mv q1 (Mv.of_kept hb0 g2 g5 g6) (fun j hj hn => hn hj), g1, fun j hj hg => (g3 j hg).2.1 hj, fun _ => Iff.rfl⟩, g2, fun j hj => ?_⟩
    rcases hj with h | h
    · exact (hK0 j h).2
    · exact (g3 j h).1
  refine wpIn_range2 hro h1 hg hFg eg (O0 := none') (hseq Fa q1) (Keeps.refl _ _) hps (fun O s A => InvR w0 w Fa (St s) O A) (fun c O s A => InvR w0 w Fa (Sx c s) O A)
    (fun O O' s A A' h hm hO => h.mv (hSt s) h0w hm hO) (fun c O O' s A A' h hm hO => h.mv (hSx c s) h0w hm hO)
    ⟨Fb, q2, q5, fun j hj => ⟨q6 j ((q4 j).2 (.inr hj)), fun hk => q3 j hk hj, fun h => h.elim⟩, fun j hj => hj.elim, Nat.le_refl _, fun j o ho _ _ => ho, hK0⟩
    (fun l O pre x W hl hlr hi hO hpre => ?_) (fun D O W hD hi hK => hdone D W hD (hout _ _ _ hi) hK) (fun D c O pre W hD hp hi hK => hstop D c pre W hD hp (hout _ _ _ hi) hK)
  refine wpIn_mono (hround (fun j => Fa j ∨ O j) l pre x W hl hlr hpre (hi.on (fun j hj => (hO j hj).2) h0w)) (fun e a' Wa hh => ?_)
  cases e with
  | normal =>
    obtain ⟨M, hM, hon1, hbody⟩ := hh
    have hon1' := hon1
    obtain ⟨G, ⟨Ga, Gb, ⟨k1, k2, k3, k4⟩, k5, k6, k7⟩, k8, k9⟩ := hon1
    refine ⟨⟨k2, fun j o _ ho hc => k4 j o ho (.inl hc)⟩, ⟨k2, fun j o ho _ hk => k4 j o ho (.inr hk)⟩, fun Wb hm hr => ?_⟩
    have hon2 : On w0 Wb (sep (holdA (fun j => Fa j ∨ O j) Wb) M) := by
      refine ⟨G, ⟨Ga, Gb, ⟨k1, Nat.le_refl _, fun j hj => ?_, fun _ _ h _ => h⟩, hM.mv k5 hm (fun _ _ h => h), k6, k7⟩, ((Mod.of_below (S := none') k8).then_mv hm (fun _ h _ => h.elim) h0w).to_below, k9⟩
      have := k3 j hj; have := hm.size; omega
    have hAb : ∀ j o, W.heap[j]? = some o → ctl o = false → Fa j ∨ O j → Wb.heap[j]? = some o := fun j o ho hc hk => hm.obj (k4 j o ho (.inr hk)) hc (fun h => h)
    have hs : W.heap.size ≤ Wb.heap.size := Nat.le_trans k2 hm.size
    refine wpIn_mono (hbody Wb hr hon2) (fun e a'' W' hh => ?_)
    cases e with
    | normal => exact hi.back hAb hs hh
    | ret => exact hi.back hAb hs hh
    | exit id => exact hi.back hAb hs hh
    | goto t => exact hi.back hAb hs hh
    | panic v => exact hh
    | outgrown => exact hh
  | ret => exact hh
  | exit id => exact hh
  | goto t => exact hh
  | panic v => exact hh
  | outgrown => exact hh
end

/-- a block of book-keeping that waits -/
def mkA (D : Nat) : Ast where
  holds w F := w.heap[D]? = some (.deferred (some [])) ∧ ∀ j, ¬ F j
  stable := fun ⟨h1, h2⟩ hm _ => ⟨hm.block D _ h1 (.inl rfl), h2⟩
  lt := fun h hj => (h.2 _ hj).elim
theorem On.mk_add {w0 w : World} {R : Ast} {D : Nat} (h : On w0 w R) (hK : w.heap[D]? = some (.deferred (some []))) : On w0 w (sep (mkA D) R) := by
  obtain ⟨F, h1, h2, h3⟩ := h
  exact ⟨F, ⟨fun _ => False, F, ⟨hK, fun _ h => h⟩, h1, fun _ h => h.elim, fun j => by simp⟩, h2, h3⟩
theorem On.mk_get {w0 w : World} {R : Ast} {D : Nat} (h : On w0 w (sep (mkA D) R)) : w.heap[D]? = some (.deferred (some [])) := by
  obtain ⟨F, hF, _⟩ := h.get1
  exact hF.1

/-- leaving a function behind one range -/
theorem fin_mark {w0 A : World} {X : Ast} {m D : Nat} {P : Program} {fn : Func} {t : Array Value} {v : Value} {Post : Ending → World → Prop} {T : Fence} (hX : Plain X) (h : On w0 A X) (hD : w0.heap.size ≤ D) (hK : A.heap[D]? = some (.deferred (some [])))
    (k : ∀ A', On w0 A' X → (results fn t).run P A' = .ok v A' ∧ Post (.returned v) A') :
    bodyPostM T m P fn Post .ret { tmps := t, defers := [{ target := .collected D, args := #[] }] } A := by
  have h' := h.mv hX (Mv.putObj (S := none') (B := w0.heap.size) A D _ (.deferred none) hK rfl hD) (fun _ h => h.elim) (Nat.le_refl _)
  exact ⟨by simp, .inl ⟨_, _, rfl, run_takeDeferred hK, v, (k _ h').1, (k _ h').2⟩⟩
end Go.Proofs.Ytkjpkhpiojahkaa
