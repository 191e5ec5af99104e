/-
  Ranges over functions whose frame holds waiting marks too.
-/
import Derived.Test.YtkjpkhpiojahkaaBase0
namespace Go.Proofs.Ytkjpkhpiojahkaa
set_option linter.unusedVariables false
open Go.RowKit

/-- a piece that loop book-keeping leaves alone, if it stays above n -/
structure PlainF (n : Nat) (A : Ast) : Prop where
  mv : ∀ {w w' : World} {F S : Nat → Prop} {B : Nat}, n ≤ B → A.holds w F → Mv S B w w' → (∀ j, F j → ¬ S j) → A.holds w' F
/-- a piece that is there in worlds that are large enough alone, and which book-keeping above leaves alone -/
def Tame (A : Ast) : Prop := ∃ n, (∀ w F, A.holds w F → n ≤ w.heap.size) ∧ PlainF n A
theorem PlainF.mono {n m : Nat} {A : Ast} (h : PlainF n A) (hm : n ≤ m) : PlainF m A := ⟨fun hB => h.mv (Nat.le_trans hm hB)⟩
theorem Plain.f {A : Ast} (h : Plain A) (n : Nat) : PlainF n A := ⟨fun _ => h.mv⟩
theorem PlainF.sep {n : Nat} {A B : Ast} (ha : PlainF n A) (hb : PlainF n B) : PlainF n (Go.Proofs.Ytkjpkhpiojahkaa.sep A B) :=
  ⟨fun hB ⟨Fa, Fb, h1, h2, h3, h4⟩ hm hS => ⟨Fa, Fb, ha.mv hB h1 hm fun j hj => hS j ((h4 j).2 (.inl hj)), hb.mv hB h2 hm fun j hj => hS j ((h4 j).2 (.inr hj)), h3, h4⟩⟩
theorem Plain.sepF {n : Nat} {A B : Ast} (ha : Plain A) (hb : PlainF n B) : PlainF n (Go.Proofs.Ytkjpkhpiojahkaa.sep A B) := (ha.f n).sep hb
theorem Plain.tame {A : Ast} (h : Plain A) : Tame A := ⟨0, fun _ _ _ => Nat.zero_le _, h.f 0⟩
theorem Tame.sep {A B : Ast} : Tame A → Tame B → Tame (Go.Proofs.Ytkjpkhpiojahkaa.sep A B) := fun ⟨n, h1, h2⟩ ⟨m, k1, k2⟩ =>
  ⟨max n m, fun w F ⟨_, _, ha, hb, _⟩ => Nat.max_le.2 ⟨h1 w _ ha, k1 w _ hb⟩, (h2.mono (Nat.le_max_left _ _)).sep (k2.mono (Nat.le_max_right _ _))⟩
theorem Plain.sepT {A B : Ast} (ha : Plain A) (hb : Tame B) : Tame (Go.Proofs.Ytkjpkhpiojahkaa.sep A B) := ha.tame.sep hb
theorem Tame.mk (D : Nat) : Tame (mkA D) :=
  ⟨D + 1, fun w F h => lt_of_some h.1, ⟨fun hB h hm _ => ⟨hm.block D _ h.1 (by show D < _; omega), h.2⟩⟩⟩
theorem Tame.at {w0 w : World} {A : Ast} (h : Tame A) (hon : On w0 w A) : PlainF w.heap.size A := by
  obtain ⟨n, h1, h2⟩ := h
  obtain ⟨F, hF, _⟩ := hon
  exact h2.mono (h1 w F hF)

section
variable {w0 wx A A' : World} {K O O' : Nat → Prop} {St : Ast}
theorem InvR.mvF (hp : PlainF wx.heap.size St) (h0 : w0.heap.size ≤ wx.heap.size) (h : InvR w0 wx K St O A) (hm : Mv O wx.heap.size A A') (hO : ∀ j, O' j → O j ∨ A.heap.size ≤ j) : InvR w0 wx K St O' A' := by
  obtain ⟨F, h1, h2, h3, h4, h5, h6, h7⟩ := h
  refine ⟨F, hp.mv (Nat.le_refl _) h1 hm fun j hj => (h3 j hj).2.2, ((Mod.of_below (S := none') h2).then_mv hm (fun j hj hl => ?_) h0).to_below, fun j hj => ⟨(h3 j hj).1, (h3 j hj).2.1, fun ho => ?_⟩, fun j hj => ?_, Nat.le_trans h5 hm.size, fun j o ho hc hk => ?_, h7⟩
  · have := h4 j hj; omega
  · rcases hO j ho with h | h
    · exact (h3 j hj).2.2 h
    · have := St.lt h1 hj; omega
  · rcases hO j hj with h | h
    · exact h4 j h
    · omega
  · exact hm.obj (h6 j o ho hc hk) hc fun h => by have := h4 j h; have := (h7 j hk).1; omega
end
section
variable {F : Fence} {n : Nat} {P : Program} {α : Type} {g : Operand} {ps : Array Tmp} {assign body : Code} {Q : Exit → Act → World → Prop} {a : Act} {w : World}
/-- **A RANGE OVER A FUNCTION, TOLD BY PIECES OF MEMORY.** Sq: the sequence's piece; St: the state behind the elements so far; M: what the assignment of a round's variables makes of it. -/
theorem wpIn_range_onF (hro : F.round = none) (h1 : 1 ≤ n) {gf : Nat} {lb : Array Value} (hg : a.eval g = .func (.func gf) #[] lb) (hFg : F.fn gf) (eg : ∀ args w, (callFunc gf args).run P w = .ok (.enter gf args) w)
    {encs : α → Array Value} {xs : List α} {w0 : World} {Sq : Ast} (hSq : Plain Sq) (St : List α → Ast) (hSt : ∀ s, PlainF w.heap.size (St s)) (Sx : Code → List α → Ast) (hSx : ∀ c s, PlainF w.heap.size (Sx c s))
    (hon : On w0 w (sep Sq (St [])))
    (hseq : ∀ K, Sq.holds w K → Iter2 F (n - 1) P gf lb encs K none' xs w) (hps : ∀ x, (encs x).size = ps.size)
    (hround : ∀ (K : Nat → Prop) (l : Nat) (pre : List α) (x : α) (W : World), w.heap.size ≤ l → (∃ r, W.heap[l]? = some (.loop r)) → pre ++ [x] <+: xs → On w0 W (sep (holdA K W) (St pre)) →
      assign.wpIn (F.inRound l) (n - 1 - 1) P (Exit.then (fun a' Wa => ∃ M, PlainF w.heap.size M ∧ On w0 Wa (sep (holdA K W) M) ∧ ∀ Wb, (∃ r, Wb.heap[l]? = some (.loop r)) → On w0 Wb (sep (holdA K Wb) M) →
          body.wpIn (F.inRound l) (n - 1 - 1) P (endR w0 K Wb (St (pre ++ [x])) (fun c => Sx c (pre ++ [x]))) a' Wb) (fun _ _ _ => False))
        { tmps := (ps.zip (encs x)).foldl (fun t (p, v) => t.setIfInBounds p v) a.tmps, defers := [] } W)
    (hdone : ∀ (D : Nat) (W : World), w.heap.size ≤ D → On w0 W (sep Sq (St xs)) → W.heap[D]? = some (.deferred (some [])) → Q .normal { a with defers := { target := .collected D, args := #[] } :: a.defers } W)
    (hstop : ∀ (D : Nat) (c : Code) (pre : List α) (W : World), w.heap.size ≤ D → pre <+: xs → On w0 W (sep Sq (Sx c pre)) → W.heap[D]? = some (.deferred (some [])) → c.wpIn F n P Q { a with defers := { target := .collected D, args := #[] } :: a.defers } W) :
    (Code.rangeFunc g ps assign body).wpIn F n P Q a w := by
  have hb0 := hon.to_below
  have h0w : w0.heap.size ≤ w.heap.size := hb0.size
  obtain ⟨F1, ⟨Fa, Fb, q1, q2, q3, q4⟩, q5, q6⟩ := hon
  have hK0 : ∀ j, Fa j → j < w.heap.size ∧ w0.heap.size ≤ j := fun j hj => ⟨Sq.lt q1 hj, q6 j ((q4 j).2 (.inl hj))⟩
  have hout : ∀ (S : Ast) (O : Nat → Prop) (W : World), InvR w0 w Fa S O W → On w0 W (sep Sq S) := fun S O W ⟨G, g1, g2, g3, _, g5, g6, _⟩ => by
    refine ⟨fun j => Fa j ∨ G j, ⟨Fa, G, hSq.mv q1 (Mv.of_kept hb0 g2 g5 g6) (fun j hj hn => hn hj), g1, fun j hj hg => (g3 j hg).2.1 hj, fun _ => Iff.rfl⟩, g2, fun j hj => ?_⟩
    rcases hj with h | h
    · exact (hK0 j h).2
    · exact (g3 j h).1
  refine wpIn_range2 hro h1 hg hFg eg (O0 := none') (hseq Fa q1) (Keeps.refl _ _) hps (fun O s A => InvR w0 w Fa (St s) O A) (fun c O s A => InvR w0 w Fa (Sx c s) O A)
    (fun O O' s A A' h hm hO => h.mvF (hSt s) h0w hm hO) (fun c O O' s A A' h hm hO => h.mvF (hSx c s) h0w hm hO)
    ⟨Fb, q2, q5, fun j hj => ⟨q6 j ((q4 j).2 (.inr hj)), fun hk => q3 j hk hj, fun h => h.elim⟩, fun j hj => hj.elim, Nat.le_refl _, fun j o ho _ _ => ho, hK0⟩
    (fun l O pre x W hl hlr hi hO hpre => ?_) (fun D O W hD hi hK => hdone D W hD (hout _ _ _ hi) hK) (fun D c O pre W hD hp hi hK => hstop D c pre W hD hp (hout _ _ _ hi) hK)
  refine wpIn_mono (hround (fun j => Fa j ∨ O j) l pre x W hl hlr hpre (hi.on (fun j hj => (hO j hj).2) h0w)) (fun e a' Wa hh => ?_)
  cases e with
  | normal =>
    obtain ⟨M, hM, hon1, hbody⟩ := hh
    have hon1' := hon1
    obtain ⟨G, ⟨Ga, Gb, ⟨k1, k2, k3, k4⟩, k5, k6, k7⟩, k8, k9⟩ := hon1
    refine ⟨⟨k2, fun j o _ ho hc => k4 j o ho (.inl hc)⟩, ⟨k2, fun j o ho _ hk => k4 j o ho (.inr hk)⟩, fun Wb hm hr => ?_⟩
    have hon2 : On w0 Wb (sep (holdA (fun j => Fa j ∨ O j) Wb) M) := by
      refine ⟨G, ⟨Ga, Gb, ⟨k1, Nat.le_refl _, fun j hj => ?_, fun _ _ h _ => h⟩, hM.mv (Nat.le_refl _) k5 hm (fun _ _ h => h), k6, k7⟩, ((Mod.of_below (S := none') k8).then_mv hm (fun _ h _ => h.elim) h0w).to_below, k9⟩
      have := k3 j hj; have := hm.size; omega
    have hAb : ∀ j o, W.heap[j]? = some o → ctl o = false → Fa j ∨ O j → Wb.heap[j]? = some o := fun j o ho hc hk => hm.obj (k4 j o ho (.inr hk)) hc (fun h => h)
    have hs : W.heap.size ≤ Wb.heap.size := Nat.le_trans k2 hm.size
    refine wpIn_mono (hbody Wb hr hon2) (fun e a'' W' hh => ?_)
    cases e with
    | normal => exact hi.back hAb hs hh
    | ret => exact hi.back hAb hs hh
    | exit id => exact hi.back hAb hs hh
    | goto t => exact hi.back hAb hs hh
    | panic v => exact hh
    | outgrown => exact hh
  | ret => exact hh
  | exit id => exact hh
  | goto t => exact hh
  | panic v => exact hh
  | outgrown => exact hh
end
theorem On.mvF {w0 w w' : World} {A : Ast} {S : Nat → Prop} {B n : Nat} (hp : PlainF n A) (hn : n ≤ B) (h : On w0 w A) (hm : Mv S B w w') (hS : ∀ j, S j → w.heap.size ≤ j) (hB : w0.heap.size ≤ B) : On w0 w' A := by
  obtain ⟨F, h1, h2, h3⟩ := h
  refine ⟨F, hp.mv hn h1 hm (fun j hj hs => ?_), ?_, h3⟩
  · have := A.lt h1 hj
    have := hS j hs
    omega
  · refine ((Mod.of_below (S := none') h2).then_mv hm (fun j hj hl => ?_) hB).to_below
    have := hS j hj
    have := h2.size
    omega
theorem fin_markF {w0 A : World} {X : Ast} {m D n : Nat} {P : Program} {fn : Func} {t : Array Value} {v : Value} {Post : Ending → World → Prop} {T : Fence} (hX : PlainF n X) (hn : n ≤ D) (h : On w0 A X) (hD : w0.heap.size ≤ D) (hK : A.heap[D]? = some (.deferred (some [])))
    (k : ∀ A', On w0 A' X → (results fn t).run P A' = .ok v A' ∧ Post (.returned v) A') :
    bodyPostM T m P fn Post .ret { tmps := t, defers := [{ target := .collected D, args := #[] }] } A := by
  have h' := h.mvF hX hn (Mv.putObj (S := none') (B := D) A D _ (.deferred none) hK rfl (Nat.le_refl _)) (fun _ h => h.elim) hD
  exact ⟨by simp, .inl ⟨_, _, rfl, run_takeDeferred hK, v, (k _ h').1, (k _ h').2⟩⟩
end Go.Proofs.Ytkjpkhpiojahkaa
