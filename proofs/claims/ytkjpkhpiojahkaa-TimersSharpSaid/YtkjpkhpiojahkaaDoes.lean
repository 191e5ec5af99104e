/-
  Walk: a call with both.
-/
import Derived.Test.YtkjpkhpiojahkaaUR
import Derived.Deep.RegionHeld3
namespace Go.Proofs.Ytkjpkhpiojahkaa
set_option linter.unusedVariables false
open Go.RowKit Hp

def stepS (S : List (It Int)) (ask id k : Int) : List (It Int) :=
  if ask = 0 then putS ltI S id k else if ask = 1 then chS ltI S id k else if ask = 2 then without S id else if ask = 3 then S else if ask = 4 then S.tail else S
theorem stepS_sorted {S : List (It Int)} {ask id k : Int} (hs : Sorted ltI S) : Sorted ltI (stepS S ask id k) := by
  unfold stepS
  split
  · exact putS_sorted ltI_swo hs
  split
  · exact chS_sorted ltI_swo hs
  split
  · exact without_sorted hs
  split
  · exact hs
  split
  · exact hs.sublist (List.tail_sublist S)
  · exact hs
theorem stepS_length {S : List (It Int)} {ask id k : Int} : (stepS S ask id k).length ≤ S.length + 1 := by
  unfold stepS
  split
  · exact putS_length
  split
  · exact chS_length
  split
  · have := without_length_le (S := S) (id := id); omega
  split
  · omega
  split
  · simp; omega
  · omega

section
variable {w0 w : World} {A B R : Ast} {b t : Nat} {cs : Array Value}
theorem On.box3 (h : On w0 w (sep A (sep B (sep (boxA b t cs) R)))) (k : Nat) : w.cell? ⟨b, k, none⟩ = cs[k]? := by
  obtain ⟨F, hF, _⟩ := h.out1.out1.get1
  exact boxA_cell hF k
theorem On.box3_free (h : On w0 w (sep A (sep B (sep (boxA b t cs) R)))) (k : Nat) : w.frozen? ⟨b, k, none⟩ = false := by
  obtain ⟨F, hF, _⟩ := h.out1.out1.get1
  exact boxA_free hF k
theorem On.box3_set (h : On w0 w (sep A (sep B (sep (boxA b t cs) R)))) (k : Nat) (v : Value) : On w0 (w.setCell ⟨b, k, none⟩ v) (sep A (sep B (sep (boxA b t (cs.setIfInBounds k v)) R))) :=
  (h.third.step1 fun _ hF => boxA_set hF k v).sink2
theorem On.new3 (h : On w0 w (sep A (sep B R))) (t : Nat) (cs : Array Value) : On w0 (w.alloc (.cells cs t)) (sep A (sep B (sep (boxA w.heap.size t cs) R))) :=
  (h.add ((Below.refl _ w).alloc (Nat.le_refl _) _) (boxA_new w t cs) (fun j hj => by omega)).sink2
theorem On.drop3 (h : On w0 w (sep A (sep B (sep (boxA b t cs) R)))) : On w0 w (sep A (sep B R)) := h.third.out1
theorem On.ref2 {rb : Nat} {S : List (It Int)} (h : On w0 w (sep A (sep (refA rb S) R))) : ∃ v, RefRaw w rb v S := by
  obtain ⟨F, ⟨v, hr, _⟩, _⟩ := h.out1.get1
  exact ⟨v, hr⟩
end

section
variable {w0 w : World} {hb rb : Nat} {S : List (It Int)} {R : Ast} {ask id k : Int}

theorem On.ref_ne {v : Value} {b t g : Nat} {cs : Array Value} (h : On w0 w (sep (refA rb S) (sep (boxA b t cs) R))) (hr : RefRaw w rb v S) (hg : v.ownBlock = some g) : g ≠ b := by
  obtain ⟨F, ⟨Fa, Fb, ⟨v', hr', hFa⟩, ⟨Fc, Fd, hc, _, _, hFb⟩, hdis, _⟩, _⟩ := h
  have : v' = v := Option.some.inj (hr'.c0.symm.trans hr.c0)
  subst this
  intro e
  subst e
  exact hdis g ((hFa g).2 (.inr hg)) ((hFb g).2 (.inl ((hc.2 g).2 rfl)))
theorem U_take8 (h : On w0 w (sep (H hb S) R)) (hs : Sorted ltI S) (hl : S.length < 800000) :
    Calls Try.prog 118 #[.pointer (some ⟨hb, 0, none⟩)] w fun e w' => e = .returned (.tuple #[.int .i64 (S.headD (0, 0)).1, .int .i64 (S.headD (0, 0)).2, .int .i64 (headE S)]) ∧ On w0 w' (sep (H hb S.tail) R) := U_take h hs (by omega)
theorem U_peek8 (h : On w0 w (sep (H hb S) R)) (hs : Sorted ltI S) (_hl : S.length < 800000) :
    Calls Try.prog 154 #[.pointer (some ⟨hb, 0, none⟩)] w fun e w' => e = .returned (.tuple #[.int .i64 (S.headD (0, 0)).1, .int .i64 (S.headD (0, 0)).2, .int .i64 (headE S)]) ∧ Below w.heap.size w w' := U_peek h hs
theorem without_head {x : It Int} {S : List (It Int)} (hn : (x :: S).Pairwise fun a b => a.1 ≠ b.1) : without (x :: S) x.1 = S := by
  rw [List.pairwise_cons] at hn
  have : without S x.1 = S := without_none (has_none.2 fun y hy => (hn.1 y hy).symm)
  simpa [without] using this

end
end Go.Proofs.Ytkjpkhpiojahkaa
