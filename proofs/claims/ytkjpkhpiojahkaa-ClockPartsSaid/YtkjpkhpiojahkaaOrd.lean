/-
  A region that draws its order, each order walked by itself, operation for operation; in a round of a range over a function too. Over any program.
-/
import Derived.Test.YtkjpkhpiojahkaaBase0
namespace Go.Proofs.Ytkjpkhpiojahkaa
set_option linter.unusedVariables false
open Go.RowKit
section
variable {F : Fence} {n : Nat} {P : Program} {ops : Array Oper} {Q : Exit → Act → World → Prop} {a : Act} {w : World} {l : Array Bool} {f i j k : Nat}
/-- Q, but K where the walk goes on -/
def opPost (K : Act → World → Prop) (Q : Exit → Act → World → Prop) : Exit → Act → World → Prop
  | .normal, a, w => K a w
  | e, a, w => Q e a w
theorem opPost_normal {K : Act → World → Prop} (h : K a w) : opPost K Q .normal a w := h
theorem upIn_mono {o : Oper} {K K' : Act → World → Prop} {Q Q' : Exit → Act → World → Prop} (hK : ∀ a w, K a w → K' a w) (hQ : ∀ c a w, Q (.panic c) a w → Q' (.panic c) a w) (hO : LetsOut Q → LetsOut Q') (h : o.wpIn F n P a w K Q) : o.wpIn F n P a w K' Q' := by
  refine ⟨h.1, ?_⟩
  have h2 := h.2
  generalize (o.semAt F.round a.eval).run P w = r at h2 ⊢
  cases r with
  | ok x w' =>
    cases x with
    | value v => exact hK _ _ h2
    | skip => exact hK _ _ h2
    | defer d => exact hK _ _ h2
    | enter f args =>
      refine ⟨h2.1, CallsIn.mono h2.2 fun e w'' he => ?_⟩
      cases e with
      | returned v => exact hK _ _ he
      | panicked c => exact hQ _ _ _ he
      | outgrown => exact hO he
    | row r args => exact ⟨h2.1, RowsIn.mono h2.2 fun v w'' hv => hK _ _ hv⟩
    | round l f t s b =>
      refine ⟨h2.1, RoundIn.mono h2.2 fun e w'' he => ?_⟩
      cases e with
      | returned v => exact hK _ _ he
      | panicked c => exact hQ _ _ _ he
      | outgrown => exact hO he
    | _ => exact h2
  | halt x w' =>
    cases x with
    | panic v => exact hQ _ _ _ h2
    | _ => exact h2
/-- one operation, as a list -/
theorem opIn_list {K : Act → World → Prop} {o : Oper} (ho : ops[i]? = some o) (h : wpListIn F n P ops (opPost K Q) [o] a w) : wpOpIn F n P ops Q i K a w := by
  unfold wpOpIn
  rw [ho]
  unfold wpListIn at h
  show if _ then _ else _
  split
  · rename_i hw
    rw [if_pos hw] at h
    exact upIn_mono (fun _ _ h => h) (fun _ _ _ h => h) (fun h => h) h
  · rename_i hw
    rw [if_neg hw] at h
    exact h
theorem any_done (hr : Region.ready .any ops l = []) (h : Q .normal a w) : wpAnyIn F n P .any ops Q f l a w := by
  cases f with
  | zero => exact ⟨hr, h⟩
  | succ f => exact ⟨fun _ => h, fun i hi => by rw [hr] at hi; cases hi⟩
theorem any_one (hr : Region.ready .any ops l = [i]) (h : wpOpIn F n P ops Q i (wpAnyIn F n P .any ops Q f (l.setIfInBounds i true)) a w) : wpAnyIn F n P .any ops Q (f + 1) l a w :=
  ⟨fun h0 => (by rw [hr] at h0; cases h0), fun i' hi => by
    rw [hr] at hi
    rcases List.mem_singleton.1 hi with rfl
    exact h⟩
theorem any_two (hr : Region.ready .any ops l = [i, j]) (h1 : wpOpIn F n P ops Q i (wpAnyIn F n P .any ops Q f (l.setIfInBounds i true)) a w) (h2 : wpOpIn F n P ops Q j (wpAnyIn F n P .any ops Q f (l.setIfInBounds j true)) a w) : wpAnyIn F n P .any ops Q (f + 1) l a w :=
  ⟨fun h0 => (by rw [hr] at h0; cases h0), fun i' hi => by
    rw [hr] at hi
    rcases List.mem_cons.1 hi with rfl | hi
    · exact h1
    · rcases List.mem_singleton.1 hi with rfl
      exact h2⟩
end
end Go.Proofs.Ytkjpkhpiojahkaa
