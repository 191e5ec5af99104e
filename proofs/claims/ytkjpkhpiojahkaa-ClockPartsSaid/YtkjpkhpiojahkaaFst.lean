/-
  A region that draws its order, in a round too: an operation that yields the same whatever the world is may be taken first. Over any program.
-/
import Derived.Test.YtkjpkhpiojahkaaOrd
namespace Go.Proofs.Ytkjpkhpiojahkaa
set_option linter.unusedVariables false
open Go.RowKit
section
variable {F : Fence} {n : Nat} {P : Program} {ops : Array Oper} {Q : Exit → Act → World → Prop} {md : Region.Mode}
/-- it yields v in every world that meets S, and is about to make no call -/
def YieldsS (P : Program) (S : World → Prop) (ops : Array Oper) (o : Oper) (v : Value) (a : Act) : Prop :=
  ((Region.wanted o (yielded ops a.tmps) = true ∧ ∀ w, S w → (execOp a.eval o).run P w = .ok (.value v) w) ∨ (Region.wanted o (yielded ops a.tmps) = false ∧ v = undef)) ∧ ∀ w, o.about P w a.eval = none
variable {S : World → Prop}
theorem YieldsS.of_same {o : Oper} {v : Value} {a a' : Act} (hy : YieldsS P S ops o v a) (he : execOp a'.eval o = execOp a.eval o) (hw : Region.wanted o (yielded ops a'.tmps) = Region.wanted o (yielded ops a.tmps)) (hb : ∀ w, o.about P w a'.eval = o.about P w a.eval) : YieldsS P S ops o v a' := by
  unfold YieldsS at hy ⊢
  rw [he, hw]
  exact ⟨hy.1, fun w => by rw [hb w]; exact hy.2 w⟩
/-- operation k waits for operation i; so it does if there is no operation k -/
def waits (md : Region.Mode) (ops : Array Oper) (k i : Nat) : Bool :=
  match ops[k]? with
  | none => true
  | some o => o.after.any fun e => Region.binds md e && e.on == i
theorem waits_spec {k i : Nat} {o : Oper} (h : waits md ops k i = true) (ho : ops[k]? = some o) : ∃ e ∈ o.after, Region.binds md e = true ∧ e.on = i := by
  unfold waits at h
  rw [ho] at h
  obtain ⟨i', hi', h⟩ := Array.any_eq_true.1 h
  simp only [Bool.and_eq_true, beq_iff_eq] at h
  exact ⟨_, Array.getElem_mem hi', h⟩
/-- every order, S after each operation but k -/
def wpAnyS (F : Fence) (n : Nat) (P : Program) (md : Region.Mode) (ops : Array Oper) (Q : Exit → Act → World → Prop) (S : World → Prop) (k : Nat) : Nat → Array Bool → Act → World → Prop
  | 0, l, a, w => Region.ready md ops l = [] ∧ Q .normal a w
  | f + 1, l, a, w => (Region.ready md ops l = [] → Q .normal a w) ∧ ∀ i ∈ Region.ready md ops l, wpOpIn F n P ops Q i (fun a' w' => (i = k ∨ S w') ∧ wpAnyS F n P md ops Q S k f (l.setIfInBounds i true) a' w') a w
theorem wpAnyS_in {k : Nat} : ∀ {f : Nat} {l : Array Bool} {a : Act} {w : World}, wpAnyS F n P md ops Q S k f l a w → wpAnyIn F n P md ops Q f l a w
  | 0, _, _, _, h => h
  | _ + 1, _, _, _, h => ⟨h.1, fun i hi => wpOpIn_mono (fun _ _ h' => wpAnyS_in h'.2) (h.2 i hi)⟩
theorem opIn_yield {o : Oper} {i : Nat} {v : Value} {a : Act} {w : World} {K : Act → World → Prop} (hnd : ∀ c, o.op ≠ .defer c) (hi : ops[i]? = some o) (hy : YieldsS P S ops o v a) (hS : S w) (h : K (a.put o.dst v) w) : wpOpIn F n P ops Q i K a w := by
  have hab : ∀ f, o.about P w a.eval = some f → F.fn f := fun f hf => by rw [hy.2 w] at hf; cases hf
  unfold wpOpIn
  rw [hi]
  show if _ then _ else _
  rcases hy.1 with ⟨hw, hv⟩ | ⟨hw, rfl⟩
  · rw [if_pos hw]
    refine ⟨hab, ?_⟩
    rw [Oper.semAt_plain F _ _ hnd, hv w hS]
    exact h
  · rw [if_neg (by rw [hw]; simp)]
    exact ⟨hab, h⟩
/-- a slot more, ahead of an operation or behind it -/
theorem up_put {o : Oper} {d : Option Tmp} {v : Value} {a : Act} {G : Act → Prop} {K : Act → World → Prop} {r : Result Next} (h : o.uponIn F n P (a.put d v) K Q r) (hG : ∀ u, G (a.put o.dst u)) (hGd : ∀ f, G ({ a with defers := f :: a.defers }.put o.dst undef))
    (hc : ∀ u, (a.put d v).put o.dst u = (a.put o.dst u).put d v) (hcd : ∀ f, { a.put d v with defers := f :: (a.put d v).defers }.put o.dst undef = ({ a with defers := f :: a.defers }.put o.dst undef).put d v)
    (hQ : ∀ c w, Q (.panic c) (a.put d v) w → Q (.panic c) a w) : o.uponIn F n P a (fun a' w' => G a' ∧ K (a'.put d v) w') Q r := by
  cases r with
  | ok x w' =>
    cases x with
    | value u => exact ⟨hG u, by rw [← hc]; exact h⟩
    | skip => exact ⟨hG _, by rw [← hc]; exact h⟩
    | defer f => exact ⟨hGd f, by rw [← hcd]; exact h⟩
    | enter f args =>
      refine ⟨h.1, CallsIn.mono h.2 fun e w'' he => ?_⟩
      cases e with
      | returned u => exact ⟨hG u, by rw [← hc]; exact he⟩
      | panicked c => exact hQ _ _ he
      | outgrown => exact he
    | row f args => exact ⟨h.1, RowsIn.mono h.2 fun u w'' he => ⟨hG u, by rw [← hc]; exact he⟩⟩
    | round l f t s b =>
      refine ⟨h.1, RoundIn.mono h.2 fun e w'' he => ?_⟩
      cases e with
      | returned u => exact ⟨hG u, by rw [← hc]; exact he⟩
      | panicked c => exact hQ _ _ he
      | outgrown => exact he
    | _ => exact h
  | halt x w' =>
    cases x with
    | panic u => exact hQ _ _ h
    | _ => exact h
theorem opIn_put {j : Nat} {oi oj : Oper} {v : Value} (hnd : ∀ c, oj.op ≠ .defer c) (hj : ops[j]? = some oj) (hap : oi.apart ops oj = true) (hsi : ∀ cs b, oi.op ≠ .select cs b) (hsj : ∀ cs b, oj.op ≠ .select cs b)
    (hQ : ∀ c a w, Q (.panic c) (a.put oi.dst v) w → Q (.panic c) a w) {K : Act → World → Prop} {a : Act} {w : World} (hy : YieldsS P S ops oi v a) (h : wpOpIn F n P ops Q j K (a.put oi.dst v) w) :
    wpOpIn F n P ops Q j (fun a' w' => YieldsS P S ops oi v a' ∧ K (a'.put oi.dst v) w') a w := by
  obtain ⟨h1, h2, h3⟩ := Oper.apart_spec hap
  have keep : ∀ (a : Act), YieldsS P S ops oi v a → ∀ u, YieldsS P S ops oi v (a.put oj.dst u) := fun a hy u =>
    hy.of_same (execOp_put oi hsi a oj.dst u h3) (wanted_put oi a oj.dst u h3) (fun w => about_put oi w a oj.dst u h3)
  unfold wpOpIn at h ⊢
  rw [hj] at h ⊢
  simp only at h ⊢
  rw [wanted_put oj a oi.dst v h1, about_put oj w a oi.dst v h1] at h
  split
  · rename_i hw
    rw [if_pos hw] at h
    refine ⟨by have := h.1; rw [about_put oj w a oi.dst v h1] at this; exact this, ?_⟩
    have h4 := h.2
    rw [Oper.semAt_plain F _ _ hnd, execOp_put oj hsj a oi.dst v h1] at h4
    rw [Oper.semAt_plain F _ _ hnd]
    exact up_put h4 (keep a hy) (fun f => keep { a with defers := f :: a.defers } (hy.of_same (a' := { a with defers := f :: a.defers }) rfl rfl (fun _ => rfl)) _) (fun u => Act.put_comm a v u h2) (fun f => by
      rw [Act.put_defers]
      exact Act.put_comm _ v undef h2) (fun c w => hQ c a w)
  · rename_i hw
    rw [if_neg hw] at h
    exact ⟨h.1, keep a hy _, by rw [← Act.put_comm a v undef h2]; exact h.2⟩
/-- nothing is put off -/
def noDefers (ops : Array Oper) : Bool := ops.all noDefer
theorem noDefers_spec (h : noDefers ops = true) (j : Nat) (o : Oper) (ho : ops[j]? = some o) : ∀ c, o.op ≠ .defer c :=
  noDefer_ne (Array.all_eq_true_iff_forall_mem.1 h o (Array.mem_of_getElem? ho))
theorem anyS_first {k i : Nat} {oi : Oper} {v : Value} (hk : waits md ops k i = true) (hnd : noDefers ops = true) (hi : ops[i]? = some oi) (hs : Region.noSelect ops = true) (hQ : ∀ c a w, Q (.panic c) (a.put oi.dst v) w → Q (.panic c) a w) :
    ∀ (fuel : Nat) (l : Array Bool) (a : Act) (w : World), S w → (∀ j oj, ops[j]? = some oj → j ≠ i → l.getD j true = false → (∀ e ∈ oj.after, Region.binds md e = true → e.on ≠ i) → oi.apart ops oj = true) →
      i ∈ Region.ready md ops l → YieldsS P S ops oi v a → wpAnyS F n P md ops Q S k fuel (l.setIfInBounds i true) (a.put oi.dst v) w → wpAnyS F n P md ops Q S k (fuel + 1) l a w := by
  have hsel := Region.noSelect_spec hs
  have hdef := noDefers_spec hnd
  intro fuel
  induction fuel with
  | zero =>
    intro l a w hS _ hr hy H
    refine ⟨fun h => (by rw [h] at hr; cases hr), fun j hj => ?_⟩
    by_cases hji : j = i
    · subst hji
      exact opIn_yield (hdef j oi hi) hi hy hS ⟨.inr hS, H⟩
    · have := ready_mono hj hji
      rw [H.1] at this
      cases this
  | succ fuel ih =>
    intro l a w hS hfree hr hy H
    refine ⟨fun h => (by rw [h] at hr; cases hr), fun j hj => ?_⟩
    by_cases hji : j = i
    · subst hji
      exact opIn_yield (hdef j oi hi) hi hy hS ⟨.inr hS, H⟩
    · obtain ⟨hjl, oj, hoj, hall⟩ := mem_ready.1 hj
      obtain ⟨hil, _⟩ := mem_ready.1 hr
      have hno : ∀ e ∈ oj.after, Region.binds md e = true → e.on ≠ i := fun e he hb hei => by
        have h1 := hall e he hb
        rw [hei] at h1
        rw [Array.getD_eq_getD_getElem?] at h1 hil
        cases hl : l[i]? with
        | none => rw [hl] at hil; cases hil
        | some x =>
          rw [hl] at h1 hil
          simp only [Option.getD_some] at h1 hil
          rw [h1] at hil
          cases hil
      have hjk : j ≠ k := fun hjk => by
        subst hjk
        obtain ⟨e, he, hb, hi'⟩ := waits_spec hk hoj
        exact hno e he hb hi'
      have h2 := opIn_put (hdef j oj hoj) hoj (hfree j oj hoj hji hjl hno) (fun cs b => hsel i oi cs b hi) (fun cs b => hsel j oj cs b hoj) hQ hy (H.2 j (ready_mono hj hji))
      refine wpOpIn_mono (fun a' w' h3 => ⟨h3.2.1, ih (l.setIfInBounds j true) a' w' (h3.2.1.resolve_left hjk) (fun k ok hk hki hkl hkn => ?_) (ready_mono hr (Ne.symm hji)) h3.1 ?_⟩) h2
      · refine hfree k ok hk hki ?_ hkn
        by_cases hjk : j = k
        · subst hjk
          exact hjl
        · rw [getD_set_ne true hjk] at hkl
          exact hkl
      · rw [Array.setIfInBounds_comm _ _ hji]
        exact h3.2.2
theorem anyS_take {k i : Nat} {oi : Oper} {v : Value} {f : Nat} {l : Array Bool} {a : Act} {w : World} (hk : waits md ops k i = true) (hi : ops[i]? = some oi) (hnd : noDefers ops = true) (hs : Region.noSelect ops = true) (hf : Region.free md ops l i = true) (hr : (Region.ready md ops l).contains i = true)
    (hQ : ∀ c a w, Q (.panic c) (a.put oi.dst v) w → Q (.panic c) a w) (hS : S w) (hy : YieldsS P S ops oi v a) (h : wpAnyS F n P md ops Q S k f (l.setIfInBounds i true) (a.put oi.dst v) w) : wpAnyS F n P md ops Q S k (f + 1) l a w :=
  anyS_first hk hnd hi hs hQ f l a w hS (Region.free_spec hi hf) (by simpa using hr) hy h
theorem anyS_done {k f : Nat} {l : Array Bool} {a : Act} {w : World} (hr : Region.ready md ops l = []) (h : Q .normal a w) : wpAnyS F n P md ops Q S k f l a w := by
  cases f with
  | zero => exact ⟨hr, h⟩
  | succ f => exact ⟨fun _ => h, fun i hi => by rw [hr] at hi; cases hi⟩
theorem anyS_one {k i f : Nat} {l : Array Bool} {a : Act} {w : World} (hr : Region.ready md ops l = [i]) (h : wpOpIn F n P ops Q i (fun a' w' => (i = k ∨ S w') ∧ wpAnyS F n P md ops Q S k f (l.setIfInBounds i true) a' w') a w) : wpAnyS F n P md ops Q S k (f + 1) l a w :=
  ⟨fun h0 => (by rw [hr] at h0; cases h0), fun i' hi => by
    rw [hr] at hi
    rcases List.mem_singleton.1 hi with rfl
    exact h⟩
/-- one act and one world behind it, told by what goes on from there -/
theorem wpIn_one {d : Code} {Q : Exit → Act → World → Prop} {a act : Act} {w wd : World} (h : d.wpIn F n P (fun e a' w' => e = Exit.normal ∧ a' = act ∧ w' = wd) a w) (k : Q .normal act wd) : d.wpIn F n P Q a w :=
  wpIn_mono h fun e a' w' ⟨he, ha, hw⟩ => by rw [he, ha, hw]; exact k
end
end Go.Proofs.Ytkjpkhpiojahkaa
