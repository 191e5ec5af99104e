/-
  Clock: plain facts for the laws without a reference; events in memory.
-/
import Derived.Test.YtkjpkhpiojahkaaCk8
namespace Go.Proofs.Ytkjpkhpiojahkaa
set_option linter.unusedVariables false
open Go.RowKit Hp
def atL (l : List Int) (n : Int) : Int := l[n.toNat]?.getD 0
theorem atL_set {l : List Int} (hl : l.length = 512) {m n a : Int} (hm : 0 ≤ m ∧ m < 512) (hn : 0 ≤ n) : atL (l.set m.toNat a) n = if n = m then a else atL l n := by
  unfold atL
  by_cases h : n = m
  · subst h
    rw [if_pos rfl, List.getElem?_set_self (by omega)]
    rfl
  · rw [if_neg h, List.getElem?_set_ne (by omega)]
theorem set_ok {c : Ck} {k id a : Int} (he : c.setE k id a = 0) (hn : has c.S (nm k id) = false) :
    c.set k id a = { c with S := ins ltI (nm k id, c.fires a) c.S, ats := c.ats.set (nm k id).toNat a, lates := c.lates.tail } := by
  unfold Ck.set
  rw [if_pos he, without_none hn]
theorem set_not {c : Ck} {k id a : Int} (he : c.setE k id a ≠ 0) : c.set k id a = c := by
  unfold Ck.set
  rw [if_neg he]
/-- nothing is late -/
structure ShOk (c : Ck) (i : Nat) : Prop where
  ok : CkOk c
  lates : c.lates = []
  now : c.now = 0
  worst : c.worst = 0
  each : ∀ x ∈ c.S, c.at x.1 = x.2 ∧ 192 ≤ x.1 ∧ x.1 < 192 + (i : Int)
theorem ShOk.new : ShOk Ck.new 0 := ⟨CkOk.new, rfl, rfl, rfl, fun x h => by cases h⟩
theorem ShOk.more {c : Ck} {i : Nat} (h : ShOk c i) : ShOk c (i + 1) := ⟨h.ok, h.lates, h.now, h.worst, fun x hx => by
  have := h.each x hx
  exact ⟨this.1, this.2.1, by omega⟩⟩
theorem ShOk.setE {c : Ck} {i : Nat} (h : ShOk c i) (hi : i < 60) (a : Int) : c.setE 3 (i : Int) a = timeE a := by
  have hm : mayT 3 (i : Int) := ⟨by decide, by decide, by omega, by omega⟩
  unfold Ck.setE
  rw [if_pos hm]
  split
  · rename_i ht
    have := timeE_iff.1 ht
    have e1 : c.late1 = 0 := by unfold Ck.late1; rw [h.lates]; rfl
    have e2 : max a c.now = a := by rw [h.now]; omega
    rw [e1, e2]
    unfold afterE
    rw [if_pos ht, if_neg (by omega), if_neg (by omega), ht]
  · rfl
theorem ShOk.set {c : Ck} {i : Nat} (h : ShOk c i) (hi : i < 60) {a : Int} (ht : timeE a = 0) : ShOk (c.set 3 (i : Int) a) (i + 1) ∧ (c.set 3 (i : Int) a).S.length = c.S.length + 1 := by
  have he := (h.setE hi a).trans ht
  have hn : has c.S (nm 3 (i : Int)) = false := has_none.2 fun x hx => by
    have := h.each x hx
    unfold nm
    omega
  have hf : c.fires a = a := by
    have := timeE_iff.1 ht
    unfold Ck.fires
    have e1 : c.late1 = 0 := by unfold Ck.late1; rw [h.lates]; rfl
    rw [e1, h.now]
    omega
  have hok : CkOk (c.set 3 (i : Int) a) := h.ok.set
  have hs := set_ok he hn
  rw [hf] at hs
  refine ⟨⟨hok, by rw [hs]; show c.lates.tail = []; rw [h.lates]; rfl, by rw [hs]; exact h.now, by rw [hs]; exact h.worst, fun x hx => ?_⟩, by rw [hs]; exact ins_length _ _⟩
  rw [hs] at hx ⊢
  have hm : 0 ≤ nm 3 (i : Int) ∧ nm 3 (i : Int) < 512 := by unfold nm; omega
  rcases ins_mem.1 hx with rfl | hx
  · refine ⟨?_, by unfold nm; simp only; omega, by unfold nm; simp only; omega⟩
    show atL (c.ats.set (nm 3 (i : Int)).toNat a) (nm 3 (i : Int)) = a
    rw [atL_set h.ok.len hm hm.1, if_pos rfl]
  · have := h.each x hx
    refine ⟨?_, this.2.1, by omega⟩
    show atL (c.ats.set (nm 3 (i : Int)).toNat a) x.1 = x.2
    rw [atL_set h.ok.len hm (by omega), if_neg (by unfold nm; omega)]
    exact this.1
theorem upto_whole {S : List (It Int)} {t : Int} (h : ∀ x ∈ S, x.2 ≤ t) : upto S t = S := by
  unfold upto
  induction S with
  | nil => rfl
  | cons x S ih =>
    rw [List.takeWhile_cons, if_pos (by simpa using h x (List.mem_cons_self ..)), ih fun y hy => h y (List.mem_cons_of_mem _ hy)]
theorem run_all {c : Ck} {to : Int} (h : CkOk c) (ht : timeE to = 0) (hn : c.now ≤ to) (hx : ∀ x ∈ c.S, x.2 ≤ to) :
    c.stepE to = 0 ∧ Ck.run (c.S.length + 1) c to = (c.S.map c.evOf, { c with S := [], now := to, worst := worstOf c c.S c.worst }) := by
  have h1 := stepE_zero ht hn
  refine ⟨h1, ?_⟩
  rw [run_ok _ _ _ (Nat.lt_succ_self _) h1, upto_whole hx]
  unfold Ck.gone
  rw [upto_whole hx, List.drop_length]
theorem worstOf_none {c : Ck} : ∀ {T : List (It Int)} {m : Int}, 0 ≤ m → (∀ x ∈ T, x.2 = c.at x.1) → worstOf c T m = m
  | [], _, _, _ => rfl
  | x :: T, m, hm, h => by
    have := h x (List.mem_cons_self ..)
    show worstOf c T (max m (x.2 - c.at x.1)) = m
    rw [show max m (x.2 - c.at x.1) = m by omega]
    exact worstOf_none hm fun y hy => h y (List.mem_cons_of_mem _ hy)
theorem ShOk.run {c : Ck} {i : Nat} (h : ShOk c i) (hi : i ≤ 60) : c.stepE 1099511627775 = 0 ∧ ∃ T, Ck.run (c.S.length + 1) c 1099511627775 = (T, { c with S := [], now := 1099511627775, worst := 0 }) ∧ T.length = c.S.length ∧ ∀ v ∈ T, v.kind = 3 ∧ v.late = 0 ∧ v.now = v.at' := by
  obtain ⟨h1, h2⟩ := run_all (to := 1099511627775) h.ok (by decide) (by rw [h.now]; decide) (fun x hx => by have := timeE_iff.1 (h.ok.times x hx); omega)
  have h3 : worstOf c c.S c.worst = 0 := by
    rw [h.worst]
    exact worstOf_none (Int.le_refl _) fun x hx => (h.each x hx).1.symm
  rw [h3] at h2
  refine ⟨h1, _, h2, List.length_map _, fun v hv => ?_⟩
  obtain ⟨x, hx, rfl⟩ := List.mem_map.1 hv
  obtain ⟨g1, g2, g3⟩ := h.each x hx
  unfold Ck.evOf
  rw [g1]
  exact ⟨by show x.1 / 64 = 3; omega, by show x.2 - x.2 = 0; omega, rfl⟩
theorem CkOk.run : ∀ (f : Nat) {c : Ck} {to : Int}, CkOk c → CkOk (Ck.run f c to).2
  | 0, _, _, h => h
  | f + 1, c, to, h => by
    cases hv : c.stepV to with
    | none => rw [run_zero c to f hv]; exact h.step
    | some v => rw [run_some c to f hv]; exact CkOk.run f h.step
section
variable {w0 w : World} {R : Ast}
theorem evC_len (v : Ev) : (evC v).length = 5 := rfl
theorem On.evs_form {v : Value} {T : List Ev} (h : On w0 w (sep (evsA v T) R)) : ∃ a c, v = .slice a T.length c := by
  obtain ⟨F, ⟨how, _⟩, _⟩ := h.get1
  rcases own_parts how with ⟨h1, h2⟩ | ⟨_, _, _, h1, _⟩
  · exact ⟨_, _, by rw [h2]; exact h1⟩
  · exact ⟨_, _, h1⟩
theorem On.evs_at {a : Option Addr} {n c k : Nat} {T : List Ev} {v : Ev} (h : On w0 w (sep (evsA (.slice a n c) T) R)) (hv : T[k]? = some v) :
    ∃ b, a = some ⟨b, 0, none⟩ ∧ w.cell? ⟨b, k * 5, none⟩ = some (.int .i64 v.kind) ∧ w.cell? ⟨b, k * 5 + 1, none⟩ = some (.int .i64 v.id) ∧ w.cell? ⟨b, k * 5 + 2, none⟩ = some (.int .i64 v.at') ∧ w.cell? ⟨b, k * 5 + 3, none⟩ = some (.int .i64 v.late) ∧ w.cell? ⟨b, k * 5 + 4, none⟩ = some (.int .i64 v.now) := by
  obtain ⟨F, ⟨how, _⟩, _⟩ := h.get1
  have hk := (List.getElem?_eq_some_iff.1 hv).1
  rcases own_parts how with ⟨_, h2⟩ | ⟨g, cap, cur, h1, _⟩
  · omega
  · cases h1
    have e : ∀ j u, (evC v)[j]? = some u → j < 5 → w.cell? ⟨g, k * 5 + j, none⟩ = some u := fun j u hu hj => own_cellG how (by rw [flat_at evC 5 evC_len T k j v hv hj]; exact hu)
    exact ⟨g, rfl, e 0 _ rfl (by decide), e 1 _ rfl (by decide), e 2 _ rfl (by decide), e 3 _ rfl (by decide), e 4 _ rfl (by decide)⟩
end
end Go.Proofs.Ytkjpkhpiojahkaa
