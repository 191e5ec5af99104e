/-
  The document's clock, as a list: no program in sight.
-/
import Derived.Test.YtkjpkhpiojahkaaOp19
namespace Go.Proofs.Ytkjpkhpiojahkaa
set_option linter.unusedVariables false
open Go.RowKit Hp
structure Tm where
  kind : Int
  id : Int
  at' : Int
  fires : Int
def tmKey (t : Tm) : It Int := (nm t.kind t.id, t.fires)
/-- the document's clock -/
structure Rk where
  L : List Tm
  lates : List Int
  now : Int
  worst : Int
/-- it is this clock -/
structure RkOk (c : Ck) (r : Rk) : Prop where
  lates : r.lates = c.lates
  now : r.now = c.now
  worst : r.worst = c.worst
  perm : (r.L.map tmKey).Perm c.S
  each : ∀ t ∈ r.L, mayT t.kind t.id ∧ c.at (nm t.kind t.id) = t.at'
def tmIs (k i : Int) (t : Tm) : Bool := t.kind == k && t.id == i
/-- what stands at the place of a timer; -1: it is not set -/
def AtIs (L : List Tm) (k i : Int) (x : Int) : Prop := (x = -1 ∧ ∀ t ∈ L, tmIs k i t = false) ∨ ∃ (j : Nat) (t : Tm), x = (j : Int) ∧ L[j]? = some t ∧ tmIs k i t = true
def tmBef (a b : Tm) : Prop := a.fires < b.fires ∨ a.fires = b.fires ∧ (a.kind < b.kind ∨ a.kind = b.kind ∧ a.id < b.id)
instance (a b : Tm) : Decidable (tmBef a b) := by unfold tmBef; infer_instance
def FirstIs (L : List Tm) (x : Int) : Prop := (x = -1 ∧ L = []) ∨ ∃ (j : Nat) (t : Tm), x = (j : Int) ∧ L[j]? = some t ∧ ∀ u ∈ L, ¬ tmBef u t
section
variable {c : Ck} {r : Rk} {k i a to : Int} {t : Tm} {j : Nat}
theorem tmIs_iff : tmIs k i t = true ↔ t.kind = k ∧ t.id = i := by unfold tmIs; simp
theorem cons_erase {α : Type} : ∀ {L : List α} {j : Nat} {t : α}, L[j]? = some t → (t :: L.eraseIdx j).Perm L
  | [], j, t, h => by simp at h
  | x :: L, 0, t, h => by
    have : x = t := by simpa using h
    subst this
    exact List.Perm.refl _
  | x :: L, j + 1, t, h => by
    have h' : L[j]? = some t := by simpa using h
    have ih := cons_erase h'
    show (t :: x :: L.eraseIdx j).Perm (x :: L)
    exact (List.Perm.swap x t _).trans (ih.cons x)
theorem RkOk.len (h : RkOk c r) : r.L.length = c.S.length := by
  have := h.perm.length_eq
  rwa [List.length_map] at this
theorem RkOk.mem (h : RkOk c r) (ht : t ∈ r.L) : tmKey t ∈ c.S := h.perm.mem_iff.1 (List.mem_map.2 ⟨t, ht, rfl⟩)
theorem RkOk.hasI (ho : CkOk c) (h : RkOk c r) (hm : mayT k i) : (∀ t ∈ r.L, tmIs k i t = false) ↔ has c.S (nm k i) = false := by
  constructor
  · intro hn
    refine has_none.2 fun x hx e => ?_
    obtain ⟨t, ht, rfl⟩ := List.mem_map.1 (h.perm.mem_iff.2 hx)
    have := nm_inj (h.each t ht).1 hm e
    have h2 := hn t ht
    rw [tmIs_iff.2 this] at h2
    cases h2
  · intro hn t ht
    cases hq : tmIs k i t with
    | false => rfl
    | true =>
      obtain ⟨rfl, rfl⟩ := tmIs_iff.1 hq
      exact absurd rfl (has_none.1 hn _ (h.mem ht))
theorem RkOk.notI (h : RkOk c r) (hm : ¬ mayT k i) : ∀ t ∈ r.L, tmIs k i t = false := fun t ht => by
  cases hq : tmIs k i t with
  | false => rfl
  | true =>
    obtain ⟨rfl, rfl⟩ := tmIs_iff.1 hq
    exact absurd (h.each t ht).1 hm
/-- the timer that is found -/
theorem RkOk.found (ho : CkOk c) (h : RkOk c r) (ht : r.L[j]? = some t) (hi : tmIs k i t = true) : mayT k i ∧ has c.S (nm k i) = true ∧ t.at' = c.at (nm k i) ∧ t.fires = keyAt 0 c.S (nm k i) := by
  obtain ⟨rfl, rfl⟩ := tmIs_iff.1 hi
  have hm := List.mem_of_getElem? ht
  obtain ⟨h1, h2⟩ := h.each t hm
  exact ⟨h1, has_mem (h.mem hm), h2.symm, (keyAt_mem ho.dist (h.mem hm)).symm⟩
/-- it is taken away -/
theorem RkOk.erase (ho : CkOk c) (h : RkOk c r) (ht : r.L[j]? = some t) : ((r.L.eraseIdx j).map tmKey).Perm (without c.S (nm t.kind t.id)) := by
  have h1 : (tmKey t :: (r.L.eraseIdx j).map tmKey).Perm c.S := ((cons_erase ht).map tmKey).trans h.perm
  have hd := distinct_perm h1.symm ho.dist
  have h2 : without (tmKey t :: (r.L.eraseIdx j).map tmKey) (nm t.kind t.id) = (r.L.eraseIdx j).map tmKey := without_head (x := tmKey t) hd
  have h3 : (without (tmKey t :: (r.L.eraseIdx j).map tmKey) (nm t.kind t.id)).Perm (without c.S (nm t.kind t.id)) := by
    unfold without
    exact h1.filter _
  rw [h2] at h3
  exact h3
/-- the first one -/
theorem RkOk.first (ho : CkOk c) (h : RkOk c r) {x : It Int} {T : List (It Int)} (hs : c.S = x :: T) (ht : r.L[j]? = some t) (hb : ∀ u ∈ r.L, ¬ tmBef u t) : tmKey t = x := by
  have hm := h.mem (List.mem_of_getElem? ht)
  rw [hs] at hm
  rcases List.mem_cons.1 hm with e | hT
  · exact e
  · exfalso
    have hso := ho.sorted
    rw [hs] at hso
    have ha := (List.pairwise_cons.1 hso).1 _ hT
    obtain ⟨u, hu, rfl⟩ := List.mem_map.1 (h.perm.mem_iff.2 (show x ∈ c.S by rw [hs]; exact List.mem_cons_self ..))
    have hnb := hb u hu
    have m1 := (h.each u hu).1
    have m2 := (h.each t (List.mem_of_getElem? ht)).1
    have ha' : u.fires < t.fires ∨ ¬ t.fires < u.fires ∧ nm u.kind u.id < nm t.kind t.id := by
      rcases (ahead_iff _ _).1 ha with h | ⟨h1, h2⟩
      · exact .inl (of_decide_eq_true h)
      · exact .inr ⟨of_decide_eq_false h1, h2⟩
    obtain ⟨a1, a2, a3, a4⟩ := m1
    obtain ⟨b1, b2, b3, b4⟩ := m2
    unfold tmBef at hnb
    unfold nm at ha'
    omega
end
end Go.Proofs.Ytkjpkhpiojahkaa
