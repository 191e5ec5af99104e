/-
  Rows of structures: a slice's cells, told item by item. Over any program.
-/
import Derived.Test.YtecfenoidcolfaaMapT
import Derived.ProofKit
namespace Go.Proofs.Ytecfenoidcolfaa
set_option linter.unusedVariables false
open Go.RowKit Hp

theorem flat_at {β : Type} (g : β → List Value) (sz : Nat) (hg : ∀ x, (g x).length = sz) : ∀ (A : List β) (k j : Nat) (x : β), A[k]? = some x → j < sz → (A.flatMap g)[k * sz + j]? = (g x)[j]?
  | [], k, j, x, h, _ => by simp at h
  | a :: A, 0, j, x, h, hj => by
    simp at h
    subst h
    rw [List.flatMap_cons, List.getElem?_append_left (by rw [hg]; omega)]
    simp
  | a :: A, k + 1, j, x, h, hj => by
    rw [List.flatMap_cons, List.getElem?_append_right (by rw [hg, Nat.succ_mul]; omega), hg]
    have : (k + 1) * sz + j - sz = k * sz + j := by rw [Nat.succ_mul]; omega
    rw [this]
    exact flat_at g sz hg A k j x (by simpa using h) hj
theorem flat_length {β : Type} (g : β → List Value) (sz : Nat) (hg : ∀ x, (g x).length = sz) : ∀ A : List β, (A.flatMap g).length = A.length * sz
  | [] => by simp
  | a :: A => by rw [List.flatMap_cons, List.length_append, hg, flat_length g sz hg A, List.length_cons, Nat.succ_mul]; omega
theorem flat_set {β : Type} (g : β → List Value) (sz : Nat) (hg : ∀ x, (g x).length = sz) (A : List β) (k : Nat) (x : β) (hk : k < A.length) (l : List Value) (hl : l.length = A.length * sz)
    (h : ∀ i, i < A.length * sz → l[i]? = if k * sz ≤ i ∧ i < k * sz + sz then (g x)[i - k * sz]? else (A.flatMap g)[i]?) : l = (A.set k x).flatMap g := by
  apply List.ext_getElem?
  intro i
  have hlen := flat_length g sz hg (A.set k x)
  rw [List.length_set] at hlen
  by_cases hi : i < A.length * sz
  · rw [h i hi]
    have hsz : 0 < sz := by
      rcases Nat.eq_zero_or_pos sz with h0 | h0
      · subst h0; omega
      · exact h0
    have hd : i = i / sz * sz + i % sz := by rw [Nat.mul_comm]; exact (Nat.div_add_mod i sz).symm
    have hm : i % sz < sz := Nat.mod_lt _ hsz
    have hq : i / sz < A.length := by rw [Nat.div_lt_iff_lt_mul hsz]; exact hi
    by_cases hki : i / sz = k
    · rw [if_pos (by rw [← hki]; omega)]
      have := flat_at g sz hg (A.set k x) k (i % sz) x (by rw [List.getElem?_set_self hk]) hm
      rw [← hki] at this ⊢
      rw [← hd] at this
      rw [this]
      congr 1
      omega
    · rw [if_neg]
      · have e1 := flat_at g sz hg A (i / sz) (i % sz) _ (List.getElem?_eq_getElem hq) hm
        have e2 := flat_at g sz hg (A.set k x) (i / sz) (i % sz) A[i / sz] (by rw [List.getElem?_set_ne (Ne.symm hki)]; exact List.getElem?_eq_getElem hq) hm
        rw [← hd] at e1 e2
        rw [e1, e2]
      · rintro ⟨h1, h2⟩
        apply hki
        have a1 : k ≤ i / sz := by rw [Nat.le_div_iff_mul_le hsz]; exact h1
        have a2 : i / sz < k + 1 := by rw [Nat.div_lt_iff_lt_mul hsz, Nat.succ_mul]; exact h2
        omega
  · rw [List.getElem?_eq_none (by omega), List.getElem?_eq_none (by omega)]

theorem own_parts {w : World} {B n t size : Nat} {v : Value} {xs : List Value} (h : w.ownsRow B t size v n xs) :
    (v = .slice none 0 0 ∧ n = 0) ∨ ∃ g cap cur, v = .slice (some ⟨g, 0, none⟩) n cap ∧ B ≤ g ∧ w.heap[g]? = some (.cells cur t (0, 0)) ∧ n ≤ cap ∧ cap ≤ maxLen ∧ cur.size = cap * size ∧ cur.toList.take (n * size) = xs := h.2
theorem own_slice {w : World} {B n t size : Nat} {v : Value} {xs : List Value} (h : w.ownsRow B t size v n xs) (hn : 0 < n) :
    ∃ g cap, v = .slice (some ⟨g, 0, none⟩) n cap ∧ g < w.heap.size ∧ v.ownBlock = some g := by
  rcases own_parts h with ⟨_, h0⟩ | ⟨g, cap, cur, rfl, _, hg, _⟩
  · omega
  · exact ⟨g, cap, rfl, lt_of_some hg, rfl⟩
theorem own_setG {w : World} {B g n cp i t size : Nat} {xs : List Value} {y : Value} (h : w.ownsRow B t size (.slice (some ⟨g, 0, none⟩) n cp) n xs) :
    (w.setCell ⟨g, i, none⟩ y).ownsRow B t size (.slice (some ⟨g, 0, none⟩) n cp) n (xs.set i y) := by
  obtain ⟨h1, h2⟩ := h
  refine ⟨by simpa using h1, ?_⟩
  rcases h2 with ⟨hv, _⟩ | ⟨g', cap, cur, hv, hb, hg, hn, hm, hs, ht⟩
  · cases hv
  · injection hv with ha _ hcp
    injection ha with ha
    injection ha with ha
    subst ha
    subst hcp
    refine .inr ⟨g, cp, cur.setIfInBounds i y, rfl, hb, ?_, hn, hm, by simpa using hs, ?_⟩
    · simp [World.setCell, Array.getElem?_modify, hg]
    · rw [Array.toList_setIfInBounds, List.take_set, ht]
theorem own_cellG {w : World} {B g n cp i t size : Nat} {xs : List Value} {y : Value} (h : w.ownsRow B t size (.slice (some ⟨g, 0, none⟩) n cp) n xs) (hi : xs[i]? = some y) : w.cell? ⟨g, i, none⟩ = some y := by
  have := h.cells (g := g) rfl i y hi
  have ha : (⟨g, 0, none⟩ : Addr).add i = ⟨g, 0 + i, none⟩ := by unfold Addr.add; split <;> simp_all
  rwa [ha, Nat.zero_add] at this
theorem own_freeG {w : World} {B g n cp : Nat} {xs : List Value} {t size : Nat} (h : w.ownsRow B t size (.slice (some ⟨g, 0, none⟩) n cp) n xs) (o : Nat) : w.frozen? ⟨g, o, none⟩ = false := by
  rcases own_parts h with ⟨hv, _⟩ | ⟨g', cap, cur, hv, hb, hg, _⟩
  · cases hv
  · injection hv with ha _ _
    injection ha with ha
    injection ha with ha
    subst ha
    simp [World.frozen?, hg]
theorem own_same {w w' : World} {B n t size : Nat} {v : Value} {xs : List Value} (h : w.ownsRow B t size v n xs) (hs : ∀ j o, v.ownBlock = some j → w.heap[j]? = some o → ctl o = false → w'.heap[j]? = some o) : w'.ownsRow B t size v n xs := by
  refine ⟨h.1, ?_⟩
  rcases own_parts h with hn | ⟨g, cap, cur, rfl, hb, hg, rest⟩
  · exact .inl hn
  · exact .inr ⟨g, cap, cur, rfl, hb, hs g _ rfl hg rfl, rest⟩
theorem own_lt {w : World} {B n t size : Nat} {v : Value} {xs : List Value} (h : w.ownsRow B t size v n xs) {j : Nat} (hj : v.ownBlock = some j) : j < w.heap.size := by
  rcases own_parts h with ⟨rfl, _⟩ | ⟨g, cap, cur, rfl, hb, hg, rest⟩
  · simp [Value.ownBlock] at hj
  · simp [Value.ownBlock] at hj
    subst hj
    exact lt_of_some hg
/-- the front of a row is a row -/
theorem own_take {w : World} {B g n m cp t size : Nat} {xs : List Value} (h : w.ownsRow B t size (.slice (some ⟨g, 0, none⟩) n cp) n xs) (hm : m ≤ n) :
    w.ownsRow B t size (.slice (some ⟨g, 0, none⟩) m cp) m (xs.take (m * size)) := by
  have hl := h.1
  have hmul : m * size ≤ n * size := Nat.mul_le_mul_right _ hm
  refine ⟨by rw [List.length_take, hl]; omega, ?_⟩
  rcases own_parts h with ⟨hv, _⟩ | ⟨g', cap, cur, hv, hb, hg, hn, hmx, hs, ht⟩
  · cases hv
  · injection hv with ha _ hcp
    injection ha with ha
    injection ha with ha
    subst ha
    subst hcp
    refine .inr ⟨g, cp, cur, rfl, hb, hg, by omega, hmx, hs, ?_⟩
    rw [← ht, List.take_take, Nat.min_eq_left hmul]
end Go.Proofs.Ytecfenoidcolfaa
