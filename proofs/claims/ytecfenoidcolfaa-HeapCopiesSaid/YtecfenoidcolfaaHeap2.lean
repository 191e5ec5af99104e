/-
  Plain facts on binary heaps, part 2: places, the least one, lists in order. No program in sight.
-/
import Derived.Test.YtecfenoidcolfaaHeap
namespace Go.Proofs.Ytecfenoidcolfaa.Hp
set_option linter.unusedVariables false

section
variable {α : Type} {lt : α → α → Bool}

theorem IsHeap.least (ho : Swo lt) {l : List (It α)} {d : It α} (h : IsHeap lt l d) : ∀ j, j < l.length → ahead lt (l.getD j d) (l.getD 0 d) = false := by
  intro j
  induction j using Nat.strongRecOn with
  | _ j ih =>
    intro hj
    rcases Nat.eq_zero_or_pos j with h0 | h0
    · subst h0; exact ahead_irrefl ho _
    · exact nahead_trans ho (h j h0 hj) (ih ((j - 1) / 2) (by omega) (by omega))

/-- where every number of a list is, but for the one at place i -/
def PosBut (l : List (It α)) (d : It α) (i : Nat) (f : Int → Option Nat) : Prop :=
  (∀ k, k < l.length → k ≠ i → f (l.getD k d).1 = some k) ∧ (∀ y v, f y = some v → ∃ k, k < l.length ∧ (l.getD k d).1 = y) ∧ (∀ k, k < l.length → k ≠ i → (l.getD k d).1 ≠ (l.getD i d).1)
/-- where every number of a list is -/
def Pos (l : List (It α)) (d : It α) (f : Int → Option Nat) : Prop :=
  (∀ k, k < l.length → f (l.getD k d).1 = some k) ∧ (∀ y v, f y = some v → ∃ k, k < l.length ∧ (l.getD k d).1 = y)

def putN (f : Int → Option Nat) (x : Int) (v : Option Nat) : Int → Option Nat := fun y => if y = x then v else f y
theorem putN_same (f : Int → Option Nat) (x : Int) (v : Option Nat) : putN f x v x = v := if_pos rfl
theorem putN_other (f : Int → Option Nat) {x y : Int} (h : y ≠ x) (v : Option Nat) : putN f x v y = f y := if_neg h

theorem Pos.inj {l : List (It α)} {d : It α} {f : Int → Option Nat} (h : Pos l d f) {j k : Nat} (hj : j < l.length) (hk : k < l.length) (e : (l.getD j d).1 = (l.getD k d).1) : j = k := by
  have h1 := h.1 j hj
  have h2 := h.1 k hk
  rw [e, h2] at h1
  exact (Option.some.inj h1).symm
theorem Pos.but {l : List (It α)} {d : It α} {f : Int → Option Nat} (h : Pos l d f) {i : Nat} (hi : i < l.length) : PosBut l d i f :=
  ⟨fun k hk _ => h.1 k hk, h.2, fun k hk hne e => hne (h.inj hk hi e)⟩
theorem Pos.some_iff {l : List (It α)} {d : It α} {f : Int → Option Nat} (h : Pos l d f) {y : Int} {k : Nat} : f y = some k ↔ k < l.length ∧ (l.getD k d).1 = y := by
  constructor
  · intro hy
    obtain ⟨k', hk', e⟩ := h.2 y k hy
    have := h.1 k' hk'
    rw [e, hy] at this
    cases this
    exact ⟨hk', e⟩
  · rintro ⟨hk, rfl⟩
    exact h.1 k hk
theorem Pos.none_iff {l : List (It α)} {d : It α} {f : Int → Option Nat} (h : Pos l d f) {y : Int} : f y = none ↔ ∀ x ∈ l, x.1 ≠ y := by
  constructor
  · intro hy x hx e
    obtain ⟨k, hk, rfl⟩ := List.mem_iff_getElem.1 hx
    have := h.1 k hk
    rw [List.getD_eq_getElem?_getD, List.getElem?_eq_getElem hk, Option.getD_some, e, hy] at this
    cases this
  · intro hx
    cases hy : f y with
    | none => rfl
    | some v =>
      obtain ⟨k, hk, e⟩ := h.2 y v hy
      rw [List.getD_eq_getElem?_getD, List.getElem?_eq_getElem hk, Option.getD_some] at e
      exact absurd e (hx _ (List.getElem_mem hk))

/-- the last step: the one that was carried is laid down -/
theorem PosBut.lay {l : List (It α)} {d : It α} {i : Nat} {f : Int → Option Nat} (h : PosBut l d i f) (hi : i < l.length) : Pos l d (putN f (l.getD i d).1 (some i)) := by
  refine ⟨fun k hk => ?_, fun y v hy => ?_⟩
  · by_cases hki : k = i
    · subst hki; rw [putN_same]
    · rw [putN_other _ (h.2.2 k hk hki)]; exact h.1 k hk hki
  · by_cases hy' : y = (l.getD i d).1
    · exact ⟨i, hi, hy'.symm⟩
    · rw [putN_other _ hy'] at hy; exact h.2.1 y v hy

/-- the step of up and of down: the one at p goes to i, the one that is carried to p -/
theorem PosBut.step {l : List (It α)} {d x : It α} {i p : Nat} {f : Int → Option Nat} (h : PosBut (l.set i x) d i f) (hi : i < l.length) (hp : p < l.length) (hne : p ≠ i) :
    PosBut ((l.set i (l.getD p d)).set p x) d p (putN f (l.getD p d).1 (some i)) ∧ f (l.getD p d).1 = some p := by
  have e0 : ∀ j, (l.set i x).getD j d = if j = i then x else l.getD j d := fun j => getD_set l i j x d hi
  have e1 : ∀ j, ((l.set i (l.getD p d)).set p x).getD j d = if j = p then x else if j = i then l.getD p d else l.getD j d := fun j => by
    rw [getD_set _ _ _ _ _ (by rw [List.length_set]; exact hp), getD_set _ _ _ _ _ hi]
  obtain ⟨h1, h2, h3⟩ := h
  simp only [List.length_set, e0] at h1 h2 h3
  have hfp : f (l.getD p d).1 = some p := by have := h1 p hp hne; rwa [if_neg hne] at this
  have hdis : ∀ k, k < l.length → k ≠ i → k ≠ p → (l.getD k d).1 ≠ (l.getD p d).1 := fun k hk hki hkp e => by
    have := h1 k hk hki
    rw [if_neg hki, e, hfp] at this
    exact hkp (Option.some.inj this).symm
  refine ⟨⟨fun k hk hkp => ?_, fun y v hy => ?_, fun k hk hkp => ?_⟩, hfp⟩
  · simp only [List.length_set] at hk
    rw [e1, if_neg hkp]
    by_cases hki : k = i
    · subst hki; rw [if_pos rfl, putN_same]
    · rw [if_neg hki, putN_other _ (hdis k hk hki hkp)]
      have := h1 k hk hki
      rwa [if_neg hki] at this
  · simp only [List.length_set]
    by_cases hy' : y = (l.getD p d).1
    · exact ⟨i, hi, by rw [e1, if_neg (Ne.symm hne), if_pos rfl, hy']⟩
    · rw [putN_other _ hy'] at hy
      obtain ⟨k, hk, e⟩ := h2 y v hy
      by_cases hki : k = i
      · rw [if_pos hki] at e
        exact ⟨p, hp, by rw [e1, if_pos rfl]; exact e⟩
      · rw [if_neg hki] at e
        have hkp : k ≠ p := fun h => hy' (by rw [← e, h])
        exact ⟨k, hk, by rw [e1, if_neg hkp, if_neg hki]; exact e⟩
  · simp only [List.length_set] at hk
    rw [e1, e1, if_pos rfl, if_neg hkp]
    by_cases hki : k = i
    · subst hki
      rw [if_pos rfl]
      have := h3 p hp hne
      simpa [hne] using this
    · rw [if_neg hki]
      have := h3 k hk hki
      simpa [hki] using this

/-! ### lists in order -/
def Sorted (lt : α → α → Bool) (l : List (It α)) : Prop := l.Pairwise fun a b => ahead lt a b = true

def ins (lt : α → α → Bool) (x : It α) : List (It α) → List (It α)
  | [] => [x]
  | y :: l => if ahead lt y x then y :: ins lt x l else x :: y :: l
theorem ins_perm (x : It α) : ∀ l : List (It α), (ins lt x l).Perm (x :: l)
  | [] => List.Perm.refl _
  | y :: l => by
    rw [ins]
    split
    · exact ((ins_perm x l).cons y).trans (List.Perm.swap _ _ _)
    · exact List.Perm.refl _
theorem ins_mem {x y : It α} {l : List (It α)} : y ∈ ins lt x l ↔ y = x ∨ y ∈ l := by
  rw [(ins_perm x l).mem_iff, List.mem_cons]
theorem ins_length (x : It α) (l : List (It α)) : (ins lt x l).length = l.length + 1 := (ins_perm x l).length_eq
theorem ins_sorted (ho : Swo lt) {x : It α} : ∀ {l : List (It α)}, Sorted lt l → (∀ y ∈ l, y.1 ≠ x.1) → Sorted lt (ins lt x l)
  | [], _, _ => List.pairwise_singleton _ _
  | y :: l, h, hx => by
    rw [ins]
    split
    · rename_i hy
      refine List.pairwise_cons.2 ⟨fun z hz => ?_, ins_sorted ho (List.pairwise_cons.1 h).2 fun z hz => hx z (List.mem_cons_of_mem _ hz)⟩
      rcases ins_mem.1 hz with rfl | hz
      · exact hy
      · exact (List.pairwise_cons.1 h).1 z hz
    · rename_i hy
      have hxy : ahead lt x y = true := (ahead_total ho (hx y List.mem_cons_self)).resolve_left hy
      refine List.pairwise_cons.2 ⟨fun z hz => ?_, h⟩
      rcases List.mem_cons.1 hz with rfl | hz
      · exact hxy
      · exact ahead_trans ho hxy ((List.pairwise_cons.1 h).1 z hz)
theorem Sorted.nodup_ids (_ho : Swo lt) {l : List (It α)} (h : l.Pairwise fun a b => a.1 ≠ b.1) : (l.map (·.1)).Nodup := by
  rw [List.Nodup, List.pairwise_map]; exact h
theorem Sorted.eq_of_perm (ho : Swo lt) : ∀ {l m : List (It α)}, Sorted lt l → Sorted lt m → l.Perm m → l = m
  | [], m, _, _, hp => (List.nil_perm.1 hp).symm
  | x :: l, [], _, _, hp => absurd hp.symm (by simp)
  | x :: l, y :: m, hl, hm, hp => by
    have hxy : x = y := by
      rcases List.mem_cons.1 (hp.mem_iff.1 List.mem_cons_self) with h | h
      · exact h
      · rcases List.mem_cons.1 (hp.mem_iff.2 List.mem_cons_self) with h' | h'
        · exact h'.symm
        · have a := (List.pairwise_cons.1 hm).1 x h
          have b := (List.pairwise_cons.1 hl).1 y h'
          rw [ahead_asymm ho a] at b
          cases b
    subst hxy
    rw [Sorted.eq_of_perm ho (List.pairwise_cons.1 hl).2 (List.pairwise_cons.1 hm).2 ((List.perm_cons x).1 hp)]
/-- the first of a list in order is the one that lies first in a heap -/
theorem IsHeap.head (ho : Swo lt) {l : List (It α)} {d x : It α} {m : List (It α)} (h : IsHeap lt l d) (hp : l.Perm (x :: m)) (hs : Sorted lt (x :: m)) : l.getD 0 d = x := by
  have hl : 0 < l.length := by rw [hp.length_eq]; simp
  obtain ⟨k, hk, e⟩ := List.mem_iff_getElem.1 (hp.mem_iff.2 List.mem_cons_self)
  have h1 := h.least ho k hk
  have e' : l.getD k d = x := by rw [List.getD_eq_getElem?_getD, List.getElem?_eq_getElem hk, Option.getD_some, e]
  rw [e'] at h1
  have h2 : l.getD 0 d ∈ l := by rw [List.getD_eq_getElem?_getD, List.getElem?_eq_getElem hl, Option.getD_some]; exact List.getElem_mem hl
  rcases List.mem_cons.1 (hp.mem_iff.1 h2) with h3 | h3
  · exact h3
  · have := (List.pairwise_cons.1 hs).1 _ h3
    rw [h1] at this
    cases this

/-- a list put in order -/
def srt (lt : α → α → Bool) : List (It α) → List (It α)
  | [] => []
  | x :: l => ins lt x (srt lt l)
theorem srt_perm : ∀ l : List (It α), (srt lt l).Perm l
  | [] => List.Perm.refl _
  | x :: l => (ins_perm x _).trans ((srt_perm l).cons x)
theorem srt_sorted (ho : Swo lt) : ∀ {l : List (It α)}, (l.Pairwise fun a b => a.1 ≠ b.1) → Sorted lt (srt lt l)
  | [], _ => List.Pairwise.nil
  | x :: l, h => ins_sorted ho (srt_sorted ho (List.pairwise_cons.1 h).2) fun y hy => Ne.symm ((List.pairwise_cons.1 h).1 y ((srt_perm l).mem_iff.1 hy))
theorem distinct_perm {l m : List (It α)} (hp : l.Perm m) (h : l.Pairwise fun a b => a.1 ≠ b.1) : m.Pairwise fun a b => a.1 ≠ b.1 := (hp.pairwise_iff fun h => Ne.symm h).1 h
theorem Pos.distinct {l : List (It α)} {d : It α} {f : Int → Option Nat} (h : Pos l d f) : l.Pairwise fun a b => a.1 ≠ b.1 := by
  rw [List.pairwise_iff_getElem]
  intro i j hi hj hij e
  have : i = j := h.inj (d := d) hi hj (by rw [List.getD_eq_getElem?_getD, List.getD_eq_getElem?_getD, List.getElem?_eq_getElem hi, List.getElem?_eq_getElem hj]; exact e)
  omega
end
end Go.Proofs.Ytecfenoidcolfaa.Hp
