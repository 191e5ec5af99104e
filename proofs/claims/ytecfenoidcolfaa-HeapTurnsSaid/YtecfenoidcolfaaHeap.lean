/-
  Plain facts on binary heaps that lie in lists. No program in sight.
-/
namespace Go.Proofs.Ytecfenoidcolfaa.Hp
set_option linter.unusedVariables false

/-- an order that tells keys apart so far -/
structure Swo {α : Type} (lt : α → α → Bool) : Prop where
  irrefl : ∀ a, lt a a = false
  trans : ∀ a b c, lt a b = true → lt b c = true → lt a c = true
  ntrans : ∀ a b c, lt a b = false → lt b c = false → lt a c = false

/-- a number and its key -/
abbrev It (α : Type) := Int × α

section
variable {α : Type} (lt : α → α → Bool)

def ahead (a b : It α) : Bool := lt a.2 b.2 || (!lt b.2 a.2 && decide (a.1 < b.1))

variable {lt}
theorem Swo.asymm (h : Swo lt) {a b : α} (hab : lt a b = true) : lt b a = false := by
  cases hba : lt b a with
  | false => rfl
  | true => have := h.trans a b a hab hba; rw [h.irrefl] at this; cases this
theorem ahead_irrefl (h : Swo lt) (a : It α) : ahead lt a a = false := by simp [ahead, h.irrefl]
theorem ahead_iff (a b : It α) : ahead lt a b = true ↔ lt a.2 b.2 = true ∨ (lt b.2 a.2 = false ∧ a.1 < b.1) := by simp [ahead]
theorem nahead_iff (a b : It α) : ahead lt a b = false ↔ lt a.2 b.2 = false ∧ (lt b.2 a.2 = true ∨ b.1 ≤ a.1) := by
  cases h1 : lt a.2 b.2 <;> cases h2 : lt b.2 a.2 <;> simp [ahead, h1, h2]
theorem ahead_trans (h : Swo lt) {a b c : It α} (hab : ahead lt a b = true) (hbc : ahead lt b c = true) : ahead lt a c = true := by
  rw [ahead_iff] at *
  rcases hab with hab | ⟨hab, h1⟩
  · rcases hbc with hbc | ⟨hbc, h2⟩
    · exact .inl (h.trans _ _ _ hab hbc)
    · left
      cases hac : lt a.2 c.2 with
      | true => rfl
      | false => have := h.ntrans _ _ _ hac hbc; rw [hab] at this; cases this
  · rcases hbc with hbc | ⟨hbc, h2⟩
    · left
      cases hac : lt a.2 c.2 with
      | true => rfl
      | false => have := h.ntrans _ _ _ hab hac; rw [hbc] at this; cases this
    · exact .inr ⟨h.ntrans _ _ _ hbc hab, by omega⟩
theorem ahead_asymm (h : Swo lt) {a b : It α} (hab : ahead lt a b = true) : ahead lt b a = false := by
  cases hba : ahead lt b a with
  | false => rfl
  | true => have := ahead_trans h hab hba; rw [ahead_irrefl h] at this; cases this
theorem nahead_trans (h : Swo lt) {a b c : It α} (hab : ahead lt a b = false) (hbc : ahead lt b c = false) : ahead lt a c = false := by
  rw [nahead_iff] at *
  obtain ⟨h1, h2⟩ := hab
  obtain ⟨h3, h4⟩ := hbc
  refine ⟨h.ntrans _ _ _ h1 h3, ?_⟩
  rcases h2 with h2 | h2
  · left
    cases hca : lt c.2 a.2 with
    | true => rfl
    | false => have := h.ntrans _ _ _ h3 hca; rw [h2] at this; cases this
  · rcases h4 with h4 | h4
    · left
      cases hca : lt c.2 a.2 with
      | true => rfl
      | false => have := h.ntrans _ _ _ hca h1; rw [h4] at this; cases this
    · right; omega
theorem ahead_total (h : Swo lt) {a b : It α} (hne : a.1 ≠ b.1) : ahead lt a b = true ∨ ahead lt b a = true := by
  rw [ahead_iff, ahead_iff]
  cases h1 : lt a.2 b.2 <;> cases h2 : lt b.2 a.2 <;> simp
  omega

/-- no number is ahead of the one above it -/
def IsHeap (lt : α → α → Bool) (l : List (It α)) (d : It α) : Prop := ∀ j, 0 < j → j < l.length → ahead lt (l.getD j d) (l.getD ((j - 1) / 2) d) = false

/-- all is in order but that the one at i may be ahead of the one above it -/
def UpOk (lt : α → α → Bool) (l : List (It α)) (d : It α) (i : Nat) : Prop :=
  (∀ j, 0 < j → j < l.length → j ≠ i → ahead lt (l.getD j d) (l.getD ((j - 1) / 2) d) = false) ∧
  (0 < i → ∀ j, 0 < j → j < l.length → (j - 1) / 2 = i → ahead lt (l.getD j d) (l.getD ((i - 1) / 2) d) = false)
/-- all is in order but that those below i may be ahead of it -/
def DownOk (lt : α → α → Bool) (l : List (It α)) (d : It α) (i : Nat) : Prop :=
  (∀ j, 0 < j → j < l.length → (j - 1) / 2 ≠ i → ahead lt (l.getD j d) (l.getD ((j - 1) / 2) d) = false) ∧
  (0 < i → ∀ j, 0 < j → j < l.length → (j - 1) / 2 = i → ahead lt (l.getD j d) (l.getD ((i - 1) / 2) d) = false)

theorem getD_set (l : List (It α)) (i j : Nat) (x d : It α) (hi : i < l.length) : (l.set i x).getD j d = if j = i then x else l.getD j d := by
  by_cases h : j = i
  · subst h; simp [List.getD, hi]
  · rw [if_neg h]; simp [List.getD, List.getElem?_set_ne (Ne.symm h)]

theorem UpOk.heap {l : List (It α)} {d : It α} {i : Nat} (h : UpOk lt l d i) (hs : i = 0 ∨ ahead lt (l.getD i d) (l.getD ((i - 1) / 2) d) = false) : IsHeap lt l d := by
  intro j h0 hj
  by_cases hji : j = i
  · subst hji
    rcases hs with hs | hs
    · omega
    · exact hs
  · exact h.1 j h0 hj hji

/-- the step of up: the one above i comes down, x goes up -/
theorem UpOk.step (ho : Swo lt) {l : List (It α)} {d x : It α} {i : Nat} (hi : 0 < i) (hl : i < l.length) (h : UpOk lt (l.set i x) d i)
    (ha : ahead lt x (l.getD ((i - 1) / 2) d) = true) : UpOk lt ((l.set i (l.getD ((i - 1) / 2) d)).set ((i - 1) / 2) x) d ((i - 1) / 2) := by
  obtain ⟨p, hpp⟩ : ∃ p, (i - 1) / 2 = p := ⟨_, rfl⟩
  rw [hpp] at ha ⊢
  have hp : p < i := by omega
  have hpl : p < l.length := by omega
  obtain ⟨h1, h2⟩ := h
  have e0 : ∀ j, (l.set i x).getD j d = if j = i then x else l.getD j d := fun j => getD_set l i j x d hl
  have e1 : ∀ j, ((l.set i (l.getD p d)).set p x).getD j d = if j = p then x else if j = i then l.getD p d else l.getD j d := fun j => by
    rw [getD_set _ _ _ _ _ (by rw [List.length_set]; exact hpl), getD_set _ _ _ _ _ hl]
  simp only [List.length_set] at h1 h2
  simp only [e0] at h1 h2
  have hni : ∀ j, 0 < j → j < l.length → j ≠ i → (j - 1) / 2 ≠ i → ahead lt (l.getD j d) (l.getD ((j - 1) / 2) d) = false := fun j a b c e => by
    have := h1 j a b c
    rwa [if_neg c, if_neg e] at this
  have hch : ∀ j, 0 < j → j < l.length → (j - 1) / 2 = i → ahead lt (l.getD j d) (l.getD p d) = false := fun j a b c => by
    have := h2 hi j a b c
    rwa [if_neg (by omega), hpp, if_neg (by omega)] at this
  refine ⟨fun j a b c => ?_, fun hp0 j a b c => ?_⟩
  · simp only [List.length_set] at b
    rw [e1, e1, if_neg c]
    by_cases hji : j = i
    · subst hji
      rw [if_pos rfl, hpp, if_pos rfl]
      exact ahead_asymm ho ha
    · rw [if_neg hji]
      by_cases hjp : (j - 1) / 2 = p
      · rw [hjp, if_pos rfl]
        have h3 := hni j a b hji (by omega)
        rw [hjp] at h3
        cases hx : ahead lt (l.getD j d) x with
        | false => rfl
        | true => have := ahead_trans ho hx ha; rw [h3] at this; cases this
      · rw [if_neg hjp]
        by_cases hjc : (j - 1) / 2 = i
        · rw [if_pos hjc]; exact hch j a b hjc
        · rw [if_neg hjc]; exact hni j a b hji hjc
  · simp only [List.length_set] at b
    have hpar : ahead lt (l.getD p d) (l.getD ((p - 1) / 2) d) = false := hni p hp0 (by omega) (by omega) (by omega)
    rw [e1 j, if_neg (show j ≠ p by omega), e1, if_neg (show (p - 1) / 2 ≠ p by omega), if_neg (show (p - 1) / 2 ≠ i by omega)]
    by_cases hji : j = i
    · subst hji; rw [if_pos rfl]; exact hpar
    · rw [if_neg hji]
      have h3 := hni j a b hji (by omega)
      rw [c] at h3
      exact nahead_trans ho h3 hpar

theorem DownOk.heap (ho : Swo lt) {l : List (It α)} {d : It α} {i : Nat} (h : DownOk lt l d i)
    (hs : ∀ j, 0 < j → j < l.length → (j - 1) / 2 = i → ahead lt (l.getD j d) (l.getD i d) = false) : IsHeap lt l d := by
  intro j h0 hj
  by_cases hji : (j - 1) / 2 = i
  · rw [hji]; exact hs j h0 hj hji
  · exact h.1 j h0 hj hji

/-- the step of down: the lesser one below i comes up, x goes down -/
theorem DownOk.step (ho : Swo lt) {l : List (It α)} {d x : It α} {i c : Nat} (hc : 0 < c) (hcl : c < l.length) (hci : (c - 1) / 2 = i) (h : DownOk lt (l.set i x) d i)
    (hmin : ∀ j, 0 < j → j < l.length → (j - 1) / 2 = i → ahead lt (l.getD j d) (l.getD c d) = false)
    (ha : ahead lt (l.getD c d) x = true) : DownOk lt ((l.set i (l.getD c d)).set c x) d c := by
  have hil : i < c := by omega
  have hl : i < l.length := by omega
  obtain ⟨h1, h2⟩ := h
  have e0 : ∀ j, (l.set i x).getD j d = if j = i then x else l.getD j d := fun j => getD_set l i j x d hl
  have e1 : ∀ j, ((l.set i (l.getD c d)).set c x).getD j d = if j = c then x else if j = i then l.getD c d else l.getD j d := fun j => by
    rw [getD_set _ _ _ _ _ (by rw [List.length_set]; exact hcl), getD_set _ _ _ _ _ hl]
  simp only [List.length_set] at h1 h2
  simp only [e0] at h1 h2
  refine ⟨fun j a b e => ?_, fun _ j a b e => ?_⟩
  · simp only [List.length_set] at b
    rw [e1, e1]
    by_cases hjc : j = c
    · subst hjc
      rw [if_pos rfl, hci, if_neg (by omega), if_pos rfl]
      exact ahead_asymm ho ha
    · rw [if_neg hjc, if_neg e]
      by_cases hpi : (j - 1) / 2 = i
      · rw [hpi, if_pos rfl, if_neg (by omega)]
        exact hmin j a b hpi
      · rw [if_neg hpi]
        by_cases hji : j = i
        · subst hji
          rw [if_pos rfl]
          have := h2 a c hc hcl hci
          rwa [if_neg (by omega), if_neg (by omega)] at this
        · rw [if_neg hji]
          have := h1 j a b hpi
          rwa [if_neg hji, if_neg hpi] at this
  · simp only [List.length_set] at b
    rw [e1, e1, hci, if_neg (by omega), if_neg (by omega), if_neg (by omega), if_pos rfl]
    have := h1 j a b (by omega)
    rwa [if_neg (by omega), e, if_neg (by omega)] at this

/-- a heap in which one was exchanged: what up and down start from -/
theorem IsHeap.upOk (ho : Swo lt) {l : List (It α)} {d x : It α} {i : Nat} (hl : i < l.length) (h : IsHeap lt l d) (hi : 0 < i) (ha : ahead lt x (l.getD ((i - 1) / 2) d) = true) : UpOk lt (l.set i x) d i := by
  have e0 : ∀ j, (l.set i x).getD j d = if j = i then x else l.getD j d := fun j => getD_set l i j x d hl
  refine ⟨fun j a b c => ?_, fun _ j a b c => ?_⟩
  · simp only [List.length_set] at b
    rw [e0, e0, if_neg c]
    split
    · rename_i hp
      have h1 := h j a b
      rw [hp] at h1
      have h2 := nahead_trans ho h1 (h i hi hl)
      cases hx : ahead lt (l.getD j d) x with
      | false => rfl
      | true => have := ahead_trans ho hx ha; rw [h2] at this; cases this
    · exact h j a b
  · simp only [List.length_set] at b
    rw [e0, e0, if_neg (by omega), if_neg (by omega)]
    have h1 := h j a b
    rw [c] at h1
    exact nahead_trans ho h1 (h i hi hl)
theorem IsHeap.downOk (ho : Swo lt) {l : List (It α)} {d x : It α} {i : Nat} (hl : i < l.length) (h : IsHeap lt l d) (hi : i = 0 ∨ ahead lt x (l.getD ((i - 1) / 2) d) = false) : DownOk lt (l.set i x) d i := by
  have e0 : ∀ j, (l.set i x).getD j d = if j = i then x else l.getD j d := fun j => getD_set l i j x d hl
  refine ⟨fun j a b c => ?_, fun hi0 j a b c => ?_⟩
  · simp only [List.length_set] at b
    rw [e0, e0, if_neg c]
    split
    · rename_i hp
      subst hp
      rcases hi with hi | hi
      · omega
      · exact hi
    · exact h j a b
  · simp only [List.length_set] at b
    rw [e0, e0, if_neg (by omega), if_neg (by omega)]
    have h1 := h j a b
    rw [c] at h1
    exact nahead_trans ho h1 (h i hi0 hl)
theorem IsHeap.down_self {l : List (It α)} {d : It α} {i : Nat} (ho : Swo lt) (hl : i < l.length) (h : IsHeap lt l d) : DownOk lt (l.set i (l.getD i d)) d i := by
  refine h.downOk ho hl ?_
  rcases Nat.eq_zero_or_pos i with h0 | h0
  · exact .inl h0
  · exact .inr (h i h0 hl)

/-- two places exchanged -/
theorem set_perm [DecidableEq α] (l : List (It α)) (d x : It α) (i p : Nat) (hi : i < l.length) (hp : p < l.length) (hne : p ≠ i) : ((l.set i (l.getD p d)).set p x).Perm (l.set i x) := by
  rw [List.perm_iff_count]
  intro a
  have hg : l.getD p d = l[p] := by simp [List.getD, hp]
  rw [hg, List.count_set (by rw [List.length_set]; exact hp), List.count_set hi, List.count_set hi, List.getElem_set_ne (Ne.symm hne)]
  have h1 : (if l[i] == a then 1 else 0) ≤ l.count a := by
    split
    · rename_i h
      exact List.count_pos_iff.2 (by rw [← eq_of_beq h]; exact List.getElem_mem _)
    · omega
  split <;> split <;> split <;> first | omega | skip
  all_goals (split at h1 <;> omega)
end
end Go.Proofs.Ytecfenoidcolfaa.Hp
