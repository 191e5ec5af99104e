/-
  Plain: who runs an end, by the reference and by the program.
-/
import Derived.Test.YtmbdolmkldbjcaaW9
namespace Go.Proofs.Ytmbdolmkldbjcaa

theorem chainL_last {zs : List Int} : ∀ (n : Nat) (i : Int), i ≠ -1 → nxts zs n i = -1 → nxt zs (lastOf (chainL zs n i)) = -1 := by
  intro n
  induction n with
  | zero => intro i hi h; exact absurd h hi
  | succ n ih =>
    intro i hi h
    obtain ⟨m, hm, h1, h2⟩ := chainL_step hi h
    obtain rfl : n = m := by omega
    rw [h1]
    by_cases hx : nxt zs i = -1
    · rw [hx, chainL_none]; exact hx
    · have h3 := ih (nxt zs i) hx h2
      obtain ⟨m', hm', h4, _⟩ := chainL_step hx h2
      rw [h4] at h3 ⊢
      exact h3

theorem endOf_nxt {zs : List Int} {x : Int} (hr : ∀ i, OkI zs i → Rings zs i = false) (hx : 0 ≤ x ∧ x < zs.length) : nxt zs (endOf zs x) = -1 := by
  rw [endOf_last]
  exact chainL_last _ _ (by omega) (ringF (hr x (.inr hx)))
theorem endOf_of_nxt {zs : List Int} {t : Int} (ht : 0 ≤ t ∧ t < zs.length) (h : nxt zs t = -1) : endOf zs t = t := by
  have : chain zs t = [t] := by
    unfold chain
    obtain ⟨m, hm⟩ : ∃ m, zs.length = m + 1 := ⟨zs.length - 1, by omega⟩
    rw [hm, chainL, if_neg (by omega), h, chainL_none]
  rw [endOf_last, this]
  rfl

/-- worker j's thread has the end t -/
def hasEnd (zs cs : List Int) (t : Int) (j : Nat) : Prop := cs.getD j 0 ≠ -1 ∧ endOf zs (cs.getD j 0) = t
instance (zs cs : List Int) (t : Int) (j : Nat) : Decidable (hasEnd zs cs t j) := by unfold hasEnd; infer_instance

def actOf (zs cs : List Int) (j : Nat) : Act0 := ((j : Int), cs.getD j 0, endOf zs (cs.getD j 0))

/-- what the program's map holds: the one whose own thread it is, else the first -/
theorem byF_spec {zs cs : List Int} {t : Int} (hd : ∀ i j, i < j → j < cs.length → cs.getD i 0 = t → cs.getD j 0 ≠ t) : ∀ n, n ≤ cs.length →
    ((∀ j, j < n → ¬ hasEnd zs cs t j) ∧ byF zs cs n t = none) ∨
    (∃ j, j < n ∧ hasEnd zs cs t j ∧ byF zs cs n t = some (actOf zs cs j) ∧
      (cs.getD j 0 = t ∨ ((∀ i, i < n → hasEnd zs cs t i → cs.getD i 0 ≠ t) ∧ ∀ i, i < j → ¬ hasEnd zs cs t i))) := by
  intro n
  induction n with
  | zero => intro _; exact .inl ⟨by omega, rfl⟩
  | succ n ih =>
    intro hn
    have ih := ih (by omega)
    rw [byF]
    by_cases h1 : cs.getD n 0 = -1
    · rw [if_pos h1]
      have hne : ¬ hasEnd zs cs t n := fun h => h.1 h1
      rcases ih with ⟨h2, h3⟩ | ⟨j, h2, h3, h4, h5⟩
      · refine .inl ⟨fun j hj => ?_, h3⟩
        by_cases hjn : j = n
        · subst hjn; exact hne
        · exact h2 j (by omega)
      · refine .inr ⟨j, by omega, h3, h4, h5.imp id fun ⟨h6, h7⟩ => ⟨fun i hi hh => ?_, h7⟩⟩
        by_cases hjn : i = n
        · subst hjn; exact absurd hh hne
        · exact h6 i (by omega) hh
    · rw [if_neg h1]
      by_cases he : endOf zs (cs.getD n 0) = t
      · have hme : hasEnd zs cs t n := ⟨h1, he⟩
        rw [he]
        rcases ih with ⟨h2, h3⟩ | ⟨j, h2, h3, h4, h5⟩
        · rw [if_pos (.inl (by rw [h3]; rfl))]
          refine .inr ⟨n, by omega, hme, ?_, ?_⟩
          · show (if t = t then _ else _ : Option Act0) = _
            rw [if_pos rfl, actOf, he]
          · by_cases ht : cs.getD n 0 = t
            · exact .inl ht
            · refine .inr ⟨fun i hi hh => ?_, fun i hi => h2 i hi⟩
              by_cases hin : i = n
              · subst hin; exact ht
              · exact absurd hh (h2 i (by omega))
        · by_cases ht : cs.getD n 0 = t
          · rw [if_pos (.inr ht)]
            refine .inr ⟨n, by omega, hme, ?_, .inl ht⟩
            show (if t = t then _ else _ : Option Act0) = _
            rw [if_pos rfl, actOf, he]
          · rw [if_neg (by rw [h4]; rintro (h | h); cases h; exact ht h)]
            refine .inr ⟨j, by omega, h3, h4, h5.imp id fun ⟨h6, h7⟩ => ⟨fun i hi hh => ?_, h7⟩⟩
            by_cases hin : i = n
            · subst hin; exact ht
            · exact h6 i (by omega) hh
      · have hne : ¬ hasEnd zs cs t n := fun h => he h.2
        have hsame : (if (byF zs cs n (endOf zs (cs.getD n 0))).isSome = false ∨ cs.getD n 0 = endOf zs (cs.getD n 0)
            then fun y => if y = endOf zs (cs.getD n 0) then some ((n : Int), cs.getD n 0, endOf zs (cs.getD n 0)) else byF zs cs n y
            else byF zs cs n) t = byF zs cs n t := by
          split
          · show (if t = endOf zs (cs.getD n 0) then _ else _ : Option Act0) = _
            rw [if_neg (fun h => he h.symm)]
          · rfl
        rw [hsame]
        rcases ih with ⟨h2, h3⟩ | ⟨j, h2, h3, h4, h5⟩
        · refine .inl ⟨fun j hj => ?_, h3⟩
          by_cases hjn : j = n
          · subst hjn; exact hne
          · exact h2 j (by omega)
        · refine .inr ⟨j, by omega, h3, h4, h5.imp id fun ⟨h6, h7⟩ => ⟨fun i hi hh => ?_, h7⟩⟩
          by_cases hjn : i = n
          · subst hjn; exact absurd hh hne
          · exact h6 i (by omega) hh

theorem distinct {zs cs : List Int} {t : Int} (hr : rightOf zs cs = 0) (ht : 0 ≤ t) : ∀ i j, i < j → j < cs.length → cs.getD i 0 = t → cs.getD j 0 ≠ t := by
  obtain ⟨_, _, _, _, h5⟩ := rightOf_ok hr
  intro i j hij hj h1 h2
  refine h5 j hj (by rw [h2]; exact ht) ?_
  rw [h2, List.mem_iff_getElem]
  refine ⟨i, by rw [List.length_take]; omega, ?_⟩
  rw [List.getElem_take]
  rw [List.getD, List.getElem?_eq_getElem (by omega)] at h1
  exact h1

/-- **which worker runs an end: by the reference and by the program** -/
theorem spins_runs {zs cs : List Int} (hr : rightOf zs cs = 0) {k : Nat} (hk : k < cs.length) (hne : cs.getD k 0 ≠ -1) :
    spins zs cs (actOf zs cs k) = (runsOf zs cs (endOf zs (cs.getD k 0)) != (k : Int)) := by
  obtain ⟨_, hg, hrg, hp, _⟩ := rightOf_ok hr
  have hx : 0 ≤ cs.getD k 0 ∧ cs.getD k 0 < zs.length := by
    rcases hp k hk with h | h
    · exact absurd h hne
    · exact h
  obtain ⟨t, ht⟩ : ∃ t, endOf zs (cs.getD k 0) = t := ⟨_, rfl⟩
  have htok := endOf_ok hg hrg hx
  have htn := endOf_nxt hrg hx
  rw [ht] at htok htn
  have hte := endOf_of_nxt htok htn
  have hend : ∀ j, j < cs.length → cs.getD j 0 = t → hasEnd zs cs t j := fun j _ h => ⟨by omega, by rw [h]; exact hte⟩
  have hmek : hasEnd zs cs t k := ⟨hne, ht⟩
  have hmain : ∃ j, j < cs.length ∧ byF zs cs cs.length t = some (actOf zs cs j) ∧ runsOf zs cs t = j := by
    rcases byF_spec (zs := zs) (distinct hr htok.1) cs.length (Nat.le_refl _) with ⟨h2, _⟩ | ⟨j, h2, h3, h4, h5⟩
    · exact absurd hmek (h2 k hk)
    · refine ⟨j, h2, h4, ?_⟩
      rcases h5 with h5 | ⟨h6, h7⟩
      · unfold runsOf
        rw [find_first h2 (fun i hi => ?_) (by simp only [beq_iff_eq]; exact h5)]
        simp only [beq_eq_false_iff_ne]
        intro h
        exact distinct hr htok.1 i j hi h2 h h5
      · unfold runsOf
        rw [find_none (fun i hi => ?_)]
        · dsimp only
          have hj0 : 0 ≤ cs.getD j 0 := by
            rcases hp j h2 with h | h
            · exact absurd h h3.1
            · exact h.1
          rw [find_first h2 (fun i hi => ?_) (by simp only [Bool.and_eq_true, decide_eq_true_eq, beq_iff_eq]; exact ⟨hj0, h3.2⟩)]
          cases hc : (decide (0 ≤ cs.getD i 0) && endOf zs (cs.getD i 0) == t) with
          | false => rfl
          | true =>
            simp only [Bool.and_eq_true, decide_eq_true_eq, beq_iff_eq] at hc
            exact absurd ⟨by omega, hc.2⟩ (h7 i hi)
        · simp only [beq_eq_false_iff_ne]
          intro h
          exact h6 i hi (hend i hi h) h
  obtain ⟨j, hj, hb, hrn⟩ := hmain
  have hb' : byF zs cs cs.length (actOf zs cs k).2.2 = some (actOf zs cs j) := by
    show byF zs cs cs.length (endOf zs (cs.getD k 0)) = _
    rw [ht, hb]
  rw [ht, hrn, spins, hb']
  by_cases hjk : j = k
  · subst hjk
    simp
  · have h1 : some (actOf zs cs j) ≠ some (actOf zs cs k) := fun h => by
      injection h with h
      injection h with h _
      exact hjk (by omega)
    have h2 : (j : Int) ≠ (k : Int) := by omega
    simp [h1, h2]

theorem acts0_prefix (zs cs : List Int) (k m : Nat) (h : k ≤ m) : acts0 zs cs k <+: acts0 zs cs m := by
  induction m with
  | zero =>
    obtain rfl : k = 0 := by omega
    exact List.prefix_refl _
  | succ m ih =>
    by_cases hk : k = m + 1
    · subst hk; exact List.prefix_refl _
    · have := ih (by omega)
      rw [acts0]
      split
      · exact this
      · exact this.trans (List.prefix_append _ _)
theorem acts0_at (zs cs : List Int) (k : Nat) (h : k < cs.length) (hne : cs.getD k 0 ≠ -1) : (acts0 zs cs cs.length)[(acts0 zs cs k).length]? = some (actOf zs cs k) := by
  obtain ⟨t, ht⟩ := acts0_prefix zs cs (k + 1) cs.length (by omega)
  rw [acts0, if_neg hne] at ht
  rw [← ht, List.append_assoc, List.getElem?_append_right (Nat.le_refl _), Nat.sub_self]
  rfl
end Go.Proofs.Ytmbdolmkldbjcaa
