/-
  Plain: what is run is run once.
-/
import Derived.Test.YtmbdolmkldbjcaaActs2
namespace Go.Proofs.Ytmbdolmkldbjcaa

theorem acts0_workers (zs cs : List Int) (n : Nat) : (acts0 zs cs n).Pairwise (fun a b => a.1 < b.1) := by
  induction n with
  | zero => simp [acts0]
  | succ n ih =>
    rw [acts0]
    split
    · exact ih
    · rw [List.pairwise_append]
      refine ⟨ih, by simp, fun a ha b hb => ?_⟩
      obtain ⟨j, hj, _, rfl⟩ := acts0_wf zs cs n a ha
      rw [List.mem_singleton] at hb
      subst hb
      show (j : Int) < (n : Int)
      omega
theorem acts0_ne {zs cs : List Int} {n i k : Nat} {a b : Act0} (hi : (acts0 zs cs n)[i]? = some a) (hk : (acts0 zs cs n)[k]? = some b) (h : k ≠ i) : b.1 ≠ a.1 := by
  obtain ⟨hi', rfl⟩ := List.getElem?_eq_some_iff.1 hi
  obtain ⟨hk', rfl⟩ := List.getElem?_eq_some_iff.1 hk
  have hp := List.pairwise_iff_getElem.1 (acts0_workers zs cs n)
  rcases Nat.lt_or_gt_of_ne h with h | h
  · have := hp k i hk' hi' h; omega
  · have := hp i k hi' hk' h; omega

/-- how many of some acts run a thread -/
def cntL (zs cs : List Int) (t : Int) (l : List Act0) : Nat := (l.filter fun a => a.2.2 == t && !spins zs cs a).length
theorem cntL_snoc (zs cs : List Int) (t : Int) (l : List Act0) (a : Act0) : cntL zs cs t (l ++ [a]) = cntL zs cs t l + if (a.2.2 == t && !spins zs cs a) = true then 1 else 0 := by
  unfold cntL
  rw [List.filter_append, List.length_append]
  cases h : (a.2.2 == t && !spins zs cs a) <;> simp [List.filter_cons, h]
theorem cntL_le (zs cs : List Int) (t : Int) (l : List Act0) : cntL zs cs t l ≤ l.length := List.length_filter_le _ _

/-- the one that runs a thread -/
theorem runner {zs cs : List Int} (hr : rightOf zs cs = 0) {a : Act0} (ha : a ∈ acts0 zs cs cs.length) :
    ∃ j, j < cs.length ∧ cs.getD j 0 ≠ -1 ∧ endOf zs (cs.getD j 0) = a.2.2 ∧ byF zs cs cs.length a.2.2 = some (actOf zs cs j) ∧
      (cs.getD j 0 = a.2.2 ∨ ∀ i, i < cs.length → hasEnd zs cs a.2.2 i → cs.getD i 0 ≠ a.2.2) := by
  obtain ⟨_, hg, hrg, hp, _⟩ := rightOf_ok hr
  obtain ⟨k, hk, hne, rfl⟩ := acts0_wf zs cs cs.length a ha
  have hx : 0 ≤ cs.getD k 0 ∧ cs.getD k 0 < zs.length := by
    rcases hp k hk with h | h
    · exact absurd h hne
    · exact h
  have htok := endOf_ok hg hrg hx
  rcases byF_spec (zs := zs) (distinct hr htok.1) cs.length (Nat.le_refl _) with ⟨h2, _⟩ | ⟨j, h2, h3, h4, h5⟩
  · exact absurd ⟨hne, rfl⟩ (h2 k hk)
  · exact ⟨j, h2, h3.1, h3.2, h4, h5.imp id fun h => h.1⟩

theorem actOf_mem {zs cs : List Int} {j : Nat} (hj : j < cs.length) (hne : cs.getD j 0 ≠ -1) : actOf zs cs j ∈ acts0 zs cs cs.length :=
  List.mem_of_getElem? (acts0_at zs cs j hj hne)

theorem count_of_pairwise {l : List Act0} (hp : l.Pairwise (fun a b => a.1 < b.1)) {a : Act0} (ha : a ∈ l) : (l.filter fun b => decide (b = a)).length = 1 := by
  induction l with
  | nil => cases ha
  | cons b l ih =>
    rw [List.pairwise_cons] at hp
    rcases List.mem_cons.1 ha with rfl | ha
    · rw [List.filter_cons_of_pos (by simp)]
      have : l.filter (fun b => decide (b = a)) = [] := by
        rw [List.filter_eq_nil_iff]
        intro c hc
        have := hp.1 c hc
        simp only [decide_eq_true_eq]
        rintro rfl
        omega
      simp [this]
    · have h1 := hp.1 a ha
      rw [List.filter_cons_of_neg (by simp only [decide_eq_true_eq]; rintro rfl; omega)]
      exact ih hp.2 ha

theorem once {zs cs : List Int} (hr : rightOf zs cs = 0) {a : Act0} (ha : a ∈ acts0 zs cs cs.length) : cntL zs cs a.2.2 (acts0 zs cs cs.length) = 1 := by
  obtain ⟨j, h1, h2, h3, h4, _⟩ := runner hr ha
  have hm : actOf zs cs j ∈ acts0 zs cs cs.length := actOf_mem h1 h2
  rw [← count_of_pairwise (acts0_workers zs cs cs.length) hm]
  unfold cntL
  congr 1
  refine List.filter_congr fun b _ => ?_
  unfold spins
  by_cases hb : b.2.2 = a.2.2
  · rw [hb, h4]
    simp [eq_comm]
  · have : b ≠ actOf zs cs j := by
      rintro rfl
      exact hb h3
    simp [hb, this]

theorem no_spin {zs cs : List Int} (hr : rightOf zs cs = 0) {a : Act0} (ha : a ∈ acts0 zs cs cs.length) (h : a.2.1 = a.2.2) : spins zs cs a = false := by
  obtain ⟨j, h1, h2, h3, h4, h5⟩ := runner hr ha
  obtain ⟨_, hg, hrg, hp, _⟩ := rightOf_ok hr
  obtain ⟨k, hk, hne, rfl⟩ := acts0_wf zs cs cs.length a ha
  have hx : 0 ≤ cs.getD k 0 ∧ cs.getD k 0 < zs.length := by
    rcases hp k hk with h | h
    · exact absurd h hne
    · exact h
  have htok := endOf_ok hg hrg hx
  dsimp only at h h3 h4 h5
  have hjk : j = k := by
    rcases h5 with h5 | h5
    · rcases Nat.lt_trichotomy j k with h6 | h6 | h6
      · exact absurd h (distinct hr htok.1 j k h6 hk h5)
      · exact h6
      · exact absurd h5 (distinct hr htok.1 k j h6 h1 h)
    · exact absurd h (h5 k hk ⟨hne, rfl⟩)
  subst hjk
  unfold spins
  dsimp only
  rw [h4]
  simp [actOf]

/-- what is known of an act -/
theorem act_facts {zs cs : List Int} (hr : rightOf zs cs = 0) {a : Act0} (ha : a ∈ acts0 zs cs cs.length) :
    ∃ j : Nat, j < cs.length ∧ a.1 = (j : Int) ∧ cs[j]?.getD 0 = a.2.1 ∧ (0 ≤ a.2.1 ∧ a.2.1 < zs.length) ∧ (0 ≤ a.2.2 ∧ a.2.2 < zs.length) ∧ zs[a.2.2.toNat]?.getD 0 = -1 ∧ endOf zs a.2.1 = a.2.2 := by
  obtain ⟨_, hg, hrg, hp, _⟩ := rightOf_ok hr
  obtain ⟨k, hk, hne, rfl⟩ := acts0_wf zs cs cs.length a ha
  have hx : 0 ≤ cs.getD k 0 ∧ cs.getD k 0 < zs.length := by
    rcases hp k hk with h | h
    · exact absurd h hne
    · exact h
  have htok := endOf_ok hg hrg hx
  have htn := endOf_nxt hrg hx
  refine ⟨k, hk, rfl, rfl, hx, htok, ?_, rfl⟩
  unfold nxt at htn
  dsimp only
  rw [if_neg (by omega), List.getD] at htn
  exact htn
/-- how many are chosen -/
theorem acts0_many (zs cs : List Int) (hp : ∀ j, j < cs.length → OkI zs (cs.getD j 0)) (n : Nat) (hn : n < cs.length) :
    (acts0 zs cs (n + 1)).length = (acts0 zs cs n).length + if 0 ≤ cs.getD n 0 then 1 else 0 := by
  rw [acts0]
  rcases hp n hn with h | h
  · rw [if_pos h, if_neg (by omega)]; rfl
  · rw [if_neg (by omega), if_pos h.1, List.length_append]; rfl
end Go.Proofs.Ytmbdolmkldbjcaa
