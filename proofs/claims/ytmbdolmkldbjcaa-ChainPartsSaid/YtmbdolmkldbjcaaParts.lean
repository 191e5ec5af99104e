/-
  Plain: the threads behind those that wait for none.
-/
import Derived.Test.YtmbdolmkldbjcaaW13
namespace Go.Proofs.Ytmbdolmkldbjcaa
open Go.RowKit

theorem mem_rootsN {zs : List Int} {n : Nat} {t : Int} : t ∈ rootsN zs n ↔ ∃ k : Nat, k < n ∧ zs.getD k 0 = -1 ∧ t = (k : Int) := by
  unfold rootsN
  rw [List.mem_filterMap]
  constructor
  · rintro ⟨k, hk, h⟩
    split at h
    · rename_i h1
      injection h with h
      exact ⟨k, List.mem_range.1 hk, h1, h.symm⟩
    · cases h
  · rintro ⟨k, hk, h1, rfl⟩
    exact ⟨k, List.mem_range.2 hk, by rw [if_pos h1]⟩
theorem mem_behindN {zs : List Int} {i x : Int} {n : Nat} : x ∈ behindN zs i n ↔ ∃ k : Nat, k < n ∧ i ∈ chain zs (k : Int) ∧ x = (k : Int) := by
  unfold behindN
  rw [List.mem_filterMap]
  constructor
  · rintro ⟨k, hk, h⟩
    split at h
    · rename_i h1
      injection h with h
      exact ⟨k, List.mem_range.1 hk, h1, h.symm⟩
    · cases h
  · rintro ⟨k, hk, h1, rfl⟩
    exact ⟨k, List.mem_range.2 hk, by rw [if_pos h1]⟩
theorem rootsN_nodup (zs : List Int) (n : Nat) : (rootsN zs n).Nodup := by
  induction n with
  | zero => simp [rootsN]
  | succ n ih =>
    rw [rootsN_succ]
    split
    · rw [List.nodup_append]
      refine ⟨ih, by simp, fun a ha b hb => ?_⟩
      obtain ⟨k, hk, _, rfl⟩ := mem_rootsN.1 ha
      rw [List.mem_singleton] at hb
      subst hb
      omega
    · exact ih
theorem behindN_nodup (zs : List Int) (i : Int) (n : Nat) : (behindN zs i n).Nodup := by
  induction n with
  | zero => simp [behindN]
  | succ n ih =>
    rw [behindN_succ, List.nodup_append]
    refine ⟨ih, by split <;> simp, fun a ha b hb => ?_⟩
    obtain ⟨k, hk, _, rfl⟩ := mem_behindN.1 ha
    split at hb
    · rw [List.mem_singleton] at hb
      subst hb
      omega
    · cases hb

/-- who waits for none is the end of all chains that have it -/
theorem last_of_root {zs : List Int} {x t : Int} (_hx : nxts zs zs.length x = -1) (ht : nxt zs t = -1) (h : t ∈ chain zs x) : lastOf (chain zs x) = t := by
  rw [chain, mem_chainL] at h
  obtain ⟨k, hk, h1, h2⟩ := h
  have : ∀ (n k : Nat) (x : Int), k < n → nxts zs k x = t → lastOf (chainL zs n x) = t := by
    intro n
    induction n with
    | zero => intro k x hk; omega
    | succ n ih =>
      intro k x hk h
      cases k with
      | zero =>
        have hxt : x = t := h
        subst hxt
        rw [chainL, if_neg h2, ht, chainL_none]
        rfl
      | succ k =>
        rw [nxts_succ'] at h
        have h3 := ih k (nxt zs x) (by omega) h
        have hx1 : x ≠ -1 := by
          rintro rfl
          rw [show nxt zs (-1) = -1 from rfl, nxts_none] at h
          exact h2 h.symm
        rw [chainL, if_neg hx1]
        have hne : chainL zs n (nxt zs x) ≠ [] := by
          intro he
          have := (mem_chainL n (nxt zs x) t).2 ⟨k, by omega, h, h2⟩
          rw [he] at this
          cases this
        cases hc : chainL zs n (nxt zs x) with
        | nil => exact absurd hc hne
        | cons y l => rw [hc] at h3; exact h3
  exact this zs.length k x hk h1

/-- how many of the first roots a chain has -/
def sN (zs : List Int) (i : Nat) (x : Int) : Nat := (((rootsN zs zs.length).take i).filter fun t => decide (t ∈ chain zs x)).length

theorem sN_succ {zs : List Int} {i : Nat} {x t : Int} (h : (rootsN zs zs.length)[i]? = some t) : sN zs (i + 1) x = sN zs i x + if t ∈ chain zs x then 1 else 0 := by
  unfold sN
  rw [List.take_add_one, h, List.filter_append, List.length_append]
  congr 1
  by_cases ht : t ∈ chain zs x <;> simp [ht]

theorem sN_all {zs : List Int} (he : err zs = 0) {x : Int} (hx : 0 ≤ x ∧ x < zs.length) : sN zs (rootsN zs zs.length).length x = 1 := by
  obtain ⟨_, hg, hr⟩ := err_ok he
  have hrg : ∀ i, OkI zs i → Rings zs i = false := by
    rintro i (rfl | ⟨hi, hi'⟩)
    · simp [Rings, nxts_none]
    · have := hr i.toNat (by omega)
      rwa [Int.toNat_of_nonneg hi] at this
  have hx' := ringF (hrg x (.inr hx))
  have hok := endOf_ok hg hrg hx
  have hn := endOf_nxt hrg hx
  have hmem : endOf zs x ∈ rootsN zs zs.length := by
    rw [mem_rootsN]
    refine ⟨(endOf zs x).toNat, by omega, ?_, by omega⟩
    unfold nxt at hn
    rwa [if_neg (by omega)] at hn
  have hin : endOf zs x ∈ chain zs x := by
    have hne := chain_ne (show x ≠ -1 by omega) hx'
    rw [endOf_last]
    unfold lastOf
    rw [List.getLastD_eq_getLast?, List.getLast?_eq_some_getLast hne]
    exact List.getLast_mem hne
  unfold sN
  rw [List.take_length]
  have hcong : (rootsN zs zs.length).filter (fun t => decide (t ∈ chain zs x)) = (rootsN zs zs.length).filter (fun t => t == endOf zs x) := by
    refine List.filter_congr fun t ht => ?_
    obtain ⟨k, hk, hkz, rfl⟩ := mem_rootsN.1 ht
    have hkn : nxt zs (k : Int) = -1 := by
      unfold nxt
      rw [if_neg (by omega)]
      simpa using hkz
    by_cases h1 : (k : Int) ∈ chain zs x
    · have := last_of_root hx' hkn h1
      rw [← endOf_last] at this
      simp [h1, this]
    · have : (k : Int) ≠ endOf zs x := fun h => h1 (by rw [h]; exact hin)
      simp [h1, this]
  rw [hcong, ← List.countP_eq_length_filter]
  have := (rootsN_nodup zs zs.length).count (a := endOf zs x)
  rw [if_pos hmem] at this
  exact this

/-- a chain is one longer than that of the one for which it waits -/
theorem chain_length {zs : List Int} {x : Int} (hx : 0 ≤ x ∧ x < zs.length) (hr : nxts zs zs.length x = -1) : (chain zs x).length = (if nxt zs x = -1 then 0 else (chain zs (nxt zs x)).length) + 1 := by
  obtain ⟨m, hm, h1, h2⟩ := chainL_step (zs := zs) (show x ≠ -1 by omega) hr
  have h3 : chainL zs m (nxt zs x) = chain zs (nxt zs x) := by
    have : ∀ (a b : Nat) (y : Int), a ≤ b → nxts zs a y = -1 → chainL zs a y = chainL zs b y := by
      intro a
      induction a with
      | zero => intro b y _ h; rw [show y = -1 from h, chainL_none, chainL_none]
      | succ a ih =>
        intro b y hab h
        obtain ⟨b, rfl⟩ : ∃ b', b = b' + 1 := ⟨b - 1, by omega⟩
        rw [chainL, chainL]
        split
        · rfl
        · rw [nxts_succ'] at h
          rw [ih b _ (by omega) h]
    exact this m zs.length _ (by omega) h2
  unfold chain at *
  rw [h1, List.length_cons, h3]
  split
  · rename_i h; rw [h, chainL_none]; rfl
  · rfl
end Go.Proofs.Ytmbdolmkldbjcaa
