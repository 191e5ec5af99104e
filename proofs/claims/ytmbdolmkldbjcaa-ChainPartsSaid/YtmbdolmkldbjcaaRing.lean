/-
  Plain: a wait that closes a ring, and one that does not.
-/
import Derived.Test.YtmbdolmkldbjcaaW11
namespace Go.Proofs.Ytmbdolmkldbjcaa

theorem mem_chainL {zs : List Int} : ∀ (n : Nat) (i x : Int), x ∈ chainL zs n i ↔ ∃ k, k < n ∧ nxts zs k i = x ∧ x ≠ -1 := by
  intro n
  induction n with
  | zero => simp [chainL]
  | succ n ih =>
    intro i x
    rw [chainL]
    by_cases hi : i = -1
    · subst hi
      rw [if_pos rfl]
      simp only [List.not_mem_nil, false_iff, not_exists]
      rintro k ⟨_, h, h'⟩
      rw [nxts_none] at h
      exact h' h.symm
    · rw [if_neg hi, List.mem_cons, ih]
      constructor
      · rintro (rfl | ⟨k, h1, h2, h3⟩)
        · exact ⟨0, by omega, rfl, hi⟩
        · exact ⟨k + 1, by omega, by rw [nxts_succ']; exact h2, h3⟩
      · rintro ⟨k, h1, h2, h3⟩
        cases k with
        | zero => exact .inl h2.symm
        | succ k => exact .inr ⟨k, by omega, by rw [← nxts_succ']; exact h2, h3⟩

/-- on a chain that ends: all that comes, comes soon -/
theorem mem_chain {zs : List Int} {q x : Int} (h : nxts zs zs.length q = -1) (hx : x ≠ -1) : x ∈ chain zs q ↔ ∃ k, nxts zs k q = x := by
  rw [chain, mem_chainL]
  constructor
  · rintro ⟨k, _, h2, _⟩; exact ⟨k, h2⟩
  · rintro ⟨k, h2⟩
    refine ⟨k, Nat.lt_of_not_le fun hle => hx ?_, h2, hx⟩
    rw [← h2]
    exact nxts_stays h hle

theorem nxt_set_ne {zs : List Int} {i q j : Int} (hi : 0 ≤ i ∧ i < zs.length) (hj : j = -1 ∨ (0 ≤ j ∧ j < zs.length)) (h : j ≠ i) : nxt (zs.set i.toNat q) j = nxt zs j := by
  unfold nxt
  split
  · rfl
  · rename_i hne
    rw [List.getD, List.getD, List.getElem?_set_ne]
    rcases hj with hj | hj
    · exact absurd hj hne
    · omega
theorem nxt_set_eq {zs : List Int} {i q : Int} (hi : 0 ≤ i ∧ i < zs.length) : nxt (zs.set i.toNat q) i = q := by
  unfold nxt
  rw [if_neg (by omega), List.getD, List.getElem?_set_self (by omega)]
  rfl
theorem good_set {zs : List Int} {i q : Int} (hg : Good zs) (hq : 0 ≤ q ∧ q < zs.length) : Good (zs.set i.toNat q) := by
  intro j hj
  rw [List.length_set] at hj
  by_cases h : i.toNat = j
  · subst h
    rw [List.getD, List.getElem?_set_self hj]
    exact .inr (by rw [List.length_set]; exact hq)
  · rw [List.getD, List.getElem?_set_ne h]
    have := hg j hj
    unfold OkI at *
    rw [List.length_set]
    exact this
/-- as long as i does not come, the new waits are the old ones -/
theorem nxts_set {zs : List Int} {i q j : Int} (hg : Good zs) (hi : 0 ≤ i ∧ i < zs.length) (hj : OkI zs j) : ∀ n, (∀ k, k < n → nxts zs k j ≠ i) → nxts (zs.set i.toNat q) n j = nxts zs n j := by
  intro n
  induction n with
  | zero => intro _; rfl
  | succ n ih =>
    intro h
    rw [nxts, ih fun k hk => h k (by omega), nxt_set_ne hi (hj.nxts hg n) (h n (by omega))]
    rfl

theorem first_hit {p : Nat → Prop} (h : ∃ n, p n) : ∃ n, p n ∧ ∀ k, k < n → ¬ p k := by
  obtain ⟨n, hn⟩ := h
  induction n using Nat.strongRecOn with
  | _ n ih =>
    by_cases hm : ∃ m, m < n ∧ p m
    · obtain ⟨m, hlt, hp⟩ := hm
      exact ih m hlt hp
    · exact ⟨n, hn, fun k hk hp => hm ⟨k, hk, hp⟩⟩

theorem err_set {zs : List Int} {i q : Int} (he : err zs = 0) (hi : 0 ≤ i ∧ i < zs.length) (hq : 0 ≤ q ∧ q < zs.length) :
    err (zs.set i.toNat q) = if i ∈ chain zs q then 18 else 0 := by
  obtain ⟨h64, hg, hr⟩ := err_ok he
  have hend : ∀ j, OkI zs j → nxts zs zs.length j = -1 := by
    rintro j (rfl | hj)
    · exact nxts_none _ _
    · have := ringF (hr j.toNat (by omega))
      rwa [Int.toNat_of_nonneg hj.1] at this
  have hg' : Good (zs.set i.toNat q) := good_set hg hq
  have hlen : (zs.set i.toNat q).length = zs.length := List.length_set
  have hq' : OkI zs q := .inr hq
  have hne : i ≠ -1 := by omega
  unfold err
  rw [if_neg (by rw [hlen]; omega), if_neg (fun ⟨j, h1, h2⟩ => h2 (hg' j h1))]
  by_cases hm : i ∈ chain zs q
  · rw [if_pos hm, if_pos]
    obtain ⟨n, hn, hmin⟩ := first_hit ((mem_chain (hend q hq') hne).1 hm)
    have h1 : nxts (zs.set i.toNat q) (0 + (n + 1)) i = nxts (zs.set i.toNat q) 0 i := by
      rw [Nat.zero_add, nxts_succ', nxt_set_eq hi, nxts_set hg hi hq' n hmin, hn]
      rfl
    refine ⟨i.toNat, by rw [hlen]; omega, ?_⟩
    rw [Int.toNat_of_nonneg hi.1]
    have := ring_again (zs := zs.set i.toNat q) (m := 0) (d := n + 1) (by omega) h1 hne (zs.set i.toNat q).length
    simpa [Rings] using this
  · rw [if_neg hm, if_neg]
    rintro ⟨j, hj, hrj⟩
    rw [hlen] at hj
    have hjo : OkI zs (j : Int) := .inr ⟨by omega, by omega⟩
    have hjo' : OkI (zs.set i.toNat q) (j : Int) := .inr ⟨by omega, by rw [hlen]; omega⟩
    have hring : nxts (zs.set i.toNat q) (zs.set i.toNat q).length j ≠ -1 := by simpa [Rings] using hrj
    have hnever := ring_of_long hg' hjo' hring
    by_cases hh : ∃ n, nxts zs n j = i
    · obtain ⟨n, hn, hmin⟩ := first_hit hh
      refine hnever (zs.length + (n + 1)) ?_
      rw [nxts_add, nxts, nxts_set hg hi hjo n hmin, hn, nxt_set_eq hi]
      rw [nxts_set hg hi hq' zs.length (fun k _ h => hm ((mem_chain (hend q hq') hne).2 ⟨k, h⟩))]
      exact hend q hq'
    · refine hnever zs.length ?_
      rw [nxts_set hg hi hjo zs.length (fun k _ h => hh ⟨k, h⟩)]
      exact hend j hjo

theorem self_chain {zs : List Int} {i : Int} (hi : 0 ≤ i ∧ i < zs.length) : i ∈ chain zs i := by
  rw [chain, mem_chainL]
  exact ⟨0, by omega, rfl, by omega⟩
end Go.Proofs.Ytmbdolmkldbjcaa
