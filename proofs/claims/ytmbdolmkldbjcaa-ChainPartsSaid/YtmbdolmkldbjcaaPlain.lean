/-
  Plain facts on waits: chains, rings. No program in sight.
-/
namespace Go.Proofs.Ytmbdolmkldbjcaa

/-- the next one of a chain; -1: none -/
def nxt (zs : List Int) (i : Int) : Int := if i = -1 then -1 else zs.getD i.toNat 0
def nxts (zs : List Int) : Nat → Int → Int
  | 0, i => i
  | n + 1, i => nxt zs (nxts zs n i)
/-- a number that may be waited for -/
def OkI (zs : List Int) (i : Int) : Prop := i = -1 ∨ (0 ≤ i ∧ i < zs.length)
instance (zs : List Int) (i : Int) : Decidable (OkI zs i) := by unfold OkI; infer_instance
def Good (zs : List Int) : Prop := ∀ j, j < zs.length → OkI zs (zs.getD j 0)
def Rings (zs : List Int) (i : Int) : Bool := nxts zs zs.length i != -1
/-- what is wrong with waits -/
def err (zs : List Int) : Int :=
  if 64 < zs.length then 13
  else if ∃ j, j < zs.length ∧ ¬ OkI zs (zs.getD j 0) then 10
  else if ∃ j, j < zs.length ∧ Rings zs (j : Int) = true then 18 else 0

theorem OkI.nxt {zs : List Int} {i : Int} (hg : Good zs) (h : OkI zs i) : OkI zs (nxt zs i) := by
  unfold Ytmbdolmkldbjcaa.nxt
  split
  · left; rfl
  · rcases h with h | h
    · contradiction
    · exact hg _ (by omega)
theorem OkI.nxts {zs : List Int} {i : Int} (hg : Good zs) (h : OkI zs i) (n : Nat) : OkI zs (nxts zs n i) := by
  induction n with
  | zero => exact h
  | succ n ih => exact ih.nxt hg
theorem nxts_add (zs : List Int) (i : Int) (m n : Nat) : nxts zs (m + n) i = nxts zs m (nxts zs n i) := by
  induction m with
  | zero => simp [nxts]
  | succ m ih => rw [Nat.succ_add]; simp only [nxts, ih]
theorem nxts_none (zs : List Int) (n : Nat) : nxts zs n (-1) = -1 := by
  induction n with
  | zero => rfl
  | succ n ih => simp [nxts, ih, nxt]
theorem nxts_stays {zs : List Int} {i : Int} {m n : Nat} (h : nxts zs m i = -1) (hmn : m ≤ n) : nxts zs n i = -1 := by
  obtain ⟨k, rfl⟩ := Nat.exists_eq_add_of_le' hmn
  rw [nxts_add, h, nxts_none]

/-- numbers below a bound, each once, are no more than the bound -/
theorem nodup_le : ∀ (n : Nat) (l : List Nat), l.Nodup → (∀ x ∈ l, x < n) → l.length ≤ n := by
  intro n
  induction n with
  | zero =>
    intro l _ h
    cases l with
    | nil => simp
    | cons a l => exact absurd (h a (by simp)) (by omega)
  | succ n ih =>
    intro l hd h
    have h1 := ih (l.erase n) (hd.erase n) (fun x hx => by
      have hx' := (List.Nodup.mem_erase_iff hd).1 hx
      have := h x hx'.2
      have := hx'.1
      omega)
    have h2 : l.length ≤ (l.erase n).length + 1 := by
      rw [List.length_erase]
      split <;> omega
    omega

/-- a chain that goes beyond all threads has come back: it never ends -/
theorem ring_again {zs : List Int} {i : Int} {m d : Nat} (hd : 0 < d) (h : nxts zs (m + d) i = nxts zs m i) (hne : nxts zs m i ≠ -1) (n : Nat) :
    nxts zs n i ≠ -1 := by
  intro hn
  have hk : ∀ k, nxts zs (m + k * d) i = nxts zs m i := by
    intro k
    induction k with
    | zero => simp
    | succ k ih =>
      have : m + (k + 1) * d = d + (m + k * d) := by rw [Nat.succ_mul]; omega
      rw [this, nxts_add, ih, ← nxts_add, Nat.add_comm d m, h]
  have h1 := hk n
  have h2 : n ≤ m + n * d := by
    have : n * 1 ≤ n * d := Nat.mul_le_mul_left n hd
    omega
  rw [nxts_stays hn h2] at h1
  exact hne h1.symm

theorem ring_of_long {zs : List Int} {i : Int} (hg : Good zs) (hi : OkI zs i) (h : nxts zs zs.length i ≠ -1) (n : Nat) : nxts zs n i ≠ -1 := by
  -- zs.length + 1 values, all threads
  have hall : ∀ k, k ≤ zs.length → nxts zs k i ≠ -1 := fun k hk he => h (nxts_stays he hk)
  let l : List Nat := (List.range (zs.length + 1)).map fun k => (nxts zs k i).toNat
  have hl : l.length = zs.length + 1 := by simp [l]
  have hb : ∀ x ∈ l, x < zs.length := by
    intro x hx
    simp only [l, List.mem_map, List.mem_range] at hx
    obtain ⟨k, hk, rfl⟩ := hx
    have := hi.nxts hg k
    rcases this with this | this
    · exact absurd this (hall k (by omega))
    · omega
  have hnd : ¬ l.Nodup := fun hnd => by have := nodup_le _ l hnd hb; omega
  have : ∃ a b, a < b ∧ b ≤ zs.length ∧ (nxts zs a i).toNat = (nxts zs b i).toNat := by
    refine Classical.byContradiction fun hno => hnd ?_
    simp only [l]
    rw [List.nodup_iff_pairwise_ne, List.pairwise_map]
    refine (List.pairwise_lt_range (n := zs.length + 1)).imp_of_mem ?_
    intro a b ha hb hab he
    simp only [List.mem_range] at ha hb
    exact hno ⟨a, b, hab, by omega, he⟩
  obtain ⟨a, b, hab, hbl, he⟩ := this
  have ha1 := hi.nxts hg a
  have hb1 := hi.nxts hg b
  have ha2 := hall a (by omega)
  have hb2 := hall b hbl
  have he' : nxts zs b i = nxts zs a i := by
    rcases ha1 with h1 | h1
    · exact absurd h1 ha2
    · rcases hb1 with h2 | h2
      · exact absurd h2 hb2
      · omega
  obtain ⟨d, rfl⟩ := Nat.exists_eq_add_of_le (Nat.le_of_lt hab)
  exact ring_again (m := a) (d := d) (by omega) he' ha2 n


/-- the beginning of a chain -/
def chainL (zs : List Int) : Nat → Int → List Int
  | 0, _ => []
  | n + 1, i => if i = -1 then [] else i :: chainL zs n (nxt zs i)
/-- a thread's chain -/
def chain (zs : List Int) (i : Int) : List Int := chainL zs zs.length i
/-- its end -/
def endOf (zs : List Int) (i : Int) : Int := (chain zs i).getD ((chain zs i).length - 1) 0

theorem chainL_none (zs : List Int) (n : Nat) : chainL zs n (-1) = [] := by cases n <;> simp [chainL]
theorem nxts_succ' (zs : List Int) (n : Nat) (i : Int) : nxts zs (n + 1) i = nxts zs n (nxt zs i) := by
  rw [nxts_add zs i n 1]; rfl
theorem chainL_step {zs : List Int} {n : Nat} {i : Int} (hi : i ≠ -1) (h : nxts zs n i = -1) :
    ∃ m, n = m + 1 ∧ chainL zs n i = i :: chainL zs m (nxt zs i) ∧ nxts zs m (nxt zs i) = -1 := by
  cases n with
  | zero => exact absurd h hi
  | succ m => exact ⟨m, rfl, by simp [chainL, hi], by rw [← nxts_succ']; exact h⟩
theorem chainL_length (zs : List Int) (n : Nat) (i : Int) : (chainL zs n i).length ≤ n := by
  induction n generalizing i with
  | zero => simp [chainL]
  | succ n ih =>
    simp only [chainL]
    split
    · simp
    · have := ih (nxt zs i); simp; omega
theorem chainL_ok {zs : List Int} (hg : Good zs) (n : Nat) (i : Int) (hi : OkI zs i) : ∀ x ∈ chainL zs n i, 0 ≤ x ∧ x < zs.length := by
  induction n generalizing i with
  | zero => simp [chainL]
  | succ n ih =>
    simp only [chainL]
    split
    · simp
    · rename_i hne
      intro x hx
      rcases List.mem_cons.1 hx with rfl | hx
      · rcases hi with h | h
        · exact absurd h hne
        · exact h
      · exact ih _ (hi.nxt hg) x hx
theorem chain_ne {zs : List Int} {i : Int} (hi : i ≠ -1) (h : nxts zs zs.length i = -1) : chain zs i ≠ [] := by
  obtain ⟨m, _, h1, _⟩ := chainL_step hi h
  rw [chain, h1]; simp
end Go.Proofs.Ytmbdolmkldbjcaa
