/-
  Place: plain facts for the laws. No program in sight.
-/
import Derived.Test.YtkjpkhpiojahkaaPl3
namespace Go.Proofs.Ytkjpkhpiojahkaa
set_option linter.unusedVariables false
open Go.RowKit Hp

/-! ### servers that may be -/
theorem serv_puts {ks : List (Int × Int)} (h : servE ks = 0) : ks.length ≤ 64 ∧ Puts [] ks := by
  unfold servE at h
  split at h
  · cases h
  · obtain ⟨i, _, hall, _, _, h0⟩ := putErr_put ks
    have := h0 h
    subst this
    exact ⟨by omega, okAll_puts hall⟩
theorem puts_serv {ks : List (Int × Int)} (hl : ks.length ≤ 64) (h : Puts [] ks) : servE ks = 0 := by
  unfold servE
  rw [if_neg (by omega)]
  obtain ⟨i, _, _, hne, he, _⟩ := putErr_put ks
  by_cases hi : i < ks.length
  · have h1 := puts_okAll h i hi
    rw [he, if_pos hi] at *
    exact h1
  · rw [he, if_neg hi]
/-- what is known of servers that may be -/
structure Good (ks : List (Int × Int)) (S : List (It Int)) : Prop where
  few : ks.length ≤ 64
  puts : Puts [] ks
  sorted : Sorted ltI S
  perm : S.Perm (itk ks)
theorem serv_good {ks : List (Int × Int)} (h : servE ks = 0) : Good ks (putAll [] ks) := by
  obtain ⟨h1, h2⟩ := serv_puts h
  exact ⟨h1, h2, Go.Proofs.Ytkjpkhpiojahkaa.putAll_sorted ks, by simpa using putAll_perm h2⟩
section
variable {ks : List (Int × Int)} {S : List (It Int)}
theorem Good.len (h : Good ks S) : S.length = ks.length := by rw [h.perm.length_eq, itk_length]
theorem Good.mem (h : Good ks S) {x : It Int} : x ∈ S ↔ (x.2, x.1) ∈ ks := by
  rw [h.perm.mem_iff]
  unfold itk
  rw [List.mem_map]
  constructor
  · rintro ⟨k, hk, rfl⟩; exact hk
  · intro hx; exact ⟨_, hx, rfl⟩
theorem Good.id (h : Good ks S) {id : Int} : id ∈ S.map (·.1) ↔ id ∈ ks.map (·.2) := by
  constructor
  · intro hi
    obtain ⟨x, hx, rfl⟩ := List.mem_map.1 hi
    exact List.mem_map.2 ⟨_, h.mem.1 hx, rfl⟩
  · intro hi
    obtain ⟨k, hk, rfl⟩ := List.mem_map.1 hi
    exact List.mem_map.2 ⟨(k.2, k.1), h.mem.2 hk, rfl⟩
theorem Good.pos (h : Good ks S) : ∀ x ∈ S, 0 ≤ x.1 := fun x hx => (h.puts.1 _ (h.mem.1 hx)).1
theorem Good.times (h : Good ks S) : ∀ x ∈ S, timeE x.2 = 0 := fun x hx => (h.puts.1 _ (h.mem.1 hx)).2.1
theorem Good.distinct (h : Good ks S) : S.Pairwise fun a b => a.1 ≠ b.1 := by
  refine distinct_perm h.perm.symm ?_
  have := h.puts.2
  unfold itk
  rw [List.pairwise_map]
  rw [List.nodup_iff_pairwise_ne, List.pairwise_map] at this
  exact this
theorem Good.nodup (h : Good ks S) : (S.map (·.1)).Nodup := by
  rw [List.nodup_iff_pairwise_ne, List.pairwise_map]
  exact h.distinct
theorem bestI_sub {n : Nat} {id : Int} (h : id ∈ bestI S n) : id ∈ S.map (·.1) := by
  obtain ⟨x, hx, rfl⟩ := List.mem_map.1 h
  exact List.mem_map.2 ⟨x, List.mem_of_mem_take hx, rfl⟩
theorem Good.best_pos (h : Good ks S) {n : Nat} : ∀ id ∈ bestI S n, 0 ≤ id := fun id hi => by
  obtain ⟨x, hx, rfl⟩ := List.mem_map.1 hi
  exact h.pos x (List.mem_of_mem_take hx)
theorem Good.best_nodup (h : Good ks S) {n : Nat} : (bestI S n).Nodup := by
  unfold bestI
  rw [List.map_take]
  exact h.nodup.sublist (List.take_sublist _ _)
theorem aheadI {x y : It Int} : Hp.ahead ltI x y = bef (x.2, x.1) (y.2, y.1) := by
  rw [Bool.eq_iff_iff, ahead_iff]
  unfold bef ltI
  simp only [Bool.or_eq_true, Bool.and_eq_true, decide_eq_true_eq, decide_eq_false_iff_not]
  omega
end
/-! ### workers that may be -/
theorem work_mk {r : List Int} (h1 : 1 ≤ r.length) (h2 : r.length ≤ 16) (h3 : ∀ x ∈ r, -1 ≤ x) (h4 : ∀ i j : Nat, i < j → j < r.length → r[i]?.getD 0 = r[j]?.getD 0 → r[i]?.getD 0 = -1) : workE r = 0 := by
  unfold workE
  rw [if_neg (by omega), if_neg (by rw [lowB_false h3]; simp), if_neg]
  rw [dupB_false fun i hi => dupAt_not fun hne j hj e => hne ?_]
  · simp
  · rw [e]
    exact h4 j i hj hi e.symm
theorem Laid.work {B a : List Int} (h : Laid B a) (hB : ∀ x ∈ B, -1 ≤ x) (h1 : 1 ≤ a.length) (h2 : a.length ≤ 16) : workE a = 0 := by
  refine work_mk h1 h2 (fun x hx => ?_) (fun i j hij hj e => ?_)
  · rcases h.mem x hx with h3 | h3
    · omega
    · exact hB x h3
  · refine Decidable.byContradiction fun hne => ?_
    have := h.once i j (by omega) hj e hne
    omega
section
variable {r a B : List Int} {S : List (It Int)} {ks : List (Int × Int)}
theorem count_one : ∀ {l : List Int} {x : Int}, x ∈ l → (∀ i j : Nat, i < l.length → j < l.length → l[i]?.getD 0 = x → l[j]?.getD 0 = x → i = j) → l.count x = 1
  | y :: l, x, hm, h => by
    rw [List.count_cons]
    by_cases hy : y = x
    · have : x ∉ l := fun hx => by
        obtain ⟨j, hj, e⟩ := List.mem_iff_getElem.1 hx
        have := h 0 (j + 1) (by simp) (by simp; omega) (by simp [hy]) (by simp [List.getElem?_eq_getElem hj, e])
        omega
      rw [List.count_eq_zero.2 this]
      simp [hy]
    · have hx : x ∈ l := (List.mem_cons.1 hm).resolve_left (Ne.symm hy)
      rw [count_one hx (fun i j hi hj e1 e2 => by
        have := h (i + 1) (j + 1) (by simp; omega) (by simp; omega) (by simpa using e1) (by simpa using e2)
        omega)]
      simp [hy]
theorem Laid.count (h : Laid B a) {x : Int} (hx : x ∈ a) (hne : x ≠ -1) : a.count x = 1 :=
  count_one hx fun i j hi hj e1 e2 => h.once i j hi hj (by rw [e1, e2]) (by rw [e1]; exact hne)
theorem Laid.nodup (h : Laid B a) : (a.filter fun x => x != -1).Nodup := by
  have hp : a.Pairwise fun x y => x = y → x = -1 := by
    rw [List.pairwise_iff_getElem]
    intro i j hi hj hij e
    refine Decidable.byContradiction fun hne => ?_
    have := h.once i j hi hj (by rw [List.getElem?_eq_getElem hi, List.getElem?_eq_getElem hj]; simpa using e) (by rw [List.getElem?_eq_getElem hi]; exact hne)
    omega
  rw [List.nodup_iff_pairwise_ne]
  refine (hp.filter _).imp_of_mem fun {x y} hx _ hxy e => ?_
  have := (List.mem_filter.1 hx).2
  rw [hxy e] at this
  simp at this
theorem Placed.count (h : Placed r a B) (hB : B.Nodup) (hp : ∀ x ∈ B, 0 ≤ x) : a.countP (fun x => x != -1) = B.length := by
  rw [List.countP_eq_length_filter]
  refine Nat.le_antisymm (nodup_sub_length h.laid.nodup fun x hx => ?_) (nodup_sub_length hB fun x hx => ?_)
  · obtain ⟨h1, h2⟩ := List.mem_filter.1 hx
    rcases h.laid.mem x h1 with h3 | h3
    · subst h3; simp at h2
    · exact h3
  · have := hp x hx
    exact List.mem_filter.2 ⟨h.all x hx, by simp; omega⟩
theorem Placed.at (h : Placed r a B) (hp : ∀ x ∈ B, 0 ≤ x) {id : Int} (ha : id ∈ a) (hr : id ∈ r) (h0 : 0 ≤ id) : atI a id = atI r id := by
  have hB : id ∈ B := (h.laid.mem id ha).resolve_left (by omega)
  have hlt := List.idxOf_lt_length_iff.2 hr
  have hget : r[r.idxOf id]? = some id := by
    rw [List.getElem?_eq_getElem hlt]
    exact congrArg some (List.getElem_idxOf hlt)
  have hst := h.stay (r.idxOf id) hlt (by rw [hget]; exact hB)
  rw [hget, Option.getD_some] at hst
  have hla : r.idxOf id < a.length := by rw [h.len]; exact hlt
  have hga : a[r.idxOf id]? = some id := by
    rw [List.getElem?_eq_getElem hla] at hst ⊢
    exact congrArg some hst
  rw [atI_found hga fun j hj e => ?_]
  · unfold atI
    rw [if_pos hr]
  · have := h.laid.once j (r.idxOf id) (by omega) hla (by rw [e, hga]) (by rw [e]; show id ≠ -1; omega)
    omega
/-- none that does not run is ahead of one that does -/
theorem Placed.first {n : Nat} (h : Placed r a (bestI S n)) (hg : Good ks S) {x y : It Int} (hx : x ∈ S) (hy : y ∈ S) (hxa : x.1 ∉ a) (hya : y.1 ∈ a) : bef (x.2, x.1) (y.2, y.1) = false := by
  have hyB := (h.laid.mem _ hya).resolve_left (by have := hg.pos y hy; omega)
  obtain ⟨z, hz, e⟩ := List.mem_map.1 hyB
  have hzy : z = y := uniq hg.distinct (List.mem_of_mem_take hz) hy e
  subst hzy
  have hxn : x ∉ S.take n := fun hh => hxa (h.all _ (List.mem_map.2 ⟨x, hh, rfl⟩))
  have hxd : x ∈ S.drop n := by
    rw [← List.take_append_drop n S] at hx
    exact (List.mem_append.1 hx).resolve_left hxn
  have hs := hg.sorted
  unfold Sorted at hs
  rw [← List.take_append_drop n S, List.pairwise_append] at hs
  have := ahead_asymm ltI_swo (hs.2.2 _ hz _ hxd)
  rw [aheadI] at this
  exact this
end
/-! ### who is moved -/
def movesN (a b : List Int) (i : Nat) : List Int := ((List.range i).filter fun (j : Nat) => b[j]?.getD 0 != -1 && b[j]?.getD 0 != a[j]?.getD 0).map fun (j : Nat) => (j : Int)
def movesL (a b : List Int) : List Int := movesN a b b.length
theorem movesN_succ (a b : List Int) (i : Nat) : movesN a b (i + 1) = if (b[i]?.getD 0 != -1 && b[i]?.getD 0 != a[i]?.getD 0) = true then movesN a b i ++ [(i : Int)] else movesN a b i := by
  unfold movesN
  rw [List.range_succ, List.filter_append, List.map_append]
  split
  · rename_i h
    rw [List.filter_cons_of_pos (by simpa using h)]
    rfl
  · rename_i h
    rw [List.filter_cons_of_neg (by simpa using h)]
    simp
theorem movesN_length (a b : List Int) (i : Nat) : (movesN a b i).length ≤ i := by
  unfold movesN
  rw [List.length_map]
  have := List.length_filter_le (fun (j : Nat) => b[j]?.getD 0 != -1 && b[j]?.getD 0 != a[j]?.getD 0) (List.range i)
  rw [List.length_range] at this
  exact this
theorem movesN_same (a : List Int) : ∀ i, movesN a a i = []
  | 0 => rfl
  | i + 1 => by rw [movesN_succ, if_neg (by simp), movesN_same a i]
theorem movesL_same (a : List Int) : movesL a a = [] := movesN_same a _
theorem movesN_set {a : List Int} {p : Nat} {x : Int} (hp : p < a.length) (hx : x ≠ -1) (hne : x ≠ a[p]?.getD 0) : ∀ i, movesN a (a.set p x) i = if p < i then [(p : Int)] else []
  | 0 => rfl
  | i + 1 => by
    have hg : (a.set p x)[i]?.getD 0 = if p = i then x else a[i]?.getD 0 := by
      rw [List.getElem?_set]
      by_cases hpi : p = i
      · rw [if_pos hpi, if_pos hpi, if_pos hp]
        rfl
      · rw [if_neg hpi, if_neg hpi]
    rw [movesN_succ, movesN_set hp hx hne i, hg]
    by_cases hpi : p = i
    · subst hpi
      rw [if_pos rfl, if_pos (by simp [hx, hne]), if_neg (by omega), if_pos (by omega)]
      rfl
    · rw [if_neg hpi, if_neg (by simp)]
      by_cases hlt : p < i
      · rw [if_pos hlt, if_pos (by omega)]
      · rw [if_neg hlt, if_neg (by omega)]
theorem movesL_set {a : List Int} {p : Nat} {x : Int} (hp : p < a.length) (hx : x ≠ -1) (hne : x ≠ a[p]?.getD 0) : movesL a (a.set p x) = [(p : Int)] := by
  unfold movesL
  rw [movesN_set hp hx hne, List.length_set, if_pos hp]
/-! ### in whatever order -/
theorem serv_rev {ks : List (Int × Int)} (h : servE ks = 0) : servE ks.reverse = 0 ∧ putAll [] ks.reverse = putAll [] ks := by
  obtain ⟨h1, h2⟩ := serv_puts h
  exact ⟨puts_serv (by rw [List.length_reverse]; exact h1) (Puts.reverse_iff.2 h2), putAll_rev h2 List.Pairwise.nil⟩
section
variable {r a B I : List Int} {S : List (It Int)}
theorem outB_get {i : Nat} (hi : i < r.length) : (outB B r)[i]?.getD 0 = if r[i]?.getD 0 ∈ B then r[i]?.getD 0 else -1 := by
  unfold outB
  rw [List.getElem?_map, List.getElem?_eq_getElem hi]
  rfl
theorem outB_mem {id : Int} (hI : id ∈ I) (h0 : 0 ≤ id) : id ∈ outB I r ↔ id ∈ r := by
  unfold outB
  rw [List.mem_map]
  constructor
  · rintro ⟨y, hy, e⟩
    split at e
    · rw [← e]; exact hy
    · omega
  · intro h
    exact ⟨id, h, by rw [if_pos hI]⟩
theorem outB_outB (hs : ∀ x ∈ B, x ∈ I) (h0 : ∀ x ∈ B, 0 ≤ x) : outB B (outB I r) = outB B r := by
  unfold outB
  rw [List.map_map]
  refine List.map_congr_left fun x _ => ?_
  show (if (if x ∈ I then x else -1) ∈ B then (if x ∈ I then x else -1) else -1) = _
  by_cases hx : x ∈ I
  · rw [if_pos hx]
  · rw [if_neg hx, if_neg (fun h => by have := h0 _ h; omega), if_neg (fun h => hx (hs x h))]
theorem placeL_outB (hs : ∀ x ∈ S, x.1 ∈ I) (h0 : ∀ x ∈ S, 0 ≤ x.1) : placeL (outB I r) S = placeL r S := by
  unfold placeL
  rw [outB_length, outB_outB]
  · intro x hx
    obtain ⟨y, hy, rfl⟩ := List.mem_map.1 hx
    exact hs y (List.mem_of_mem_take hy)
  · intro x hx
    obtain ⟨y, hy, rfl⟩ := List.mem_map.1 hx
    exact h0 y (List.mem_of_mem_take hy)
theorem hitS_outB (hs : ∀ x ∈ S, x.1 ∈ I) (h0 : ∀ x ∈ S, 0 ≤ x.1) : hitS (outB I r) S = hitS r S := by
  unfold hitS
  refine List.filter_congr fun x hx => ?_
  have := outB_mem (r := r) (hs x hx) (h0 x hx)
  simp only [this]
theorem atI_outB {id : Int} (hI : id ∈ I) (h0 : 0 ≤ id) : atI (outB I r) id = atI r id := by
  by_cases hr : id ∈ r
  · have hlt := List.idxOf_lt_length_iff.2 hr
    have hget : r[r.idxOf id]? = some id := by
      rw [List.getElem?_eq_getElem hlt]
      exact congrArg some (List.getElem_idxOf hlt)
    rw [atI_found (i := r.idxOf id) (by rw [outB_at hget, if_pos hI]) fun j hj e => ?_]
    · unfold atI
      rw [if_pos hr]
    · have hjl : j < r.length := by omega
      rw [outB_at (List.getElem?_eq_getElem hjl)] at e
      have e := Option.some.inj e
      split at e
      · have := List.not_of_lt_findIdx (p := (· == id)) (xs := r) (i := j) hj
        simp [e] at this
      · omega
  · unfold atI
    rw [if_neg hr, if_neg fun h => hr ((outB_mem hI h0).1 h)]
theorem victW_outB (hs : ∀ x ∈ S, x.1 ∈ I) (h0 : ∀ x ∈ S, 0 ≤ x.1) : victW (outB I r) S = victW r S ∧ victE (outB I r) S = victE r S := by
  unfold victW victE
  rw [hitS_outB hs h0]
  refine ⟨?_, rfl⟩
  split
  · rfl
  · rename_i h
    have := lastH_mem h
    have hm := (List.mem_filter.1 this).1
    exact atI_outB (hs _ hm) (h0 _ hm)
/-! ### with a worker more -/
theorem fillB_append (out l m : List Int) : fillB out (l ++ m) = fillB (fillB out l) m := by unfold fillB; rw [List.foldl_append]
theorem idxOf_snoc {x : Int} : ∀ {l : List Int}, x ∉ l → (l ++ [x]).idxOf x = l.length
  | [], _ => by simp
  | y :: l, h => by
    have hy : (y == x) = false := by simp; exact fun e => h (e ▸ List.mem_cons_self ..)
    rw [List.cons_append, List.idxOf_cons, hy, cond_false, idxOf_snoc fun hx => h (List.mem_cons_of_mem _ hx)]
    rfl
theorem Laid.wider (h : Laid B a) (hs : ∀ x ∈ B, x ∈ I) : Laid I (a ++ [-1]) := by
  refine ⟨fun i j hi hj e hne => ?_, fun x hx => ?_⟩
  · have key : ∀ k, k < (a ++ [(-1 : Int)]).length → (a ++ [(-1 : Int)])[k]?.getD 0 ≠ -1 → k < a.length ∧ (a ++ [(-1 : Int)])[k]?.getD 0 = a[k]?.getD 0 := fun k hk hn => by
      rw [List.length_append, List.length_singleton] at hk
      by_cases hk2 : k < a.length
      · exact ⟨hk2, by rw [List.getElem?_append_left hk2]⟩
      · exfalso
        rw [List.getElem?_append_right (by omega), show k - a.length = 0 by omega] at hn
        simp at hn
    obtain ⟨h1, h2⟩ := key i hi hne
    obtain ⟨h3, h4⟩ := key j hj (by rw [← e]; exact hne)
    exact h.once i j h1 h3 (by rw [← h2, ← h4, e]) (by rw [← h2]; exact hne)
  · rcases List.mem_append.1 hx with h1 | h1
    · rcases h.mem x h1 with h2 | h2
      · exact .inl h2
      · exact .inr (hs x h2)
    · exact .inl (List.mem_singleton.1 h1)
theorem Placed.full (h : Placed r a B) (hB : B.Nodup) (h0 : ∀ x ∈ B, 0 ≤ x) (hl : B.length = r.length) : -1 ∉ a := fun hm => by
  have := nodup_sub_length (l := -1 :: B) (m := a) (List.nodup_cons.2 ⟨fun hh => by have := h0 _ hh; omega, hB⟩) fun x hx => by
    rcases List.mem_cons.1 hx with rfl | hx
    · exact hm
    · exact h.all x hx
  rw [h.len, List.length_cons] at this
  omega
end
section
variable {r a : List Int} {S : List (It Int)} {ks : List (Int × Int)}
theorem bestI_succ {n : Nat} {x : It Int} (h : S[n]? = some x) : bestI S (n + 1) = bestI S n ++ [x.1] := by
  unfold bestI
  rw [List.take_add_one, h, List.map_append]
  rfl
theorem bestI_sub2 {n : Nat} : ∀ x ∈ bestI S n, x ∈ bestI S (n + 1) := fun x hx => by
  obtain ⟨y, hy, rfl⟩ := List.mem_map.1 hx
  obtain ⟨j, hj, e⟩ := List.mem_take_iff_getElem.1 hy
  exact List.mem_map.2 ⟨y, List.mem_take_iff_getElem.2 ⟨j, by omega, e⟩, rfl⟩
/-- with a worker more -/
theorem place_grow (h : Placed r a (bestI S r.length)) (hg : Good ks S) :
    (S.length ≤ r.length → placeL (a ++ [-1]) S = a ++ [-1]) ∧ (∀ x, S[r.length]? = some x → placeL (a ++ [-1]) S = a ++ [x.1] ∧ x.1 ≠ -1) := by
  have hw := h.laid.wider (I := bestI S (r.length + 1)) bestI_sub2
  have hl : (a ++ [(-1 : Int)]).length = r.length + 1 := by rw [List.length_append, h.len]; rfl
  refine ⟨fun hle => ?_, fun x hx => ?_⟩
  · unfold placeL
    rw [hl, outB_same hw]
    refine fillB_same fun x hx => List.mem_append_left _ (h.all x ?_)
    unfold bestI at hx ⊢
    rwa [List.take_of_length_le (by omega)] at hx ⊢
  · have hlt := (List.getElem?_eq_some_iff.1 hx).1
    have hx0 := hg.pos x (List.mem_of_getElem? hx)
    have hful := h.full hg.best_nodup hg.best_pos (by rw [bestI_length]; omega)
    have hxa : x.1 ∉ a := fun hm => by
      have hB := (h.laid.mem _ hm).resolve_left (by omega)
      have := hg.best_nodup (n := r.length + 1)
      rw [bestI_succ hx, List.nodup_append] at this
      exact this.2.2 _ hB _ (List.mem_singleton.2 rfl) rfl
    refine ⟨?_, by omega⟩
    unfold placeL
    rw [hl, outB_same hw, bestI_succ hx, fillB_append, fillB_same fun y hy => List.mem_append_left _ (h.all y hy)]
    show putB (a ++ [-1]) x.1 = _
    unfold putB
    rw [if_neg (by
      intro hm
      rcases List.mem_append.1 hm with h1 | h1
      · exact hxa h1
      · have := List.mem_singleton.1 h1
        omega), idxOf_snoc hful, List.set_append_right _ _ (Nat.le_refl _), Nat.sub_self]
    rfl
theorem set_snoc (a : List Int) (x : Int) : (a ++ [-1]).set a.length x = a ++ [x] := by
  rw [List.set_append_right _ _ (Nat.le_refl _), Nat.sub_self]
  rfl
/-! ### one more server -/
theorem ins_split {y : It Int} : ∀ {S : List (It Int)}, Sorted ltI S → (∀ z ∈ S, z.1 ≠ y.1) → ∃ P Q, S = P ++ Q ∧ ins ltI y S = P ++ y :: Q ∧ (∀ z ∈ P, Hp.ahead ltI z y = true) ∧ ∀ z ∈ Q, Hp.ahead ltI y z = true
  | [], _, _ => ⟨[], [], rfl, rfl, (fun z hz => by cases hz), (fun z hz => by cases hz)⟩
  | x :: S, hs, hd => by
    rw [ins]
    split
    · rename_i hx
      obtain ⟨P, Q, h1, h2, h3, h4⟩ := ins_split (List.pairwise_cons.1 hs).2 fun z hz => hd z (List.mem_cons_of_mem _ hz)
      refine ⟨x :: P, Q, by rw [h1]; rfl, by rw [h2]; rfl, fun z hz => ?_, h4⟩
      rcases List.mem_cons.1 hz with rfl | hz
      · exact hx
      · exact h3 z hz
    · rename_i hx
      have hxy : Hp.ahead ltI y x = true := (ahead_total ltI_swo (hd x List.mem_cons_self)).resolve_left hx
      refine ⟨[], x :: S, rfl, rfl, (fun z hz => by cases hz), fun z hz => ?_⟩
      rcases List.mem_cons.1 hz with rfl | hz
      · exact hxy
      · exact ahead_trans ltI_swo hxy ((List.pairwise_cons.1 hs).1 z hz)
theorem Good.more (h : Good ks S) {t id : Int} (hl : ks.length < 64) (h0 : 0 ≤ id) (ht : timeE t = 0) (hid : id ∉ ks.map (·.2)) : servE (ks ++ [(t, id)]) = 0 ∧ putAll [] (ks ++ [(t, id)]) = ins ltI (id, t) S := by
  have hp : Puts [] (ks ++ [(t, id)]) := by
    refine ⟨fun k hk => ?_, ?_⟩
    · rcases List.mem_append.1 hk with h1 | h1
      · exact h.puts.1 k h1
      · have := List.mem_singleton.1 h1
        subst this
        exact ⟨h0, ht, rfl⟩
    · rw [List.map_append, List.nodup_append]
      refine ⟨h.puts.2, List.nodup_cons.2 ⟨by simp, List.nodup_nil⟩, fun x hx y hy e => ?_⟩
      have := List.mem_singleton.1 hy
      subst e
      subst this
      exact hid hx
  refine ⟨puts_serv (by simp; omega) hp, ?_⟩
  refine Sorted.eq_of_perm ltI_swo (Go.Proofs.Ytkjpkhpiojahkaa.putAll_sorted _) (ins_sorted ltI_swo h.sorted fun y hy e => hid ?_) ?_
  · have := h.mem.1 hy
    exact List.mem_map.2 ⟨_, this, e⟩
  · refine (putAll_perm hp).trans (List.Perm.trans ?_ (ins_perm _ _).symm)
    unfold itk
    rw [List.map_append, List.nil_append]
    exact List.perm_append_comm.trans (h.perm.symm.cons _)
theorem hitS_placed {n : Nat} (h : Placed r a (bestI S n)) (hg : Good ks S) : hitS a S = S.take n := by
  have hyes : ∀ x ∈ S.take n, x.1 ∈ a := fun x hx => h.all _ (List.mem_map.2 ⟨x, hx, rfl⟩)
  have hno : ∀ x ∈ S.drop n, x.1 ∉ a := fun x hx hm => by
    have hB := (h.laid.mem _ hm).resolve_left (by have := hg.pos x (List.mem_of_mem_drop hx); omega)
    obtain ⟨z, hz, e⟩ := List.mem_map.1 hB
    have hd := hg.distinct
    rw [← List.take_append_drop n S, List.pairwise_append] at hd
    exact hd.2.2 z hz x hx e
  unfold hitS
  conv => lhs; rw [← List.take_append_drop n S]
  rw [List.filter_append, List.filter_eq_self.2 fun x hx => by simpa using hyes x hx, List.filter_eq_nil_iff.2 fun x hx => by simpa using hno x hx, List.append_nil]
end
end Go.Proofs.Ytkjpkhpiojahkaa
