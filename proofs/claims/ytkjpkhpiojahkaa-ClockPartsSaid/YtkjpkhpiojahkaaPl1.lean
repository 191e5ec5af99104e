/-
  Place: which server runs on each worker, as a function on lists, and what holds of it. No program in sight.
-/
import Derived.Test.YtkjpkhpiojahkaaPl0
namespace Go.Proofs.Ytkjpkhpiojahkaa
set_option linter.unusedVariables false
open Go.RowKit Hp

/-- those of the best ones that run stay -/
def outB (B r : List Int) : List Int := r.map fun id => if id ∈ B then id else -1
/-- the next one comes to the first idle worker -/
def putB (out : List Int) (id : Int) : List Int := if id ∈ out then out else out.set (out.idxOf (-1)) id
def fillB (out ids : List Int) : List Int := ids.foldl putB out
def bestI (S : List (It Int)) (n : Nat) : List Int := (S.take n).map (·.1)
def placeL (r : List Int) (S : List (It Int)) : List Int := fillB (outB (bestI S r.length) r) (bestI S r.length)
/-- the workers that are idle, in order -/
def freeOf (out : List Int) (i : Nat) : List (It Int) := ((List.range i).filter fun (j : Nat) => out[j]?.getD 0 == -1).map fun (j : Nat) => ((j : Int), (j : Int))
theorem putB_length (out : List Int) (id : Int) : (putB out id).length = out.length := by unfold putB; split <;> simp
theorem fillB_length (ids : List Int) : ∀ out : List Int, (fillB out ids).length = out.length := by
  induction ids with
  | nil => intro out; rfl
  | cons x ids ih => intro out; show (fillB (putB out x) ids).length = _; rw [ih, putB_length]
theorem outB_length (B r : List Int) : (outB B r).length = r.length := by simp [outB]
theorem placeL_length (r : List Int) (S : List (It Int)) : (placeL r S).length = r.length := by unfold placeL; rw [fillB_length, outB_length]
theorem nodup_sub_length : ∀ {l m : List Int}, l.Nodup → (∀ x ∈ l, x ∈ m) → l.length ≤ m.length
  | [], m, _, _ => Nat.zero_le _
  | x :: l, m, hn, hs => by
    have hx := hs x (List.mem_cons_self ..)
    obtain ⟨h1, h2⟩ := List.nodup_cons.1 hn
    have := nodup_sub_length (l := l) (m := m.erase x) h2 fun y hy => by
      have hne : y ≠ x := fun e => h1 (e ▸ hy)
      exact (List.mem_erase_of_ne hne).2 (hs y (List.mem_cons_of_mem _ hy))
    rw [List.length_erase_of_mem hx] at this
    have hpos : 0 < m.length := List.length_pos_of_mem hx
    simp only [List.length_cons]
    omega
/-- what holds while they are laid: no one runs twice, and only the best ones run -/
structure Laid (B out : List Int) : Prop where
  once : ∀ i j : Nat, i < out.length → j < out.length → out[i]?.getD 0 = out[j]?.getD 0 → out[i]?.getD 0 ≠ -1 → i = j
  mem : ∀ x ∈ out, x = -1 ∨ x ∈ B
theorem Laid.idle {B out : List Int} (h : Laid B out) {id : Int} (hB : id ∈ B) (hl : B.length ≤ out.length) (hid : id ∉ out) : -1 ∈ out := by
  refine Decidable.byContradiction fun hno => ?_
  have hnd : (id :: out).Nodup := by
    refine List.nodup_cons.2 ⟨hid, ?_⟩
    rw [List.nodup_iff_pairwise_ne] 
    rw [List.pairwise_iff_getElem]
    intro i j hi hj hij e
    have := h.once i j hi hj (by rw [List.getElem?_eq_getElem hi, List.getElem?_eq_getElem hj]; simpa using e) (by
      rw [List.getElem?_eq_getElem hi, Option.getD_some]
      exact fun e2 => hno (e2 ▸ List.getElem_mem hi))
    omega
  have := nodup_sub_length hnd (m := B) fun x hx => by
    rcases List.mem_cons.1 hx with rfl | hx
    · exact hB
    · rcases h.mem x hx with h1 | h1
      · exact absurd (h1 ▸ hx) hno
      · exact h1
  simp only [List.length_cons] at this
  omega
theorem work_ok {r : List Int} (h : workE r = 0) : 1 ≤ r.length ∧ r.length ≤ 16 ∧ (∀ x ∈ r, -1 ≤ x) ∧ ∀ i j : Nat, i < j → j < r.length → r[i]?.getD 0 = r[j]?.getD 0 → r[i]?.getD 0 = -1 := by
  unfold workE at h
  split at h
  · cases h
  · rename_i h1
    split at h
    · cases h
    · rename_i h2
      split at h
      · cases h
      · rename_i h3
        refine ⟨by omega, by omega, fun x hx => ?_, fun i j hij hj e => ?_⟩
        · have : ¬ x < -1 := fun hlt => h2 (lowB_true hx hlt)
          omega
        · refine Decidable.byContradiction fun hne => h3 (dupB_true hj (dupAt_of hj hij (by rw [← e]; exact hne) e.symm))
theorem Laid.start {B r : List Int} (hr : workE r = 0) : Laid B (outB B r) := by
  obtain ⟨_, _, _, hd⟩ := work_ok hr
  have hg : ∀ i, i < r.length → (outB B r)[i]?.getD 0 = if r[i]?.getD 0 ∈ B then r[i]?.getD 0 else -1 := fun i hi => by
    unfold outB
    rw [List.getElem?_map, List.getElem?_eq_getElem hi]
    rfl
  refine ⟨fun i j hi hj e hne => ?_, fun x hx => ?_⟩
  · rw [outB_length] at hi hj
    rw [hg i hi] at e hne
    rw [hg j hj] at e
    by_cases h1 : r[i]?.getD 0 ∈ B
    · rw [if_pos h1] at e hne
      by_cases h2 : r[j]?.getD 0 ∈ B
      · rw [if_pos h2] at e
        rcases Nat.lt_trichotomy i j with h | h | h
        · exact absurd (hd i j h hj e) hne
        · exact h
        · exact absurd (hd j i h hi e.symm) (by rw [← e]; exact hne)
      · rw [if_neg h2] at e
        exact absurd e hne
    · rw [if_neg h1] at hne
      exact absurd rfl hne
  · obtain ⟨y, _, rfl⟩ := List.mem_map.1 hx
    split
    · right; assumption
    · left; rfl
theorem Laid.put {B out : List Int} (h : Laid B out) {id : Int} (hB : id ∈ B) (hne : id ≠ -1) : Laid B (putB out id) := by
  unfold putB
  split
  · exact h
  · rename_i hid
    obtain ⟨p, hp⟩ : ∃ p, out.idxOf (-1) = p := ⟨_, rfl⟩
    rw [hp]
    have hnot : ∀ j, j < out.length → out[j]?.getD 0 ≠ id := fun j hj e => by
      rw [List.getElem?_eq_getElem hj, Option.getD_some] at e
      exact hid (e ▸ List.getElem_mem hj)
    have hg : ∀ j, j < out.length → (out.set p id)[j]?.getD 0 = if p = j then id else out[j]?.getD 0 := fun j hj => by
      rw [List.getElem?_set]
      by_cases hpj : p = j
      · rw [if_pos hpj, if_pos hpj, if_pos (by omega)]
        rfl
      · rw [if_neg hpj, if_neg hpj]
    refine ⟨fun i j hi hj e hne2 => ?_, fun x hx => ?_⟩
    · rw [List.length_set] at hi hj
      rw [hg i hi] at e hne2
      rw [hg j hj] at e
      by_cases h1 : p = i
      · by_cases h2 : p = j
        · omega
        · rw [if_pos h1, if_neg h2] at e
          exact absurd e.symm (hnot j hj)
      · by_cases h2 : p = j
        · rw [if_neg h1, if_pos h2] at e
          exact absurd e (hnot i hi)
        · rw [if_neg h1, if_neg h2] at e
          rw [if_neg h1] at hne2
          exact h.once i j hi hj e hne2
    · rcases List.mem_or_eq_of_mem_set hx with h1 | h1
      · exact h.mem x h1
      · exact .inr (h1 ▸ hB)
theorem freeOf_succ (out : List Int) (i : Nat) : freeOf out (i + 1) = freeOf out i ++ (if out[i]?.getD 0 = -1 then [((i : Int), (i : Int))] else []) := by
  unfold freeOf
  rw [List.range_succ, List.filter_append, List.map_append]
  congr 1
  by_cases h : out[i]?.getD 0 = -1
  · rw [if_pos h]; simp [h]
  · rw [if_neg h]; simp [h]
theorem freeOf_mem {out : List Int} {i : Nat} {x : It Int} (h : x ∈ freeOf out i) : ∃ j : Nat, j < i ∧ out[j]?.getD 0 = -1 ∧ x = ((j : Int), (j : Int)) := by
  unfold freeOf at h
  obtain ⟨j, hj, rfl⟩ := List.mem_map.1 h
  obtain ⟨h1, h2⟩ := List.mem_filter.1 hj
  exact ⟨j, List.mem_range.1 h1, by simpa using h2, rfl⟩
theorem ins_last {y : It Int} : ∀ {S : List (It Int)}, (∀ x ∈ S, Hp.ahead ltI x y = true) → ins ltI y S = S ++ [y]
  | [], _ => rfl
  | x :: S, h => by
    rw [ins, if_pos (h x (List.mem_cons_self ..)), ins_last fun z hz => h z (List.mem_cons_of_mem _ hz)]
    rfl
theorem freeOf_put {out : List Int} {i : Nat} (h : out[i]?.getD 0 = -1) : putS ltI (freeOf out i) (i : Int) (i : Int) = freeOf out (i + 1) := by
  have hh : has (freeOf out i) (i : Int) = false := has_none.2 fun x hx => by
    obtain ⟨j, hj, _, rfl⟩ := freeOf_mem hx
    simp
    omega
  unfold putS
  rw [if_neg (by omega), if_neg (by rw [hh]; simp), freeOf_succ, if_pos h]
  exact ins_last fun x hx => by
    obtain ⟨j, hj, _, rfl⟩ := freeOf_mem hx
    rw [ahead_iff]
    left
    simp [ltI]
    omega
theorem freeOf_sorted (out : List Int) : ∀ i, Sorted ltI (freeOf out i)
  | 0 => List.Pairwise.nil
  | i + 1 => by
    rw [freeOf_succ]
    refine List.pairwise_append.2 ⟨freeOf_sorted out i, ?_, fun x hx y hy => ?_⟩
    · split
      · exact List.pairwise_singleton _ _
      · exact List.Pairwise.nil
    · obtain ⟨j, hj, _, rfl⟩ := freeOf_mem hx
      split at hy
      · have := List.mem_singleton.1 hy
        subst this
        rw [ahead_iff]
        left
        simp [ltI]
        omega
      · cases hy
theorem freeOf_length (out : List Int) (i : Nat) : (freeOf out i).length ≤ i := by
  unfold freeOf
  rw [List.length_map]
  have := List.length_filter_le (fun (j : Nat) => out[j]?.getD 0 == -1) (List.range i)
  rw [List.length_range] at this
  exact this
/-- the first idle worker is taken -/
theorem freeOf_take {out : List Int} {id : Int} (h : -1 ∈ out) (hne : id ≠ -1) :
    freeOf out out.length = ((out.idxOf (-1) : Int), (out.idxOf (-1) : Int)) :: freeOf (out.set (out.idxOf (-1)) id) out.length := by
  obtain ⟨p, hp⟩ : ∃ p, out.idxOf (-1) = p := ⟨_, rfl⟩
  rw [hp]
  have hlt : p < out.length := by rw [← hp]; exact List.idxOf_lt_length_iff.2 h
  have hat : out[p]?.getD 0 = -1 := by
    rw [List.getElem?_eq_getElem hlt, Option.getD_some]
    subst hp
    exact List.getElem_idxOf hlt
  have hbef : ∀ j, j < p → out[j]?.getD 0 ≠ -1 := fun j hj e => by
    rw [List.getElem?_eq_getElem (by omega), Option.getD_some] at e
    have := List.not_of_lt_findIdx (p := (· == (-1 : Int))) (xs := out) (i := j) (by rw [← hp] at hj; exact hj)
    simp [e] at this
  obtain ⟨m, hm⟩ : ∃ m, out.length = p + (m + 1) := ⟨out.length - p - 1, by omega⟩
  have hset : ∀ j, (out.set p id)[j]?.getD 0 = if p = j then id else out[j]?.getD 0 := fun j => by
    rw [List.getElem?_set]
    by_cases hpj : p = j
    · rw [if_pos hpj, if_pos hpj, if_pos (by omega)]
      rfl
    · rw [if_neg hpj, if_neg hpj]
  unfold freeOf
  rw [hm, List.range_add, List.range_succ_eq_map]
  simp only [List.map_cons, List.map_map, List.filter_append, List.map_append, List.filter_cons, Nat.add_zero]
  have e1 : (List.range p).filter (fun (j : Nat) => out[j]?.getD 0 == -1) = [] := List.filter_eq_nil_iff.2 fun j hj => by
    have := hbef j (List.mem_range.1 hj)
    simpa using this
  have e2 : (List.range p).filter (fun (j : Nat) => (out.set p id)[j]?.getD 0 == -1) = [] := List.filter_eq_nil_iff.2 fun j hj => by
    have hj := List.mem_range.1 hj
    rw [hset, if_neg (by omega)]
    have := hbef j hj
    simpa using this
  have e3 : (((List.range m).map ((fun x => p + x) ∘ Nat.succ)).filter fun (j : Nat) => (out.set p id)[j]?.getD 0 == -1) = ((List.range m).map ((fun x => p + x) ∘ Nat.succ)).filter fun (j : Nat) => out[j]?.getD 0 == -1 := List.filter_congr fun j hj => by
    obtain ⟨k, _, rfl⟩ := List.mem_map.1 hj
    rw [hset, if_neg (by simp)]
  rw [e1, e2, e3, hset, if_pos rfl, hat]
  simp [hne]
/-- the workers as far as the first i are told -/
def outN (B r : List Int) (i : Nat) : List Int := (outB B r).take i ++ List.replicate (r.length - i) (-1)
theorem outN_length {B r : List Int} {i : Nat} (h : i ≤ r.length) : (outN B r i).length = r.length := by
  unfold outN
  rw [List.length_append, List.length_take, outB_length, List.length_replicate]
  omega
theorem outN_zero (B r : List Int) : outN B r 0 = List.replicate r.length (-1) := by simp [outN]
theorem outN_all (B r : List Int) : outN B r r.length = outB B r := by
  unfold outN
  rw [List.take_of_length_le (by rw [outB_length]; exact Nat.le_refl _)]
  simp
theorem outB_at {B r : List Int} {i : Nat} {id : Int} (h : r[i]? = some id) : (outB B r)[i]? = some (if id ∈ B then id else -1) := by
  unfold outB
  rw [List.getElem?_map, h]
  rfl
theorem outN_step {B r : List Int} {i : Nat} {x : Int} (h : (outB B r)[i]? = some x) : (outN B r i).set i x = outN B r (i + 1) := by
  have hi : i < r.length := by have := (List.getElem?_eq_some_iff.1 h).1; rwa [outB_length] at this
  obtain ⟨m, hm⟩ : ∃ m, r.length - i = m + 1 := ⟨r.length - i - 1, by omega⟩
  unfold outN
  rw [List.take_add_one, h, hm, List.set_append_right _ _ (by rw [List.length_take]; omega)]
  have : i - ((outB B r).take i).length = 0 := by rw [List.length_take, outB_length]; omega
  rw [this, List.replicate_succ, List.set_cons_zero, show r.length - (i + 1) = m by omega]
  simp
theorem outN_keep {B r : List Int} {i : Nat} (h : (outB B r)[i]? = some (-1)) : outN B r i = outN B r (i + 1) := by
  have hi : i < r.length := by have := (List.getElem?_eq_some_iff.1 h).1; rwa [outB_length] at this
  obtain ⟨m, hm⟩ : ∃ m, r.length - i = m + 1 := ⟨r.length - i - 1, by omega⟩
  unfold outN
  rw [List.take_add_one, h, hm, List.replicate_succ, show r.length - (i + 1) = m by omega]
  simp
theorem freeOf_skip {out : List Int} {i : Nat} (h : out[i]?.getD 0 ≠ -1) : freeOf out (i + 1) = freeOf out i := by
  rw [freeOf_succ, if_neg h, List.append_nil]
end Go.Proofs.Ytkjpkhpiojahkaa
