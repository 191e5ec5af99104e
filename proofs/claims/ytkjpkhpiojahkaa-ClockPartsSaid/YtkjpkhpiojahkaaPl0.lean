/-
  Place: plain facts. No program in sight.
-/
import Derived.Test.YtkjpkhpiojahkaaRed
namespace Go.Proofs.Ytkjpkhpiojahkaa
set_option linter.unusedVariables false
open Go.RowKit Hp

/-- where a server runs -/
def atI (r : List Int) (id : Int) : Int := if id ∈ r then (r.idxOf id : Int) else -1
theorem idxOf_found {id : Int} : ∀ {r : List Int} {i : Nat}, r[i]? = some id → (∀ j, j < i → r[j]? ≠ some id) → r.idxOf id = i
  | [], i, h, _ => by simp at h
  | y :: r, 0, h, _ => by
    simp at h
    subst h
    exact List.idxOf_cons_self
  | y :: r, i + 1, h, hb => by
    have hy : y ≠ id := fun e => hb 0 (by omega) (by simp [e])
    have := idxOf_found (r := r) (i := i) (by simpa using h) (fun j hj => by have := hb (j + 1) (by omega); simpa using this)
    have hyb : (y == id) = false := by simpa using hy
    simp only [List.idxOf_cons, hyb, cond_false, this]
theorem atI_found {r : List Int} {id : Int} {i : Nat} (h : r[i]? = some id) (hb : ∀ j, j < i → r[j]? ≠ some id) : atI r id = i := by
  unfold atI
  rw [if_pos (List.mem_of_getElem? h), idxOf_found h hb]
theorem atI_none {r : List Int} {id : Int} (hb : ∀ j, j < r.length → r[j]? ≠ some id) : atI r id = -1 := by
  unfold atI
  rw [if_neg]
  intro h
  obtain ⟨i, hi, e⟩ := List.mem_iff_getElem.1 h
  exact hb i hi (by rw [List.getElem?_eq_getElem hi, e])
/-- what is wrong with workers -/
def lowB (r : List Int) : Bool := r.any fun x => decide (x < -1)
def dupAt (r : List Int) (i : Nat) : Bool := (r[i]?.getD 0 != -1) && (r.take i).contains (r[i]?.getD 0)
def dupB (r : List Int) : Bool := (List.range r.length).any (dupAt r)
def workE (r : List Int) : Int := if r.length < 1 ∨ 16 < r.length then 1 else if lowB r = true then 1 else if dupB r = true then 15 else 0
theorem dupB_false {r : List Int} (h : ∀ i, i < r.length → dupAt r i = false) : dupB r = false := by
  unfold dupB
  rw [List.any_eq_false]
  intro i hi
  rw [h i (List.mem_range.1 hi)]
  simp
theorem dupB_true {r : List Int} {i : Nat} (hi : i < r.length) (h : dupAt r i = true) : dupB r = true :=
  List.any_eq_true.2 ⟨i, List.mem_range.2 hi, h⟩
theorem lowB_false {r : List Int} (h : ∀ x ∈ r, -1 ≤ x) : lowB r = false := by
  unfold lowB
  rw [List.any_eq_false]
  intro x hx
  have := h x hx
  simp
  omega
theorem lowB_true {r : List Int} {x : Int} (hx : x ∈ r) (h : x < -1) : lowB r = true := List.any_eq_true.2 ⟨x, hx, by simpa using h⟩
theorem mem_take_iff {r : List Int} {k : Nat} {x : Int} : x ∈ r.take k ↔ ∃ j, j < k ∧ r[j]? = some x := by
  constructor
  · intro h
    obtain ⟨j, hj, e⟩ := List.mem_iff_getElem.1 h
    have hj2 : j < k ∧ j < r.length := by rw [List.length_take] at hj; omega
    exact ⟨j, hj2.1, by rw [List.getElem?_eq_getElem hj2.2, ← e, List.getElem_take]⟩
  · rintro ⟨j, hj, e⟩
    exact List.mem_of_getElem? (i := j) (by rw [List.getElem?_take, if_pos hj]; exact e)
theorem dupAt_of {r : List Int} {k j : Nat} (hk : k < r.length) (hj : j < k) (h0 : r[k]?.getD 0 ≠ -1) (e : r[k]?.getD 0 = r[j]?.getD 0) : dupAt r k = true := by
  unfold dupAt
  rw [Bool.and_eq_true]
  refine ⟨by simpa using h0, ?_⟩
  rw [List.contains_iff_mem]
  refine mem_take_iff.2 ⟨j, hj, ?_⟩
  have hj2 : r[j]? = some r[j] := List.getElem?_eq_getElem (by omega)
  rw [e, hj2, Option.getD_some]
theorem dupAt_not {r : List Int} {k : Nat} (h : r[k]?.getD 0 ≠ -1 → ∀ j, j < k → r[k]?.getD 0 ≠ r[j]?.getD 0) : dupAt r k = false := by
  unfold dupAt
  rw [Bool.and_eq_false_iff]
  by_cases h0 : r[k]?.getD 0 = -1
  · left; simp [h0]
  · right
    rw [← Bool.not_eq_true, List.contains_iff_mem]
    intro hm
    obtain ⟨j, hj, e⟩ := mem_take_iff.1 hm
    exact h h0 j hj (by rw [e]; rfl)
/-- how often each one was seen -/
def cntF (r : List Int) (i : Nat) (x : Int) : Option Nat := if (r.take i).count x = 0 then none else some ((r.take i).count x)
theorem cntF_zero (r : List Int) : cntF r 0 = fun _ => none := by
  funext x
  simp [cntF]
theorem cntF_step {r : List Int} {i : Nat} {x : Int} (h : r[i]? = some x) : putN (cntF r i) x (some (((cntF r i x).getD 0) + 1)) = cntF r (i + 1) := by
  have ht : r.take (i + 1) = r.take i ++ [x] := by rw [List.take_add_one, h]; rfl
  funext y
  unfold putN cntF
  rw [ht, List.count_append]
  by_cases hy : y = x
  · subst hy
    rw [if_pos rfl]
    split <;> simp_all
  · rw [if_neg hy]
    have : List.count y [x] = 0 := by rw [List.count_eq_zero]; simpa using hy
    rw [this, Nat.add_zero]
theorem cntF_dup {r : List Int} {i : Nat} {x : Int} (h : r[i]? = some x) (hx : x ≠ -1) : (1 < (cntF r i x).getD 0 + 1) ↔ dupAt r i = true := by
  have e : (cntF r i x).getD 0 = (r.take i).count x := by unfold cntF; split <;> simp_all
  rw [e]
  unfold dupAt
  rw [h, Option.getD_some, Bool.and_eq_true, List.contains_iff_mem, ← List.count_pos_iff]
  constructor
  · intro h; exact ⟨by simpa using hx, by omega⟩
  · intro h; omega
theorem cntF_le (r : List Int) (i : Nat) (x : Int) : (cntF r i x).getD 0 ≤ i := by
  have e : (cntF r i x).getD 0 = (r.take i).count x := by unfold cntF; split <;> simp_all
  rw [e]
  have := List.count_le_length (a := x) (l := r.take i)
  rw [List.length_take] at this
  omega
/-- what is wrong with servers -/
def putErrF (S : List (It Int)) (ks : List (Int × Int)) : Nat → Nat → Int
  | 0, _ => 0
  | f + 1, i => if okAt S ks i then putErrF S ks f (i + 1) else checkE (addN S ks i) (kj ks i).1 (kj ks i).2
def putErr (S : List (It Int)) (ks : List (Int × Int)) : Int := putErrF S ks ks.length 0
theorem putErrF_spec (S : List (It Int)) (ks : List (Int × Int)) : ∀ (f i : Nat), i + f = ks.length → (∀ j, j < i → okAt S ks j) →
    ∃ k, k ≤ ks.length ∧ (∀ j, j < k → okAt S ks j) ∧ (k < ks.length → ¬ okAt S ks k) ∧ putErrF S ks f i = if k < ks.length then checkE (addN S ks k) (kj ks k).1 (kj ks k).2 else 0
  | 0, i, h, hb => ⟨i, by omega, hb, fun hk => by omega, by rw [if_neg (by omega)]; rfl⟩
  | f + 1, i, h, hb => by
    by_cases ho : okAt S ks i
    · obtain ⟨k, h1, h2, h3, h4⟩ := putErrF_spec S ks f (i + 1) (by omega) (fun j hj => by
        by_cases hji : j = i
        · subst hji; exact ho
        · exact hb j (by omega))
      exact ⟨k, h1, h2, h3, by rw [putErrF, if_pos ho]; exact h4⟩
    · exact ⟨i, by omega, hb, fun _ => ho, by rw [putErrF, if_neg ho, if_pos (by omega)]⟩
theorem putErr_spec (S : List (It Int)) (ks : List (Int × Int)) :
    ∃ k, k ≤ ks.length ∧ (∀ j, j < k → okAt S ks j) ∧ (k < ks.length → ¬ okAt S ks k) ∧ putErr S ks = if k < ks.length then checkE (addN S ks k) (kj ks k).1 (kj ks k).2 else 0 :=
  putErrF_spec S ks ks.length 0 (by omega) (fun j hj => by omega)
def servE (ks : List (Int × Int)) : Int := if 64 < ks.length then 13 else putErr [] ks
def servS (ks : List (Int × Int)) : List (It Int) := if servE ks = 0 then putAll [] ks else []
theorem putErr_put (ks : List (Int × Int)) : ∃ i, i ≤ ks.length ∧ (∀ j, j < i → okAt [] ks j) ∧ (i < ks.length → putErr [] ks ≠ 0) ∧ (putErr [] ks = if i < ks.length then checkE (addN [] ks i) (kj ks i).1 (kj ks i).2 else 0) ∧ (putErr [] ks = 0 → i = ks.length) := by
  obtain ⟨i, h1, h2, h3, h4⟩ := putErr_spec [] ks
  have h5 : i < ks.length → putErr [] ks ≠ 0 := fun hi => by
    rw [h4, if_pos hi]
    exact h3 hi
  exact ⟨i, h1, h2, h5, h4, fun h0 => by
    rcases Nat.lt_or_ge i ks.length with h | h
    · exact absurd h0 (h5 h)
    · omega⟩
def bothE (r : List Int) (ks : List (Int × Int)) : Int := if workE r = 0 then servE ks else workE r
def bothS (r : List Int) (ks : List (Int × Int)) : List (It Int) := if bothE r ks = 0 then putAll [] ks else []
theorem both_zero {r : List Int} {ks : List (Int × Int)} (h : bothE r ks = 0) : workE r = 0 ∧ servE ks = 0 := by
  unfold bothE at h
  split at h
  · exact ⟨by assumption, h⟩
  · rename_i h1
    exact absurd h h1
theorem putAll_sorted (ks : List (Int × Int)) : Sorted ltI (putAll [] ks) := addN_sorted List.Pairwise.nil _
theorem putAll_length (ks : List (Int × Int)) : (putAll [] ks).length ≤ ks.length := by
  have := addN_length (S := []) (ks := ks) ks.length
  simpa [putAll] using this
end Go.Proofs.Ytkjpkhpiojahkaa
