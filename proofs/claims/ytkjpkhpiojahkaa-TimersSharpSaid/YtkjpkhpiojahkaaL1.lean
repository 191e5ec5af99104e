/-
  Walk: the law HeapTakes.
-/
import Derived.Test.YtkjpkhpiojahkaaAwake
import Derived.Test.YtkjpkhpiojahkaaRow
namespace Go.Proofs.Ytkjpkhpiojahkaa
set_option linter.unusedVariables false
open Go.RowKit Hp

/-- a number and its key -/
def itm (zs : List Int) (j : Nat) : It Int := ((j : Int), zs[j]?.getD 0)
def La (zs : List Int) : Nat → List (It Int)
  | 0 => []
  | i + 1 => itm zs i :: La zs i
/-- going round from f on -/
def Lb (zs : List Int) (f : Nat) : Nat → List (It Int)
  | 0 => []
  | i + 1 => itm zs ((f + i) % zs.length) :: Lb zs f i
theorem mem_La {zs : List Int} {x : It Int} : ∀ {i : Nat}, x ∈ La zs i ↔ ∃ j, j < i ∧ x = itm zs j
  | 0 => by simp [La]
  | i + 1 => by
    rw [La, List.mem_cons, mem_La]
    constructor
    · rintro (h | ⟨j, h1, h2⟩)
      · exact ⟨i, by omega, h⟩
      · exact ⟨j, by omega, h2⟩
    · rintro ⟨j, h1, h2⟩
      by_cases e : j = i
      · subst e; exact .inl h2
      · exact .inr ⟨j, by omega, h2⟩
theorem mem_Lb {zs : List Int} {f : Nat} {x : It Int} : ∀ {i : Nat}, x ∈ Lb zs f i ↔ ∃ j, j < i ∧ x = itm zs ((f + j) % zs.length)
  | 0 => by simp [Lb]
  | i + 1 => by
    rw [Lb, List.mem_cons, mem_Lb]
    constructor
    · rintro (h | ⟨j, h1, h2⟩)
      · exact ⟨i, by omega, h⟩
      · exact ⟨j, by omega, h2⟩
    · rintro ⟨j, h1, h2⟩
      by_cases e : j = i
      · subst e; exact .inl h2
      · exact .inr ⟨j, by omega, h2⟩
theorem La_length (zs : List Int) : ∀ i, (La zs i).length = i
  | 0 => rfl
  | i + 1 => by rw [La, List.length_cons, La_length]
theorem Lb_length (zs : List Int) (f : Nat) : ∀ i, (Lb zs f i).length = i
  | 0 => rfl
  | i + 1 => by rw [Lb, List.length_cons, Lb_length]
theorem mod_inj {n f j k : Nat} (hj : j < n) (hk : k < n) (h : (f + j) % n = (f + k) % n) : j = k := by
  have h1 := Nat.div_add_mod (f + j) n
  have h2 := Nat.div_add_mod (f + k) n
  rw [h] at h1
  obtain ⟨a, ha⟩ : ∃ a, (f + j) / n = a := ⟨_, rfl⟩
  obtain ⟨b, hb⟩ : ∃ b, (f + k) / n = b := ⟨_, rfl⟩
  rw [ha] at h1
  rw [hb] at h2
  rcases Nat.lt_trichotomy a b with hlt | rfl | hgt
  · have : n * (a + 1) ≤ n * b := Nat.mul_le_mul_left n hlt
    rw [Nat.mul_succ] at this
    omega
  · omega
  · have : n * (b + 1) ≤ n * a := Nat.mul_le_mul_left n hgt
    rw [Nat.mul_succ] at this
    omega
theorem La_new {zs : List Int} {i : Nat} : ∀ x ∈ La zs i, x.1 ≠ (i : Int) := fun x hx => by
  obtain ⟨j, h1, rfl⟩ := mem_La.1 hx
  simp [itm]; omega
theorem Lb_new {zs : List Int} {f i : Nat} (hi : i < zs.length) : ∀ x ∈ Lb zs f i, x.1 ≠ (((f + i) % zs.length : Nat) : Int) := fun x hx e => by
  obtain ⟨j, h1, rfl⟩ := mem_Lb.1 hx
  simp only [itm] at e
  have := mod_inj (by omega) hi (Int.ofNat.inj e)
  omega
theorem La_distinct {zs : List Int} : ∀ i, (La zs i).Pairwise fun a b => a.1 ≠ b.1
  | 0 => List.Pairwise.nil
  | i + 1 => List.pairwise_cons.2 ⟨fun x hx => Ne.symm (La_new x hx), La_distinct i⟩
theorem Lb_distinct {zs : List Int} {f : Nat} : ∀ i, i ≤ zs.length → (Lb zs f i).Pairwise fun a b => a.1 ≠ b.1
  | 0, _ => List.Pairwise.nil
  | i + 1, h => List.pairwise_cons.2 ⟨fun x hx => Ne.symm (Lb_new (by omega) x hx), Lb_distinct i (by omega)⟩
theorem perm_of_sub : ∀ {l m : List (It Int)}, (l.Pairwise fun a b => a.1 ≠ b.1) → (∀ x ∈ l, x ∈ m) → m.length = l.length → l.Perm m
  | [], m, _, _, hl => by rw [List.length_eq_zero_iff.1 hl]
  | x :: l, m, hd, hs, hl => by
    have hx := hs x List.mem_cons_self
    have hp := List.perm_cons_erase hx
    have hd' := List.pairwise_cons.1 hd
    refine ((perm_of_sub hd'.2 (fun y hy => ?_) ?_).cons x).trans hp.symm
    · rcases List.mem_cons.1 (hp.mem_iff.1 (hs y (List.mem_cons_of_mem _ hy))) with h | h
      · exact absurd (by rw [h]) (hd'.1 y hy)
      · exact h
    · have := hp.length_eq
      simp at this hl
      omega
theorem Lb_perm {zs : List Int} {f : Nat} : (Lb zs f zs.length).Perm (La zs zs.length) :=
  perm_of_sub (Lb_distinct _ (Nat.le_refl _)) (fun x hx => by
    obtain ⟨j, h1, rfl⟩ := mem_Lb.1 hx
    exact mem_La.2 ⟨_, Nat.mod_lt _ (by omega), rfl⟩) (by rw [La_length, Lb_length])

/-- all, in order -/
def Srt (zs : List Int) : List (It Int) := srt ltI (La zs zs.length)
theorem Srt_perm (zs : List Int) : (Srt zs).Perm (La zs zs.length) := srt_perm _
theorem Srt_length (zs : List Int) : (Srt zs).length = zs.length := by rw [(Srt_perm zs).length_eq, La_length]
theorem Srt_sorted (zs : List Int) : Sorted ltI (Srt zs) := srt_sorted ltI_swo (La_distinct _)
theorem Srt_at {zs : List Int} {i : Nat} (hi : i < zs.length) : ∃ j, j < zs.length ∧ (Srt zs)[i]? = some (itm zs j) := by
  have hl : i < (Srt zs).length := by rw [Srt_length]; exact hi
  obtain ⟨j, h1, h2⟩ := mem_La.1 ((Srt_perm zs).mem_iff.1 (List.getElem_mem hl))
  exact ⟨j, h1, by rw [List.getElem?_eq_getElem hl, h2]⟩
/-- which numbers were seen -/
def seenL (n : Nat) (l : List (It Int)) : List Value := (List.range n).map fun (x : Nat) => Value.bool (decide ((x : Int) ∈ l.map (·.1)))
theorem seenL_length (n : Nat) (l : List (It Int)) : (seenL n l).length = n := by simp [seenL]
theorem seenL_at {n : Nat} {l : List (It Int)} {x : Nat} (hx : x < n) : (seenL n l)[x]? = some (.bool (decide ((x : Int) ∈ l.map (·.1)))) := by
  simp [seenL, hx]
theorem seenL_set {n : Nat} {l : List (It Int)} {x : Nat} {k : Int} (_hx : x < n) : (seenL n l).set x (.bool true) = seenL n (l ++ [((x : Int), k)]) := by
  apply List.ext_getElem?
  intro y
  rw [List.getElem?_set]
  by_cases h : x = y
  · subst h
    by_cases hx : x < n
    · rw [if_pos rfl, if_pos (by rw [seenL_length]; exact hx), seenL_at hx]
      simp
    · omega
  · rw [if_neg h]
    by_cases hy : y < n
    · rw [seenL_at hy, seenL_at hy]
      have : ((y : Int) ∈ (l ++ [((x : Int), k)]).map (·.1)) ↔ ((y : Int) ∈ l.map (·.1)) := by
        simp; omega
      simp only [this]
    · rw [List.getElem?_eq_none (by rw [seenL_length]; omega), List.getElem?_eq_none (by rw [seenL_length]; omega)]
theorem seen_not {zs : List Int} {i j : Nat} (hi : (Srt zs)[i]? = some (itm zs j)) : ¬ ((j : Int) ∈ ((Srt zs).take i).map (·.1)) := by
  intro hm
  obtain ⟨x, hx, he⟩ := List.mem_map.1 hm
  obtain ⟨hil, hie⟩ := List.getElem?_eq_some_iff.1 hi
  have hd : (Srt zs).Pairwise fun a b => a.1 ≠ b.1 := distinct_perm (Srt_perm zs).symm (La_distinct _)
  rw [← List.take_append_drop i (Srt zs), List.pairwise_append] at hd
  have := hd.2.2 x hx (itm zs j) (by rw [List.drop_eq_getElem_cons hil, hie]; exact List.mem_cons_self)
  exact this he

/-- the order of keys of servers -/
def bef (a b : Int × Int) : Bool := decide (a.1 < b.1) || (decide (a.1 = b.1) && decide (a.2 < b.2))
theorem before_any (a1 a2 b1 b2 : Int) (w : World) : Calls Try.prog 31 #[.agg #[.int .i64 a1, .int .i64 a2], .agg #[.int .i64 b1, .int .i64 b2]] w fun e w' => e = .returned (.bool (bef (a1, a2) (b1, b2))) ∧ Below w.heap.size w w' := by
  go_enter Try.func31, Try.ntmps31
  go_wp2
  all_goals go_ret
  all_goals refine ⟨ret_bool ?_, ((Below.refl _ w).alloc (Nat.le_refl _) _).alloc (by simp) _⟩
  all_goals simp [bef, *]

theorem bef_ahead {x y : It Int} (h : Hp.ahead ltI x y = true) : bef (x.2, x.1) (y.2, y.1) = true := by
  rw [ahead_iff] at h
  simp [bef, ltI] at *
  omega

theorem Try.info4 : (Try.prog.info? 4).map (fun i => (i.zero, i.size, i.bytes)) = some (some (.bool false), 1, 1) := by kernel_rfl
theorem made_false (n : Nat) : (madeCells (Value.bool false).cells (n * 1)).toList = seenL n [] := by
  have : seenL n [] = List.replicate n (.bool false) := by
    rw [List.eq_replicate_iff]
    refine ⟨seenL_length _ _, fun b hb => ?_⟩
    simp [seenL] at hb
    obtain ⟨_, _, rfl⟩ := hb
    rfl
  rw [this, List.eq_replicate_iff]
  refine ⟨by simp [madeCells], fun b hb => ?_⟩
  simp [madeCells, Value.cells] at hb
  obtain ⟨x, _, rfl⟩ := hb
  simp [Nat.mod_one]
/-- the last one that was taken -/
def lastC (l : List (It Int)) (i : Nat) : Array Value := if i = 0 then #[.int .i64 0, .int .i64 0] else #[.int .i64 (l.getD (i - 1) (0, 0)).2, .int .i64 (l.getD (i - 1) (0, 0)).1]

end Go.Proofs.Ytkjpkhpiojahkaa
