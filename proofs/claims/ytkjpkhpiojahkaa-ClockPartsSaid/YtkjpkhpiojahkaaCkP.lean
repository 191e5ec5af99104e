/-
  Clock: in how many parts it goes on; a timer that is cleared. No program in sight.
-/
import Derived.Test.YtkjpkhpiojahkaaCkA
namespace Go.Proofs.Ytkjpkhpiojahkaa
set_option linter.unusedVariables false
open Go.RowKit Hp
theorem takeWhile_two {α : Type} {p q : α → Bool} (h : ∀ x, p x = true → q x = true) : ∀ l : List α, l.takeWhile p ++ (l.drop (l.takeWhile p).length).takeWhile q = l.takeWhile q
  | [] => rfl
  | x :: l => by
    by_cases hp : p x = true
    · rw [List.takeWhile_cons, if_pos hp, List.takeWhile_cons, if_pos (h x hp)]
      show x :: (l.takeWhile p ++ (l.drop (l.takeWhile p).length).takeWhile q) = _
      rw [takeWhile_two h l]
    · rw [List.takeWhile_cons, if_neg hp]
      rfl
theorem upto_two {S : List (It Int)} {s t : Int} (h : s ≤ t) : upto S s ++ upto (late S s) t = upto S t := by
  unfold upto Go.Proofs.Ytkjpkhpiojahkaa.late
  exact takeWhile_two (fun x hx => by simp only [decide_eq_true_eq] at hx ⊢; omega) S
theorem worstOf_app (c : Ck) (A B : List (It Int)) (m : Int) : worstOf c (A ++ B) m = worstOf c B (worstOf c A m) := List.foldl_append ..
/-- in two parts as in one -/
theorem gone_two (c : Ck) {s t : Int} (h : s ≤ t) : (c.gone s).gone t = c.gone t ∧ (upto c.S s).map c.evOf ++ (upto (c.gone s).S t).map (c.gone s).evOf = (upto c.S t).map c.evOf := by
  have h1 := upto_two (S := c.S) h
  have e : (c.gone s).S = Go.Proofs.Ytkjpkhpiojahkaa.late c.S s := rfl
  constructor
  · show (⟨((c.gone s).S.drop (upto (c.gone s).S t).length), c.ats, c.lates, t, worstOf (c.gone s) (upto (c.gone s).S t) (worstOf c (upto c.S s) c.worst)⟩ : Ck) = ⟨c.S.drop (upto c.S t).length, c.ats, c.lates, t, worstOf c (upto c.S t) c.worst⟩
    have e2 : worstOf (c.gone s) (upto (c.gone s).S t) (worstOf c (upto c.S s) c.worst) = worstOf c (upto c.S t) c.worst := by
      show worstOf c (upto (c.gone s).S t) _ = _
      rw [← worstOf_app, e, h1]
    have e3 : (c.gone s).S.drop (upto (c.gone s).S t).length = c.S.drop (upto c.S t).length := by
      rw [← h1, List.length_append, e]
      show (c.S.drop (upto c.S s).length).drop _ = _
      rw [List.drop_drop]
    rw [e2, e3]
  · show (upto c.S s).map c.evOf ++ (upto (c.gone s).S t).map c.evOf = _
    rw [← List.map_append, e, h1]
/-- all but one timer -/
def evNot (k i : Int) (v : Ev) : Bool := !(v.kind == k && v.id == i)
theorem upto_without {S : List (It Int)} (hs : Sorted ltI S) (n t : Int) : upto (without S n) t = without (upto S t) n := by
  induction S with
  | nil => rfl
  | cons x S ih =>
    have ih' := ih (List.pairwise_cons.1 hs).2
    have hle := sorted_le hs
    by_cases hx : x.2 ≤ t
    · rw [upto_head hx]
      unfold without at ih' ⊢
      by_cases hn : (x.1 != n) = true
      · rw [List.filter_cons_of_pos (p := fun y : It Int => y.1 != n) hn, List.filter_cons_of_pos (p := fun y : It Int => y.1 != n) hn, upto_head hx, ih']
      · rw [List.filter_cons_of_neg (p := fun y : It Int => y.1 != n) hn, List.filter_cons_of_neg (p := fun y : It Int => y.1 != n) hn, ih']
    · have h0 : ∀ T : List (It Int), (∀ y ∈ T, ¬ y.2 ≤ t) → upto T t = [] := fun T hT => by
        cases T with
        | nil => rfl
        | cons y T =>
          unfold upto
          rw [List.takeWhile_cons, if_neg (by simpa using hT y (List.mem_cons_self ..))]
      rw [h0 (x :: S) (fun y hy => by
        rcases List.mem_cons.1 hy with rfl | hy
        · exact hx
        · have := hle y hy; omega), h0 _ (fun y hy => by
        have hy' := (List.mem_filter.1 hy).1
        rcases List.mem_cons.1 hy' with rfl | hy'
        · exact hx
        · have := hle y hy'; omega)]
      rfl
theorem clear_run {c : Ck} (ho : CkOk c) (k i t : Int) : (upto (c.clear k i).S t).map (c.clear k i).evOf = ((upto c.S t).map c.evOf).filter (evNot k i) := by
  have hev : ∀ x, (c.clear k i).evOf x = c.evOf x := fun x => by
    unfold Ck.clear
    split <;> rfl
  have hev' : (c.clear k i).evOf = c.evOf := funext hev
  rw [hev']
  have hsub : ∀ x ∈ upto c.S t, x ∈ c.S := fun x hx => (upto_pre c.S t).subset hx
  by_cases hm : mayT k i
  · have e1 : (c.clear k i).S = without c.S (nm k i) := by unfold Ck.clear; rw [if_pos hm]
    rw [e1, upto_without ho.sorted, List.filter_map]
    congr 1
    unfold without
    apply List.filter_congr
    intro x hx
    have hid := ho.ids x (hsub x hx)
    obtain ⟨m1, m2, m3, m4⟩ := hm
    show (x.1 != nm k i) = !((x.1 / 64 == k) && (x.1 % 64 == i))
    by_cases he : x.1 = nm k i
    · have h1 : x.1 / 64 = k := by rw [he]; exact (nm_div ⟨m1, m2, m3, m4⟩).1
      have h2 : x.1 % 64 = i := by rw [he]; exact (nm_div ⟨m1, m2, m3, m4⟩).2
      rw [h1, h2, he]
      simp
    · have h3 : ¬ (x.1 / 64 = k ∧ x.1 % 64 = i) := fun ⟨h1, h2⟩ => he (by unfold nm; omega)
      have h4 : (x.1 != nm k i) = true := by simpa using he
      rw [h4]
      by_cases h5 : x.1 / 64 = k
      · have h6 : (x.1 % 64 == i) = false := by simpa using fun h => h3 ⟨h5, h⟩
        rw [h6, Bool.and_false]
        rfl
      · have h6 : (x.1 / 64 == k) = false := by simpa using h5
        rw [h6, Bool.false_and]
        rfl
  · have e1 : (c.clear k i).S = c.S := by unfold Ck.clear; rw [if_neg hm]
    rw [e1]
    refine (List.filter_eq_self.2 fun v hv => ?_).symm
    obtain ⟨x, hx, rfl⟩ := List.mem_map.1 hv
    have hid := ho.ids x (hsub x hx)
    show (!((x.1 / 64 == k) && (x.1 % 64 == i))) = true
    by_cases h5 : x.1 / 64 = k
    · have h6 : (x.1 % 64 == i) = false := by
        simp only [beq_eq_false_iff_ne]
        intro h
        exact hm ⟨by omega, by omega, by omega, by omega⟩
      rw [h6, Bool.and_false]
      rfl
    · have h6 : (x.1 / 64 == k) = false := by simpa using h5
      rw [h6, Bool.false_and]
      rfl
/-- a run, told -/
theorem run_told {c : Ck} {t : Int} (h1 : timeE t = 0) (h2 : c.now ≤ t) : c.stepE t = 0 ∧ Ck.run (c.S.length + 1) c t = ((upto c.S t).map c.evOf, c.gone t) :=
  ⟨stepE_zero h1 h2, run_ok _ _ _ (Nat.lt_succ_self _) (stepE_zero h1 h2)⟩
end Go.Proofs.Ytkjpkhpiojahkaa
