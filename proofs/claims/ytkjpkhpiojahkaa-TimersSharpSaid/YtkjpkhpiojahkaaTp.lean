/-
  Timers: plain facts.
-/
import Derived.Test.YtkjpkhpiojahkaaT4
namespace Go.Proofs.Ytkjpkhpiojahkaa
set_option linter.unusedVariables false
open Go.RowKit Hp

section
variable {S : List (It Int)} {t : Int}
theorem upto_late (S : List (It Int)) (t : Int) : upto S t ++ late S t = S := by
  unfold late
  have := List.prefix_iff_eq_take.1 (upto_pre S t)
  conv => rhs; rw [← List.take_append_drop (upto S t).length S]
  rw [← this]
theorem late_sub (S : List (It Int)) (t : Int) : (late S t).Sublist S := List.drop_sublist _ _
theorem late_sorted (hs : Sorted ltI S) : Sorted ltI (late S t) := hs.sublist (late_sub S t)
theorem Timed.late (h : Timed S) : Timed (late S t) := fun x hx => h x ((late_sub S t).subset hx)
theorem late_length : (late S t).length + (upto S t).length = S.length := by
  have := congrArg List.length (upto_late S t)
  rw [List.length_append] at this
  omega
theorem ahead_le {x y : It Int} (h : Hp.ahead ltI x y = true) : x.2 ≤ y.2 := by
  rw [ahead_iff] at h
  simp [ltI] at h
  omega
theorem sorted_le {x : It Int} (hs : Sorted ltI (x :: S)) : ∀ y ∈ S, x.2 ≤ y.2 := fun y hy => ahead_le ((List.pairwise_cons.1 hs).1 y hy)
theorem late_gt (hs : Sorted ltI S) : ∀ y ∈ late S t, t < y.2 := by
  intro y hy
  induction S with
  | nil => unfold Go.Proofs.Ytkjpkhpiojahkaa.late at hy; simp at hy
  | cons x S ih =>
    unfold Go.Proofs.Ytkjpkhpiojahkaa.late upto at hy ih
    rw [List.takeWhile_cons] at hy
    split at hy
    · rename_i hx
      exact ih (List.pairwise_cons.1 hs).2 hy
    · rename_i hx
      have hx' : t < x.2 := by simpa using hx
      rcases List.mem_cons.1 hy with h | h
      · rw [h]; exact hx'
      · have := sorted_le hs y h; omega
theorem upto_head {x : It Int} (h : x.2 ≤ t) : upto (x :: S) t = x :: upto S t := by
  unfold upto
  rw [List.takeWhile_cons, if_pos (by simpa using h)]
theorem worst_none (hs : ∀ y ∈ S, t ≤ y.2) (worst : Int) (h0 : 0 ≤ worst) : ∀ T : List (It Int), (∀ y ∈ T, t ≤ y.2) → worstS worst t T = worst := by
  intro T
  induction T generalizing worst with
  | nil => intro _; rfl
  | cons y T ih =>
    intro hT
    have h1 := hT y (List.mem_cons_self ..)
    have h2 : max worst (t - y.2) = worst := by omega
    show worstS (max worst (t - y.2)) t T = worst
    rw [h2]
    exact ih worst h0 fun z hz => hT z (List.mem_cons_of_mem _ hz)
theorem dueE_ok {now : Int} (h1 : timeE t = 0) (h2 : now ≤ t) : dueE now t = 0 := by
  unfold dueE
  rw [if_pos h1, if_neg (by omega)]
end
end Go.Proofs.Ytkjpkhpiojahkaa
