/-
  Queues whose times are such as a queue takes.
-/
import Derived.Test.YtkjpkhpiojahkaaOp4
namespace Go.Proofs.Ytkjpkhpiojahkaa
set_option linter.unusedVariables false
open Go.RowKit Hp
namespace Hp
/-- every time of a queue is one that it takes -/
def Timed (S : List (It Int)) : Prop := ∀ x ∈ S, timeE x.2 = 0
theorem Timed.putL {S : List (It Int)} {ks : List (Int × Int)} (h : Timed S) : Timed (putL S ks) := by
  unfold Hp.putL
  split
  · rename_i hok
    have hp := okAll_puts (S := S) (ks := ks) hok
    intro x hx
    rcases List.mem_append.1 ((putAll_perm hp).subset hx) with hx | hx
    · exact h x hx
    · obtain ⟨k, hk, rfl⟩ := List.mem_map.1 hx
      exact (hp.1 k hk).2.1
  · exact h
theorem Timed.moveS {S : List (It Int)} {t id : Int} (h : Timed S) : Timed (moveS S t id) := by
  unfold Go.Proofs.Ytkjpkhpiojahkaa.moveS
  split
  · split
    · rename_i hh ht
      unfold chS
      rw [if_pos hh]
      intro x hx
      rcases ins_mem.1 hx with hx | hx
      · rw [hx]; exact ht
      · exact h x (without_sub.subset hx)
    · exact h
  · exact h
theorem Timed.stepQ {S : List (It Int)} {ask t id : Int} {ks : List (Int × Int)} (h : Timed S) : Timed (stepQ S ask t id ks) := by
  unfold Hp.stepQ
  split
  · exact h.putL
  · split
    · exact h.moveS
    · split
      · exact fun x hx => h x (without_sub.subset hx)
      · exact h
end Hp
end Go.Proofs.Ytkjpkhpiojahkaa
