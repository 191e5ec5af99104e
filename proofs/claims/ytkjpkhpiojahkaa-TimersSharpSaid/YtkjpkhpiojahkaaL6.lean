/-
  Walk: the law HeapTurns.
-/
import Derived.Test.YtkjpkhpiojahkaaL5
namespace Go.Proofs.Ytkjpkhpiojahkaa
set_option linter.unusedVariables false
open Go.RowKit Hp
attribute [local go_sem] Oper.semAt_some

theorem HeapAt.mem_at {S : List (It Int)} {pre : List (It Int)} {x : It Int} (hpre : pre ++ [x] <+: S) : pre.length < S.length ∧ S[pre.length]? = some x ∧ x ∈ S ∧ (pre = [] → S.headD (0, 0) = x) := by
  obtain ⟨t, ht⟩ := hpre
  refine ⟨?_, ?_, ?_, ?_⟩
  · rw [← ht]; simp
  · rw [← ht, List.append_assoc, List.getElem?_append_right (Nat.le_refl _)]; simp
  · rw [← ht]; simp
  · rintro rfl; rw [← ht]; rfl

theorem Peek_head {w : World} {hb : Nat} {F : Nat → Prop} {S : List (It Int)} (h : HeapAt w hb 113 ltI F S) (hs : Sorted ltI S) :
    Calls Try.prog 154 #[.pointer (some ⟨hb, 0, none⟩)] w fun e w' => e = .returned (.tuple #[.int .i64 (S.headD (0, 0)).1, .int .i64 (S.headD (0, 0)).2, .int .i64 (headE S)]) ∧ Below w.heap.size w w' := by
  cases S with
  | nil => exact Peek_none h
  | cons x S => exact Peek_some lessI h hs

namespace Hp
section
variable {α : Type} {lt : α → α → Bool} {S T : List (It α)} {id : Int} {k k0 : α}
theorem without_ins (x : It α) : ∀ l : List (It α), without (ins lt x l) x.1 = without l x.1
  | [] => by simp [ins, without]
  | y :: l => by
    have ih := without_ins x l
    unfold without at ih ⊢
    rw [ins]
    split
    · rw [List.filter_cons, List.filter_cons, ih]
    · rw [List.filter_cons_of_neg (by simp)]
theorem without_idem (h : ∀ x ∈ T, x.1 ≠ id) : without T id = T := without_none (has_none.2 h)
theorem has_ins : has (ins lt (id, k) T) id = true := has_mem (ins_mem.2 (.inl rfl))
theorem ins_back [BEq α] [LawfulBEq α] (ho : Swo lt) (hs : Sorted lt S) (hd : S.Pairwise fun a b => a.1 ≠ b.1) (h : (id, k0) ∈ S) : ins lt (id, k0) (without S id) = S := by
  refine Sorted.eq_of_perm ho (ins_sorted ho (without_sorted hs) without_gone) hs ?_
  rw [without_erase hd h]
  exact (ins_perm _ _).trans (List.perm_cons_erase h).symm
theorem chS_back [BEq α] [LawfulBEq α] (ho : Swo lt) (hs : Sorted lt S) (hd : S.Pairwise fun a b => a.1 ≠ b.1) (h : (id, k0) ∈ S) : chS lt (chS lt S id k) id k0 = S := by
  have h1 : chS lt S id k = ins lt (id, k) (without S id) := by unfold chS; rw [if_pos (has_mem h)]
  rw [h1]
  unfold chS
  rw [if_pos has_ins, without_ins (id, k), without_idem without_gone, ins_back ho hs hd h]
end
end Hp

end Go.Proofs.Ytkjpkhpiojahkaa
