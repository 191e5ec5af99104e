/-
  Which pieces book-keeping of loops does not touch.
-/
import Derived.Test.YtkjpkhpiojahkaaRng
import Derived.Test.YtkjpkhpiojahkaaRk4
namespace Go.Proofs.Ytkjpkhpiojahkaa
set_option linter.unusedVariables false
open Go.RowKit Hp

theorem Ke.HeapAt.mv {w w' : World} {hb lf : Nat} {lt : (Int × Int) → (Int × Int) → Bool} {F S : Nat → Prop} {B : Nat} {M : List (It (Int × Int))} (h : Ke.HeapAt w hb lf lt F M) (hm : Mv S B w w') (hS : ∀ j, F j → ¬ S j) : Ke.HeapAt w' hb lf lt F M := by
  obtain ⟨v, mb, A, f, h1, h2, h3, h4, h5, h6, h7, h8⟩ := h
  refine ⟨v, mb, A, f, ⟨hm.obj h1.st rfl (hS _ h6), own_same h1.row fun j o hj ho hc => hm.obj ho hc (hS j (h7 j (.inl hj))), h1.map.of_obj fun o ho hc => hm.obj ho hc (hS mb (h7 mb (.inr rfl)))⟩, h2, h3, h4, h5, h6, h7, fun j hj => Nat.lt_of_lt_of_le (h8 j hj) hm.size⟩
theorem Plain.hk (hb lf : Nat) (lt : (Int × Int) → (Int × Int) → Bool) (M : List (It (Int × Int))) : Plain (Ke.HK hb lf lt M) := ⟨fun h hm hS => Ke.HeapAt.mv h hm hS⟩
theorem Plain.ex {α : Type} {f : α → Ast} (h : ∀ a, Plain (f a)) : Plain (exA f) := ⟨fun ⟨a, ha⟩ hm hS => ⟨a, (h a).mv ha hm hS⟩⟩
theorem Plain.emp : Plain emp := ⟨fun h _ _ => h⟩
theorem Plain.qu (qb : Nat) (S : List (It Int)) : Plain (quA qb S) := Plain.ex fun _ => (Plain.box _ _ _).sep ((Plain.hk _ _ _ _).sep (Plain.hk _ _ _ _))
theorem Plain.keys (v : Value) (T : List (It Int)) : Plain (keysA v T) := Plain.row _ _ _ _ _
theorem Plain.unt (bl bt : Nat) (T : List (It Int)) (t : Int) : Plain (untA bl bt T t) := Plain.ex fun _ => (Plain.box _ _ _).sep ((Plain.keys _ _).sep (Plain.box _ _ _))
theorem Plain.ref (rb : Nat) (S : List (It Int)) : Plain (refA rb S) :=
  ⟨fun ⟨v, ⟨h1, h2⟩, h3⟩ hm hS => ⟨v, ⟨hm.obj h1 rfl (hS rb ((h3 rb).2 (.inl rfl))), own_same h2 fun j o hj ho hc => hm.obj ho hc (hS j ((h3 j).2 (.inr hj)))⟩, h3⟩⟩
/-- the sequence of keys up to a time hands them out -/
theorem unt_iter (n : Nat) {w : World} {K : Nat → Prop} {bl bt : Nat} {T : List (It Int)} {t : Int} (hl : T.length < 900000) (h : (untA bl bt T t).holds w K) :
    Iter2 Fence.wide n Try.prog 104 #[.pointer (some ⟨bl, 0, none⟩), .pointer (some ⟨bt, 0, none⟩)] (fun (x : It Int) => #[.agg #[.int .i64 x.2, .int .i64 x.1]]) K none' (upto T t) w := by
  obtain ⟨v, Fa, Fb, h1, ⟨Fc, Fd, h2, h3, _, h4⟩, _, h5⟩ := h
  have e : K = fun j => j = bl ∨ v.ownBlock = some j ∨ j = bt := by
    funext j
    refine propext ⟨fun hj => ?_, fun hj => ?_⟩
    · rcases (h5 j).1 hj with h | h
      · exact .inl ((h1.2 j).1 h)
      · rcases (h4 j).1 h with h | h
        · exact .inr (.inl ((h2.2 j).1 h))
        · exact .inr (.inr ((h3.2 j).1 h))
    · rcases hj with h | h | h
      · exact (h5 j).2 (.inl ((h1.2 j).2 h))
      · exact (h5 j).2 (.inr ((h4 j).2 (.inl ((h2.2 j).2 h))))
      · exact (h5 j).2 (.inr ((h4 j).2 (.inr ((h3.2 j).2 h))))
  rw [e]
  exact until_iter2 n bl bt v T t w h1.1 h2.1 h3.1 hl
end Go.Proofs.Ytkjpkhpiojahkaa
