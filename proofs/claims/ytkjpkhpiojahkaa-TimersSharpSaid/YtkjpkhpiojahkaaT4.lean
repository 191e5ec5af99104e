/-
  Walks: the timers' example.
-/
import Derived.Test.YtkjpkhpiojahkaaT3
namespace Go.Proofs.Ytkjpkhpiojahkaa
set_option linter.unusedVariables false
open Go.RowKit Hp
attribute [local go_sem] Oper.semAt_some

theorem eql64 (p q r p' q' r' : Int) (w : World) : (binOp BinOp.eql 64 (.agg #[.int .i64 p, .int .i64 q, .int .i64 r]) (.agg #[.int .i64 p', .int .i64 q', .int .i64 r'])).run Try.prog w = .ok (.bool (decide (p = p' ∧ q = q' ∧ r = r'))) w := by
  go_simp
  by_cases h1 : p = p' <;> by_cases h2 : q = q' <;> by_cases h3 : r = r' <;> simp [h1, h2, h3]
/-- those that fired, in memory -/
def FAt (w : World) (a : Option Addr) (t : Int) (T : List (It Int)) : Prop :=
  T.length = 0 ∨ ∃ b off, a = some ⟨b, off, none⟩ ∧ b < w.heap.size ∧ ∀ k x, T[k]? = some x → w.cell? ⟨b, off + k * 3, none⟩ = some (.int .i64 x.1) ∧ w.cell? ⟨b, off + k * 3 + 1, none⟩ = some (.int .i64 x.2) ∧ w.cell? ⟨b, off + k * 3 + 2, none⟩ = some (.int .i64 (t - x.2))
theorem firedC_len (t : Int) (x : It Int) : (firedC t x).length = 3 := rfl
theorem fired_own {w : World} {v : Value} {t : Int} {T : List (It Int)} (h : w.ownsRow 0 64 3 v T.length (T.flatMap (firedC t))) : ∃ a c, v = .slice a T.length c ∧ T.length ≤ c ∧ FAt w a t T := by
  rcases own_parts h with ⟨h1, h2⟩ | ⟨g, cap, cur, h1, _, h3, h4, _⟩
  · exact ⟨none, 0, by rw [h1, h2], by omega, .inl h2⟩
  · refine ⟨_, _, h1, h4, .inr ⟨g, 0, rfl, lt_of_some h3, fun k x hx => ?_⟩⟩
    rw [Nat.zero_add]
    subst h1
    have h1 := flat_at (firedC t) 3 (firedC_len t) T k 0 _ hx (by omega)
    have h2 := flat_at (firedC t) 3 (firedC_len t) T k 1 _ hx (by omega)
    have h3 := flat_at (firedC t) 3 (firedC_len t) T k 2 _ hx (by omega)
    exact ⟨own_cellG h (by simpa [firedC] using h1), own_cellG h (by simpa [firedC] using h2), own_cellG h (by simpa [firedC] using h3)⟩
theorem On.fired1 {w0 w : World} {v : Value} {t : Int} {T : List (It Int)} {R : Ast} (h : On w0 w (sep (firedA v t T) R)) : ∃ a c, v = .slice a T.length c ∧ T.length ≤ c ∧ FAt w a t T := by
  obtain ⟨F, hF, _⟩ := h.get1
  exact fired_own hF.1
theorem On.fired_get {w0 w : World} {a : Option Addr} {n c : Nat} {t : Int} {T : List (It Int)} {R : Ast} (h : On w0 w (sep (firedA (.slice a n c) t T) R)) : FAt w a t T := by
  obtain ⟨a', c', he, _, hf⟩ := h.fired1
  cases he
  exact hf
def tex : List (It Int) := [(2, 4), (1, 10), (3, 10)]
set_option maxRecDepth 100000 in
set_option maxHeartbeats 4000000 in
theorem tawake_ok (w : World) : Calls Try.prog 42 #[] w fun e w' => e = .returned (.bool true) ∧ Below w.heap.size w w' := by
  have H0 := Lib.hid (T_new (On.emp w) 9 (by decide) (by decide))
  go_enter Try.func42, Try.ntmps42
  go_wp2_with fail
  refine H0.out.mono ?_
  rintro e w1 ⟨tb, rfl, h1⟩
  have a1 : Calls Try.prog 44 #[.pointer (some ⟨tb, 0, none⟩), .int .i64 3, .int .i64 10] w1 fun e w' => e = .returned (.int .i64 0) ∧ On w w' (sep (tqA tb 9 [(3, 10)] 0 0) emp) := T_arm h1 (by unfold Sorted; decide) (by decide) 3 10 (by decide)
  have HA1 := Lib.hid a1
  clear h1 a1
  go_wp2_with fail
  refine HA1.out.mono ?_
  rintro e w2 ⟨rfl, h2⟩
  have a2 : Calls Try.prog 44 #[.pointer (some ⟨tb, 0, none⟩), .int .i64 1, .int .i64 10] w2 fun e w' => e = .returned (.int .i64 0) ∧ On w w' (sep (tqA tb 9 [(1, 10), (3, 10)] 0 0) emp) := T_arm h2 (by unfold Sorted; decide) (by decide) 1 10 (by decide)
  have HA2 := Lib.hid a2
  clear h2 a2
  go_wp2_with fail
  refine HA2.out.mono ?_
  rintro e w3 ⟨rfl, h3⟩
  have a3 : Calls Try.prog 44 #[.pointer (some ⟨tb, 0, none⟩), .int .i64 2, .int .i64 4] w3 fun e w' => e = .returned (.int .i64 0) ∧ On w w' (sep (tqA tb 9 tex 0 0) emp) := T_arm h3 (by unfold Sorted; decide) (by decide) 2 4 (by decide)
  have HA3 := Lib.hid a3
  clear h3 a3
  go_wp2_with fail
  refine HA3.out.mono ?_
  rintro e w4 ⟨rfl, h4⟩
  have a4 : Calls Try.prog 45 #[.pointer (some ⟨tb, 0, none⟩), .int .i64 12] w4 fun e w' => ∃ v, e = .returned (.tuple #[v, .int .i64 0]) ∧ On w w' (sep (firedA v 12 tex) (sep (tqA tb 9 [] 12 8) emp)) := T_due h4 (by unfold Sorted; decide) (by unfold Timed; decide) (by decide) Plain.emp 12 (by decide)
  have HA4 := Lib.hid a4
  clear h4 a4
  go_wp2_with fail
  refine HA4.out.mono ?_
  rintro e w5 ⟨v, rfl, h5⟩
  obtain ⟨a, c, rfl, _, hf⟩ := h5.fired1
  have hl3 : tex.length = 3 := rfl
  rw [hl3] at h5 ⊢
  obtain ⟨b, off, rfl, _, hc⟩ := hf.resolve_left (by decide)
  obtain ⟨c0, c1, c2⟩ := hc 0 (2, 4) rfl
  obtain ⟨c3, c4, c5⟩ := hc 1 (1, 10) rfl
  obtain ⟨c6, c7, c8⟩ := hc 2 (3, 10) rfl
  simp only [Nat.zero_mul, Nat.add_zero, Nat.one_mul, Nat.reduceMul] at c0 c1 c2 c3 c4 c5 c6 c7 c8
  have HW := Lib.hid (T_worst h5.out1)
  have HB := Lib.hid h5.to_below
  have hq1 : ∀ w, (binOp BinOp.eql 64 (.agg #[.int .i64 2, .int .i64 4, .int .i64 (12 - 4)]) (.agg #[.int .i64 2, .int .i64 4, .int .i64 8])).run Try.prog w = .ok (.bool true) w := fun w => by rw [eql64]; rfl
  have hq2 : ∀ w, (binOp BinOp.eql 64 (.agg #[.int .i64 1, .int .i64 10, .int .i64 (12 - 10)]) (.agg #[.int .i64 1, .int .i64 10, .int .i64 2])).run Try.prog w = .ok (.bool true) w := fun w => by rw [eql64]; rfl
  have hq3 : ∀ w, (binOp BinOp.eql 64 (.agg #[.int .i64 3, .int .i64 10, .int .i64 (12 - 10)]) (.agg #[.int .i64 3, .int .i64 10, .int .i64 2])).run Try.prog w = .ok (.bool true) w := fun w => by rw [eql64]; rfl
  clear h5 hf hc hl3
  go_wp2_with fail
  refine HW.out.mono ?_
  rintro e w6 ⟨rfl, rfl⟩
  go_wp2_with fail
  go_ret
  exact ⟨rfl, HB.out⟩
end Go.Proofs.Ytkjpkhpiojahkaa
