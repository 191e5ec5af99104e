/-
  Timers: their queues as pieces of memory. Walks: New, Now, Worst, Cancel, When, Next.
-/
import Derived.Test.YtkjpkhpiojahkaaRs1
import Derived.Test.YtkjpkhpiojahkaaPl
import Derived.Test.YtkjpkhpiojahkaaTail
namespace Go.Proofs.Ytkjpkhpiojahkaa
set_option linter.unusedVariables false
open Go.RowKit Hp
attribute [local go_sem] Oper.semAt_some

/-- a queue of timers -/
def tqA (tb : Nat) (most : Int) (S : List (It Int)) (now worst : Int) : Ast := exA fun qb : Nat => sep (boxA tb 152 #[.int .i64 most, .pointer (some ⟨qb, 0, none⟩), .int .i64 now, .int .i64 worst]) (quA qb S)
theorem Plain.tq (tb : Nat) (most : Int) (S : List (It Int)) (now worst : Int) : Plain (tqA tb most S now worst) := Plain.ex fun _ => (Plain.box _ _ _).sep (Plain.qu _ _)

section
variable {w0 w : World} {tb : Nat} {S : List (It Int)} {R : Ast} {most now worst : Int}
theorem On.tq_open (h : On w0 w (sep (tqA tb most S now worst) R)) : ∃ qb, On w0 w (sep (boxA tb 152 #[.int .i64 most, .pointer (some ⟨qb, 0, none⟩), .int .i64 now, .int .i64 worst]) (sep (quA qb S) R)) := by
  obtain ⟨qb, h⟩ := h.ex_open
  exact ⟨qb, h.assoc⟩
theorem On.tq_shut {qb : Nat} (h : On w0 w (sep (boxA tb 152 #[.int .i64 most, .pointer (some ⟨qb, 0, none⟩), .int .i64 now, .int .i64 worst]) (sep (quA qb S) R))) : On w0 w (sep (tqA tb most S now worst) R) :=
  On.ex_shut (f := fun qb : Nat => sep (boxA tb 152 #[.int .i64 most, .pointer (some ⟨qb, 0, none⟩), .int .i64 now, .int .i64 worst]) (quA qb S)) qb h.assoc'

set_option maxRecDepth 100000 in
set_option maxHeartbeats 2000000 in
theorem T_new (h : On w0 w R) (room : Int) (h1 : 1 ≤ room) (h2 : room ≤ 1024) : Calls Try.prog 43 #[.int .i64 room] w fun e w' => ∃ tb, e = .returned (.tuple #[.pointer (some ⟨tb, 0, none⟩), .int .i64 0]) ∧ On w0 w' (sep (tqA tb room [] 0 0) R) := by
  have H0 := Lib.hid (Q_new h)
  have g1 : decide (room < 1) = false := by simp; omega
  have g2 : decide (1024 < room) = false := by simp; omega
  clear h
  go_enter Try.func43, Try.ntmps43
  go_wp2_with fail
  refine H0.out.mono ?_
  rintro e w1 ⟨qb, rfl, k1⟩
  have k2 := k1.new1 152 #[.int .i64 room, .pointer (some ⟨qb, 0, none⟩), .int .i64 0, .int .i64 0]
  have HO := Lib.hid k2.tq_shut
  clear k1 k2
  go_wp2_with fail
  go_ret2
  exact ⟨_, rfl, HO.out⟩
theorem T_new_not (room : Int) (w : World) (h1 : room < 1 ∨ 1024 < room) : Calls Try.prog 43 #[.int .i64 room] w fun e w' => e = .returned (.tuple #[.pointer none, .int .i64 1]) ∧ Below w.heap.size w w' := by
  by_cases h : room < 1
  · go_enter Try.func43, Try.ntmps43
    go_wp2_with fail
    go_ret2
    exact ⟨rfl, Below.refl _ _⟩
  · have h2 : 1024 < room := by omega
    go_enter Try.func43, Try.ntmps43
    go_wp2_with fail
    go_ret2
    exact ⟨rfl, Below.refl _ _⟩
set_option maxRecDepth 100000 in
set_option maxHeartbeats 1000000 in
theorem T_now (h : On w0 w (sep (tqA tb most S now worst) R)) : Calls Try.prog 46 #[.pointer (some ⟨tb, 0, none⟩)] w fun e w' => e = .returned (.int .i64 now) ∧ w = w' := by
  obtain ⟨qb, h⟩ := h.tq_open
  have c : w.cell? ⟨tb, 2, none⟩ = some (.int .i64 now) := (h.box1 2).1
  clear h
  go_enter Try.func46, Try.ntmps46
  go_wp2_with fail
  go_ret
  exact ⟨rfl, rfl⟩
set_option maxRecDepth 100000 in
set_option maxHeartbeats 1000000 in
theorem T_worst (h : On w0 w (sep (tqA tb most S now worst) R)) : Calls Try.prog 47 #[.pointer (some ⟨tb, 0, none⟩)] w fun e w' => e = .returned (.int .i64 worst) ∧ w = w' := by
  obtain ⟨qb, h⟩ := h.tq_open
  have c : w.cell? ⟨tb, 3, none⟩ = some (.int .i64 worst) := (h.box1 3).1
  clear h
  go_enter Try.func47, Try.ntmps47
  go_wp2_with fail
  go_ret
  exact ⟨rfl, rfl⟩
set_option maxRecDepth 100000 in
set_option maxHeartbeats 2000000 in
theorem T_cancel (h : On w0 w (sep (tqA tb most S now worst) R)) (hl : S.length < 900000) (id : Int) (hw : (Lit.int .i64 id).wf = true) :
    Calls Try.prog 48 #[.pointer (some ⟨tb, 0, none⟩), .int .i64 id] w fun e w' => e = .returned (.int .i64 (hasE S id)) ∧ On w0 w' (sep (tqA tb most (without S id) now worst) R) := by
  obtain ⟨qb, h⟩ := h.tq_open
  have c : w.cell? ⟨tb, 1, none⟩ = some (.pointer (some ⟨qb, 0, none⟩)) := (h.box1 1).1
  have H1 := Lib.hid (Q_drop h.sw0 hl id hw)
  clear h
  go_enter Try.func48, Try.ntmps48
  go_wp2_with fail
  refine H1.out.mono ?_
  rintro e w1 ⟨rfl, h1⟩
  have H2 := Lib.hid h1.sw0.tq_shut
  clear h1
  go_wp2_with fail
  go_ret
  exact ⟨rfl, H2.out.below ((Below.refl _ w1).alloc (Nat.le_refl _) _)⟩
set_option maxRecDepth 100000 in
set_option maxHeartbeats 2000000 in
theorem T_when (h : On w0 w (sep (tqA tb most S now worst) R)) (hl : S.length < 900000) (id : Int) (hw : (Lit.int .i64 id).wf = true) :
    Calls Try.prog 108 #[.pointer (some ⟨tb, 0, none⟩), .int .i64 id] w fun e w' => e = .returned (.tuple #[.int .i64 (keyAt 0 S id), .int .i64 (hasE S id)]) ∧ Below w.heap.size w w' := by
  obtain ⟨qb, h⟩ := h.tq_open
  have c : w.cell? ⟨tb, 1, none⟩ = some (.pointer (some ⟨qb, 0, none⟩)) := (h.box1 1).1
  have H1 := Lib.hid (Q_get h.sw0 hl id hw)
  clear h
  go_enter Try.func108, Try.ntmps108
  go_wp2_with fail
  refine H1.out.mono ?_
  rintro e w1 ⟨rfl, h1⟩
  have H2 := Lib.hid h1
  clear h1
  go_wp2_with fail
  go_ret2
  exact ⟨rfl, H2.out.alloc H2.out.size _⟩
set_option maxRecDepth 100000 in
set_option maxHeartbeats 2000000 in
theorem T_next (h : On w0 w (sep (tqA tb most S now worst) R)) (hs : Sorted ltI S) :
    Calls Try.prog 49 #[.pointer (some ⟨tb, 0, none⟩)] w fun e w' => e = .returned (.tuple #[.int .i64 (S.headD (0, 0)).2, .int .i64 (headE S)]) ∧ Below w.heap.size w w' := by
  obtain ⟨qb, h⟩ := h.tq_open
  have c : w.cell? ⟨tb, 1, none⟩ = some (.pointer (some ⟨qb, 0, none⟩)) := (h.box1 1).1
  have hf := Q_first h.sw0 hs
  obtain ⟨p1, hp1⟩ : ∃ p, (S.headD (0, 0)).2 = p := ⟨_, rfl⟩
  obtain ⟨q1, hq1⟩ : ∃ p, (S.headD (0, 0)).1 = p := ⟨_, rfl⟩
  obtain ⟨e1, he1⟩ : ∃ p, headE S = p := ⟨_, rfl⟩
  rw [hp1, hq1, he1] at hf
  rw [hp1, he1]
  have H1 := Lib.hid hf
  clear h hf hp1 hq1 he1
  go_enter Try.func49, Try.ntmps49
  go_wp2_with fail
  refine H1.out.mono ?_
  rintro e w1 ⟨rfl, h1⟩
  have H2 := Lib.hid h1
  clear h1
  go_wp2_with fail
  go_ret2
  exact ⟨rfl, H2.out.alloc H2.out.size _⟩
end
end Go.Proofs.Ytkjpkhpiojahkaa
