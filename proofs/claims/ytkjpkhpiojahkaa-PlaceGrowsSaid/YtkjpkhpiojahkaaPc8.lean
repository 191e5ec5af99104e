/-
  Place: the best ones.
-/
import Derived.Test.YtkjpkhpiojahkaaPc6
namespace Go.Proofs.Ytkjpkhpiojahkaa
set_option linter.unusedVariables false
open Go.RowKit Hp
attribute [local go_sem] Oper.semAt_some
def bestE (m : Int) (ks : List (Int × Int)) : Int := if m < 0 then 1 else servE ks
section
variable {w0 w : World} {R : Ast} {a : Option Addr} {cap : Nat} {ks : List (Int × Int)}
set_option maxRecDepth 100000 in
set_option maxHeartbeats 4000000 in
theorem best_ok (mm : Int) (h : On w0 w R) (hk : ∀ A, On w0 A R → Ke.KeysAt A a ks) (hwf : ∀ k ∈ ks, (Lit.int .i64 k.2).wf = true) (hcap : ks.length ≤ cap) (hcm : cap ≤ 9223372036854775807) (hl : ks.length < 700000) :
    Calls Try.prog 70 #[.int .i64 mm, .slice a ks.length cap] w fun e w' => ∃ v, e = .returned (.tuple #[v, .int .i64 (bestE mm ks)]) ∧ (bestE mm ks ≠ 0 → v = .slice none 0 0 ∧ On w0 w' R) ∧ (bestE mm ks = 0 → On w0 w' (sep (keysA v (leastS (putAll [] ks) mm)) R)) := by
  by_cases hm : mm < 0
  · have e : bestE mm ks = 1 := by unfold bestE; rw [if_pos hm]
    rw [e]
    have H := Lib.hid h
    clear h hk hwf e
    go_enter Try.func70, Try.ntmps70
    go_wp2_with fail
    go_ret2
    exact ⟨_, rfl, fun _ => ⟨rfl, H.out⟩, fun h => absurd h (by decide)⟩
  · have e : bestE mm ks = servE ks := by unfold bestE; rw [if_neg hm]
    rw [e]
    have hs := servers_ok h hk hwf hcap hcm hl
    obtain ⟨E, hE⟩ : ∃ E, servE ks = E := ⟨_, rfl⟩
    rw [hE] at hs ⊢
    have HS := Lib.hid hs
    have hsl := putAll_length ks
    have HLe := Lib.hid (fun (A : World) (q : Nat) (hA : On w0 A (sep (quA q (putAll [] ks)) R)) => Q_least hA (putAll_sorted ks) (by omega) mm)
    clear h hk hwf e hs hE
    by_cases h0 : E = 0
    · subst h0
      go_enter Try.func70, Try.ntmps70
      go_wp2_with fail
      refine HS.out.mono ?_
      rintro e w1 ⟨v, rfl, _, hq⟩
      obtain ⟨q, rfl, h1⟩ := hq (by first | rfl | trivial)
      have HL2 := Lib.hid (HLe.out w1 q h1)
      clear hq h1
      go_wp2_with fail
      refine HL2.out.mono ?_
      rintro e w2 ⟨v, rfl, h2⟩
      obtain ⟨ba, bc, rfl, _⟩ := h2.keys1
      have H2 := Lib.hid h2
      clear h2
      go_wp2_with fail
      go_ret2
      exact ⟨_, rfl, fun h => absurd rfl h, fun _ => H2.out.sw0.out1⟩
    · have z : (E != 0) = true := by simpa using h0
      go_enter Try.func70, Try.ntmps70
      go_wp2_with fail
      refine HS.out.mono ?_
      rintro e w1 ⟨v, rfl, hq, _⟩
      have H1 := Lib.hid (hq h0)
      clear hq
      go_wp2_with fail
      go_ret2
      exact ⟨_, rfl, fun _ => ⟨rfl, H1.out⟩, fun h => absurd h h0⟩
end
end Go.Proofs.Ytkjpkhpiojahkaa
