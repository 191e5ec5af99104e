/-
  PlaceWants: whatever the input, the law returns true and changes nothing. No conditions.
  (The frame of this text was written by a program after the kit's proof-skeleton.)
-/
import Derived.Test.YtkjpkhpiojahkaaRows
import Derived.Test.YtkjpkhpiojahkaaFacts
import Derived.Test.YtkjpkhpiojahkaaL20
import Derived.Test.YtkjpkhpiojahkaaLKO
import Derived.WalkKit
import Derived.ProofKit
import Derived.OpenShut
import Derived.ShutString
import Derived.ChangeOld
import Derived.Below
namespace Go.Proofs.Ytkjpkhpiojahkaa.placeWants
open Go.ChangeShapes Go.WideShapes Go.ChangeAt Go.RowKit
open Go.ChangeMaps (open_string shut_string)
set_option linter.unusedVariables false

theorem own : ownKnob Try.prog.godebug = none := fact_own
theorem laidOut : laidOutB Try.prog = true := fact_laid

theorem walk (w : World) (a0 : Option Addr) (len0 cap0 : Nat) (z0 : List Int) (e0 : z0.length = len0) (w0 : IntsAt w a0 z0 ∧ len0 ≤ cap0 ∧ cap0 ≤ 9223372036854775807 ∧ ∀ x ∈ z0, (Lit.int .i64 x).wf = true) (a1 : Option Addr) (len1 cap1 : Nat) (z1 : List (Int × Int)) (e1 : z1.length = len1) (w1 : Ke.KeysAt w a1 z1 ∧ (∀ k ∈ z1, (Lit.int .i64 k.1).wf = true ∧ (Lit.int .i64 k.2).wf = true) ∧ len1 ≤ cap1 ∧ cap1 ≤ 9223372036854775807) (p2' q2' : Int) (w2 : (Lit.int .i64 p2').wf = true ∧ (Lit.int .i64 q2').wf = true) :
    Calls Try.prog 15 #[.slice a0 len0 cap0, .slice a1 len1 cap1, .agg #[.int .i64 p2', .int .i64 q2']] w fun e w' => e = .returned (.bool true) ∧ Below w.heap.size w w' := by
  subst e0
  subst e1
  exact pwants_ok a0 a1 cap0 cap1 z0 z1 p2' q2' w w0.1 w0.2.2.2 w1.1 (fun k hk => (w1.2.1 k hk).2) w1.2.2.1 w1.2.2.2 w2.2

/-! ### THE ROW's STEP: WRITTEN OUT: LEAVE IT -/
set_option maxRecDepth 100000 in
theorem lifted (os : Os) (started : os.Started) (H : Type) (enc : TypeId × Value → H) :
    ReturnsInHanded {} Try.checked os 15 .any (Rows.placeWantsSpec.pre6 enc Try.prog Try.f15 Rows.placeWantsRow.domain false) (Rows.placeWantsSpec.post enc Try.prog Try.f15 false true false false) := by
  refine returnsInHanded_of_change (C := Try.checked) own started (by kernel_rfl) Try.func15
    (ChangeSpec.witness6 (enc := enc) (C := Try.checked) false ⟨#[], #[.slice none 0 0, .slice none 0 0, .agg #[.int .i64 0, .int .i64 0]], []⟩ 8 (by kernel_rfl) (by kernel_rfl) (by kernel_rfl) (by kernel_rfl)) ?_
  intro W base args ds gs before hval0 hW hcnd _
  have hval : ∀ (j : Nat) t v, Try.f15.params[j]? = some t → args[j]? = some v → Value.okWide Try.prog W .any base t v := hval0
  have hW' := hW
  obtain ⟨p, q, hA0, hV, rfl, hfz, hnd⟩ := hW
  have hA : DataW.TrodAll enc Try.prog W 0 (fun _ => true) true Try.f15.params.toList args.toList ds p := hA0
  rw [Try.params15] at hA hval
  obtain ⟨v0, vs0, d0, ds0, p0, q0, hargs, rfl, rfl, h0, r0⟩ := trodAll_cons hA
  obtain ⟨v1, vs1, d1, ds1, p1, q1, rfl, rfl, rfl, h1, r1⟩ := trodAll_cons r0
  obtain ⟨v2, vs2, d2, ds2, p2, q2, rfl, rfl, rfl, h2, r2⟩ := trodAll_cons r1
  obtain ⟨rfl, rfl, rfl⟩ := trodAll_nil r2
  obtain rfl : args = #[v0, v1, v2] := by cases args; simp_all
  obtain ⟨rfl, rfl⟩ := trodVars_none hV
  obtain ⟨a0, len0, cap0, rfl⟩ := okWide_slice Try.underlying54 (hval 0 54 v0 rfl rfl)
  have k0 := h0
  have lt0 : ∀ x ∈ p0, x.block < W.heap.size := by obtain ⟨m, hm⟩ := k0; exact DataW.trod_lt m _ _ _ hm
  obtain ⟨z0, e0, w0⟩ : ∃ ks : List Int, ks.length = len0 ∧ (IntsAt W a0 ks ∧ len0 ≤ cap0 ∧ cap0 ≤ 9223372036854775807 ∧ ∀ x ∈ ks, (Lit.int .i64 x).wf = true) := by
    obtain ⟨fuel, hf⟩ := h0
    obtain ⟨ks, h1, h2⟩ := open_intsR hf
    exact ⟨ks, h1, h2⟩
  obtain ⟨a1, len1, cap1, rfl⟩ := okWide_slice Try.underlying30 (hval 1 30 v1 rfl rfl)
  have k1 := h1
  have lt1 : ∀ x ∈ p1, x.block < W.heap.size := by obtain ⟨m, hm⟩ := k1; exact DataW.trod_lt m _ _ _ hm
  obtain ⟨z1, e1, w1⟩ : ∃ ks : List (Int × Int), ks.length = len1 ∧ (Ke.KeysAt W a1 ks ∧ (∀ k ∈ ks, (Lit.int .i64 k.1).wf = true ∧ (Lit.int .i64 k.2).wf = true) ∧ len1 ≤ cap1 ∧ cap1 ≤ 9223372036854775807) := by
    obtain ⟨fuel, hf⟩ := h1
    obtain ⟨ks, h1, g1, g2⟩ := Ke.open_keys hf
    have h2 := And.intro g1 (And.intro g2 (open_keys_cap hf))
    exact ⟨ks, h1, h2⟩
  have k2 := h2
  have lt2 : ∀ x ∈ p2, x.block < W.heap.size := by obtain ⟨m, hm⟩ := k2; exact DataW.trod_lt m _ _ _ hm
  obtain ⟨p2', q2', rfl, w2⟩ : ∃ p q : Int, v2 = .agg #[.int .i64 p, .int .i64 q] ∧ (Lit.int .i64 p).wf = true ∧ (Lit.int .i64 q).wf = true := open_key2 (hval 2 24 v2 rfl rfl) h2
  clear hA0 hval0
  refine (walk W a0 len0 cap0 z0 e0 w0 a1 len1 cap1 z1 e1 w1 p2' q2' w2).mono fun e W' ⟨he, bel⟩ => ?_
  subst he
  exact ⟨_, rfl, _, _, _, [], _, [], hW', trodAll_mk1 (shut_bool Try.underlying4 _), (trodAll_cons_mk (Below.trod laidOut (by kernel_rfl) (of_decide_eq_true (by kernel_rfl)) k0 bel lt0) (trodAll_cons_mk (Below.trod laidOut (by kernel_rfl) (of_decide_eq_true (by kernel_rfl)) k1 bel lt1) (trodAll_cons_mk (Below.trod laidOut (by kernel_rfl) (of_decide_eq_true (by kernel_rfl)) k2 bel lt2) trodAll_mk0))), rfl, bel.frame _, fun h => by cases h⟩

theorem over : Rows.placeWantsRow.holds Try.pinned (OpenSpec.ofChange Rows.placeWantsSpec) :=
  OpenClaim.holds_of_wide 15 Try.f15 rfl rfl rfl rfl rfl rfl rfl ⟨rfl, rfl, rfl, rfl, rfl⟩ rfl rfl rfl rfl rfl (by kernel_rfl) Try.func15 (closed_of 15 Try.f15 Rows.placeWantsSpec Rows.placeWantsRow rfl rfl rfl (by kernel_rfl) (by kernel_rfl) (by kernel_rfl) (by kernel_rfl) (by kernel_rfl) (by kernel_rfl) (by kernel_rfl) (by kernel_rfl) (by kernel_rfl) (by kernel_rfl) (by kernel_rfl) (by kernel_rfl) (by kernel_rfl) (by kernel_rfl) (by kernel_rfl) (by kernel_rfl) (by kernel_rfl) (by kernel_rfl) (by kernel_rfl) (by kernel_rfl) (by kernel_rfl) (by kernel_rfl) (by kernel_rfl) (by kernel_rfl) (by kernel_rfl))
    (of_decide_eq_true (by kernel_rfl)) (by unfold Func.isWrapper; first | (rw [if_pos (by decide +kernel)]; kernel_rfl) | (rw [if_neg (by decide +kernel)]; exact ⟨rfl, rfl⟩))
    (fun os started H enc _ => lifted os started H enc)

/-- ████ THE STATEMENT ████ -/
theorem proved : Rows.PlaceWantsSaid := over
#print axioms proved
end Go.Proofs.Ytkjpkhpiojahkaa.placeWants
