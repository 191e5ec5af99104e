/-
  Walk: TimersPlays.
-/
import Derived.Test.YtkjpkhpiojahkaaOp5
namespace Go.Proofs.Ytkjpkhpiojahkaa
set_option linter.unusedVariables false
open Go.RowKit Hp
attribute [local go_sem] Oper.semAt_some

set_option maxRecDepth 100000 in
set_option maxHeartbeats 8000000 in
theorem tplays_ok (most : Int) (a : Option Addr) (cap : Nat) (os : List (Int × Int × Int)) (w : World) (hc : OpsAt5 w a os) :
    Calls Try.prog 9 #[.int .i64 most, .slice a os.length cap] w fun e w' => e = .returned (.bool true) ∧ Below w.heap.size w w' := by
  obtain ⟨n, hn⟩ : ∃ n, os.length = n := ⟨_, rfl⟩
  have HC := Lib.hid hc
  have HN := Lib.hid hn
  rw [hn]
  clear hc hn
  by_cases hm : most < 1 ∨ 1024 < most
  · have HN0 := Lib.hid (T_new_not most w hm)
    rcases hm with hm | hm
    all_goals
      go_enter Try.func9, Try.ntmps9
      go_wp2_with fail
      refine HN0.out.mono ?_
      rintro e w1 ⟨rfl, hb1⟩
      have HA := Lib.hid (tawake_ok w1)
      have HB1 := Lib.hid hb1
      clear hb1
      go_wp2_with fail
      refine HA.out.mono ?_
      rintro e w3 ⟨rfl, hb3⟩
      have HB3 := Lib.hid hb3
      clear hb3
      go_wp2_with fail
      go_ret
      exact ⟨rfl, HB1.out.trans (HB3.out.mono HB1.out.size)⟩
  · have hm1 : 1 ≤ most := by omega
    have hm2 : most ≤ 1024 := by omega
    have gm1 : ¬ most < 1 := by omega
    have gm2 : ¬ 1024 < most := by omega
    have HN0 := Lib.hid (T_new (On.emp w) most hm1 hm2)
    clear hm
    go_enter Try.func9, Try.ntmps9
    go_wp2_with fail
    refine HN0.out.mono ?_
    rintro e w1 ⟨tb, rfl, h1⟩
    have HF := Lib.hid (few5_any (a := a) n cap w1)
    have H1 := Lib.hid h1
    clear h1
    by_cases h60 : n ≤ 60
    · rw [decide_eq_true (by omega : (n : Int) ≤ 60)] at HF
      go_wp2_with fail
      refine HF.out.mono ?_
      rintro e w2 ⟨rfl, rfl⟩
      have HR := Lib.hid (RT_new H1.out most)
      go_wp2_with fail
      refine HR.out.mono ?_
      rintro e w2 ⟨rb, rfl, h2⟩
      have H2 := Lib.hid h2.sw0
      clear h2
      go_wp2_with fail
      go_loopg [8] n (fun gh s8 wr => ∃ (i : Nat) (s : Tst), i + gh = n ∧ s8 = .int .i64 (i : Int) ∧ Tok s i ∧ On w wr (sep (tqA tb most s.S s.now s.worst) (sep (rqA rb most s.S s.now s.worst) emp)))
      case atStart => exact ⟨0, ⟨[], 0, 0⟩, by omega, rfl, ⟨List.Pairwise.nil, (fun x hx => by cases hx), by simp⟩, H2.out⟩
      case round =>
        obtain ⟨i, s, hi, rfl, hs, hon⟩ := hrel
        by_cases hlt : i < n
        · have hltI : (i : Int) < (n : Int) := by omega
          have hi0 : (0 : Int) ≤ (i : Int) := by omega
          obtain ⟨b, off, o, rfl, hoi, q0, q1, q2, hw⟩ := HC.out.get hon.to_below (k := i) (by rw [HN.out]; exact hlt)
          have HDo := Lib.hid (does5_ok hon hs (by omega) Plain.emp.tame o.1 o.2.1 o.2.2 hw)
          have HTk := Lib.hid (hs.step most o.1 o.2.1 o.2.2)
          clear hs hon hoi hw
          obtain ⟨s', hs'⟩ : ∃ s', step5 most s o.1 o.2.1 o.2.2 = s' := ⟨_, rfl⟩
          rw [hs'] at HDo HTk
          clear hs'
          go_wp2_with fail
          refine HDo.out.mono ?_
          rintro e x1 ⟨rfl, h3⟩
          have HSm := Lib.hid (same5_ok h3 HTk.out.sorted HTk.out.timed (by have := HTk.out.len; omega) Plain.emp.tame)
          clear h3
          go_wp2_with fail
          refine HSm.out.mono ?_
          rintro e x2 ⟨rfl, h4⟩
          have H4 := Lib.hid h4
          clear h4
          go_wp2_with fail
          go_roundg (n - (i + 1))
          case measure => omega
          case rel => exact ⟨i + 1, s', by omega, by go_num, HTk.out, H4.out⟩
        · have hin : i = n := by omega
          subst hin
          have HA := Lib.hid (tawake_ok wr)
          have HB := Lib.hid hon.to_below
          clear hs hon
          go_wp2_with fail
          refine HA.out.mono ?_
          rintro e w3 ⟨rfl, hb3⟩
          have HB3 := Lib.hid hb3
          clear hb3
          go_wp2_with fail
          go_ret
          exact ⟨rfl, HB.out.trans (HB3.out.mono HB.out.size)⟩
    · rw [decide_eq_false (by omega : ¬ (n : Int) ≤ 60)] at HF
      go_wp2_with fail
      refine HF.out.mono ?_
      rintro e w2 ⟨rfl, rfl⟩
      have HA := Lib.hid (tawake_ok w1)
      have HB := Lib.hid H1.out.to_below
      go_wp2_with fail
      refine HA.out.mono ?_
      rintro e w3 ⟨rfl, hb3⟩
      have HB3 := Lib.hid hb3
      clear hb3
      go_wp2_with fail
      go_ret
      exact ⟨rfl, HB.out.trans (HB3.out.mono HB.out.size)⟩
end Go.Proofs.Ytkjpkhpiojahkaa
