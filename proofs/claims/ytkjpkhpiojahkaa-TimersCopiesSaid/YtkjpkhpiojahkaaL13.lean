/-
  Walk: TimersCopies.
-/
import Derived.Test.YtkjpkhpiojahkaaOp5
namespace Go.Proofs.Ytkjpkhpiojahkaa
set_option linter.unusedVariables false
open Go.RowKit Hp
attribute [local go_sem] Oper.semAt_some

set_option maxRecDepth 100000 in
set_option maxHeartbeats 8000000 in
theorem tcopies_ok (a a' : Option Addr) (cap cap' : Nat) (os ps : List (Int × Int × Int)) (w : World) (hc : OpsAt5 w a os) (hc' : OpsAt5 w a' ps) :
    Calls Try.prog 10 #[.slice a os.length cap, .slice a' ps.length cap'] w fun e w' => e = .returned (.bool true) ∧ Below w.heap.size w w' := by
  obtain ⟨n, hn⟩ : ∃ n, os.length = n := ⟨_, rfl⟩
  obtain ⟨m, hm⟩ : ∃ n, ps.length = n := ⟨_, rfl⟩
  have HC := Lib.hid hc
  have HN := Lib.hid hn
  have HC' := Lib.hid hc'
  have HM := Lib.hid hm
  rw [hn, hm]
  clear hc hn hc' hm
  have HN0 := Lib.hid (T_new (On.emp w) 20 (by decide) (by decide))
  go_enter Try.func10, Try.ntmps10
  go_wp2_with fail
  refine HN0.out.mono ?_
  rintro e w1 ⟨tb, rfl, h1⟩
  have HF := Lib.hid (few5_any (a := a) n cap w1)
  have HF' := Lib.hid (few5_any (a := a') m cap' w1)
  have H1 := Lib.hid h1
  clear h1
  by_cases h60 : n ≤ 60
  · rw [decide_eq_true (by omega : (n : Int) ≤ 60)] at HF
    by_cases hm60 : m ≤ 60
    · rw [decide_eq_true (by omega : (m : Int) ≤ 60)] at HF'
      go_wp2_with fail
      refine HF.out.mono ?_
      rintro e w2 ⟨rfl, rfl⟩
      go_wp2_with fail
      refine HF'.out.mono ?_
      rintro e w2 ⟨rfl, rfl⟩
      have HR := Lib.hid (RT_new H1.out 20)
      go_wp2_with fail
      refine HR.out.mono ?_
      rintro e w2 ⟨rb, rfl, h2⟩
      have H2 := Lib.hid h2.sw0
      clear h2
      go_wp2_with fail
      go_loopg [8] n (fun gh s8 wr => ∃ (i : Nat) (s : Tst), i + gh = n ∧ s8 = .int .i64 (i : Int) ∧ Tok s i ∧ On w wr (sep (tqA tb 20 s.S s.now s.worst) (sep (rqA rb 20 s.S s.now s.worst) emp)))
      case atStart => exact ⟨0, ⟨[], 0, 0⟩, by omega, rfl, ⟨List.Pairwise.nil, (fun x hx => by cases hx), by simp⟩, H2.out⟩
      case round =>
        obtain ⟨i, s, hi, rfl, hs, hon⟩ := hrel
        by_cases hlt : i < n
        · have hltI : (i : Int) < (n : Int) := by omega
          have hi0 : (0 : Int) ≤ (i : Int) := by omega
          obtain ⟨b, off, o, rfl, hoi, q0, q1, q2, hw⟩ := HC.out.get hon.to_below (k := i) (by rw [HN.out]; exact hlt)
          have HDo := Lib.hid (does5_ok hon hs (by omega) Plain.emp.tame o.1 o.2.1 o.2.2 hw)
          have HTk := Lib.hid (hs.step 20 o.1 o.2.1 o.2.2)
          clear hs hon hoi hw
          obtain ⟨s', hs'⟩ : ∃ s', step5 20 s o.1 o.2.1 o.2.2 = s' := ⟨_, rfl⟩
          rw [hs'] at HDo HTk
          clear hs'
          go_wp2_with fail
          refine HDo.out.mono ?_
          rintro e x1 ⟨rfl, h3⟩
          have H4 := Lib.hid h3
          clear h3
          go_wp2_with fail
          go_roundg (n - (i + 1))
          case measure => omega
          case rel => exact ⟨i + 1, s', by omega, by go_num, HTk.out, H4.out⟩
        · have hin : i = n := by omega
          subst hin
          have HT := Lib.hid hs
          have HCo := Lib.hid (T_copy hon (by have := hs.len; omega))
          clear hs hon
          go_wp2_with fail
          refine HCo.out.mono ?_
          rintro e w3 ⟨tc, rfl, h3⟩
          have HCr := Lib.hid (RT_copy (h3.sw1.sw0) (by have := HT.out.len; omega))
          clear h3
          go_wp2_with fail
          refine HCr.out.mono ?_
          rintro e w4 ⟨rc, rfl, h4⟩
          have HSm := Lib.hid (same5_ok (h4.sw1.sw0.sw1) HT.out.sorted HT.out.timed (by have := HT.out.len; omega) ((Plain.rq _ _ _ _ _).sepT ((Plain.tq _ _ _ _ _).sepT Plain.emp.tame)))
          clear h4
          go_wp2_with fail
          refine HSm.out.mono ?_
          rintro e w5 ⟨rfl, h5⟩
          have H5 := Lib.hid (h5.sw1.sw2)
          clear h5
          go_wp2_with fail
          obtain ⟨S0, hS0⟩ : ∃ S0, s = S0 := ⟨_, rfl⟩
          subst hS0
          go_loopg [11] m (fun gh s11 wy => ∃ (j : Nat) (s' : Tst), j + gh = m ∧ s11 = .int .i64 (j : Int) ∧ Tok s' (60 + j) ∧ On w wy (sep (tqA tc 20 s'.S s'.now s'.worst) (sep (rqA rc 20 s'.S s'.now s'.worst) (sep (tqA tb 20 s.S s.now s.worst) (sep (rqA rb 20 s.S s.now s.worst) emp)))))
          case atStart => exact ⟨0, s, by omega, rfl, HT.out.mono (by omega), H5.out⟩
          case round =>
            obtain ⟨j, s', hj, rfl, hs, hon⟩ := hrel
            by_cases hlt : j < m
            · have hltI : (j : Int) < (m : Int) := by omega
              have hi0 : (0 : Int) ≤ (j : Int) := by omega
              obtain ⟨b, off, o, rfl, hoi, q0, q1, q2, hw⟩ := HC'.out.get hon.to_below (k := j) (by rw [HM.out]; exact hlt)
              have HDo := Lib.hid (does5_ok hon hs (by omega) ((Plain.tq _ _ _ _ _).sepT ((Plain.rq _ _ _ _ _).sepT Plain.emp.tame)) o.1 o.2.1 o.2.2 hw)
              have HTk := Lib.hid (hs.step 20 o.1 o.2.1 o.2.2)
              clear hs hon hoi hw
              obtain ⟨s2, hs'⟩ : ∃ z, step5 20 s' o.1 o.2.1 o.2.2 = z := ⟨_, rfl⟩
              rw [hs'] at HDo HTk
              clear hs'
              go_wp2_with fail
              refine HDo.out.mono ?_
              rintro e x1 ⟨rfl, h3⟩
              have H4 := Lib.hid h3
              clear h3
              go_wp2_with fail
              go_roundg (m - (j + 1))
              case measure => omega
              case rel => exact ⟨j + 1, s2, by omega, by go_num, HTk.out, H4.out⟩
            · have hjm : j = m := by omega
              subst hjm
              have HT' := Lib.hid hs
              have HS1 := Lib.hid (same5_ok (hon.sw1.sw0.sw2.sw1) HT.out.sorted HT.out.timed (by have := HT.out.len; omega) ((Plain.tq _ _ _ _ _).sepT ((Plain.rq _ _ _ _ _).sepT Plain.emp.tame)))
              clear hs hon
              go_wp2_with fail
              refine HS1.out.mono ?_
              rintro e w6 ⟨rfl, h6⟩
              have HS2 := Lib.hid (same5_ok (h6.sw1.sw0.sw2.sw1) HT'.out.sorted HT'.out.timed (by have := HT'.out.len; omega) ((Plain.tq _ _ _ _ _).sepT ((Plain.rq _ _ _ _ _).sepT Plain.emp.tame)))
              clear h6
              go_wp2_with fail
              refine HS2.out.mono ?_
              rintro e w7 ⟨rfl, h7⟩
              have HB := Lib.hid h7.to_below
              have HA := Lib.hid (tawake_ok w7)
              clear h7
              go_wp2_with fail
              refine HA.out.mono ?_
              rintro e w8 ⟨rfl, hb8⟩
              have HB8 := Lib.hid hb8
              clear hb8
              go_wp2_with fail
              go_ret
              exact ⟨rfl, HB.out.trans (HB8.out.mono HB.out.size)⟩
    · rw [decide_eq_false (by omega : ¬ (m : Int) ≤ 60)] at HF'
      go_wp2_with fail
      refine HF.out.mono ?_
      rintro e w2 ⟨rfl, rfl⟩
      go_wp2_with fail
      refine HF'.out.mono ?_
      rintro e w2 ⟨rfl, rfl⟩
      have HA := Lib.hid (tawake_ok w1)
      have HB := Lib.hid H1.out.to_below
      go_wp2_with fail
      refine HA.out.mono ?_
      rintro e w3 ⟨rfl, hb3⟩
      have HB3 := Lib.hid hb3
      clear hb3
      go_wp2_with fail
      go_ret
      exact ⟨rfl, HB.out.trans (HB3.out.mono HB.out.size)⟩
  · rw [decide_eq_false (by omega : ¬ (n : Int) ≤ 60)] at HF
    go_wp2_with fail
    refine HF.out.mono ?_
    rintro e w2 ⟨rfl, rfl⟩
    have HA := Lib.hid (tawake_ok w1)
    have HB := Lib.hid H1.out.to_below
    go_wp2_with fail
    refine HA.out.mono ?_
    rintro e w3 ⟨rfl, hb3⟩
    have HB3 := Lib.hid hb3
    clear hb3
    go_wp2_with fail
    go_ret
    exact ⟨rfl, HB.out.trans (HB3.out.mono HB.out.size)⟩
end Go.Proofs.Ytkjpkhpiojahkaa
