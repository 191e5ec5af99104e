/-
  Walk: ClockRuns.
-/
import Derived.Test.YtkjpkhpiojahkaaL27
import Derived.Test.YtkjpkhpiojahkaaCkC
namespace Go.Proofs.Ytkjpkhpiojahkaa
set_option linter.unusedVariables false
open Go.RowKit Hp
attribute [local go_sem] Oper.semAt_some
theorem neq109 (p q r s t p' q' r' s' t' : Int) (w : World) : (binOp BinOp.neq 109 (.agg #[.int .i64 p, .int .i64 q, .int .i64 r, .int .i64 s, .int .i64 t]) (.agg #[.int .i64 p', .int .i64 q', .int .i64 r', .int .i64 s', .int .i64 t'])).run Try.prog w = .ok (.bool (!decide (p = p' ∧ q = q' ∧ r = r' ∧ s = s' ∧ t = t'))) w := by
  go_simp
  by_cases h1 : p = p' <;> by_cases h2 : q = q' <;> by_cases h3 : r = r' <;> by_cases h4 : s = s' <;> by_cases h5 : t = t' <;> simp [h1, h2, h3, h4, h5]
set_option maxRecDepth 100000 in
set_option maxHeartbeats 16000000 in
theorem kruns_ok (a a2 : Option Addr) (cap cap2 : Nat) (os os2 : List Op19) (to : Int) (w : World) (hos : OpsAt19 w a os) (hl : os.length ≤ 9223372036854775807) (hos2 : OpsAt19 w a2 os2) (hl2 : os2.length ≤ 9223372036854775807) :
    Calls Try.prog 23 #[.slice a os.length cap, .slice a2 os2.length cap2, .int .i64 to] w fun e w' => e = .returned (.bool true) ∧ Below w.heap.size w w' := by
  have HFw0 := Lib.hid (fun A (hb : Below w.heap.size w A) => few19_any hos cap A hb hl)
  have HFw1 := Lib.hid (fun A (hb : Below w.heap.size w A) => few19_any hos2 cap2 A hb hl2)
  obtain ⟨n, hn⟩ : ∃ n, os.length = n := ⟨_, rfl⟩
  obtain ⟨n2, hn2⟩ : ∃ n, os2.length = n := ⟨_, rfl⟩
  rw [hn] at HFw0 ⊢
  rw [hn2] at HFw1 ⊢
  have HO := Lib.hid hos
  have HN := Lib.hid hn
  have HO2 := Lib.hid hos2
  have HN2 := Lib.hid hn2
  have HN0 := Lib.hid (K_new (On.emp w))
  clear hos hl hn hos2 hl2 hn2
  by_cases hfew : fewP19 os
  · have HFe := Lib.hid hfew
    have hn60 : n ≤ 60 := by rw [← HN.out]; exact hfew.2
    rw [decide_eq_true hfew] at HFw0
    clear hfew
    by_cases hfew2 : fewP19 os2
    · have HFe2 := Lib.hid hfew2
      have hn60' : n2 ≤ 60 := by rw [← HN2.out]; exact hfew2.2
      rw [decide_eq_true hfew2] at HFw1
      clear hfew2
      go_enter Try.func23, Try.ntmps23
      go_wp2_with fail
      refine HN0.out.mono ?_
      rintro e w1 ⟨cb, rfl, h1⟩
      have HFw := Lib.hid (HFw0.out w1 h1.to_below)
      have HFwb := Lib.hid (HFw1.out w1 h1.to_below)
      obtain ⟨rb, hrb⟩ : ∃ b, w1.heap.size = b := ⟨_, rfl⟩
      obtain ⟨W1, hW1⟩ : ∃ x, w1.alloc (.cells #[.slice none 0 0, .slice none 0 0, .int .i64 0, .int .i64 0] 116) = x := ⟨_, rfl⟩
      have h2 := On.refk_new h1
      rw [hW1, hrb] at h2
      have H2 := Lib.hid h2.sw0
      clear h1 h2 HFw0 HFw1
      go_wp2_with fail
      refine HFw.out.mono ?_
      rintro e w2 ⟨rfl, rfl⟩
      go_wp2_with fail
      refine HFwb.out.mono ?_
      rintro e w2 ⟨rfl, rfl⟩
      go_wp2_with fail
      clear hW1 hrb
      go_loopg [9] n (fun gh s9 wr => ∃ (i : Nat) (c : Ck), i + gh = n ∧ s9 = .int .i64 (i : Int) ∧ CkOk c ∧ c.lates.length ≤ 20 * i ∧ On w wr (sep (ckA cb c) (sep (refK rb c) emp)))
      case atStart => exact ⟨0, Ck.new, by omega, rfl, CkOk.new, Nat.le_refl _, H2.out⟩
      case round =>
        obtain ⟨i, c, hi, rfl, ho, hlt0, hon⟩ := hrel
        by_cases hlt : i < n
        · have hltI : (i : Int) < (n : Int) := by omega
          have hi0 : (0 : Int) ≤ (i : Int) := by omega
          obtain ⟨b, off, o, rfl, hio, q0, q1, q2, q3, q4, hg⟩ := HO.out.get hon.to_below (k := i) (by rw [HN.out]; exact hlt)
          have hz := HFe.out.1 o (List.mem_of_getElem? hio)
          have hdo := does_ok Plain.emp.tame hon ho o hg (by omega)
          have hll := stepK_lates c o
          obtain ⟨G, hG⟩ : ∃ G, stepK c o = G := ⟨_, rfl⟩
          have hoG : CkOk G := by rw [← hG]; exact ho.stepK o
          rw [hG] at hdo hll
          obtain ⟨ask, kd, id, at', la, lc, zs⟩ := o
          obtain ⟨z, hz'⟩ : ∃ z, zs.length = z := ⟨_, rfl⟩
          unfold opV at hdo
          simp only at q0 q1 q2 q3 q4 hz hll hdo
          rw [hz'] at q4 hz hll hdo
          have HDo := Lib.hid hdo
          have HoG := Lib.hid hoG
          have hgl : G.lates.length ≤ 20 * (i + 1) := by omega
          clear hon hio hg hdo hG hoG hz' ho
          go_wp2_with fail
          refine HDo.out.mono ?_
          rintro e x1 ⟨rfl, h3⟩
          have H4 := Lib.hid h3
          clear h3
          go_wp2_with fail
          go_roundg (n - (i + 1))
          case measure => omega
          case rel => exact ⟨i + 1, G, by omega, by go_num, HoG.out, hgl, H4.out⟩
        · have hin : i = n := by omega
          subst hin
          have hco := K_copy hon ho (by omega)
          have HK := Lib.hid hco
          have HRc := Lib.hid (fun (A : World) (X : Ast) (hA : On w A (sep (refK rb c) X)) => RK_copy hA ho (by omega))
          have HRun := Lib.hid (fun (A : World) (X : Ast) (hT : Tame X) (hA : On w A (sep (ckA cb c) X)) => K_run hT hA ho to)
          have HCo := Lib.hid ho
          have HLl := Lib.hid (show c.lates.length ≤ 1200 by omega)
          have hN5 := ho.few
          clear hon hco ho
          go_wp2_with fail
          refine HK.out.mono ?_
          rintro e x1 ⟨nb, rfl, h5⟩
          have HR1 := Lib.hid (HRc.out _ _ (h5.sw1.sw0))
          clear h5
          go_wp2_with fail
          refine HR1.out.mono ?_
          rintro e x2 ⟨ob, rfl, h6⟩
          obtain ⟨T, hT⟩ : ∃ T, (Ck.run (c.S.length + 1) c to).1 = T := ⟨_, rfl⟩
          obtain ⟨D, hD⟩ : ∃ D, (Ck.run (c.S.length + 1) c to).2 = D := ⟨_, rfl⟩
          obtain ⟨E, hE⟩ : ∃ E, c.stepE to = E := ⟨_, rfl⟩
          have hrun := HRun.out _ _ ((Plain.refk _ _).sepT ((Plain.refk _ _).sepT ((Plain.ck _ _).sepT Plain.emp.tame))) (h6.sw2.sw1.sw0.sw1)
          rw [hT, hD, hE] at hrun
          have HRu := Lib.hid hrun
          have HDo := Lib.hid (show CkOk D by rw [← hD]; exact CkOk.run _ HCo.out)
          have HTD := Lib.hid (show Ck.run (c.S.length + 1) c to = (T, D) by rw [← hT, ← hD])
          have HEe := Lib.hid hE
          clear h6 hrun hT hD hE
          go_wp2_with fail
          refine HRu.out.mono ?_
          rintro e x3 ⟨v, rfl, h7⟩
          obtain ⟨ea, ec, rfl⟩ := h7.evs_form
          obtain ⟨mm, hmm⟩ : ∃ m, T.length = m := ⟨_, rfl⟩
          have h7' : On w x3 (sep (evsA (.slice ea T.length ec) T) (sep (ckA cb D) (sep (refK rb c) (sep (refK ob c) (sep (ckA nb c) emp))))) := h7
          rw [hmm] at h7' ⊢
          have HMm := Lib.hid hmm
          have H7 := Lib.hid h7'
          obtain ⟨N, hNn⟩ : ∃ n, c.S.length = n := ⟨_, rfl⟩
          have hTD := HTD.out
          rw [hNn] at hTD hN5
          have HTD2 := Lib.hid hTD
          have HNn := Lib.hid hNn
          clear h7 h7' hmm hTD hNn
          go_wp2_with fail
          go_loopg [14, 15, 16] (N + 1) (fun gh s14 s15 s16 wy => ∃ (k : Nat) (d : Ck) (pre rest : List Ev), k + gh = N + 1 ∧ s14 = .int .i64 (k : Int) ∧ s15 = .int .i64 0 ∧ s16 = .int .i64 (k : Int) ∧ CkOk d ∧ d.stepE to = E ∧ T = pre ++ rest ∧ pre.length = k ∧ Ck.run gh d to = (rest, D) ∧ d.S.length < gh ∧
            On w wy (sep (evsA (.slice ea mm ec) T) (sep (ckA cb D) (sep (refK rb d) (sep (refK ob c) (sep (ckA nb c) emp))))))
          case atStart => exact ⟨0, c, [], T, by omega, rfl, rfl, rfl, HCo.out, HEe.out, rfl, rfl, HTD2.out, by rw [HNn.out]; exact Nat.lt_succ_self _, H7.out⟩
          case round =>
            obtain ⟨k, d, pre, rest, hk, rfl, rfl, rfl, hod, hdE, hTp, hpl, hrun, hdl, hon⟩ := hrel
            obtain ⟨g1, rfl⟩ : ∃ g, gk = g + 1 := ⟨gk - 1, by omega⟩
            have hk6 : (k : Int) ≤ 600 := by omega
            have hk6N : k ≤ 600 := by omega
            have hst := RK_step (hon.sw1.sw0) hod to
            rw [hdE] at hst
            cases hV : d.stepV to with
            | none =>
              rw [run_zero d to g1 hV] at hrun
              obtain ⟨hr1, hr2⟩ := Prod.mk.inj hrun
              rw [hV, hr2] at hst
              have hkm : mm = k := by rw [← HMm.out, hTp, ← hr1, List.append_nil]; exact hpl
              subst hkm
              have HSt := Lib.hid (show Calls Try.prog 86 #[.pointer (some ⟨rb, 0, none⟩), .int .i64 to] wr fun e w' => e = .returned (.tuple #[.agg #[.int .i64 (-1), .int .i64 0, .int .i64 0, .int .i64 0], .int .i64 E]) ∧ On w w' (sep (refK rb D) (sep (evsA (.slice ea mm ec) T) (sep (ckA cb D) (sep (refK ob c) (sep (ckA nb c) emp))))) from hst)
              clear hst hon hod hdE hTp hpl hrun hr1 hr2 hV hdl
              by_cases hE0 : E = 0
              · have z : (E != 0) = false := by simpa using hE0
                clear hE0
                go_wp2_with fail
                refine HSt.out.mono ?_
                rintro e y0 ⟨rfl, h3⟩
                obtain ⟨b8, hb8⟩ : ∃ b, y0.heap.size = b := ⟨_, rfl⟩
                obtain ⟨W2, hW2⟩ : ∃ x, y0.alloc (.cells #[.int .i64 (-1), .int .i64 0, .int .i64 0, .int .i64 0] 124) = x := ⟨_, rfl⟩
                have h4 := h3.new1 124 #[.int .i64 (-1), .int .i64 0, .int .i64 0, .int .i64 0]
                rw [hW2, hb8] at h4
                have k00 := (h4).bx 0 rfl
                have k00f := ((h4).box1 0).2
                have k01 := (h4).bx 1 rfl
                have k01f := ((h4).box1 1).2
                have k02 := (h4).bx 2 rfl
                have k02f := ((h4).box1 2).2
                have k03 := (h4).bx 3 rfl
                have k03f := ((h4).box1 3).2
                have s1 := h4.set_same 1 rfl
                have s2 := h4.set_same 2 rfl
                have s3 := h4.set_same 3 rfl
                have H9 := Lib.hid (h4.sw1.sw2.sw4).out1
                clear h3 h4
                have HSm := Lib.hid (fun (A : World) (hA : On w A (sep (evsA (.slice ea mm ec) T) (sep (ckA cb D) (sep (refK rb D) (sep (ckA nb c) (sep (refK ob c) emp)))))) => same_ok ((Plain.evs _ _).sepT ((Plain.ck _ _).sepT ((Plain.refk _ _).sepT Plain.emp.tame))) (hA.sw0.sw1) HDo.out)
                have HSm2 := Lib.hid (fun (A : World) (hA : On w A (sep (ckA cb D) (sep (refK rb D) (sep (evsA (.slice ea mm ec) T) (sep (ckA nb c) (sep (refK ob c) emp)))))) => same_ok ((Plain.evs _ _).sepT ((Plain.ck _ _).sepT ((Plain.refk _ _).sepT Plain.emp.tame))) (hA.sw2.sw1.sw0.sw3.sw2.sw1.sw3.sw2) HCo.out)
                have HS1 := Lib.hid (HSm.out _ H9.out)
                have zE : (E != E) = false := by simp
                have zk : ((mm : Int) != (mm : Int)) = false := by simp
                go_wp2_with fail
                refine HS1.out.mono ?_
                rintro e y1 ⟨rfl, g1⟩
                have HS2 := Lib.hid (HSm2.out y1 g1)
                clear g1
                go_wp2_with fail
                refine HS2.out.mono ?_
                rintro e y2 ⟨rfl, g2⟩
                have HG2 := Lib.hid (g2.sw2.sw3)
                clear g2
                go_wp2_with fail
                go_loopg [19] n2 (fun gh s19 wz => ∃ (j : Nat) (d : Ck), j + gh = n2 ∧ s19 = .int .i64 (j : Int) ∧ CkOk d ∧ d.lates.length ≤ 1200 + 20 * j ∧ On w wz (sep (ckA nb d) (sep (refK ob d) (sep (ckA cb D) (sep (refK rb D) (sep (evsA (.slice ea mm ec) T) emp))))))
                case atStart => exact ⟨0, c, by omega, rfl, HCo.out, by have := HLl.out; omega, HG2.out⟩
                case round =>
                  obtain ⟨j, d, hj, rfl, hod, hdl, hon⟩ := hrel
                  by_cases hlt : j < n2
                  · have hltI : (j : Int) < (n2 : Int) := by omega
                    have hj0 : (0 : Int) ≤ (j : Int) := by omega
                    obtain ⟨b, off, o, rfl, hio, q0, q1, q2, q3, q4, hg⟩ := HO2.out.get hon.to_below (k := j) (by rw [HN2.out]; exact hlt)
                    have hz := HFe2.out.1 o (List.mem_of_getElem? hio)
                    have hdo := does_ok ((Plain.ck _ _).sepT ((Plain.refk _ _).sepT ((Plain.evs _ _).sepT Plain.emp.tame))) hon hod o hg (by omega)
                    have hll := stepK_lates d o
                    obtain ⟨G, hG⟩ : ∃ G, stepK d o = G := ⟨_, rfl⟩
                    have hoG : CkOk G := by rw [← hG]; exact hod.stepK o
                    rw [hG] at hdo hll
                    obtain ⟨ask, kd, id, at', la, lc, zs⟩ := o
                    obtain ⟨z, hz'⟩ : ∃ z, zs.length = z := ⟨_, rfl⟩
                    unfold opV at hdo
                    simp only at q0 q1 q2 q3 q4 hz hll hdo
                    rw [hz'] at q4 hz hll hdo
                    have HDo2 := Lib.hid hdo
                    have HoG := Lib.hid hoG
                    have hgl : G.lates.length ≤ 1200 + 20 * (j + 1) := by omega
                    clear hon hio hg hdo hG hoG hz' hod
                    go_wp2_with fail
                    refine HDo2.out.mono ?_
                    rintro e x1 ⟨rfl, h3⟩
                    have H3 := Lib.hid h3
                    clear h3
                    go_wp2_with fail
                    go_roundg (n2 - (j + 1))
                    case measure => omega
                    case rel => exact ⟨j + 1, G, by omega, by go_num, HoG.out, hgl, H3.out⟩
                  · have hjn : j = n2 := by omega
                    subst hjn
                    have hsa := same_ok ((Plain.ck _ _).sepT ((Plain.refk _ _).sepT ((Plain.evs _ _).sepT Plain.emp.tame))) (hon.sw1.sw0.sw2.sw1) HDo.out
                    have HSa := Lib.hid hsa
                    have HSb := Lib.hid (fun (A : World) (hA : On w A (sep (ckA cb D) (sep (refK rb D) (sep (ckA nb d) (sep (refK ob d) (sep (evsA (.slice ea mm ec) T) emp)))))) => same_ok ((Plain.ck _ _).sepT ((Plain.refk _ _).sepT ((Plain.evs _ _).sepT Plain.emp.tame))) (hA.sw1.sw0.sw2.sw1) hod)
                    clear hsa hon hod
                    go_wp2_with fail
                    refine HSa.out.mono ?_
                    rintro e z1 ⟨rfl, g3⟩
                    have HSc := Lib.hid (HSb.out z1 g3)
                    clear g3
                    go_wp2_with fail
                    refine HSc.out.mono ?_
                    rintro e z2 ⟨rfl, g4⟩
                    have HF := Lib.hid g4.to_below
                    have HAw := Lib.hid (kawake_ok z2)
                    clear g4
                    go_wp2_with fail
                    refine HAw.out.mono ?_
                    rintro e x4 ⟨rfl, hb4⟩
                    have HB4 := Lib.hid hb4
                    clear hb4
                    go_wp2_with fail
                    go_ret
                    exact ⟨rfl, HF.out.trans (HB4.out.mono HF.out.size)⟩
              · have z : (E != 0) = true := by simpa using hE0
                go_wp2_with fail
                refine HSt.out.mono ?_
                rintro e y0 ⟨rfl, h3⟩
                obtain ⟨b8, hb8⟩ : ∃ b, y0.heap.size = b := ⟨_, rfl⟩
                obtain ⟨W2, hW2⟩ : ∃ x, y0.alloc (.cells #[.int .i64 (-1), .int .i64 0, .int .i64 0, .int .i64 0] 124) = x := ⟨_, rfl⟩
                have h4 := h3.new1 124 #[.int .i64 (-1), .int .i64 0, .int .i64 0, .int .i64 0]
                rw [hW2, hb8] at h4
                have k00 := (h4).bx 0 rfl
                have k00f := ((h4).box1 0).2
                have k01 := (h4).bx 1 rfl
                have k01f := ((h4).box1 1).2
                have k02 := (h4).bx 2 rfl
                have k02f := ((h4).box1 2).2
                have k03 := (h4).bx 3 rfl
                have k03f := ((h4).box1 3).2
                have s1 := h4.set_same 1 rfl
                have s2 := h4.set_same 2 rfl
                have s3 := h4.set_same 3 rfl
                have H9 := Lib.hid (h4.sw1.sw2.sw4).out1
                clear h3 h4
                have HSm := Lib.hid (fun (A : World) (hA : On w A (sep (evsA (.slice ea mm ec) T) (sep (ckA cb D) (sep (refK rb D) (sep (ckA nb c) (sep (refK ob c) emp)))))) => same_ok ((Plain.evs _ _).sepT ((Plain.ck _ _).sepT ((Plain.refk _ _).sepT Plain.emp.tame))) (hA.sw0.sw1) HDo.out)
                have HSm2 := Lib.hid (fun (A : World) (hA : On w A (sep (ckA cb D) (sep (refK rb D) (sep (evsA (.slice ea mm ec) T) (sep (ckA nb c) (sep (refK ob c) emp)))))) => same_ok ((Plain.evs _ _).sepT ((Plain.ck _ _).sepT ((Plain.refk _ _).sepT Plain.emp.tame))) (hA.sw2.sw1.sw0.sw3.sw2.sw1.sw3.sw2) HCo.out)
                have HS1 := Lib.hid (HSm.out _ H9.out)
                have zE : (E != E) = false := by simp
                have zk : ((mm : Int) != (mm : Int)) = false := by simp
                go_wp2_with fail
                refine HS1.out.mono ?_
                rintro e y1 ⟨rfl, g1⟩
                have HS2 := Lib.hid (HSm2.out y1 g1)
                clear g1
                go_wp2_with fail
                refine HS2.out.mono ?_
                rintro e y2 ⟨rfl, g2⟩
                have HG2 := Lib.hid (g2.sw2.sw3)
                clear g2
                go_wp2_with fail
                go_loopg [19] n2 (fun gh s19 wz => ∃ (j : Nat) (d : Ck), j + gh = n2 ∧ s19 = .int .i64 (j : Int) ∧ CkOk d ∧ d.lates.length ≤ 1200 + 20 * j ∧ On w wz (sep (ckA nb d) (sep (refK ob d) (sep (ckA cb D) (sep (refK rb D) (sep (evsA (.slice ea mm ec) T) emp))))))
                case atStart => exact ⟨0, c, by omega, rfl, HCo.out, by have := HLl.out; omega, HG2.out⟩
                case round =>
                  obtain ⟨j, d, hj, rfl, hod, hdl, hon⟩ := hrel
                  by_cases hlt : j < n2
                  · have hltI : (j : Int) < (n2 : Int) := by omega
                    have hj0 : (0 : Int) ≤ (j : Int) := by omega
                    obtain ⟨b, off, o, rfl, hio, q0, q1, q2, q3, q4, hg⟩ := HO2.out.get hon.to_below (k := j) (by rw [HN2.out]; exact hlt)
                    have hz := HFe2.out.1 o (List.mem_of_getElem? hio)
                    have hdo := does_ok ((Plain.ck _ _).sepT ((Plain.refk _ _).sepT ((Plain.evs _ _).sepT Plain.emp.tame))) hon hod o hg (by omega)
                    have hll := stepK_lates d o
                    obtain ⟨G, hG⟩ : ∃ G, stepK d o = G := ⟨_, rfl⟩
                    have hoG : CkOk G := by rw [← hG]; exact hod.stepK o
                    rw [hG] at hdo hll
                    obtain ⟨ask, kd, id, at', la, lc, zs⟩ := o
                    obtain ⟨z, hz'⟩ : ∃ z, zs.length = z := ⟨_, rfl⟩
                    unfold opV at hdo
                    simp only at q0 q1 q2 q3 q4 hz hll hdo
                    rw [hz'] at q4 hz hll hdo
                    have HDo2 := Lib.hid hdo
                    have HoG := Lib.hid hoG
                    have hgl : G.lates.length ≤ 1200 + 20 * (j + 1) := by omega
                    clear hon hio hg hdo hG hoG hz' hod
                    go_wp2_with fail
                    refine HDo2.out.mono ?_
                    rintro e x1 ⟨rfl, h3⟩
                    have H3 := Lib.hid h3
                    clear h3
                    go_wp2_with fail
                    go_roundg (n2 - (j + 1))
                    case measure => omega
                    case rel => exact ⟨j + 1, G, by omega, by go_num, HoG.out, hgl, H3.out⟩
                  · have hjn : j = n2 := by omega
                    subst hjn
                    have hsa := same_ok ((Plain.ck _ _).sepT ((Plain.refk _ _).sepT ((Plain.evs _ _).sepT Plain.emp.tame))) (hon.sw1.sw0.sw2.sw1) HDo.out
                    have HSa := Lib.hid hsa
                    have HSb := Lib.hid (fun (A : World) (hA : On w A (sep (ckA cb D) (sep (refK rb D) (sep (ckA nb d) (sep (refK ob d) (sep (evsA (.slice ea mm ec) T) emp)))))) => same_ok ((Plain.ck _ _).sepT ((Plain.refk _ _).sepT ((Plain.evs _ _).sepT Plain.emp.tame))) (hA.sw1.sw0.sw2.sw1) hod)
                    clear hsa hon hod
                    go_wp2_with fail
                    refine HSa.out.mono ?_
                    rintro e z1 ⟨rfl, g3⟩
                    have HSc := Lib.hid (HSb.out z1 g3)
                    clear g3
                    go_wp2_with fail
                    refine HSc.out.mono ?_
                    rintro e z2 ⟨rfl, g4⟩
                    have HF := Lib.hid g4.to_below
                    have HAw := Lib.hid (kawake_ok z2)
                    clear g4
                    go_wp2_with fail
                    refine HAw.out.mono ?_
                    rintro e x4 ⟨rfl, hb4⟩
                    have HB4 := Lib.hid hb4
                    clear hb4
                    go_wp2_with fail
                    go_ret
                    exact ⟨rfl, HF.out.trans (HB4.out.mono HF.out.size)⟩
            | some v =>
              obtain ⟨q1, q2, q3⟩ := stepV_some hV
              have hE0 : E = 0 := by rw [← hdE]; exact q1
              subst hE0
              rw [run_some d to g1 hV] at hrun
              obtain ⟨hr1, hr2⟩ := Prod.mk.inj hrun
              obtain ⟨hv1, hv2⟩ := stepV_ev hod hV
              obtain ⟨kd, id, at', lt, nw⟩ := v
              simp only at hv1 hv2
              rw [hV] at hst
              obtain ⟨G, hG⟩ : ∃ G, d.step to = G := ⟨_, rfl⟩
              have hoG : CkOk G := by rw [← hG]; exact hod.step
              rw [hG] at hst q2 q3 hr1 hr2
              have HSt := Lib.hid (show Calls Try.prog 86 #[.pointer (some ⟨rb, 0, none⟩), .int .i64 to] wr fun e w' => e = .returned (.tuple #[.agg #[.int .i64 kd, .int .i64 id, .int .i64 at', .int .i64 nw], .int .i64 0]) ∧ On w w' (sep (refK rb G) (sep (evsA (.slice ea mm ec) T) (sep (ckA cb D) (sep (refK ob c) (sep (ckA nb c) emp))))) from hst)
              have hTk : T[k]? = some (⟨kd, id, at', lt, nw⟩ : Ev) := by
                rw [hTp, ← hr1, List.getElem?_append_right (by omega), hpl, Nat.sub_self]
                rfl
              have hkm : k < mm := by rw [← HMm.out]; exact (List.getElem?_eq_some_iff.1 hTk).1
              have HTk := Lib.hid hTk
              have HTp := Lib.hid (show T = (pre ++ [(⟨kd, id, at', lt, nw⟩ : Ev)]) ++ (Ck.run g1 G to).1 by rw [hTp, ← hr1, List.append_assoc]; rfl)
              have HPl := Lib.hid (show (pre ++ [(⟨kd, id, at', lt, nw⟩ : Ev)]).length = k + 1 by rw [List.length_append, hpl]; rfl)
              have HRn := Lib.hid (show Ck.run g1 G to = ((Ck.run g1 G to).1, D) by rw [← hr2])
              have HoG := Lib.hid hoG
              have HQ2 := Lib.hid q2
              have hGl : G.S.length < g1 := by omega
              have hkI : (k : Int) < (mm : Int) := by omega
              have hk0 : (0 : Int) ≤ (k : Int) := by omega
              have hkd1 : decide ((mm : Int) ≤ (k : Int)) = false := decide_eq_false (by omega)
              have hkd2 : ¬ (mm : Int) ≤ (k : Int) := by omega
              have hkd3 : decide (mm ≤ k) = false := decide_eq_false (by omega)
              have hkd4 : ¬ mm ≤ k := by omega
              have hq : ∀ w, (binOp BinOp.neq 109 (.agg #[.int .i64 kd, .int .i64 id, .int .i64 at', .int .i64 lt, .int .i64 nw]) (.agg #[.int .i64 kd, .int .i64 id, .int .i64 at', .int .i64 lt, .int .i64 nw])).run Try.prog w = .ok (.bool false) w := fun w => by rw [neq109]; simp
              clear hst hon hod hdE hTp hpl hrun hr1 hr2 hV hdl hTk hoG q1 q2 q3 hG
              go_wp2_with fail
              refine HSt.out.mono ?_
              rintro e y0 ⟨rfl, h3⟩
              obtain ⟨b8, hb8⟩ : ∃ b, y0.heap.size = b := ⟨_, rfl⟩
              obtain ⟨W2, hW2⟩ : ∃ x, y0.alloc (.cells #[.int .i64 kd, .int .i64 id, .int .i64 at', .int .i64 nw] 124) = x := ⟨_, rfl⟩
              have h4 := h3.new1 124 #[.int .i64 kd, .int .i64 id, .int .i64 at', .int .i64 nw]
              rw [hW2, hb8] at h4
              have k00 := (h4).bx 0 rfl
              have k01 := (h4).bx 1 rfl
              have k02 := (h4).bx 2 rfl
              have k03 := (h4).bx 3 rfl
              obtain ⟨eb, rfl, f0, f1, f2, f3, f4⟩ := (h4.sw1.sw0).evs_at HTk.out
              have H9 := Lib.hid (h4.sw1.sw2).out1
              clear h3 h4
              go_wp2_with fail
              have k00_d := drewC k00
              have k01_d := drewC k01
              have k02_d := drewC k02
              have k03_d := drewC k03
              have f0_d := drewC f0
              have f1_d := drewC f1
              have f2_d := drewC f2
              have f3_d := drewC f3
              have f4_d := drewC f4
              refine wp_region_loose (fun A => A = W2.drew) (by kernel_rfl) (by kernel_rfl) rfl ?_
              repeat (first
                | (refine loose_skip (by rfl) ?_; simp only [Act.put, List.setIfInBounds_toArray, List.set_cons_zero, List.set_cons_succ])
                | (refine loose_val (v := ?_) (by rfl) ?_ ?_; rotate_left; (focus (intro A' hA'; subst hA'; go_simp; first | done | with_reducible rfl)); simp only [Act.put, List.setIfInBounds_toArray, List.set_cons_zero, List.set_cons_succ]))
              refine loose_nil ?_
              intro A3 hA3
              subst hA3
              go_wp2_with fail
              go_roundg g1
              case measure => omega
              case rel => exact ⟨k + 1, G, pre ++ [⟨kd, id, at', lt, nw⟩], (Ck.run g1 G to).1, by omega, by go_num, rfl, by go_num, HoG.out, HQ2.out, HTp.out, HPl.out, HRn.out, hGl, H9.out.below (Below.refl _ W2).drew⟩
    · rw [decide_eq_false hfew2] at HFw1
      clear hfew2
      go_enter Try.func23, Try.ntmps23
      go_wp2_with fail
      refine HN0.out.mono ?_
      rintro e w1 ⟨cb, rfl, h1⟩
      have HFw := Lib.hid (HFw0.out w1 h1.to_below)
      have HFwb := Lib.hid (HFw1.out w1 h1.to_below)
      have HF := Lib.hid h1.to_below
      clear h1
      go_wp2_with fail
      refine HFw.out.mono ?_
      rintro e w2 ⟨rfl, rfl⟩
      go_wp2_with fail
      refine HFwb.out.mono ?_
      rintro e w2 ⟨rfl, rfl⟩
      have HAw := Lib.hid (kawake_ok w2)
      go_wp2_with fail
      refine HAw.out.mono ?_
      rintro e x4 ⟨rfl, hb4⟩
      have HB4 := Lib.hid hb4
      clear hb4
      go_wp2_with fail
      go_ret
      exact ⟨rfl, HF.out.trans (HB4.out.mono HF.out.size)⟩
  · rw [decide_eq_false hfew] at HFw0
    clear hfew
    go_enter Try.func23, Try.ntmps23
    go_wp2_with fail
    refine HN0.out.mono ?_
    rintro e w1 ⟨cb, rfl, h1⟩
    have HFw := Lib.hid (HFw0.out w1 h1.to_below)
    have HF := Lib.hid h1.to_below
    clear h1
    go_wp2_with fail
    refine HFw.out.mono ?_
    rintro e w2 ⟨rfl, rfl⟩
    have HAw := Lib.hid (kawake_ok w2)
    go_wp2_with fail
    refine HAw.out.mono ?_
    rintro e x4 ⟨rfl, hb4⟩
    have HB4 := Lib.hid hb4
    clear hb4
    go_wp2_with fail
    go_ret
    exact ⟨rfl, HF.out.trans (HB4.out.mono HF.out.size)⟩
end Go.Proofs.Ytkjpkhpiojahkaa
