/-
  Walk: TimersAnew.
-/
import Derived.Test.YtkjpkhpiojahkaaAnew
namespace Go.Proofs.Ytkjpkhpiojahkaa
set_option linter.unusedVariables false
open Go.RowKit Hp
attribute [local go_sem] Oper.semAt_some

set_option maxRecDepth 100000 in
set_option maxHeartbeats 8000000 in
theorem tanew_ok (a : Option Addr) (cap : Nat) (ks : List (Int × Int)) (id t0 t1 : Int) (w : World) (hc : Ke.KeysAt w a ks) (hwf : ∀ k ∈ ks, (Lit.int .i64 k.1).wf = true ∧ (Lit.int .i64 k.2).wf = true) (hid : (Lit.int .i64 id).wf = true) :
    Calls Try.prog 7 #[.slice a ks.length cap, .int .i64 id, .agg #[.int .i64 t0, .int .i64 t1]] w fun e w' => e = .returned (.bool true) ∧ Below w.heap.size w w' := by
  obtain ⟨n, hn⟩ : ∃ n, ks.length = n := ⟨_, rfl⟩
  have hkey : ∀ j, j < n → ∃ b off, a = some ⟨b, off, none⟩ ∧ ∀ A, Below w.heap.size w A → A.cell? ⟨b, off + j * 2, none⟩ = some (.int .i64 (ks[j]?.getD (0, 0)).1) ∧ A.cell? ⟨b, off + j * 2 + 1, none⟩ = some (.int .i64 (ks[j]?.getD (0, 0)).2) := fun j hj => by
    obtain ⟨b, off, rfl, hb, h⟩ := keysAt_get hc (n := n) (by omega) hn
    obtain ⟨h1, h2⟩ := h j hj
    exact ⟨b, off, rfl, fun A hA => ⟨(hA.cell (by exact hb)).trans h1, (hA.cell (by exact hb)).trans h2⟩⟩
  rw [hn]
  have HKey := Lib.hid hkey
  have HN := Lib.hid hn
  have HWf := Lib.hid hwf
  obtain ⟨b0, hb0⟩ : ∃ b, w.heap.size = b := ⟨_, rfl⟩
  obtain ⟨W, hW⟩ : ∃ W, w.alloc (.cells #[.int .i64 t0, .int .i64 t1] 50) = W := ⟨_, rfl⟩
  have h0 := (On.emp w).new1 50 #[.int .i64 t0, .int .i64 t1]
  rw [hW, hb0] at h0
  have HN0 := Lib.hid (T_new h0 1024 (by decide) (by decide))
  clear hc hn hkey hwf h0
  go_enter Try.func7, Try.ntmps7
  go_wp2_with fail
  clear hW
  refine HN0.out.mono ?_
  rintro e w1 ⟨ta, rfl, h1⟩
  have HN1 := Lib.hid (T_new h1 1024 (by decide) (by decide))
  clear h1
  go_wp2_with fail
  refine HN1.out.mono ?_
  rintro e w2 ⟨tb, rfl, h2⟩
  have H2 := Lib.hid h2
  clear h2
  by_cases h40 : n ≤ 40
  · have g1 : decide ((40 : Int) < (n : Int)) = false := by simp; omega
    go_wp2_with fail
    go_loopg [11] n (fun gh s11 wr => ∃ (i : Nat) (S : List (It Int)), i + gh = n ∧ s11 = .int .i64 (i : Int) ∧ Anew (ks.take i) S ∧ On w wr (sep (tqA ta 1024 S 0 0) (sep (tqA tb 1024 S 0 0) (sep (boxA b0 50 #[.int .i64 t0, .int .i64 t1]) emp))))
    case atStart => exact ⟨0, [], by omega, rfl, Anew.start, H2.out.sw0⟩
    case round =>
      obtain ⟨i, S, hi, rfl, hs, hon⟩ := hrel
      by_cases hlt : i < n
      · have hltI : (i : Int) < (n : Int) := by omega
        have hi0 : (0 : Int) ≤ (i : Int) := by omega
        have hond := hon.below (Below.refl _ wr).drew
        obtain ⟨kb, off, rfl, hq⟩ := HKey.out i hlt
        obtain ⟨k, hk⟩ : ∃ k, ks[i]? = some k := ⟨_, List.getElem?_eq_getElem (by rw [HN.out]; exact hlt)⟩
        simp only [hk, Option.getD_some] at hq
        obtain ⟨q0, q1⟩ := hq wr.drew hond.to_below
        have HQ := Lib.hid hq
        have hkw := HWf.out k (List.mem_of_getElem? hk)
        have hlS : S.length < 700000 := by have := hs.len; rw [List.length_take] at this; omega
        obtain ⟨ae, hae⟩ : ∃ e, armE S 1024 k.2 k.1 = e := ⟨_, rfl⟩
        obtain ⟨S2, hS2⟩ : ∃ e, armS S 1024 k.2 k.1 = e := ⟨_, rfl⟩
        have ha1 := T_arm hond hs.sorted hlS k.2 k.1 hkw.2
        have ha2 := fun (A : World) (R' : Ast) (hA : On w A (sep (tqA tb 1024 S 0 0) R')) => T_arm hA hs.sorted hlS k.2 k.1 hkw.2
        rw [hae, hS2] at ha1 ha2
        have HA1 := Lib.hid ha1
        have HA2 := Lib.hid ha2
        have HS2 := Lib.hid (show Anew (ks.take (i + 1)) S2 by
          have := hs.arm k (by rw [List.length_take]; omega)
          rw [hS2] at this
          rw [List.take_add_one, hk]
          exact this)
        have g0 : (ae != ae) = false := by simp
        clear hon hond hs hk hkw hae hS2 ha1 ha2 hlS hq
        go_wp2_with fail
        go_region_held3 (fun A0 => A0.cell? ⟨kb, off + i * 2, none⟩ = some (.int .i64 k.1) ∧ A0.cell? ⟨kb, off + i * 2 + 1, none⟩ = some (.int .i64 k.2))
          (first | (refine ⟨?_, ?_⟩ <;> assumption) | go_keep)
          (first
            | (go_at_call 44; ((with_reducible refine HA1.out.mono ?_); rintro e x1 ⟨rfl, h3⟩; (obtain ⟨q2, q3⟩ := HQ.out x1 h3.to_below); (have HA3 := Lib.hid (HA2.out x1 _ h3.sw0)); clear h3))
            | (go_at_call 44; ((with_reducible refine HA3.out.mono ?_); rintro e x2 ⟨rfl, h4⟩; (obtain ⟨q4, q5⟩ := HQ.out x2 h4.to_below); (have H4 := Lib.hid h4.sw0); clear h4)))
        all_goals go_wp2_with fail
        all_goals
          go_roundg (n - (i + 1))
          case measure => omega
          case rel => exact ⟨i + 1, S2, by omega, by go_num, HS2.out, H4.out⟩
      · have hin : i = n := by omega
        subst hin
        rw [List.take_of_length_le (by rw [HN.out]; exact Nat.le_refl _)] at hs
        have hlS : S.length < 700000 := by have := hs.len; have := HN.out; omega
        have hc1 := T_cancel hon (by omega) id hid
        have HA := Lib.hid hs
        have HC1 := Lib.hid hc1
        clear hs hc1 hon
        go_wp2_with fail
        refine HC1.out.mono ?_
        rintro e x1 ⟨rfl, h3⟩
        have HC2 := Lib.hid (T_cancel h3.sw0 (by omega) id hid)
        clear h3
        go_wp2_with fail
        refine HC2.out.mono ?_
        rintro e x2 ⟨rfl, h4⟩
        have c20 := (h4.sw1.sw0).bx 0 rfl
        have c21 := (h4.sw1.sw0).bx 1 rfl
        have H4 := Lib.hid h4.sw0
        clear h4
        by_cases hts : 0 ≤ t0 ∧ t0 ≤ t1 ∧ t1 < 1099511627776
        · obtain ⟨ht0, ht01, ht1⟩ := hts
          have gt0 : decide (t0 < 0) = false := by simp; omega
          have gt1 : decide (t1 < t0) = false := by simp; omega
          have gt2 : decide (1099511627776 ≤ t1) = false := by simp; omega
          obtain ⟨T, hT⟩ : ∃ T, without S id = T := ⟨_, rfl⟩
          have h4 := H4.out
          rw [hT] at h4
          have hsT : Sorted ltI T := by rw [← hT]; exact HA.out.sorted.sublist without_sub
          have htT : Timed T := fun x hx => HA.out.timed x (by rw [← hT] at hx; exact without_sub.subset hx)
          have hne : ∀ x ∈ T, x.1 ≠ id := fun x hx => by rw [← hT] at hx; simpa using (List.mem_filter.1 hx).2
          have hla : ∀ x ∈ T, lastT ks x.1 = x.2 := fun x hx => HA.out.last x (by rw [← hT] at hx; exact without_sub.subset hx)
          have hTl : T.length ≤ 40 := by have h1 := HA.out.len; have h2 := HN.out; have h3 := without_length_le (S := S) (id := id); rw [hT] at h3; omega
          have hk0 : timeE t0 = 0 := by unfold timeE; rw [if_neg (by omega), if_neg (by omega)]
          have hk1 : timeE t1 = 0 := by unfold timeE; rw [if_neg (by omega), if_neg (by omega)]
          have hd1 := T_due h4 hsT htT (by omega) ((Plain.tq _ _ _ _ _).sepT ((Plain.box _ _ _).sepT Plain.emp.tame)) t0 (dueE_ok hk0 ht0)
          have hup := upto_two (S := T) ht01
          have hll := late_length (S := T) (t := t0)
          have hll2 := late_length (S := late T t0) (t := t1)
          have HLs := Lib.hid (late_sorted (t := t0) hsT)
          have HLt := Lib.hid (Timed.late (t := t0) htT)
          obtain ⟨U0, hU0⟩ : ∃ U, upto T t0 = U := ⟨_, rfl⟩
          obtain ⟨L0, hL0⟩ : ∃ U, late T t0 = U := ⟨_, rfl⟩
          rw [hL0] at hup hll hll2 hd1 HLs HLt
          obtain ⟨U1, hU1⟩ : ∃ U, upto L0 t1 = U := ⟨_, rfl⟩
          rw [hU0] at hup hll hd1
          rw [hU1] at hup hll2
          obtain ⟨ws0, hws0⟩ : ∃ z, worstS 0 t0 U0 = z := ⟨_, rfl⟩
          rw [hws0] at hd1
          have hmem : ∀ x ∈ U0 ++ U1, x ∈ T := fun x hx => (upto_pre T t1).subset (by rw [← hup]; exact hx)
          have HT2 := Lib.hid (show Sorted ltI T ∧ Timed T from ⟨hsT, htT⟩)
          have HMem := Lib.hid (show ∀ x ∈ U0 ++ U1, x.1 ≠ id ∧ lastT ks x.1 = x.2 from fun x hx => ⟨hne x (hmem x hx), hla x (hmem x hx)⟩)
          have HUp := Lib.hid hup
          have HU1 := Lib.hid hU1
          have HD1 := Lib.hid hd1
          have HK1 := Lib.hid hk1
          obtain ⟨u0, hu0⟩ : ∃ u, U0.length = u := ⟨_, rfl⟩
          obtain ⟨u1, hu1⟩ : ∃ u, U1.length = u := ⟨_, rfl⟩
          rw [hu0] at hll
          rw [hu1] at hll2
          have hu01 : u0 + u1 ≤ 40 := by omega
          have hL0l : L0.length ≤ 40 := by omega
          have HUl0 := Lib.hid hu0
          have HUl1 := Lib.hid hu1
          clear h4 hsT htT hne hla hk0 hk1 hd1 hup hU0 hL0 hU1 hws0 hmem hu0 hu1 hT hll hll2
          go_wp2_with fail
          refine HD1.out.mono ?_
          rintro e x3 ⟨v0, rfl, h5⟩
          have d30 := (h5.sw2.sw1.sw0).bx 0 rfl
          have d31 := (h5.sw2.sw1.sw0).bx 1 rfl
          have hd2 := T_due (h5.sw0) HLs.out HLt.out (by omega) ((Plain.fired _ _ _).sepT ((Plain.tq _ _ _ _ _).sepT ((Plain.box _ _ _).sepT Plain.emp.tame))) t1 (dueE_ok HK1.out ht01)
          rw [HU1.out] at hd2
          obtain ⟨L1, hL1⟩ : ∃ U, late L0 t1 = U := ⟨_, rfl⟩
          obtain ⟨ws1, hws1⟩ : ∃ z, worstS ws0 t1 U1 = z := ⟨_, rfl⟩
          rw [hL1, hws1] at hd2
          have HD2 := Lib.hid hd2
          obtain ⟨fa0, fc0, rfl, _, _⟩ := h5.fired1
          rw [HUl0.out] at HD2 ⊢
          clear h5 hd2 hL1 hws1
          go_wp2_with fail
          refine HD2.out.mono ?_
          rintro e x4 ⟨v1, rfl, h6⟩
          have e40 := (h6.sw3.sw2.sw1.sw0).bx 0 rfl
          have e41 := (h6.sw3.sw2.sw1.sw0).bx 1 rfl
          have hd3 := T_due (h6.sw2.sw1.sw0) HT2.out.1 HT2.out.2 (by omega) ((Plain.fired _ _ _).sepT ((Plain.tq _ _ _ _ _).sepT ((Plain.fired _ _ _).sepT ((Plain.box _ _ _).sepT Plain.emp.tame)))) t1 (dueE_ok HK1.out (by omega))
          rw [← HUp.out] at hd3
          obtain ⟨L2, hL2⟩ : ∃ U, late T t1 = U := ⟨_, rfl⟩
          obtain ⟨ws2, hws2⟩ : ∃ z, worstS 0 t1 (U0 ++ U1) = z := ⟨_, rfl⟩
          rw [hL2, hws2] at hd3
          have HD3 := Lib.hid hd3
          obtain ⟨fa1, fc1, rfl, _, _⟩ := h6.fired1
          rw [HUl1.out] at HD3 ⊢
          clear h6 hd3 hL2 hws2
          go_wp2_with fail
          refine HD3.out.mono ?_
          rintro e x5 ⟨v2, rfl, h7⟩
          obtain ⟨fa2, fc2, rfl, _, _⟩ := h7.fired1
          have hlen : (U0 ++ U1).length = u0 + u1 := by rw [List.length_append, HUl0.out, HUl1.out]
          rw [hlen] at h7 ⊢
          have H7 := Lib.hid h7
          obtain ⟨F1, hF1, _⟩ := (h7.sw3.sw2.sw1.sw0).get1
          obtain ⟨F2, hF2, _⟩ := (h7.sw1.sw0).get1
          have hr0 := hF1.1
          have hr1 := Reads.of_own hF2.1
          rw [HUl0.out] at hr0
          rw [HUl1.out] at hr1
          have HR0 := Lib.hid hr0
          have HR1 := Lib.hid hr1
          have hone := fired_one t1 U1
          have hmx : u0 + u1 ≤ maxLen := by unfold maxLen; omega
          have hby : (u0 + u1) * 24 ≤ 140737488355328 := by omega
          clear h7 hF1 hF2 hr0 hr1 hlen
          go_wp2_with (at_builtin; go_loud (refine wpList_append_any (by rfl) _ _ 60 (by rfl) 64 3 24 firedSlice (.slice fa0 u0 fc0) u0 (U0.flatMap (firedC t0)) (by rfl) HR0.out (.slice fa1 u1 fc1) u1 (U1.flatMap (firedC t1)) (by rfl) HR1.out hone hmx hby ?_; intro v' x6 hown hgrow hat; obtain ⟨qq, qn, qcc, rfl⟩ := own_form hown; obtain rfl := own_len hown; have HOw := Lib.hid hown; have HGr := Lib.hid hgrow; have HAt := Lib.hid hat; clear hown hgrow hat))
          have h8 := (H7.out.sw3.sw2.sw1.sw0).row_push (v := .slice fa0 u0 fc0) (Below.refl _ _) HGr.out HOw.out HAt.out
          have h9 := h8.to_late (X := withL t0 U0 ++ withL t1 U1) (by unfold withL; rw [List.length_append, List.length_map, List.length_map, HUl0.out, HUl1.out]) (by rw [List.flatMap_append, withL_flat, withL_flat])
          have H9 := Lib.hid h9
          clear h8 h9
          go_loopg [18] (u0 + u1) (fun gh s18 wr => ∃ k : Nat, k + gh = u0 + u1 ∧ s18 = .int .i64 (k : Int) ∧ Below x6.heap.size x6 wr)
          case atStart => exact ⟨0, by omega, rfl, Below.refl _ _⟩
          case round =>
            obtain ⟨k, hk, rfl, hbw⟩ := hrel
            by_cases hlt : k < u0 + u1
            · have hltI : (k : Int) < ((u0 + u1 : Nat) : Int) := by omega
              have hltN : (k : Int) < (u0 : Int) + (u1 : Int) := by omega
              have hk0 : (0 : Int) ≤ (k : Int) := by omega
              obtain ⟨x, hx⟩ : ∃ x, (U0 ++ U1)[k]? = some x := ⟨_, List.getElem?_eq_getElem (by rw [List.length_append, HUl0.out, HUl1.out]; exact hlt)⟩
              obtain ⟨l, hxl, hle⟩ := two_late (t0 := t0) ht01 hx
              have h10 := H9.out.below hbw
              obtain ⟨b1, off1, rfl, f0', f1', f2'⟩ := H9.out.late_get hxl
              have f0 := zatB f0' hbw
              have f1 := zatB f1' hbw
              have f2 := zatB f2' hbw
              have HF0 := Lib.hid f0'
              have HF1 := Lib.hid f1'
              clear f0' f1' f2'
              obtain ⟨b2, off2, rfl, r0, r1, r2⟩ := h10.sw0.fired_at hx
              obtain ⟨hxi, hxt⟩ := HMem.out x (List.mem_of_getElem? hx)
              have z1 : (x.1 != x.1) = false := by simp
              have z2 : (x.2 != x.2) = false := by simp
              have z3 : decide (t1 - x.2 < l) = false := by simp; omega
              have z4 : (x.1 == id) = false := by simpa using hxi
              have HBw := Lib.hid hbw
              have HXt := Lib.hid hxt
              dsimp only at f0 f1 f2 HF0 HF1
              clear hbw hx hxl h10 hxi hxt
              go_wp2_with fail
              have f0_d := drewC f0
              have f1_d := drewC f1
              have f2_d := drewC f2
              have r0_d := drewC r0
              have r1_d := drewC r1
              have r2_d := drewC r2
              refine wp_region_loose (fun A => A = wr.drew) (by kernel_rfl) (by kernel_rfl) rfl ?_
              repeat (first
                | (refine loose_skip (by rfl) ?_; simp only [Act.put, List.setIfInBounds_toArray, List.set_cons_zero, List.set_cons_succ])
                | (refine loose_val (v := ?_) (by rfl) ?_ ?_; rotate_left; (focus (intro A' hA'; subst hA'; go_simp; first | done | with_reducible rfl)); simp only [Act.put, List.setIfInBounds_toArray, List.set_cons_zero, List.set_cons_succ]))
              refine loose_nil ?_
              intro A3 hA3
              subst hA3
              go_wp2_with fail
              go_loopg [19, 20] i (fun gh s19 s20 wz => ∃ j : Nat, j + gh = i ∧ s19 = .int .i64 (lastT (ks.take j) x.1) ∧ s20 = .int .i64 (j : Int) ∧ Below x6.heap.size x6 wz)
              case atStart => exact ⟨0, by omega, rfl, rfl, HBw.out.drew⟩
              case round =>
                obtain ⟨j, hj, rfl, rfl, hbz⟩ := hrel
                by_cases hlt2 : j < i
                · have hltJ : (j : Int) < (i : Int) := by omega
                  have hj0 : (0 : Int) ≤ (j : Int) := by omega
                  obtain ⟨kb, off, rfl, hq⟩ := HKey.out j hlt2
                  obtain ⟨kk, hkk⟩ : ∃ k, ks[j]? = some k := ⟨_, List.getElem?_eq_getElem (by rw [HN.out]; exact hlt2)⟩
                  simp only [hkk, Option.getD_some] at hq
                  have p0 := zatB HF0.out hbz
                  have HLt2 := Lib.hid (show lastT (ks.take (j + 1)) x.1 = if kk.2 = x.1 ∧ timeE kk.1 = 0 then kk.1 else lastT (ks.take j) x.1 by rw [List.take_add_one, hkk]; exact lastT_snoc _ _ _)
                  obtain ⟨q0, q1⟩ := hq wr (H9.out.below hbz).to_below
                  have HBz := Lib.hid hbz
                  clear hq hbz
                  by_cases c1 : kk.2 = x.1
                  · have z5 : (kk.2 == x.1) = true := by simpa using c1
                    by_cases c2 : 0 ≤ kk.1
                    · by_cases c3 : kk.1 < 1099511627776
                      · have htk : timeE kk.1 = 0 := by unfold timeE; rw [if_neg (by omega), if_neg (by omega)]
                        rw [if_pos ⟨c1, htk⟩] at HLt2
                        clear c1 htk
                        clear hkk
                        go_wp2_with fail
                        have q0_d := drewC q0
                        have q1_d := drewC q1
                        have p0_d := drewC p0
                        refine wp_region_loose (fun A => A = wr.drew) (by kernel_rfl) (by kernel_rfl) rfl ?_
                        repeat (first
                          | (refine loose_skip (by rfl) ?_; simp only [Act.put, List.setIfInBounds_toArray, List.set_cons_zero, List.set_cons_succ])
                          | (refine loose_val (v := ?_) (by rfl) ?_ ?_; rotate_left; (focus (intro A' hA'; subst hA'; go_simp; first | done | with_reducible rfl)); simp only [Act.put, List.setIfInBounds_toArray, List.set_cons_zero, List.set_cons_succ]))
                        refine loose_nil ?_
                        intro A3 hA3
                        subst hA3
                        go_wp2_with fail
                        go_roundg (i - (j + 1))
                        case measure => omega
                        case rel => exact ⟨j + 1, by omega, by rw [HLt2.out], by go_num, HBz.out.drew⟩
                      · have z6 : decide (kk.1 < 1099511627776) = false := by simp; omega
                        rw [if_neg (fun h => c3 (timeE_ok h.2).2)] at HLt2
                        clear c1 c3
                        clear hkk
                        go_wp2_with fail
                        have q0_d := drewC q0
                        have q1_d := drewC q1
                        have p0_d := drewC p0
                        refine wp_region_loose (fun A => A = wr.drew) (by kernel_rfl) (by kernel_rfl) rfl ?_
                        repeat (first
                          | (refine loose_skip (by rfl) ?_; simp only [Act.put, List.setIfInBounds_toArray, List.set_cons_zero, List.set_cons_succ])
                          | (refine loose_val (v := ?_) (by rfl) ?_ ?_; rotate_left; (focus (intro A' hA'; subst hA'; go_simp; first | done | with_reducible rfl)); simp only [Act.put, List.setIfInBounds_toArray, List.set_cons_zero, List.set_cons_succ]))
                        refine loose_nil ?_
                        intro A3 hA3
                        subst hA3
                        go_wp2_with fail
                        go_roundg (i - (j + 1))
                        case measure => omega
                        case rel => exact ⟨j + 1, by omega, by rw [HLt2.out], by go_num, HBz.out.drew⟩
                    · have z6 : decide (0 ≤ kk.1) = false := by simp; omega
                      rw [if_neg (fun h => c2 (timeE_ok h.2).1)] at HLt2
                      clear c1 c2
                      clear hkk
                      go_wp2_with fail
                      have q0_d := drewC q0
                      have q1_d := drewC q1
                      have p0_d := drewC p0
                      refine wp_region_loose (fun A => A = wr.drew) (by kernel_rfl) (by kernel_rfl) rfl ?_
                      repeat (first
                        | (refine loose_skip (by rfl) ?_; simp only [Act.put, List.setIfInBounds_toArray, List.set_cons_zero, List.set_cons_succ])
                        | (refine loose_val (v := ?_) (by rfl) ?_ ?_; rotate_left; (focus (intro A' hA'; subst hA'; go_simp; first | done | with_reducible rfl)); simp only [Act.put, List.setIfInBounds_toArray, List.set_cons_zero, List.set_cons_succ]))
                      refine loose_nil ?_
                      intro A3 hA3
                      subst hA3
                      go_wp2_with fail
                      go_roundg (i - (j + 1))
                      case measure => omega
                      case rel => exact ⟨j + 1, by omega, by rw [HLt2.out], by go_num, HBz.out.drew⟩
                  · have z5 : (kk.2 == x.1) = false := by simpa using c1
                    rw [if_neg (fun h => c1 h.1)] at HLt2
                    clear c1
                    clear hkk
                    go_wp2_with fail
                    have q0_d := drewC q0
                    have q1_d := drewC q1
                    have p0_d := drewC p0
                    refine wp_region_loose (fun A => A = wr.drew) (by kernel_rfl) (by kernel_rfl) rfl ?_
                    repeat (first
                      | (refine loose_skip (by rfl) ?_; simp only [Act.put, List.setIfInBounds_toArray, List.set_cons_zero, List.set_cons_succ])
                      | (refine loose_val (v := ?_) (by rfl) ?_ ?_; rotate_left; (focus (intro A' hA'; subst hA'; go_simp; first | done | with_reducible rfl)); simp only [Act.put, List.setIfInBounds_toArray, List.set_cons_zero, List.set_cons_succ]))
                    refine loose_nil ?_
                    intro A3 hA3
                    subst hA3
                    go_wp2_with fail
                    go_roundg (i - (j + 1))
                    case measure => omega
                    case rel => exact ⟨j + 1, by omega, by rw [HLt2.out], by go_num, HBz.out.drew⟩
                · have hji : j = i := by omega
                  subst hji
                  have hl := HXt.out
                  rw [← List.take_of_length_le (l := ks) (i := j) (by rw [HN.out]; exact Nat.le_refl _)] at hl
                  rw [hl]
                  have p1 := zatB HF1.out hbz
                  have HBz := Lib.hid hbz
                  clear hbz hl
                  go_wp2_with fail
                  go_roundg (u0 + u1 - (k + 1))
                  case measure => omega
                  case rel => exact ⟨k + 1, by omega, by go_num, by first | exact HBz.out | exact HBz.out.drew⟩
            · have hku : k = u0 + u1 := by omega
              subst hku
              have h10 := H9.out.below hbw
              have HB := Lib.hid h10.to_below
              have HNa := Lib.hid (T_now (h10.sw3.sw2.sw1.sw0))
              have HNb := Lib.hid (T_now (h10.sw1.sw0))
              have HAw := Lib.hid (tawake_ok wr)
              have gt : (t1 == t1) = true := by simp
              clear h10 hbw
              go_wp2_with fail
              refine HNa.out.mono ?_
              rintro e x7 ⟨rfl, rfl⟩
              go_wp2_with fail
              refine HNb.out.mono ?_
              rintro e x7 ⟨rfl, rfl⟩
              go_wp2_with fail
              refine HAw.out.mono ?_
              rintro e x8 ⟨rfl, hb8⟩
              have HB8 := Lib.hid hb8
              clear hb8
              go_wp2_with fail
              go_ret
              exact ⟨rfl, HB.out.trans (HB8.out.mono HB.out.size)⟩
        · have HAw := Lib.hid (tawake_ok x2)
          have HB := Lib.hid H4.out.to_below
          by_cases hz0 : t0 < 0
          ·
            clear hts
            go_wp2_with fail
            refine HAw.out.mono ?_
            rintro e w3 ⟨rfl, hb3⟩
            have HB3 := Lib.hid hb3
            clear hb3
            go_wp2_with fail
            go_ret
            exact ⟨rfl, HB.out.trans (HB3.out.mono HB.out.size)⟩
          · have gt0 : decide (t0 < 0) = false := by simp; omega
            by_cases hz1 : t1 < t0
            ·
              clear hts
              go_wp2_with fail
              refine HAw.out.mono ?_
              rintro e w3 ⟨rfl, hb3⟩
              have HB3 := Lib.hid hb3
              clear hb3
              go_wp2_with fail
              go_ret
              exact ⟨rfl, HB.out.trans (HB3.out.mono HB.out.size)⟩
            · have gt1 : decide (t1 < t0) = false := by simp; omega
              have gt2 : decide (1099511627776 ≤ t1) = true := by simp; omega
              clear hts
              go_wp2_with fail
              refine HAw.out.mono ?_
              rintro e w3 ⟨rfl, hb3⟩
              have HB3 := Lib.hid hb3
              clear hb3
              go_wp2_with fail
              go_ret
              exact ⟨rfl, HB.out.trans (HB3.out.mono HB.out.size)⟩
  · have g1 : decide ((40 : Int) < (n : Int)) = true := by simp; omega
    have HA := Lib.hid (tawake_ok w2)
    have HB := Lib.hid H2.out.to_below
    go_wp2_with fail
    refine HA.out.mono ?_
    rintro e w3 ⟨rfl, hb3⟩
    have HB3 := Lib.hid hb3
    clear hb3
    go_wp2_with fail
    go_ret
    exact ⟨rfl, HB.out.trans (HB3.out.mono HB.out.size)⟩
end Go.Proofs.Ytkjpkhpiojahkaa
