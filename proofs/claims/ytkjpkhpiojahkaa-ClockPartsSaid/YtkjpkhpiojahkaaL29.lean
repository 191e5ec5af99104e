/-
  Walk: ClockParts.
-/
import Derived.Test.YtkjpkhpiojahkaaL28
import Derived.Test.YtkjpkhpiojahkaaCkP
namespace Go.Proofs.Ytkjpkhpiojahkaa
set_option linter.unusedVariables false
open Go.RowKit Hp
attribute [local go_sem] Oper.semAt_some
theorem filter_at {α : Type} (p : α → Bool) {M : List α} {i : Nat} {v : α} (h : M[i]? = some v) : M.filter p = (M.take i).filter p ++ (if p v then v :: (M.drop (i + 1)).filter p else (M.drop (i + 1)).filter p) := by
  have hl := (List.getElem?_eq_some_iff.1 h).1
  have e : M = M.take i ++ v :: M.drop (i + 1) := by
    conv => lhs; rw [← List.take_append_drop i M]
    congr 1
    rw [List.drop_eq_getElem_cons hl]
    congr 1
    rw [List.getElem?_eq_getElem hl] at h
    exact Option.some.inj h
  conv => lhs; rw [e]
  rw [List.filter_append]
  congr 1
  by_cases hp : p v = true
  · rw [List.filter_cons_of_pos hp, if_pos hp]
  · rw [List.filter_cons_of_neg hp, if_neg hp]
set_option maxRecDepth 100000 in
set_option maxHeartbeats 16000000 in
theorem kparts_ok (a : Option Addr) (cap : Nat) (os : List Op19) (t0 t1 : Int) (o : Op19) (w : World) (hos : OpsAt19 w a os) (hl : os.length ≤ 9223372036854775807) :
    Calls Try.prog 22 #[.slice a os.length cap, .agg #[.int .i64 t0, .int .i64 t1], .agg (opV o).toArray] w fun e w' => e = .returned (.bool true) ∧ Below w.heap.size w w' := by
  obtain ⟨ask, kd, id, at', la, lc, lzs⟩ := o
  show Calls Try.prog 22 #[.slice a os.length cap, .agg #[.int .i64 t0, .int .i64 t1], .agg #[.int .i64 ask, .int .i64 kd, .int .i64 id, .int .i64 at', .slice la lzs.length lc]] w _
  obtain ⟨lz, hlz⟩ : ∃ n, lzs.length = n := ⟨_, rfl⟩
  rw [hlz]
  clear hlz
  have HFw0 := Lib.hid (fun A (hb : Below w.heap.size w A) => few19_any hos cap A hb hl)
  obtain ⟨n, hn⟩ : ∃ n, os.length = n := ⟨_, rfl⟩
  rw [hn] at HFw0 ⊢
  have HO := Lib.hid hos
  have HN := Lib.hid hn
  obtain ⟨b4, hb4⟩ : ∃ b, w.heap.size = b := ⟨_, rfl⟩
  obtain ⟨V4, hV4⟩ : ∃ x, w.alloc (.cells #[.int .i64 t0, .int .i64 t1] 50) = x := ⟨_, rfl⟩
  have hh4 := (On.emp w).new1 50 #[.int .i64 t0, .int .i64 t1]
  rw [hV4, hb4] at hh4
  obtain ⟨b5, hb5⟩ : ∃ b, V4.heap.size = b := ⟨_, rfl⟩
  obtain ⟨V5, hV5⟩ : ∃ x, V4.alloc (.cells #[.int .i64 ask, .int .i64 kd, .int .i64 id, .int .i64 at', .slice la lz lc] 119) = x := ⟨_, rfl⟩
  have hh5 := hh4.new1 119 #[.int .i64 ask, .int .i64 kd, .int .i64 id, .int .i64 at', .slice la lz lc]
  rw [hV5, hb5] at hh5
  have HN0 := Lib.hid (K_new hh5.sw0)
  clear hos hl hn hh4 hh5
  by_cases hfew : fewP19 os
  · have HFe := Lib.hid hfew
    have hn60 : n ≤ 60 := by rw [← HN.out]; exact hfew.2
    rw [decide_eq_true hfew] at HFw0
    clear hfew
    go_enter Try.func22, Try.ntmps22
    go_wp2_with fail
    refine HN0.out.mono ?_
    rintro e w1 ⟨cb, rfl, h1⟩
    have HFw := Lib.hid (HFw0.out w1 h1.to_below)
    obtain ⟨rb, hrb⟩ : ∃ b, w1.heap.size = b := ⟨_, rfl⟩
    obtain ⟨W1, hW1⟩ : ∃ x, w1.alloc (.cells #[.slice none 0 0, .slice none 0 0, .int .i64 0, .int .i64 0] 116) = x := ⟨_, rfl⟩
    have h2 := On.refk_new h1
    rw [hW1, hrb] at h2
    have H2 := Lib.hid h2.sw0
    clear h1 h2 HFw0 hV4 hV5
    go_wp2_with fail
    refine HFw.out.mono ?_
    rintro e w2 ⟨rfl, rfl⟩
    go_wp2_with fail
    clear hW1 hrb hb4 hb5
    go_loopg [9] n (fun gh s9 wr => ∃ (i : Nat) (c : Ck), i + gh = n ∧ s9 = .int .i64 (i : Int) ∧ CkOk c ∧ c.lates.length ≤ 20 * i ∧ On w wr (sep (ckA cb c) (sep (refK rb c) (sep (boxA b4 50 #[.int .i64 t0, .int .i64 t1]) (sep (boxA b5 119 #[.int .i64 ask, .int .i64 kd, .int .i64 id, .int .i64 at', .slice la lz lc]) emp)))))
    case atStart => exact ⟨0, Ck.new, by omega, rfl, CkOk.new, Nat.le_refl _, H2.out⟩
    case round =>
      obtain ⟨i, c, hi, rfl, ho, hlt0, hon⟩ := hrel
      by_cases hlt : i < n
      · have hltI : (i : Int) < (n : Int) := by omega
        have hi0 : (0 : Int) ≤ (i : Int) := by omega
        obtain ⟨b, off, o, rfl, hio, q0, q1, q2, q3, q4, hg⟩ := HO.out.get hon.to_below (k := i) (by rw [HN.out]; exact hlt)
        have hz := HFe.out.1 o (List.mem_of_getElem? hio)
        have hdo := does_ok ((Plain.box _ _ _).sepT ((Plain.box _ _ _).sepT Plain.emp.tame)) hon ho o hg (by omega)
        have hll := stepK_lates c o
        obtain ⟨G, hG⟩ : ∃ G, stepK c o = G := ⟨_, rfl⟩
        have hoG : CkOk G := by rw [← hG]; exact ho.stepK o
        rw [hG] at hdo hll
        obtain ⟨ask2, kd2, id2, at2, la2, lc2, zs2⟩ := o
        obtain ⟨z, hz'⟩ : ∃ z, zs2.length = z := ⟨_, rfl⟩
        unfold opV at hdo
        simp only at q0 q1 q2 q3 q4 hz hll hdo
        rw [hz'] at q4 hz hll hdo
        have HDo := Lib.hid hdo
        have HoG := Lib.hid hoG
        have hgl : G.lates.length ≤ 20 * (i + 1) := by omega
        clear hon hio hg hdo hG hoG hz' ho
        go_wp2_with fail
        refine HDo.out.mono ?_
        rintro e x1 ⟨rfl, h3⟩
        have H4 := Lib.hid h3
        clear h3
        go_wp2_with fail
        go_roundg (n - (i + 1))
        case measure => omega
        case rel => exact ⟨i + 1, G, by omega, by go_num, HoG.out, hgl, H4.out⟩
      · have hin : i = n := by omega
        subst hin
        have HK := Lib.hid (fun (A : World) (X : Ast) (hA : On w A (sep (ckA cb c) X)) => K_copy hA ho (by omega))
        have HK1 := Lib.hid (HK.out _ _ hon)
        have HO1 := Lib.hid ho
        have hnow0 := timeE_iff.1 ho.now
        obtain ⟨now, hnow⟩ : ∃ n, c.now = n := ⟨_, rfl⟩
        rw [hnow] at hnow0
        have HNow := Lib.hid hnow
        clear hon ho hnow
        go_wp2_with fail
        refine HK1.out.mono ?_
        rintro e x1 ⟨db, rfl, h5⟩
        have HK2 := Lib.hid (HK.out _ _ h5.sw0)
        clear h5
        go_wp2_with fail
        refine HK2.out.mono ?_
        rintro e x2 ⟨xb, rfl, h6⟩
        have h6d := h6.below (Below.refl _ x2).drew
        have hno := K_now (h6d.sw0) HO1.out
        rw [HNow.out] at hno
        have HNoC := Lib.hid (show ∀ A, A = x2.drew → Calls Try.prog 78 #[.pointer (some ⟨cb, 0, none⟩)] A fun e w' => e = .returned (.int .i64 now) ∧ w' = x2.drew from fun A hA => by subst hA; exact hno.mono fun e w' ⟨h1, h2⟩ => ⟨h1, h2.symm⟩)
        have p0 := (h6d.sw3.sw2.sw1.sw0).bx 0 rfl
        have p1 := (h6d.sw3.sw2.sw1.sw0).bx 1 rfl
        have H6 := Lib.hid h6d
        clear h6 h6d hno
        go_wp2_with fail
        by_cases hbad : t0 < now ∨ t1 < t0 ∨ 1099511627776 ≤ t1
        · by_cases g1 : t0 < now
          · have g1' : decide (t0 < now) = true := decide_eq_true g1
            refine wp_region_loose (fun A => A = x2.drew) (by kernel_rfl) (by kernel_rfl) rfl ?_
            repeat (first
              | (refine loose_skip (by rfl) ?_; simp only [Act.put, List.setIfInBounds_toArray, List.set_cons_zero, List.set_cons_succ])
              | (refine loose_val (v := ?_) (by rfl) ?_ ?_; rotate_left; (focus (intro A' hA'; subst hA'; go_simp; first | done | with_reducible rfl)); simp only [Act.put, List.setIfInBounds_toArray, List.set_cons_zero, List.set_cons_succ])
              | (refine loose_call HNoC.out (by rfl) ?_ ?_; (focus (intro A' hA'; go_simp; done)); simp only [Act.put, List.setIfInBounds_toArray, List.set_cons_zero, List.set_cons_succ]))
            refine loose_nil ?_
            intro A3 hA3
            subst hA3
            go_wp2_with fail
            obtain ⟨r, hr, h8⟩ := (H6.out.sw2.sw1.sw0).refk_open
            have hrl := hr.len
            obtain ⟨v1, v2, h9⟩ := h8.rk_open
            obtain ⟨a1, c1, rfl, _⟩ := h9.sw0.tms_form
            have h9' : On w x2.drew (sep (boxA rb 116 #[.slice a1 r.L.length c1, v2, .int .i64 r.now, .int .i64 r.worst]) (sep (tmsA (.slice a1 r.L.length c1) r.L) (sep (latA v2 r.lates) (sep (ckA xb c) (sep (ckA cb c) (sep (ckA db c) (sep (boxA b4 50 #[.int .i64 t0, .int .i64 t1]) (sep (boxA b5 119 #[.int .i64 ask, .int .i64 kd, .int .i64 id, .int .i64 at', .slice la lz lc]) emp)))))))) := h9
            obtain ⟨rl, hrl2⟩ : ∃ n, r.L.length = n := ⟨_, rfl⟩
            rw [hrl2] at h9'
            have hd := h9'.below (Below.refl _ x2.drew).drew
            have q0 := hd.bx 0 rfl
            have hle := K_len ((Plain.box _ _ _).sepT ((Plain.tms _ _).sepT ((Plain.lat _ _).sepT ((Plain.ck _ _).sepT ((Plain.ck _ _).sepT ((Plain.box _ _ _).sepT ((Plain.box _ _ _).sepT Plain.emp.tame))))))) (hd.sw3.sw2.sw1.sw0) HO1.out
            rw [← hrl, hrl2] at hle
            have HLe := Lib.hid hle
            have g3 : ((rl : Int) == (rl : Int)) = true := by simp
            have HAw0 := Lib.hid (fun A : World => kawake_ok A)
            clear h8 h9 h9' hd hle hrl hrl2 hr p0 p1
            go_region_held3 (fun A0 => A0.cell? ⟨rb, 0, none⟩ = some (.slice a1 rl c1))
              (first | assumption | go_keep)
              (first
                | (go_at_call 76; ((with_reducible refine HLe.out.mono ?_); rintro e A1 ⟨rfl, h3⟩; (have u0 := h3.sw0.bx 0 rfl); (have HAw := Lib.hid (HAw0.out A1)); (have H3 := Lib.hid h3); clear h3))
                | (go_at_call 73; ((with_reducible refine HAw.out.mono ?_); rintro e A2 ⟨rfl, hb3⟩; (have u1 := (H3.out.below hb3).sw0.bx 0 rfl); (have HF := Lib.hid (H3.out.below hb3).to_below); clear hb3)))
            all_goals go_wp2_with fail
            all_goals go_ret
            all_goals exact ⟨rfl, HF.out⟩
          · have g1' : decide (t0 < now) = false := decide_eq_false g1
            by_cases g2 : t1 < t0
            · have g2' : decide (t1 < t0) = true := decide_eq_true g2
              refine wp_region_loose (fun A => A = x2.drew) (by kernel_rfl) (by kernel_rfl) rfl ?_
              repeat (first
                | (refine loose_skip (by rfl) ?_; simp only [Act.put, List.setIfInBounds_toArray, List.set_cons_zero, List.set_cons_succ])
                | (refine loose_val (v := ?_) (by rfl) ?_ ?_; rotate_left; (focus (intro A' hA'; subst hA'; go_simp; first | done | with_reducible rfl)); simp only [Act.put, List.setIfInBounds_toArray, List.set_cons_zero, List.set_cons_succ])
                | (refine loose_call HNoC.out (by rfl) ?_ ?_; (focus (intro A' hA'; go_simp; done)); simp only [Act.put, List.setIfInBounds_toArray, List.set_cons_zero, List.set_cons_succ]))
              refine loose_nil ?_
              intro A3 hA3
              subst hA3
              go_wp2_with fail
              obtain ⟨r, hr, h8⟩ := (H6.out.sw2.sw1.sw0).refk_open
              have hrl := hr.len
              obtain ⟨v1, v2, h9⟩ := h8.rk_open
              obtain ⟨a1, c1, rfl, _⟩ := h9.sw0.tms_form
              have h9' : On w x2.drew (sep (boxA rb 116 #[.slice a1 r.L.length c1, v2, .int .i64 r.now, .int .i64 r.worst]) (sep (tmsA (.slice a1 r.L.length c1) r.L) (sep (latA v2 r.lates) (sep (ckA xb c) (sep (ckA cb c) (sep (ckA db c) (sep (boxA b4 50 #[.int .i64 t0, .int .i64 t1]) (sep (boxA b5 119 #[.int .i64 ask, .int .i64 kd, .int .i64 id, .int .i64 at', .slice la lz lc]) emp)))))))) := h9
              obtain ⟨rl, hrl2⟩ : ∃ n, r.L.length = n := ⟨_, rfl⟩
              rw [hrl2] at h9'
              have hd := h9'.below (Below.refl _ x2.drew).drew
              have q0 := hd.bx 0 rfl
              have hle := K_len ((Plain.box _ _ _).sepT ((Plain.tms _ _).sepT ((Plain.lat _ _).sepT ((Plain.ck _ _).sepT ((Plain.ck _ _).sepT ((Plain.box _ _ _).sepT ((Plain.box _ _ _).sepT Plain.emp.tame))))))) (hd.sw3.sw2.sw1.sw0) HO1.out
              rw [← hrl, hrl2] at hle
              have HLe := Lib.hid hle
              have g3 : ((rl : Int) == (rl : Int)) = true := by simp
              have HAw0 := Lib.hid (fun A : World => kawake_ok A)
              clear h8 h9 h9' hd hle hrl hrl2 hr p0 p1
              go_region_held3 (fun A0 => A0.cell? ⟨rb, 0, none⟩ = some (.slice a1 rl c1))
                (first | assumption | go_keep)
                (first
                  | (go_at_call 76; ((with_reducible refine HLe.out.mono ?_); rintro e A1 ⟨rfl, h3⟩; (have u0 := h3.sw0.bx 0 rfl); (have HAw := Lib.hid (HAw0.out A1)); (have H3 := Lib.hid h3); clear h3))
                  | (go_at_call 73; ((with_reducible refine HAw.out.mono ?_); rintro e A2 ⟨rfl, hb3⟩; (have u1 := (H3.out.below hb3).sw0.bx 0 rfl); (have HF := Lib.hid (H3.out.below hb3).to_below); clear hb3)))
              all_goals go_wp2_with fail
              all_goals go_ret
              all_goals exact ⟨rfl, HF.out⟩
            · have g2' : decide (t1 < t0) = false := decide_eq_false g2
              have g3 : 1099511627776 ≤ t1 := by omega
              have g3' : decide (1099511627776 ≤ t1) = true := decide_eq_true g3
              refine wp_region_loose (fun A => A = x2.drew) (by kernel_rfl) (by kernel_rfl) rfl ?_
              repeat (first
                | (refine loose_skip (by rfl) ?_; simp only [Act.put, List.setIfInBounds_toArray, List.set_cons_zero, List.set_cons_succ])
                | (refine loose_val (v := ?_) (by rfl) ?_ ?_; rotate_left; (focus (intro A' hA'; subst hA'; go_simp; first | done | with_reducible rfl)); simp only [Act.put, List.setIfInBounds_toArray, List.set_cons_zero, List.set_cons_succ])
                | (refine loose_call HNoC.out (by rfl) ?_ ?_; (focus (intro A' hA'; go_simp; done)); simp only [Act.put, List.setIfInBounds_toArray, List.set_cons_zero, List.set_cons_succ]))
              refine loose_nil ?_
              intro A3 hA3
              subst hA3
              go_wp2_with fail
              obtain ⟨r, hr, h8⟩ := (H6.out.sw2.sw1.sw0).refk_open
              have hrl := hr.len
              obtain ⟨v1, v2, h9⟩ := h8.rk_open
              obtain ⟨a1, c1, rfl, _⟩ := h9.sw0.tms_form
              have h9' : On w x2.drew (sep (boxA rb 116 #[.slice a1 r.L.length c1, v2, .int .i64 r.now, .int .i64 r.worst]) (sep (tmsA (.slice a1 r.L.length c1) r.L) (sep (latA v2 r.lates) (sep (ckA xb c) (sep (ckA cb c) (sep (ckA db c) (sep (boxA b4 50 #[.int .i64 t0, .int .i64 t1]) (sep (boxA b5 119 #[.int .i64 ask, .int .i64 kd, .int .i64 id, .int .i64 at', .slice la lz lc]) emp)))))))) := h9
              obtain ⟨rl, hrl2⟩ : ∃ n, r.L.length = n := ⟨_, rfl⟩
              rw [hrl2] at h9'
              have hd := h9'.below (Below.refl _ x2.drew).drew
              have q0 := hd.bx 0 rfl
              have hle := K_len ((Plain.box _ _ _).sepT ((Plain.tms _ _).sepT ((Plain.lat _ _).sepT ((Plain.ck _ _).sepT ((Plain.ck _ _).sepT ((Plain.box _ _ _).sepT ((Plain.box _ _ _).sepT Plain.emp.tame))))))) (hd.sw3.sw2.sw1.sw0) HO1.out
              rw [← hrl, hrl2] at hle
              have HLe := Lib.hid hle
              have g3 : ((rl : Int) == (rl : Int)) = true := by simp
              have HAw0 := Lib.hid (fun A : World => kawake_ok A)
              clear h8 h9 h9' hd hle hrl hrl2 hr p0 p1
              go_region_held3 (fun A0 => A0.cell? ⟨rb, 0, none⟩ = some (.slice a1 rl c1))
                (first | assumption | go_keep)
                (first
                  | (go_at_call 76; ((with_reducible refine HLe.out.mono ?_); rintro e A1 ⟨rfl, h3⟩; (have u0 := h3.sw0.bx 0 rfl); (have HAw := Lib.hid (HAw0.out A1)); (have H3 := Lib.hid h3); clear h3))
                  | (go_at_call 73; ((with_reducible refine HAw.out.mono ?_); rintro e A2 ⟨rfl, hb3⟩; (have u1 := (H3.out.below hb3).sw0.bx 0 rfl); (have HF := Lib.hid (H3.out.below hb3).to_below); clear hb3)))
              all_goals go_wp2_with fail
              all_goals go_ret
              all_goals exact ⟨rfl, HF.out⟩
        · have g1 : ¬ t0 < now := fun h => hbad (.inl h)
          have g1' : decide (t0 < now) = false := decide_eq_false g1
          have g2 : ¬ t1 < t0 := fun h => hbad (.inr (.inl h))
          have g2' : decide (t1 < t0) = false := decide_eq_false g2
          have g3 : ¬ 1099511627776 ≤ t1 := fun h => hbad (.inr (.inr h))
          have g3' : decide (1099511627776 ≤ t1) = false := decide_eq_false g3
          refine wp_region_loose (fun A => A = x2.drew) (by kernel_rfl) (by kernel_rfl) rfl ?_
          repeat (first
            | (refine loose_skip (by rfl) ?_; simp only [Act.put, List.setIfInBounds_toArray, List.set_cons_zero, List.set_cons_succ])
            | (refine loose_val (v := ?_) (by rfl) ?_ ?_; rotate_left; (focus (intro A' hA'; subst hA'; go_simp; first | done | with_reducible rfl)); simp only [Act.put, List.setIfInBounds_toArray, List.set_cons_zero, List.set_cons_succ])
            | (refine loose_call HNoC.out (by rfl) ?_ ?_; (focus (intro A' hA'; go_simp; done)); simp only [Act.put, List.setIfInBounds_toArray, List.set_cons_zero, List.set_cons_succ]))
          refine loose_nil ?_
          intro A3 hA3
          subst hA3
          go_wp2_with fail
          have hnt : now ≤ t0 := by omega
          have ht01 : t0 ≤ t1 := by omega
          have hT0 : timeE t0 = 0 := timeE_iff.2 ⟨by omega, by omega⟩
          have hT1 : timeE t1 = 0 := timeE_iff.2 ⟨by omega, by omega⟩
          obtain ⟨ra1, ra2⟩ := run_told (c := c) hT0 (by rw [HNow.out]; exact hnt)
          obtain ⟨rb1, rb2⟩ := run_told (c := c.gone t0) (t := t1) hT1 ht01
          obtain ⟨rc1, rc2⟩ := run_told (c := c) hT1 (by rw [HNow.out]; omega)
          obtain ⟨rt1, rt2⟩ := gone_two c ht01
          have ho1 : CkOk (c.gone t0) := by have := CkOk.run (c.S.length + 1) (to := t0) HO1.out; rw [ra2] at this; exact this
          have ho2 : CkOk (c.gone t1) := by have := CkOk.run (c.S.length + 1) (to := t1) HO1.out; rw [rc2] at this; exact this
          rw [rt1] at rb2
          have hrunA := K_run ((Plain.ck _ _).sepT ((Plain.ck _ _).sepT ((Plain.refk _ _).sepT ((Plain.box _ _ _).sepT ((Plain.box _ _ _).sepT Plain.emp.tame))))) (H6.out.sw0) HO1.out t0
          rw [ra1, ra2] at hrunA
          have HRb := Lib.hid (fun (A : World) (X : Ast) (hT : Tame X) (hA : On w A (sep (ckA cb (c.gone t0)) X)) => K_run hT hA ho1 t1)
          rw [rb1, rb2] at HRb
          have HRc := Lib.hid (fun (A : World) (X : Ast) (hT : Tame X) (hA : On w A (sep (ckA db c) X)) => K_run hT hA HO1.out t1)
          rw [rc1, rc2] at HRc
          obtain ⟨C1, hC1⟩ : ∃ d, c.gone t0 = d := ⟨_, rfl⟩
          obtain ⟨D, hD⟩ : ∃ d, c.gone t1 = d := ⟨_, rfl⟩
          obtain ⟨EA, hEA⟩ : ∃ l, (upto c.S t0).map c.evOf = l := ⟨_, rfl⟩
          obtain ⟨EB, hEB⟩ : ∃ l, (upto (c.gone t0).S t1).map (c.gone t0).evOf = l := ⟨_, rfl⟩
          obtain ⟨EM, hEM⟩ : ∃ l, (upto c.S t1).map c.evOf = l := ⟨_, rfl⟩
          rw [hEB] at HRb
          rw [hC1, hD] at HRb
          rw [hEM, hD] at HRc
          rw [hEA, hC1] at hrunA
          rw [hEA, hEB, hEM] at rt2
          have HEm := Lib.hid hEM
          have HAB := Lib.hid rt2
          have HDo := Lib.hid (show CkOk D by rw [← hD]; exact ho2)
          have HDn := Lib.hid (show D.now = t1 by rw [← hD]; rfl)
          have HRa := Lib.hid hrunA
          have HT1 := Lib.hid hT1
          have HN1 := Lib.hid (show c.now ≤ t1 by rw [HNow.out]; omega)
          have hfewS := HO1.out.few
          have HEl := Lib.hid (show EM.length ≤ 512 by rw [← hEM, List.length_map]; have := (upto_pre c.S t1).length_le; omega)
          clear hnt hT0 hT1 ra1 ra2 rb1 rb2 rc1 rc2 rt1 rt2 ho1 ho2 hrunA hC1 hD hEA hEB hEM p0 p1 g1 g1' g2 g2' g3 g3' hbad ht01 hfewS
          refine HRa.out.mono ?_
          rintro e x3 ⟨u1, rfl, h7⟩
          obtain ⟨aa, ac, rfl⟩ := h7.evs_form
          obtain ⟨la1, hla1⟩ : ∃ m, EA.length = m := ⟨_, rfl⟩
          have h7' : On w x3 (sep (evsA (.slice aa EA.length ac) EA) (sep (ckA cb C1) (sep (ckA xb c) (sep (ckA db c) (sep (refK rb c) (sep (boxA b4 50 #[.int .i64 t0, .int .i64 t1]) (sep (boxA b5 119 #[.int .i64 ask, .int .i64 kd, .int .i64 id, .int .i64 at', .slice la lz lc]) emp))))))) := h7
          rw [hla1] at h7' ⊢
          have p1 := (h7'.sw4.sw3.sw2.sw1.sw0).bx 1 rfl
          have HR2 := Lib.hid (HRb.out _ _ ((Plain.evs _ _).sepT ((Plain.ck _ _).sepT ((Plain.ck _ _).sepT ((Plain.refk _ _).sepT ((Plain.box _ _ _).sepT ((Plain.box _ _ _).sepT Plain.emp.tame)))))) (h7'.sw0))
          have HLa := Lib.hid hla1
          clear h7 h7' hla1
          go_wp2_with fail
          refine HR2.out.mono ?_
          rintro e x4 ⟨u2, rfl, h8⟩
          obtain ⟨ba, bc, rfl⟩ := h8.evs_form
          obtain ⟨lb1, hlb1⟩ : ∃ m, EB.length = m := ⟨_, rfl⟩
          have h8' : On w x4 (sep (evsA (.slice ba EB.length bc) EB) (sep (ckA cb D) (sep (evsA (.slice aa la1 ac) EA) (sep (ckA xb c) (sep (ckA db c) (sep (refK rb c) (sep (boxA b4 50 #[.int .i64 t0, .int .i64 t1]) (sep (boxA b5 119 #[.int .i64 ask, .int .i64 kd, .int .i64 id, .int .i64 at', .slice la lz lc]) emp)))))))) := h8
          rw [hlb1] at h8' ⊢
          clear p1
          have p1 := (h8'.sw5.sw4.sw3.sw2.sw1.sw0).bx 1 rfl
          have HR3 := Lib.hid (HRc.out _ _ ((Plain.evs _ _).sepT ((Plain.ck _ _).sepT ((Plain.evs _ _).sepT ((Plain.ck _ _).sepT ((Plain.refk _ _).sepT ((Plain.box _ _ _).sepT ((Plain.box _ _ _).sepT Plain.emp.tame))))))) (h8'.sw3.sw2.sw1.sw0))
          have HLb := Lib.hid hlb1
          clear h8 h8' hlb1
          go_wp2_with fail
          refine HR3.out.mono ?_
          rintro e x5 ⟨u3, rfl, h9⟩
          obtain ⟨ma, mc, rfl⟩ := h9.evs_form
          obtain ⟨mm, hmm⟩ : ∃ m, EM.length = m := ⟨_, rfl⟩
          have h9' : On w x5 (sep (evsA (.slice ma EM.length mc) EM) (sep (ckA db D) (sep (evsA (.slice ba lb1 bc) EB) (sep (ckA cb D) (sep (evsA (.slice aa la1 ac) EA) (sep (ckA xb c) (sep (refK rb c) (sep (boxA b4 50 #[.int .i64 t0, .int .i64 t1]) (sep (boxA b5 119 #[.int .i64 ask, .int .i64 kd, .int .i64 id, .int .i64 at', .slice la lz lc]) emp))))))))) := h9
          rw [hmm] at h9' ⊢
          have hml := HEl.out
          rw [hmm] at hml
          have HMm := Lib.hid hmm
          have hsum : la1 + lb1 = mm := by rw [← HLa.out, ← HLb.out, ← hmm, ← HAB.out, List.length_append]
          have h10 := (h9'.sw3.sw2.sw1.sw0)
          have hown : x5.ownsRow 0 109 5 (.slice aa la1 ac) la1 (EA.flatMap evC) := by
            obtain ⟨F, ⟨how, _⟩, _⟩ := h10.get1
            rw [HLa.out] at how
            exact how
          have hownB : x5.ownsRow 0 109 5 (.slice ba lb1 bc) lb1 (EB.flatMap evC) := by
            obtain ⟨F, ⟨how, _⟩, _⟩ := (h9'.sw1.sw0).get1
            rw [HLb.out] at how
            exact how
          have HOwn := Lib.hid hown
          have HRd := Lib.hid (Reads.of_own hownB)
          have hone : ∀ u ∈ EB.flatMap evC, u.oneCell' = true := fun u hu => by
            obtain ⟨t, _, ht⟩ := List.mem_flatMap.1 hu
            simp [evC] at ht
            rcases ht with rfl | rfl | rfl | rfl | rfl <;> rfl
          have hmx : la1 + lb1 ≤ maxLen := by unfold maxLen; omega
          have hby : (la1 + lb1) * 40 ≤ 140737488355328 := by omega
          have h11 : On w x5 (sep (rowA (.slice aa la1 ac) 109 5 la1 (EA.flatMap evC)) (sep (evsA (.slice ma mm mc) EM) (sep (ckA db D) (sep (evsA (.slice ba lb1 bc) EB) (sep (ckA cb D) (sep (ckA xb c) (sep (refK rb c) (sep (boxA b4 50 #[.int .i64 t0, .int .i64 t1]) (sep (boxA b5 119 #[.int .i64 ask, .int .i64 kd, .int .i64 id, .int .i64 at', .slice la lz lc]) emp))))))))) := by
            unfold evsA at h10 ⊢
            rw [HLa.out] at h10
            exact h10
          have H11 := Lib.hid h11
          have HSum := Lib.hid hsum
          have HFl := Lib.hid (show EA.flatMap evC ++ EB.flatMap evC = EM.flatMap evC by rw [← List.flatMap_append, HAB.out])
          clear h9 h9' h10 h11 hown hownB hmm hsum p1
          go_wp2_with (at_builtin; go_loud (refine wpList_append_any (by rfl) _ _ 105 (by rfl) 109 5 40 evSlice (.slice aa la1 ac) la1 (EA.flatMap evC) (by rfl) HOwn.out (.slice ba lb1 bc) lb1 (EB.flatMap evC) (by rfl) HRd.out hone hmx hby ?_; intro v' x6 hown hgrow hat; obtain ⟨qq, qn, qcc, rfl⟩ := own_form hown; (obtain rfl : qn = mm := by have := own_len hown; have := HSum.out; omega); (have h12 := H11.out.row_push (Below.refl _ _) hgrow hown hat); (have H12 := Lib.hid h12); clear hown hgrow hat h12))
          have h13 : On w x6 (sep (evsA (.slice qq qn qcc) EM) (sep (evsA (.slice ma qn mc) EM) (sep (ckA db D) (sep (ckA cb D) (sep (ckA xb c) (sep (refK rb c) (sep (boxA b4 50 #[.int .i64 t0, .int .i64 t1]) (sep (boxA b5 119 #[.int .i64 ask, .int .i64 kd, .int .i64 id, .int .i64 at', .slice la lz lc]) emp)))))))) := by
            have h := (H12.out.sw2.sw1.sw0).out1
            rw [HFl.out, HSum.out] at h
            unfold evsA at h ⊢
            rw [HMm.out] at h ⊢
            exact h
          have HT6 : Tame (sep (evsA (.slice qq qn qcc) EM) (sep (evsA (.slice ma qn mc) EM) (sep (ckA db D) (sep (ckA xb c) (sep (refK rb c) (sep (boxA b4 50 #[.int .i64 t0, .int .i64 t1]) (sep (boxA b5 119 #[.int .i64 ask, .int .i64 kd, .int .i64 id, .int .i64 at', .slice la lz lc]) emp))))))) := (Plain.evs _ _).sepT ((Plain.evs _ _).sepT ((Plain.ck _ _).sepT ((Plain.ck _ _).sepT ((Plain.refk _ _).sepT ((Plain.box _ _ _).sepT ((Plain.box _ _ _).sepT Plain.emp.tame))))))
          have hn1 := K_now (h13.sw2.sw1.sw0) HDo.out
          have hn2 := K_now (h13.sw1.sw0) HDo.out
          rw [HDn.out] at hn1 hn2
          have HNa := Lib.hid hn1
          have HNb := Lib.hid hn2
          obtain ⟨dl, hdl⟩ : ∃ n, D.S.length = n := ⟨_, rfl⟩
          obtain ⟨dw, hdw⟩ : ∃ n, D.worst = n := ⟨_, rfl⟩
          have hle := K_len HT6 (h13.sw2.sw1.sw0) HDo.out
          rw [hdl] at hle
          have HLe := Lib.hid hle
          have HLe2 := Lib.hid (fun (A : World) (X : Ast) (hT : Tame X) (hA : On w A (sep (ckA db D) X)) => K_len hT hA HDo.out)
          have HWo := Lib.hid (fun (A : World) (b : Nat) (X : Ast) (hA : On w A (sep (ckA b D) X)) => K_worst hA HDo.out)
          rw [hdl] at HLe2
          rw [hdw] at HWo
          have z1 : (t1 != t1) = false := by simp
          have z2 : ((dl : Int) != (dl : Int)) = false := by simp
          have z3 : (dw != dw) = false := by simp
          have z4 : ((qn : Int) != (qn : Int)) = false := by simp
          clear h13 HT6 hn1 hn2 hle hdl hdw
          refine HNa.out.mono ?_
          rintro e y1 ⟨rfl, rfl⟩
          go_wp2_with fail
          refine HNb.out.mono ?_
          rintro e y1 ⟨rfl, rfl⟩
          go_wp2_with fail
          refine HLe.out.mono ?_
          rintro e y1 ⟨rfl, h14⟩
          have HL2 := Lib.hid (HLe2.out _ _ ((Plain.ck _ _).sepT ((Plain.evs _ _).sepT ((Plain.evs _ _).sepT ((Plain.ck _ _).sepT ((Plain.refk _ _).sepT ((Plain.box _ _ _).sepT ((Plain.box _ _ _).sepT Plain.emp.tame))))))) (h14.sw2.sw1.sw0))
          clear h14
          go_wp2_with fail
          refine HL2.out.mono ?_
          rintro e y2 ⟨rfl, h15⟩
          have HW1 := Lib.hid (HWo.out _ cb _ (h15.sw0))
          have HW2 := Lib.hid (HWo.out _ db _ h15)
          have H15 := Lib.hid h15
          clear h15
          go_wp2_with fail
          refine HW1.out.mono ?_
          rintro e y3 ⟨rfl, rfl⟩
          go_wp2_with fail
          refine HW2.out.mono ?_
          rintro e y3 ⟨rfl, rfl⟩
          go_wp2_with fail
          go_loopg [18] qn (fun gh s18 wz => ∃ (j : Nat), j + gh = qn ∧ s18 = .int .i64 (j : Int) ∧ On w wz (sep (ckA db D) (sep (ckA cb D) (sep (evsA (.slice qq qn qcc) EM) (sep (evsA (.slice ma qn mc) EM) (sep (ckA xb c) (sep (refK rb c) (sep (boxA b4 50 #[.int .i64 t0, .int .i64 t1]) (sep (boxA b5 119 #[.int .i64 ask, .int .i64 kd, .int .i64 id, .int .i64 at', .slice la lz lc]) emp)))))))))
          case atStart => exact ⟨0, by omega, rfl, H15.out⟩
          case round =>
            obtain ⟨j, hj, rfl, hon⟩ := hrel
            by_cases hlt : j < qn
            · have hltI : (j : Int) < (qn : Int) := by omega
              have hj0 : (0 : Int) ≤ (j : Int) := by omega
              obtain ⟨v, hv⟩ : ∃ v, EM[j]? = some v := ⟨_, List.getElem?_eq_getElem (by rw [HMm.out]; exact hlt)⟩
              obtain ⟨ea, hea, e0, e1, e2, e3, e4⟩ := (hon.sw1.sw0).evs_at hv
              obtain ⟨eb, heb, f0, f1, f2, f3, f4⟩ := (hon.sw2.sw1.sw0).evs_at hv
              cases hea
              cases heb
              obtain ⟨k1, k2, k3, k4, k5⟩ := v
              have hq : ∀ w, (binOp BinOp.neq 109 (.agg #[.int .i64 k1, .int .i64 k2, .int .i64 k3, .int .i64 k4, .int .i64 k5]) (.agg #[.int .i64 k1, .int .i64 k2, .int .i64 k3, .int .i64 k4, .int .i64 k5])).run Try.prog w = .ok (.bool false) w := fun w => by rw [neq109]; simp
              have HOn := Lib.hid hon
              clear hon hv
              go_wp2_with fail
              have e0_d := drewC e0
              have e1_d := drewC e1
              have e2_d := drewC e2
              have e3_d := drewC e3
              have e4_d := drewC e4
              have f0_d := drewC f0
              have f1_d := drewC f1
              have f2_d := drewC f2
              have f3_d := drewC f3
              have f4_d := drewC f4
              refine wp_region_loose (fun A => A = wr.drew) (by kernel_rfl) (by kernel_rfl) rfl ?_
              repeat (first
                | (refine loose_skip (by rfl) ?_; simp only [Act.put, List.setIfInBounds_toArray, List.set_cons_zero, List.set_cons_succ])
                | (refine loose_val (v := ?_) (by rfl) ?_ ?_; rotate_left; (focus (intro A' hA'; subst hA'; go_simp; first | done | with_reducible rfl)); simp only [Act.put, List.setIfInBounds_toArray, List.set_cons_zero, List.set_cons_succ]))
              refine loose_nil ?_
              intro A3 hA3
              subst hA3
              go_wp2_with fail
              go_roundg (qn - (j + 1))
              case measure => omega
              case rel => exact ⟨j + 1, by omega, by go_num, HOn.out.below (Below.refl _ wr).drew⟩
            · have hjn : ¬ (j : Int) < (qn : Int) := by omega
              have h16 := (hon.sw3.sw2.sw1.sw0)
              have w1' := (h16.sw6.sw5.sw4.sw3.sw2.sw1.sw0).bx 1 rfl
              have w2' := (h16.sw6.sw5.sw4.sw3.sw2.sw1.sw0).bx 2 rfl
              have hcl := K_clear h16 HO1.out kd id
              obtain ⟨ce, hce⟩ : ∃ e, c.clearE kd id = e := ⟨_, rfl⟩
              rw [hce] at hcl
              have hoX : CkOk (c.clear kd id) := HO1.out.clear
              have hnX : (c.clear kd id).now = c.now := by unfold Ck.clear; split <;> rfl
              obtain ⟨rx1, rx2⟩ := run_told (c := c.clear kd id) HT1.out (by rw [hnX]; exact HN1.out)
              rw [clear_run HO1.out, HEm.out] at rx2
              have HRx := Lib.hid (fun (A : World) (X : Ast) (hT : Tame X) (hA : On w A (sep (ckA xb (c.clear kd id)) X)) => K_run hT hA hoX t1)
              rw [rx1, rx2] at HRx
              have HCl := Lib.hid hcl
              clear h16 hon hcl hce hoX hnX rx1 rx2
              go_wp2_with fail
              refine HCl.out.mono ?_
              rintro e x7 ⟨rfl, h17⟩
              clear w1' w2'
              have p1 := (h17.sw5.sw4.sw3.sw2.sw1.sw0).bx 1 rfl
              have HRy := Lib.hid (HRx.out _ _ ((Plain.ck _ _).sepT ((Plain.ck _ _).sepT ((Plain.evs _ _).sepT ((Plain.evs _ _).sepT ((Plain.refk _ _).sepT ((Plain.box _ _ _).sepT ((Plain.box _ _ _).sepT Plain.emp.tame))))))) h17)
              clear h17
              go_wp2_with fail
              refine HRy.out.mono ?_
              rintro e x8 ⟨u4, rfl, h18⟩
              obtain ⟨na, nc, rfl⟩ := h18.evs_form
              obtain ⟨NN, hNN⟩ : ∃ l, EM.filter (evNot kd id) = l := ⟨_, rfl⟩
              obtain ⟨X2, hX2⟩ : ∃ l, (c.clear kd id).gone t1 = l := ⟨_, rfl⟩
              obtain ⟨nl, hnl⟩ : ∃ n, NN.length = n := ⟨_, rfl⟩
              have h19 : On w x8 (sep (evsA (.slice na nl nc) NN) (sep (ckA xb X2) (sep (ckA db D) (sep (ckA cb D) (sep (evsA (.slice qq qn qcc) EM) (sep (evsA (.slice ma qn mc) EM) (sep (refK rb c) (sep (boxA b4 50 #[.int .i64 t0, .int .i64 t1]) (sep (boxA b5 119 #[.int .i64 ask, .int .i64 kd, .int .i64 id, .int .i64 at', .slice la lz lc]) emp))))))))) := by
                have h := h18
                rw [hNN, hnl, hX2] at h
                exact h
              rw [hNN, hnl]
              have H19 := Lib.hid h19
              have HNn := Lib.hid hNN
              have HNl := Lib.hid hnl
              have hnq : nl ≤ qn := by rw [← hnl, ← hNN, ← HMm.out]; exact List.length_filter_le _ _
              clear h18 h19 hNN hX2 hnl p1
              go_wp2_with fail
              go_loopg [21, 22] qn (fun gh s21 s22 wz => ∃ (i k : Nat), i + gh = qn ∧ s21 = .int .i64 (k : Int) ∧ s22 = .int .i64 (i : Int) ∧ k = ((EM.take i).filter (evNot kd id)).length ∧ On w wz (sep (evsA (.slice na nl nc) NN) (sep (ckA xb X2) (sep (ckA db D) (sep (ckA cb D) (sep (evsA (.slice qq qn qcc) EM) (sep (evsA (.slice ma qn mc) EM) (sep (refK rb c) (sep (boxA b4 50 #[.int .i64 t0, .int .i64 t1]) (sep (boxA b5 119 #[.int .i64 ask, .int .i64 kd, .int .i64 id, .int .i64 at', .slice la lz lc]) emp))))))))))
              case atStart => exact ⟨0, 0, by omega, rfl, rfl, rfl, H19.out⟩
              case round =>
                obtain ⟨i2, k, hi2, rfl, rfl, hk, hon⟩ := hrel
                by_cases hlt2 : i2 < qn
                · have hltI2 : (i2 : Int) < (qn : Int) := by omega
                  have hi0 : (0 : Int) ≤ (i2 : Int) := by omega
                  obtain ⟨v, hv⟩ : ∃ v, EM[i2]? = some v := ⟨_, List.getElem?_eq_getElem (by rw [HMm.out]; exact hlt2)⟩
                  obtain ⟨eb, heb, f0, f1, f2, f3, f4⟩ := (hon.sw4.sw3.sw2.sw1.sw0).evs_at hv
                  cases heb
                  have b51 := (hon.sw7.sw6.sw5.sw4.sw3.sw2.sw1.sw0).bx 1 rfl
                  have b52 := (hon.sw7.sw6.sw5.sw4.sw3.sw2.sw1.sw0).bx 2 rfl
                  have hfa := filter_at (evNot kd id) hv
                  rw [HNn.out] at hfa
                  have htk : (EM.take (i2 + 1)).filter (evNot kd id) = (EM.take i2).filter (evNot kd id) ++ (if evNot kd id v then [v] else []) := by
                    rw [List.take_add_one, hv, List.filter_append]
                    congr 1
                    by_cases hp : evNot kd id v = true
                    · rw [if_pos hp]
                      exact List.filter_cons_of_pos hp
                    · rw [if_neg hp]
                      exact List.filter_cons_of_neg hp
                  have hk0 : (0 : Int) ≤ (k : Int) := by omega
                  have hkb : k ≤ i2 := by rw [hk]; exact Nat.le_trans (List.length_filter_le _ _) (by rw [List.length_take]; omega)
                  by_cases hp : evNot kd id v = true
                  · rw [if_pos hp] at hfa htk
                    have hNk : NN[k]? = some v := by
                      rw [hfa, List.getElem?_append_right (by omega), hk, Nat.sub_self]
                      rfl
                    have hkn : k < nl := by rw [← HNl.out]; exact (List.getElem?_eq_some_iff.1 hNk).1
                    obtain ⟨ea, hea, e0, e1, e2, e3, e4⟩ := hon.evs_at hNk
                    cases hea
                    have HTk := Lib.hid (show k + 1 = ((EM.take (i2 + 1)).filter (evNot kd id)).length by rw [htk, List.length_append, ← hk]; rfl)
                    have hkI : (k : Int) < (nl : Int) := by omega
                    have hkd1 : decide ((nl : Int) ≤ (k : Int)) = false := decide_eq_false (by omega)
                    have hkd2 : ¬ (nl : Int) ≤ (k : Int) := by omega
                    have hkd3 : decide (nl ≤ k) = false := decide_eq_false (by omega)
                    have hkd4 : ¬ nl ≤ k := by omega
                    have HOn := Lib.hid hon
                    obtain ⟨k1, k2, k3, k4, k5⟩ := v
                    have hq : ∀ w, (binOp BinOp.neq 109 (.agg #[.int .i64 k1, .int .i64 k2, .int .i64 k3, .int .i64 k4, .int .i64 k5]) (.agg #[.int .i64 k1, .int .i64 k2, .int .i64 k3, .int .i64 k4, .int .i64 k5])).run Try.prog w = .ok (.bool false) w := fun w => by rw [neq109]; simp
                    unfold evNot at hp
                    try simp only at hp f0 f1 f2 f3 f4 e0 e1 e2 e3 e4
                    have g0 := drewC e0
                    have g1 := drewC e1
                    have g2 := drewC e2
                    have g3 := drewC e3
                    have g4 := drewC e4
                    have m0 := drewC f0
                    have m1 := drewC f1
                    have m2 := drewC f2
                    have m3 := drewC f3
                    have m4 := drewC f4
                    clear hon hv hfa htk hNk hk
                    by_cases hz1 : k1 = kd
                    · have zz1 : (k1 == kd) = true := by simpa using hz1
                      have zz2 : (k2 == id) = false := by rw [zz1, Bool.true_and] at hp; simpa using hp
                      clear hp hz1
                      go_wp2_with fail
                      have f0_d := drewC f0
                      have f1_d := drewC f1
                      have b51_d := drewC b51
                      have b52_d := drewC b52
                      refine wp_region_loose (fun A => A = wr.drew) (by kernel_rfl) (by kernel_rfl) rfl ?_
                      repeat (first
                        | (refine loose_skip (by rfl) ?_; simp only [Act.put, List.setIfInBounds_toArray, List.set_cons_zero, List.set_cons_succ])
                        | (refine loose_val (v := ?_) (by rfl) ?_ ?_; rotate_left; (focus (intro A' hA'; subst hA'; go_simp; first | done | with_reducible rfl)); simp only [Act.put, List.setIfInBounds_toArray, List.set_cons_zero, List.set_cons_succ]))
                      refine loose_nil ?_
                      intro A3 hA3
                      subst hA3
                      go_wp2_with fail
                      have g0_d := drewC g0
                      have g1_d := drewC g1
                      have g2_d := drewC g2
                      have g3_d := drewC g3
                      have g4_d := drewC g4
                      have m0_d := drewC m0
                      have m1_d := drewC m1
                      have m2_d := drewC m2
                      have m3_d := drewC m3
                      have m4_d := drewC m4
                      refine wp_region_loose (fun A => A = wr.drew.drew) (by kernel_rfl) (by kernel_rfl) rfl ?_
                      repeat (first
                        | (refine loose_skip (by rfl) ?_; simp only [Act.put, List.setIfInBounds_toArray, List.set_cons_zero, List.set_cons_succ])
                        | (refine loose_val (v := ?_) (by rfl) ?_ ?_; rotate_left; (focus (intro A' hA'; subst hA'; go_simp; first | done | with_reducible rfl)); simp only [Act.put, List.setIfInBounds_toArray, List.set_cons_zero, List.set_cons_succ]))
                      refine loose_nil ?_
                      intro A3 hA3
                      subst hA3
                      go_wp2_with fail
                      go_roundg (qn - (i2 + 1))
                      case measure => omega
                      case rel => exact ⟨i2 + 1, k + 1, by omega, by go_num, by go_num, HTk.out, HOn.out.below ((Below.refl _ wr).drew.trans (Below.refl _ wr.drew).drew)⟩
                    · have zz1 : (k1 == kd) = false := by simpa using hz1
                      clear hp hz1
                      go_wp2_with fail
                      have f0_d := drewC f0
                      have f1_d := drewC f1
                      have b51_d := drewC b51
                      have b52_d := drewC b52
                      refine wp_region_loose (fun A => A = wr.drew) (by kernel_rfl) (by kernel_rfl) rfl ?_
                      repeat (first
                        | (refine loose_skip (by rfl) ?_; simp only [Act.put, List.setIfInBounds_toArray, List.set_cons_zero, List.set_cons_succ])
                        | (refine loose_val (v := ?_) (by rfl) ?_ ?_; rotate_left; (focus (intro A' hA'; subst hA'; go_simp; first | done | with_reducible rfl)); simp only [Act.put, List.setIfInBounds_toArray, List.set_cons_zero, List.set_cons_succ]))
                      refine loose_nil ?_
                      intro A3 hA3
                      subst hA3
                      go_wp2_with fail
                      have g0_d := drewC g0
                      have g1_d := drewC g1
                      have g2_d := drewC g2
                      have g3_d := drewC g3
                      have g4_d := drewC g4
                      have m0_d := drewC m0
                      have m1_d := drewC m1
                      have m2_d := drewC m2
                      have m3_d := drewC m3
                      have m4_d := drewC m4
                      refine wp_region_loose (fun A => A = wr.drew.drew) (by kernel_rfl) (by kernel_rfl) rfl ?_
                      repeat (first
                        | (refine loose_skip (by rfl) ?_; simp only [Act.put, List.setIfInBounds_toArray, List.set_cons_zero, List.set_cons_succ])
                        | (refine loose_val (v := ?_) (by rfl) ?_ ?_; rotate_left; (focus (intro A' hA'; subst hA'; go_simp; first | done | with_reducible rfl)); simp only [Act.put, List.setIfInBounds_toArray, List.set_cons_zero, List.set_cons_succ]))
                      refine loose_nil ?_
                      intro A3 hA3
                      subst hA3
                      go_wp2_with fail
                      go_roundg (qn - (i2 + 1))
                      case measure => omega
                      case rel => exact ⟨i2 + 1, k + 1, by omega, by go_num, by go_num, HTk.out, HOn.out.below ((Below.refl _ wr).drew.trans (Below.refl _ wr.drew).drew)⟩
                  · rw [if_neg hp, List.append_nil] at htk
                    have HTk := Lib.hid (show k = ((EM.take (i2 + 1)).filter (evNot kd id)).length by rw [htk]; exact hk)
                    have HOn := Lib.hid hon
                    obtain ⟨k1, k2, k3, k4, k5⟩ := v
                    unfold evNot at hp
                    try simp only at hp f0 f1
                    have hz : k1 = kd ∧ k2 = id := by simpa using hp
                    obtain ⟨hz1, hz2⟩ := hz
                    have zz1 : (k1 == kd) = true := by simpa using hz1
                    have zz2 : (k2 == id) = true := by simpa using hz2
                    clear hon hv hfa htk hk hp hz1 hz2 f2 f3 f4
                    go_wp2_with fail
                    have f0_d := drewC f0
                    have f1_d := drewC f1
                    have b51_d := drewC b51
                    have b52_d := drewC b52
                    refine wp_region_loose (fun A => A = wr.drew) (by kernel_rfl) (by kernel_rfl) rfl ?_
                    repeat (first
                      | (refine loose_skip (by rfl) ?_; simp only [Act.put, List.setIfInBounds_toArray, List.set_cons_zero, List.set_cons_succ])
                      | (refine loose_val (v := ?_) (by rfl) ?_ ?_; rotate_left; (focus (intro A' hA'; subst hA'; go_simp; first | done | with_reducible rfl)); simp only [Act.put, List.setIfInBounds_toArray, List.set_cons_zero, List.set_cons_succ]))
                    refine loose_nil ?_
                    intro A3 hA3
                    subst hA3
                    go_wp2_with fail
                    go_roundg (qn - (i2 + 1))
                    case measure => omega
                    case rel => exact ⟨i2 + 1, k, by omega, rfl, by go_num, HTk.out, HOn.out.below (Below.refl _ wr).drew⟩
                · have hin2 : ¬ (i2 : Int) < (qn : Int) := by omega
                  have hkn : k = nl := by rw [hk, ← HNl.out, ← HNn.out, List.take_of_length_le (by rw [HMm.out]; omega)]
                  have zk : ((k : Int) == (nl : Int)) = true := by rw [hkn]; simp
                  have HF := Lib.hid hon.to_below
                  have HAw := Lib.hid (kawake_ok wr)
                  clear hon hk hkn
                  go_wp2_with fail
                  refine HAw.out.mono ?_
                  rintro e x4 ⟨rfl, hb4⟩
                  have HB4 := Lib.hid hb4
                  clear hb4
                  go_wp2_with fail
                  go_ret
                  exact ⟨rfl, HF.out.trans (HB4.out.mono HF.out.size)⟩
  · rw [decide_eq_false hfew] at HFw0
    clear hfew
    go_enter Try.func22, Try.ntmps22
    go_wp2_with fail
    refine HN0.out.mono ?_
    rintro e w1 ⟨cb, rfl, h1⟩
    have HFw := Lib.hid (HFw0.out w1 h1.to_below)
    have HF := Lib.hid h1.to_below
    clear h1 hV4 hV5
    go_wp2_with fail
    refine HFw.out.mono ?_
    rintro e w2 ⟨rfl, rfl⟩
    have HAw := Lib.hid (kawake_ok w2)
    go_wp2_with fail
    refine HAw.out.mono ?_
    rintro e x4 ⟨rfl, hb4⟩
    have HB4 := Lib.hid hb4
    clear hb4
    go_wp2_with fail
    go_ret
    exact ⟨rfl, HF.out.trans (HB4.out.mono HF.out.size)⟩
end Go.Proofs.Ytkjpkhpiojahkaa
