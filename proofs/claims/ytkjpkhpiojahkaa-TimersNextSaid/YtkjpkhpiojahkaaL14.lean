/-
  Walk: TimersNext.
-/
import Derived.Test.YtkjpkhpiojahkaaOp5
namespace Go.Proofs.Ytkjpkhpiojahkaa
set_option linter.unusedVariables false
open Go.RowKit Hp
attribute [local go_sem] Oper.semAt_some

/-- the clock is a time -/
theorem clk_step {s : Tst} (h : timeE s.now = 0) (most ask id t : Int) : timeE (step5 most s ask id t).now = 0 := by
  unfold step5
  split
  · exact h
  · split
    · exact h
    · split
      · show timeE (dueN s.now t) = 0
        unfold dueN
        split
        · rename_i hd
          unfold dueE at hd
          split at hd
          · assumption
          · exact hd
        · exact h
      · exact h

/-- the least time so far -/
def leastT (S : List (It Int)) : Int := (S.headD (0, 0)).2
theorem leastT_snoc {S pre : List (It Int)} {x : It Int} (hs : Sorted ltI S) (hp : pre ++ [x] <+: S) :
    leastT (pre ++ [x]) = if pre.length = 0 ∨ x.2 < leastT pre then x.2 else leastT pre := by
  cases pre with
  | nil => rw [if_pos (.inl rfl)]; rfl
  | cons y pre =>
    obtain ⟨t, ht⟩ := hp
    have h1 : y.2 ≤ x.2 := by
      rw [← ht] at hs
      exact sorted_le hs x (by simp)
    rw [if_neg]
    · rfl
    · rintro (h | h)
      · simp at h
      · have : leastT (y :: pre) = y.2 := rfl
        omega

set_option maxRecDepth 100000 in
set_option maxHeartbeats 8000000 in
theorem tnext_ok (a : Option Addr) (cap : Nat) (os : List (Int × Int × Int)) (w : World) (hc : OpsAt5 w a os) :
    Calls Try.prog 11 #[.slice a os.length cap] w fun e w' => e = .returned (.bool true) ∧ Below w.heap.size w w' := by
  obtain ⟨n, hn⟩ : ∃ n, os.length = n := ⟨_, rfl⟩
  have HC := Lib.hid hc
  have HN := Lib.hid hn
  rw [hn]
  clear hc hn
  have HN0 := Lib.hid (T_new (On.emp w) 20 (by decide) (by decide))
  refine (callsIn_wide (n := 9)).1 ?_
  refine callsIn_of_wp_marks Try.func11 rfl trivial ?_ rfl
  simp only [Try.ntmps11, List.size_toArray, List.length_cons, List.length_nil, Nat.reduceAdd, Nat.reduceSub, Array.replicate_succ, Array.replicate_zero, List.push_toArray, List.append_toArray, List.nil_append, List.cons_append]
  gi_wp2_with fail
  refine ⟨trivial, ?_⟩
  refine (callsIn_wide.2 HN0.out).mono ?_
  rintro e w1 ⟨tb, rfl, h1⟩
  have HF := Lib.hid (few5_any (a := a) n cap w1)
  have H1 := Lib.hid h1
  clear h1
  by_cases h60 : n ≤ 60
  · rw [decide_eq_true (by omega : (n : Int) ≤ 60)] at HF
    gi_wp2_with fail
    refine ⟨trivial, ?_⟩
    refine (callsIn_wide.2 HF.out).mono ?_
    rintro e w2 ⟨rfl, rfl⟩
    have HR := Lib.hid (RT_new H1.out 20)
    gi_wp2_with fail
    refine ⟨trivial, ?_⟩
    refine (callsIn_wide.2 HR.out).mono ?_
    rintro e w2 ⟨rb, rfl, h2⟩
    have H2 := Lib.hid h2.sw0
    clear h2
    gi_wp2_with fail

    gi_loopg [6] n (fun gh s7 wr => ∃ (i : Nat) (s : Tst), i + gh = n ∧ s7 = .int .i64 (i : Int) ∧ Tok s i ∧ timeE s.now = 0 ∧ On w wr (sep (tqA tb 20 s.S s.now s.worst) (sep (rqA rb 20 s.S s.now s.worst) emp)))
    case atStart => exact ⟨0, ⟨[], 0, 0⟩, by omega, rfl, ⟨List.Pairwise.nil, (fun x hx => by cases hx), by simp⟩, by decide, H2.out⟩
    case round =>
      obtain ⟨i, s, hi, rfl, hs, hck, hon⟩ := hrel
      by_cases hlt : i < n
      · have hltI : (i : Int) < (n : Int) := by omega
        have hi0 : (0 : Int) ≤ (i : Int) := by omega
        obtain ⟨b, off, o, rfl, hoi, q0, q1, q2, hw⟩ := HC.out.get hon.to_below (k := i) (by rw [HN.out]; exact hlt)
        have HDo := Lib.hid (does5_ok hon hs (by omega) Plain.emp.tame o.1 o.2.1 o.2.2 hw)
        have HTk := Lib.hid (hs.step 20 o.1 o.2.1 o.2.2)
        have HCk := Lib.hid (clk_step hck 20 o.1 o.2.1 o.2.2)
        clear hs hon hoi hw hck
        obtain ⟨s', hs'⟩ : ∃ z, step5 20 s o.1 o.2.1 o.2.2 = z := ⟨_, rfl⟩
        rw [hs'] at HDo HTk HCk
        clear hs'
        gi_wp2_with fail
        refine ⟨trivial, ?_⟩
        refine (callsIn_wide.2 HDo.out).mono ?_
        rintro e x1 ⟨rfl, h3⟩
        have H4 := Lib.hid h3
        clear h3
        gi_wp2_with fail
        gi_roundg (n - (i + 1))
        case measure => omega
        case rel => exact ⟨i + 1, s', by omega, by go_num, HTk.out, HCk.out, H4.out⟩
      · have hin : i = n := by omega
        subst hin
        obtain ⟨S, now, worst⟩ := s
        dsimp only at hs hck hon
        have hsl := hs.len
        have HS := Lib.hid hs.sorted
        have HT := Lib.hid hs.timed
        dsimp only at HS HT hsl
        have HCk := Lib.hid hck
        have HAr := Lib.hid (T_armed hon HS.out (by omega))
        clear hs hon hck
        gi_wp2_with fail
        refine ⟨trivial, ?_⟩
        refine (callsIn_wide.2 HAr.out).mono ?_
        rintro e w3 ⟨ba, rfl, h3⟩
        have hq : ∀ w, (binOp BinOp.eql 84 (.func (.func 109) #[] #[.pointer (some ⟨ba, 0, none⟩)]) .nilFunc).run Try.prog w = .ok (.bool false) w := fun w => by kernel_rfl
        have HNx := Lib.hid (T_next h3.sw0 HS.out)
        have H3 := Lib.hid h3
        clear h3
        gi_wp2_with fail
        refine ⟨trivial, ?_⟩
        refine (callsIn_wide.2 HNx.out).mono ?_
        rintro e w4 ⟨rfl, hb4⟩
        have h4 := H3.out.below hb4
        obtain ⟨bn, hbn⟩ : ∃ b, w4.heap.size = b := ⟨_, rfl⟩
        obtain ⟨x1, hx1⟩ : ∃ x, w4.alloc (.cells #[.int .i64 0] 3) = x := ⟨_, rfl⟩
        have h5 := h4.new1 3 #[.int .i64 0]
        rw [hx1, hbn] at h5
        have y00 := (h5).bx 0 rfl
        have y00f := ((h5).box1 0).2
        obtain ⟨x2, hx2⟩ : ∃ x, x1.setCell ⟨bn, 0, none⟩ (.int .i64 0) = x := ⟨_, rfl⟩
        have h6 := h5.box_set 0 (.int .i64 0)
        rw [hx2] at h6
        obtain ⟨bl, hbl⟩ : ∃ b, x2.heap.size = b := ⟨_, rfl⟩
        obtain ⟨x3, hx3⟩ : ∃ x, x2.alloc (.cells #[.int .i64 0] 3) = x := ⟨_, rfl⟩
        have h7 := h6.new1 3 #[.int .i64 0]
        rw [hx3, hbl] at h7
        have z00 := (h7).bx 0 rfl
        have z00f := ((h7).box1 0).2
        obtain ⟨x4, hx4⟩ : ∃ x, x3.setCell ⟨bl, 0, none⟩ (.int .i64 0) = x := ⟨_, rfl⟩
        have h8 := h7.box_set 0 (.int .i64 0)
        rw [hx4] at h8
        have H8 := Lib.hid (h8.sw1.sw0.sw1)
        clear h4 h5 h6 h7 h8 hb4
        gi_wp2_with fail
        clear hbn hx1 hx2 hbl hx3 hx4 y00 y00f z00 z00f
        refine wpIn_range_onF rfl (by omega) (gf := 109) (lb := #[.pointer (some ⟨ba, 0, none⟩)]) rfl trivial (enters_of Try.func109 (by kernel_rfl) rfl)
          (Sq := armA ba S) (Plain.arm ba S) (fun pre => sep (boxA bn 3 #[.int .i64 (pre.length : Int)]) (sep (boxA bl 3 #[.int .i64 (leastT pre)]) (sep (tqA tb 20 S now worst) (sep (rqA rb 20 S now worst) emp))))
          (fun _ => ((Plain.box _ _ _).sep ((Plain.box _ _ _).sep ((Plain.tq _ _ _ _ _).sep ((Plain.rq _ _ _ _ _).sep Plain.emp)))).f _) (fun _ _ => prA False) (fun _ _ => (Plain.pr _).f _) H8.out (fun K hK => arm_iter _ HT.out (by omega) hK) (fun _ => rfl) ?round ?done ?stop
        case round =>
          rintro K l pre ⟨y1, y2⟩ A hlA hlr hpre hon
          have hlp := hpre.length_le
          rw [List.length_append, List.length_singleton] at hlp
          have hls := leastT_snoc HS.out hpre
          have H9 := Lib.hid hon
          have HLs := Lib.hid hls
          clear hon hpre hls hlr
          gi_wp2_with fail
          refine ⟨_, ((Plain.box _ _ _).sep ((Plain.box _ _ _).sep ((Plain.tq _ _ _ _ _).sep ((Plain.rq _ _ _ _ _).sep Plain.emp)))).f _, H9.out, ?_⟩
          intro Wb
          intros
          rename_i h9
          have p10 := (h9.sw0).bx 0 rfl
          have p10f := ((h9.sw0).box1 0).2
          have p20 := (h9.sw1.sw0).bx 0 rfl
          have p20f := ((h9.sw1.sw0).box1 0).2
          obtain ⟨q, hq'⟩ : ∃ q, pre.length = q := ⟨_, rfl⟩
          rw [hq'] at p10 h9 hlp
          have hn1 : (q : Int) + 1 ≤ 700000 := by omega
          have hn0 : (0 : Int) ≤ (q : Int) := by omega
          obtain ⟨L, hL⟩ : ∃ L, leastT pre = L := ⟨_, rfl⟩
          rw [hL] at p20 h9
          have HLs2 := HLs.out
          rw [hL, hq'] at HLs2
          have HQ := Lib.hid hq'
          by_cases hc : q = 0 ∨ y2 < L
          · rw [if_pos hc] at HLs2
            have HL2 := Lib.hid HLs2
            have h10 := (h9.sw1.sw0).box_set 0 (.int .i64 y2)
            obtain ⟨Wc, hWc⟩ : ∃ x, Wb.setCell ⟨bl, 0, none⟩ (.int .i64 y2) = x := ⟨_, rfl⟩
            rw [hWc] at h10
            have r20 := (h10.sw1.sw0).bx 0 rfl
            have r20f := ((h10.sw1.sw0).box1 0).2
            have H11 := Lib.hid (((h10.sw1.sw0).box_set 0 (.int .i64 ((q : Int) + 1))).sw1.sw0)
            clear h9 h10 HLs2 hL hq'
            rcases Nat.eq_zero_or_pos q with h0 | h0
            · have z1 : ((q : Int) == 0) = true := by simp [h0]
              clear hc h0
              gi_wp2_with fail
              rw [HL2.out, HQ.out]
              exact H11.out
            · have z1 : ((q : Int) == 0) = false := by simp; omega
              have z2 : y2 < L := by omega
              clear hc h0
              gi_wp2_with fail
              rw [HL2.out, HQ.out]
              exact H11.out
          · rw [if_neg hc] at HLs2
            have HL2 := Lib.hid HLs2
            have H11 := Lib.hid (((h9.sw0).box_set 0 (.int .i64 ((q : Int) + 1))).sw0)
            have z1 : ((q : Int) == 0) = false := by simp; omega
            have z2 : ¬ y2 < L := by omega
            clear h9 HLs2 hL hc hq'
            gi_wp2_with fail
            rw [HL2.out, HQ.out]
            exact H11.out
        case done =>
          intro D A hD hon hKd
          have hDw : w.heap.size ≤ D := Nat.le_trans H8.out.to_below.size hD
          have hend : ∀ (A' : World) (tm : Array Value), On w A' (sep (mkA D) emp) → tm[2]? = some (.bool true) →
              bodyPostM Fence.wide 9 Try.prog Try.f11 (fun e w' => e = Ending.returned (.bool true) ∧ Below w.heap.size w w') .ret { tmps := tm, defers := [{ target := .collected D, args := #[] }] } A' := fun A' tm h htm =>
            fin_mark (X := emp) Plain.emp h.out1 hDw h.mk_get (fun A'' h => ⟨by simp [results, Try.f11, go_sem, htm], rfl, h.to_below⟩)
          have HEnd := Lib.hid hend
          have h12 := hon.mk_add (D := D) hKd
          clear hend hon hKd hD
          cases S with
          | nil =>
            have c20 := (h12.sw1.sw0).bx 0 rfl
            have c30 := (h12.sw2.sw1.sw0).bx 0 rfl
            have HA := Lib.hid (tawake_ok A)
            have H12 := Lib.hid (h12.sw0.sw1.sw2.sw3.sw4).out1.out1.out1.out1.out1
            have HB := Lib.hid H12.out.to_below
            clear h12
            have c20' : A.cell? ⟨bn, 0, none⟩ = some (.int .i64 0) := c20
            have e1 : headE ([] : List (It Int)) = 14 := rfl
            clear c20
            gi_wp2_with fail
            refine ⟨trivial, ?_⟩
            refine (callsIn_wide.2 HA.out).mono ?_
            rintro e w10 ⟨rfl, hb10⟩
            have H10 := Lib.hid (H12.out.below hb10)
            clear hb10
            gi_wp2_with fail
            exact HEnd.out _ _ H10.out rfl
          | cons x S' =>
            have htx : timeE x.2 = 0 := HT.out x (List.mem_cons_self ..)
            have htx2 := timeE_ok htx
            have hck2 := timeE_ok HCk.out
            have e1 : headE (x :: S') = 0 := rfl
            have e2 : ((x :: S').head?.getD (0, 0)).2 = x.2 := rfl
            have e3 : leastT (x :: S') = x.2 := rfl
            rw [e3] at h12
            obtain ⟨k, hk⟩ : ∃ k, (x :: S').length = k := ⟨_, rfl⟩
            have hk1 : 1 ≤ k := by rw [← hk]; simp
            rw [hk] at h12
            have c20 := (h12.sw1.sw0).bx 0 rfl
            have c30 := (h12.sw2.sw1.sw0).bx 0 rfl
            have z1 : ((k : Int) == 0) = false := by simp; omega
            have z2 : (x.2 != x.2) = false := by simp
            have hw1 : IntKind.i64.wrap (x.2 - 1) = x.2 - 1 := IntWalk.i64_in _ (by omega)
            have HCo := Lib.hid (T_copy (h12.sw3.sw2.sw1.sw0) (by omega))
            clear h12 hk e3
            gi_wp2_with fail
            refine ⟨trivial, ?_⟩
            refine (callsIn_wide.2 HCo.out).mono ?_
            rintro e w5 ⟨tc, rfl, h13⟩
            have h14 := (h13.sw0.sw2.sw1.sw3.sw2.sw4.sw3.sw5.sw4).out1.out1.out1.out1.out1
            have HNw1 := Lib.hid (T_now h14)
            have H14 := Lib.hid h14
            clear h13 h14
            by_cases hge : now ≤ x.2 - 1
            · gi_wp2_with fail
              refine ⟨trivial, ?_⟩
              refine (callsIn_wide.2 HNw1.out).mono ?_
              rintro e w6 ⟨rfl, rfl⟩
              have ht1 : timeE (x.2 - 1) = 0 := by unfold timeE; rw [if_neg (by omega), if_neg (by omega)]
              have hd1 : dueE now (x.2 - 1) = 0 := dueE_ok ht1 hge
              have hdu1 := T_due_any H14.out HS.out HT.out (by simp at hsl ⊢; omega) ((Tame.mk D).sep Plain.emp.tame) (x.2 - 1)
              have hup1 : upto (x :: S') (x.2 - 1) = [] := by unfold upto; rw [List.takeWhile_cons_of_neg (by simp; omega)]
              have e4 : dueT (x :: S') now (x.2 - 1) = [] := by unfold dueT; rw [if_pos hd1, hup1]
              have e5 : dueL (x :: S') now (x.2 - 1) = x :: S' := by unfold dueL late; rw [if_pos hd1, hup1]; rfl
              have e6 : dueN now (x.2 - 1) = x.2 - 1 := by unfold dueN; rw [if_pos hd1]
              rw [hd1, e4, e5, e6] at hdu1
              obtain ⟨Wc, hWc⟩ : ∃ z, dueW (x :: S') now worst (x.2 - 1) = z := ⟨_, rfl⟩
              rw [hWc] at hdu1
              have HDu1 := Lib.hid hdu1
              clear hdu1 hup1 e4 e5 e6 hd1 hWc
              gi_wp2_with fail
              refine ⟨trivial, ?_⟩
              refine (callsIn_wide.2 HDu1.out).mono ?_
              rintro e w7 ⟨v, rfl, h7⟩
              obtain ⟨fa0, fc0, rfl, _, _⟩ := h7.fired1
              have hlen0 : ([] : List (It Int)).length = 0 := rfl
              rw [hlen0] at h7 ⊢
              have h7' := h7.out1
              obtain ⟨N, hNN⟩ : ∃ N, x.2 - 1 = N := ⟨_, rfl⟩
              rw [hNN] at h7' ht1
              have hN : timeE N = 0 := ht1
              have hNx : N < x.2 := by omega
              have HTc := Lib.hid h7'
              have htk := htx
              have hcmp : ¬ x.2 < N := by omega
              clear h7 hlen0 h7' hNN ht1 hge
              have hd0 : dueE N x.2 = 0 := dueE_ok htk (by omega)
              have hup : dueT (x :: S') N x.2 = x :: upto S' x.2 := by unfold dueT; rw [if_pos hd0]; exact upto_head (by omega)
              have hnw := T_now HTc.out
              have hdu := T_due_any HTc.out HS.out HT.out (by simp at hsl ⊢; omega) ((Tame.mk D).sep Plain.emp.tame) x.2
              rw [hd0, hup] at hdu
              obtain ⟨U, hU⟩ : ∃ U, upto S' x.2 = U := ⟨_, rfl⟩
              rw [hU] at hdu
              have hUl : U.length < 700000 := by rw [← hU]; have := (upto_pre S' x.2).length_le; simp at hsl; omega
              have HNw := Lib.hid hnw
              have HDu := Lib.hid hdu
              clear hnw hdu htk hd0 hup hU
              gi_wp2_with fail
              refine ⟨trivial, ?_⟩
              refine (callsIn_wide.2 HNw.out).mono ?_
              rintro e w8 ⟨rfl, rfl⟩
              gi_wp2_with fail
              refine ⟨trivial, ?_⟩
              refine (callsIn_wide.2 HDu.out).mono ?_
              rintro e w9 ⟨v, rfl, h9⟩
              obtain ⟨fa, fc, rfl, _, _⟩ := h9.fired1
              have hlen : (x :: U).length = U.length + 1 := rfl
              rw [hlen] at h9 ⊢
              obtain ⟨fb, off, rfl, _, r1, _⟩ := h9.fired_at (k := 0) rfl
              simp only [Nat.zero_mul, Nat.add_zero] at r1
              have H9 := Lib.hid h9.out1.out1
              have HA := Lib.hid (tawake_ok w9)
              have hl1 : (0 : Int) < ((U.length + 1 : Nat) : Int) := by omega
              have g2 : (x.2 == x.2) = true := by simp
              clear h9 hlen
              gi_wp2_with fail
              refine ⟨trivial, ?_⟩
              refine (callsIn_wide.2 HA.out).mono ?_
              rintro e w10 ⟨rfl, hb10⟩
              have H10 := Lib.hid (H9.out.below hb10)
              clear hb10
              gi_wp2_with fail
              exact HEnd.out _ _ H10.out rfl
            · gi_wp2_with fail
              refine ⟨trivial, ?_⟩
              refine (callsIn_wide.2 HNw1.out).mono ?_
              rintro e w6 ⟨rfl, rfl⟩
              have HTc := H14
              by_cases hcmp : x.2 < now
              · have htk := HCk.out
                have hd0 : dueE now now = 0 := dueE_ok htk (by omega)
                have hup : dueT (x :: S') now now = x :: upto S' now := by unfold dueT; rw [if_pos hd0]; exact upto_head (by omega)
                have hnw := T_now HTc.out
                have hdu := T_due_any HTc.out HS.out HT.out (by simp at hsl ⊢; omega) ((Tame.mk D).sep Plain.emp.tame) now
                rw [hd0, hup] at hdu
                obtain ⟨U, hU⟩ : ∃ U, upto S' now = U := ⟨_, rfl⟩
                rw [hU] at hdu
                have hUl : U.length < 700000 := by rw [← hU]; have := (upto_pre S' now).length_le; simp at hsl; omega
                have HNw := Lib.hid hnw
                have HDu := Lib.hid hdu
                clear hnw hdu htk hd0 hup hU
                gi_wp2_with fail
                refine ⟨trivial, ?_⟩
                refine (callsIn_wide.2 HNw.out).mono ?_
                rintro e w8 ⟨rfl, rfl⟩
                gi_wp2_with fail
                refine ⟨trivial, ?_⟩
                refine (callsIn_wide.2 HDu.out).mono ?_
                rintro e w9 ⟨v, rfl, h9⟩
                obtain ⟨fa, fc, rfl, _, _⟩ := h9.fired1
                have hlen : (x :: U).length = U.length + 1 := rfl
                rw [hlen] at h9 ⊢
                obtain ⟨fb, off, rfl, _, r1, _⟩ := h9.fired_at (k := 0) rfl
                simp only [Nat.zero_mul, Nat.add_zero] at r1
                have H9 := Lib.hid h9.out1.out1
                have HA := Lib.hid (tawake_ok w9)
                have hl1 : (0 : Int) < ((U.length + 1 : Nat) : Int) := by omega
                have g2 : (x.2 == x.2) = true := by simp
                clear h9 hlen
                gi_wp2_with fail
                refine ⟨trivial, ?_⟩
                refine (callsIn_wide.2 HA.out).mono ?_
                rintro e w10 ⟨rfl, hb10⟩
                have H10 := Lib.hid (H9.out.below hb10)
                clear hb10
                gi_wp2_with fail
                exact HEnd.out _ _ H10.out rfl
              · have htk := htx
                have hd0 : dueE now x.2 = 0 := dueE_ok htk (by omega)
                have hup : dueT (x :: S') now x.2 = x :: upto S' x.2 := by unfold dueT; rw [if_pos hd0]; exact upto_head (by omega)
                have hnw := T_now HTc.out
                have hdu := T_due_any HTc.out HS.out HT.out (by simp at hsl ⊢; omega) ((Tame.mk D).sep Plain.emp.tame) x.2
                rw [hd0, hup] at hdu
                obtain ⟨U, hU⟩ : ∃ U, upto S' x.2 = U := ⟨_, rfl⟩
                rw [hU] at hdu
                have hUl : U.length < 700000 := by rw [← hU]; have := (upto_pre S' x.2).length_le; simp at hsl; omega
                have HNw := Lib.hid hnw
                have HDu := Lib.hid hdu
                clear hnw hdu htk hd0 hup hU
                gi_wp2_with fail
                refine ⟨trivial, ?_⟩
                refine (callsIn_wide.2 HNw.out).mono ?_
                rintro e w8 ⟨rfl, rfl⟩
                gi_wp2_with fail
                refine ⟨trivial, ?_⟩
                refine (callsIn_wide.2 HDu.out).mono ?_
                rintro e w9 ⟨v, rfl, h9⟩
                obtain ⟨fa, fc, rfl, _, _⟩ := h9.fired1
                have hlen : (x :: U).length = U.length + 1 := rfl
                rw [hlen] at h9 ⊢
                obtain ⟨fb, off, rfl, _, r1, _⟩ := h9.fired_at (k := 0) rfl
                simp only [Nat.zero_mul, Nat.add_zero] at r1
                have H9 := Lib.hid h9.out1.out1
                have HA := Lib.hid (tawake_ok w9)
                have hl1 : (0 : Int) < ((U.length + 1 : Nat) : Int) := by omega
                have g2 : (x.2 == x.2) = true := by simp
                clear h9 hlen
                gi_wp2_with fail
                refine ⟨trivial, ?_⟩
                refine (callsIn_wide.2 HA.out).mono ?_
                rintro e w10 ⟨rfl, hb10⟩
                have H10 := Lib.hid (H9.out.below hb10)
                clear hb10
                gi_wp2_with fail
                exact HEnd.out _ _ H10.out rfl
        case stop =>
          intro D c pre A _ _ h _
          exact (On.pr_open (p := False) (On.comm h)).1.elim
  · rw [decide_eq_false (by omega : ¬ (n : Int) ≤ 60)] at HF
    gi_wp2_with fail
    refine ⟨trivial, ?_⟩
    refine (callsIn_wide.2 HF.out).mono ?_
    rintro e w2 ⟨rfl, rfl⟩
    have HA := Lib.hid (tawake_ok w1)
    have HB := Lib.hid H1.out.to_below
    gi_wp2_with fail
    refine ⟨trivial, ?_⟩
    refine (callsIn_wide.2 HA.out).mono ?_
    rintro e w3 ⟨rfl, hb3⟩
    have HB3 := Lib.hid hb3
    clear hb3
    gi_wp2_with fail
    exact ⟨.bool true, by simp [results, Try.f11, go_sem], rfl, HB.out.trans (HB3.out.mono HB.out.size)⟩
end Go.Proofs.Ytkjpkhpiojahkaa
