/-
  Clock: Step.
-/
import Derived.Test.YtkjpkhpiojahkaaCk6f
namespace Go.Proofs.Ytkjpkhpiojahkaa
set_option linter.unusedVariables false
open Go.RowKit Hp
attribute [local go_sem] Oper.semAt_some
section
variable {w0 w : World} {R : Ast} {cb : Nat} {c : Ck}
set_option maxRecDepth 100000 in
set_option maxHeartbeats 8000000 in
theorem K_step (hT : Tame R) (h : On w0 w (sep (ckA cb c) R)) (ho : CkOk c) (to : Int) :
    Calls Try.prog 87 #[.pointer (some ⟨cb, 0, none⟩), .int .i64 to] w fun e w' => e = .returned (.tuple #[evV (c.stepV to), .bool (c.stepV to).isSome, .int .i64 (c.stepE to)]) ∧ On w0 w' (sep (ckA cb (c.step to)) R) := by
  obtain ⟨b0, hb0⟩ : ∃ b, w.heap.size = b := ⟨_, rfl⟩
  obtain ⟨W, hW⟩ : ∃ x, ((((w.alloc (.cells #[.pointer (some ⟨cb, 0, none⟩)] 101)).alloc (.cells #[.int .i64 to] 3)).alloc (.cells #[.int .i64 0, .int .i64 0, .int .i64 0, .int .i64 0, .int .i64 0] 109)).alloc (.cells #[.bool false] 4)).alloc (.cells #[.int .i64 0] 40) = x := ⟨_, rfl⟩
  have h1 := ((((h.new1 101 #[.pointer (some ⟨cb, 0, none⟩)]).new1 3 #[.int .i64 to]).new1 109 #[.int .i64 0, .int .i64 0, .int .i64 0, .int .i64 0, .int .i64 0]).new1 4 #[.bool false]).new1 40 #[.int .i64 0]
  simp only [World.size_alloc, hb0] at h1
  rw [hW] at h1
  obtain ⟨T, hT'⟩ : ∃ T, timeE to = T := ⟨_, rfl⟩
  have HTi := Lib.hid (fun A : World => time_any to A)
  rw [hT'] at HTi
  by_cases ht : T = 0
  · subst ht
    by_cases hlt : to < c.now
    · have e1 : c.stepE to = 10 := by unfold Ck.stepE; rw [if_pos hT', if_pos hlt]
      have e2 : c.stepV to = none := by unfold Ck.stepV; rw [if_neg (by rw [e1]; decide)]
      have e3 : c.step to = c := by unfold Ck.step; rw [if_neg (by rw [e1]; decide)]
      rw [e1, e2, e3]
      obtain ⟨tb, v, h2⟩ := (h1.sw4.sw3.sw2.sw1.sw0).ck_open
      have h3 := (h2.sw2.sw1.sw0.sw3.sw2.sw1.sw4.sw3.sw2.sw5.sw4.sw3.sw6.sw5.sw4)
      have hn := (h3.sw4.sw3.sw2.sw1.sw0).bxg (ck_now ho.len)
      have k00 := (h3).bx 0 rfl
      have k00f := ((h3).box1 0).2
      have k10 := (h3.sw0).bx 0 rfl
      have k10f := ((h3.sw0).box1 0).2
      have k20 := (h3.sw1.sw0).bx 0 rfl
      have k20f := ((h3.sw1.sw0).box1 0).2
      have k21 := (h3.sw1.sw0).bx 1 rfl
      have k21f := ((h3.sw1.sw0).box1 1).2
      have k22 := (h3.sw1.sw0).bx 2 rfl
      have k22f := ((h3.sw1.sw0).box1 2).2
      have k23 := (h3.sw1.sw0).bx 3 rfl
      have k23f := ((h3.sw1.sw0).box1 3).2
      have k24 := (h3.sw1.sw0).bx 4 rfl
      have k24f := ((h3.sw1.sw0).box1 4).2
      have k30 := (h3.sw2.sw1.sw0).bx 0 rfl
      have k40 := (h3.sw3.sw2.sw1.sw0).bx 0 rfl
      obtain ⟨now, hnow⟩ : ∃ x, c.now = x := ⟨_, rfl⟩
      rw [hnow] at hn hlt
      have H1 := Lib.hid h1
      clear h h1 h2 h3 e1 e2 e3 hT' ho hnow
      refine (callsIn_wide (n := 9)).1 ?_
      refine callsIn_of_wp_marks Try.func87 rfl trivial ?_ rfl
      simp only [Try.ntmps87, List.size_toArray, List.length_cons, List.length_nil, Nat.reduceAdd, Nat.reduceSub, Array.replicate_succ, Array.replicate_zero, List.push_toArray, List.append_toArray, List.nil_append, List.cons_append]
      gi_wp2_with fail
      clear hW
      refine ⟨trivial, ?_⟩
      refine (callsIn_wide.2 (HTi.out _)).mono ?_
      rintro e w1 ⟨rfl, rfl⟩
      gi_wp2_with fail
      refine wpIn_wide.2 ?_
      have k30_d := drewC k30
      have k40_d := drewC k40
      have hn_d := drewC hn
      refine wp_region_loose (fun A => A = W.drew) (by kernel_rfl) (by kernel_rfl) rfl ?_
      repeat (first
        | (refine loose_skip (by rfl) ?_; simp only [Act.put, List.setIfInBounds_toArray, List.set_cons_zero, List.set_cons_succ])
        | (refine loose_val (v := ?_) (by rfl) ?_ ?_; rotate_left; (focus (intro A' hA'; subst hA'; go_simp; first | done | with_reducible rfl)); simp only [Act.put, List.setIfInBounds_toArray, List.set_cons_zero, List.set_cons_succ]))
      refine loose_nil ?_
      intro A3 hA3
      subst hA3
      gi_wp2_with fail
      have h2 := (H1.out.res_set (v0 := .int .i64 0) (v1 := .int .i64 0) (v2 := .int .i64 0) (v3 := .int .i64 0) (v4 := .int .i64 0) (a := .bool false) (b := .int .i64 10)).below (Below.refl _ _).drew
      exact ⟨_, step_results (v := ev0) h2 rfl rfl rfl, rfl, h2.out1.out1.out1.out1.out1⟩
    · by_cases hf : ∃ x1 x2 T, c.S = (x1, x2) :: T ∧ ¬ to < x2
      · obtain ⟨x1, x2, T, hcS, hx⟩ := hf
        exact step_fire hT h ho to hT' hlt hcS hx
      have HF := Lib.hid hf
      clear hf
      have e1 : c.stepE to = 0 := by unfold Ck.stepE; rw [if_pos hT', if_neg hlt]
      rw [e1]
      obtain ⟨tb, v, h2⟩ := (h1.sw4.sw3.sw2.sw1.sw0).ck_open
      have h3 := (h2.sw2.sw1.sw0.sw3.sw2.sw1.sw4.sw3.sw2.sw5.sw4.sw3.sw6.sw5.sw4)
      have hn := (h3.sw4.sw3.sw2.sw1.sw0).bxg (ck_now ho.len)
      have hq0 := (h3.sw4.sw3.sw2.sw1.sw0).bxg ck_q
      have k30 := (h3.sw2.sw1.sw0).bx 0 rfl
      have k40 := (h3.sw3.sw2.sw1.sw0).bx 0 rfl
      obtain ⟨now, hnow⟩ : ∃ x, c.now = x := ⟨_, rfl⟩
      rw [hnow] at hn hlt
      have hle : now ≤ to := by omega
      have h4 := h3.below (Below.refl _ W).drew
      have HAr := Lib.hid (T_armed (h4.sw5.sw4.sw3.sw2.sw1.sw0) ho.sorted (by have := ho.few; omega))
      have HOk := Lib.hid ho
      have HNow := Lib.hid hnow
      have HT := Lib.hid hT
      have HE1 := Lib.hid e1
      obtain ⟨V, hV⟩ : ∃ V, c.stepV to = V := ⟨_, rfl⟩
      obtain ⟨G, hG⟩ : ∃ V, c.step to = V := ⟨_, rfl⟩
      rw [hV, hG]
      have HV := Lib.hid hV
      have HG := Lib.hid hG
      clear h h1 h2 h3 h4 hT' ho hnow hT e1 hV hG
      refine (callsIn_wide (n := 9)).1 ?_
      refine callsIn_of_wp_marks Try.func87 rfl trivial ?_ rfl
      simp only [Try.ntmps87, List.size_toArray, List.length_cons, List.length_nil, Nat.reduceAdd, Nat.reduceSub, Array.replicate_succ, Array.replicate_zero, List.push_toArray, List.append_toArray, List.nil_append, List.cons_append]
      gi_wp2_with fail
      clear hW
      refine ⟨trivial, ?_⟩
      refine (callsIn_wide.2 (HTi.out _)).mono ?_
      rintro e w1 ⟨rfl, rfl⟩
      gi_wp2_with fail
      refine wpIn_wide.2 ?_
      have k30_d := drewC k30
      have k40_d := drewC k40
      have hn_d := drewC hn
      refine wp_region_loose (fun A => A = W.drew) (by kernel_rfl) (by kernel_rfl) rfl ?_
      repeat (first
        | (refine loose_skip (by rfl) ?_; simp only [Act.put, List.setIfInBounds_toArray, List.set_cons_zero, List.set_cons_succ])
        | (refine loose_val (v := ?_) (by rfl) ?_ ?_; rotate_left; (focus (intro A' hA'; subst hA'; go_simp; first | done | with_reducible rfl)); simp only [Act.put, List.setIfInBounds_toArray, List.set_cons_zero, List.set_cons_succ]))
      refine loose_nil ?_
      intro A3 hA3
      subst hA3
      gi_wp2_with fail
      refine ⟨trivial, ?_⟩
      refine (callsIn_wide.2 HAr.out).mono ?_
      rintro e w3 ⟨ba, rfl, h5⟩
      have hq : ∀ w, (binOp BinOp.eql 84 (.func (.func 109) #[] #[.pointer (some ⟨ba, 0, none⟩)]) .nilFunc).run Try.prog w = .ok (.bool false) w := fun w => by kernel_rfl
      have hRF := HT.out.at h5.out1.out1.out1.out1.out1.out1.out1.out1.out1
      have h6 : On w0 w3 (sep (armA ba c.S) (stpA b0 cb tb to v c.lates c.ats R 0 false ev0 c.S c.now c.worst)) := (h5.sw1.sw2.sw3.sw4.sw5.sw6)
      have hI : PlainF w3.heap.size (stpA b0 cb tb to v c.lates c.ats R 0 false ev0 c.S c.now c.worst) := Plain.stp hRF
      obtain ⟨I, hIe⟩ : ∃ I, stpA b0 cb tb to v c.lates c.ats R 0 false ev0 c.S c.now c.worst = I := ⟨_, rfl⟩
      rw [hIe] at h6 hI
      have HI := Lib.hid hIe
      have H6 := Lib.hid h6
      clear h5 h6 hIe k30 k40 hn hq0
      have HTm := Lib.hid HOk.out.times
      have HFw := Lib.hid HOk.out.few
      obtain ⟨S, hS⟩ : ∃ S, c.S = S := ⟨_, rfl⟩
      have HS := Lib.hid hS
      rw [hS] at H6 HTm HFw
      clear hS
      cases S with
      | nil =>
        have hP : PlainF w3.heap.size (prA False) := (Plain.pr _).f _
        have e2 : c.stepV to = none := by unfold Ck.stepV; rw [if_pos HE1.out, HS.out]
        have e3 : c.step to = { c with now := to } := by unfold Ck.step; rw [if_pos HE1.out, HS.out]
        have HV2 := Lib.hid (HV.out.symm.trans e2)
        have HG2 := Lib.hid (HG.out.symm.trans e3)
        clear e2 e3
        gi_wp2_with fail
        refine wpIn_range_onF rfl (by omega) (gf := 109) (lb := #[.pointer (some ⟨ba, 0, none⟩)]) rfl trivial (enters_of Try.func109 (by kernel_rfl) rfl)
          (Sq := armA ba []) (Plain.arm ba []) (stF I) (stF_plain hI) (fun c _ => sxF (prA False) (prA False) c) (fun c _ => sxF_plain hP hP c) H6.out (fun K hK => arm_iter _ HTm.out (by decide) hK) (fun _ => rfl) ?round ?done ?stop
        case round =>
          rintro K l pre x A hlA hlr hpre hon
          have := List.prefix_nil.1 hpre
          simp at this
        case done =>
          intro D A hD hon hKd
          have h7 : On w0 A (sep (armA ba []) (stpA b0 cb tb to v c.lates c.ats R 0 false ev0 c.S c.now c.worst)) := by
            rw [HI.out]
            exact hon
          rw [HS.out] at h7
          unfold stpA at h7
          have p0 := (h7.sw4.sw3.sw2.sw1.sw0).bx 0 rfl
          have p1 := (h7.sw3.sw2.sw1.sw0).bx 0 rfl
          have p2 := (h7.sw5.sw4.sw3.sw2.sw1.sw0).bxg (ck_now HOk.out.len)
          have p2f := ((h7.sw5.sw4.sw3.sw2.sw1.sw0).box1 514).2
          have h8 := (h7.sw5.sw4.sw3.sw2.sw1.sw0).box_set 514 (.int .i64 to)
          rw [ck_setNow HOk.out.len] at h8
          obtain ⟨A1, hA1⟩ : ∃ x, A.setCell ⟨cb, 514, none⟩ (.int .i64 to) = x := ⟨_, rfl⟩
          rw [hA1] at h8
          have h9 := (h8.sw1.sw0.sw2.sw1.sw3.sw2.sw3.sw4.sw5)
          have hKd1 : A1.heap[D]? = some (.deferred (some [])) := by rw [← hA1]; exact setCell_ctl hKd (.inl rfl)
          unfold evC ev0 at h9
          have k00 := (h9).bx 0 rfl
          have k00f := ((h9).box1 0).2
          have k10 := (h9.sw0).bx 0 rfl
          have k10f := ((h9.sw0).box1 0).2
          have k20 := (h9.sw1.sw0).bx 0 rfl
          have k20f := ((h9.sw1.sw0).box1 0).2
          have k21 := (h9.sw1.sw0).bx 1 rfl
          have k21f := ((h9.sw1.sw0).box1 1).2
          have k22 := (h9.sw1.sw0).bx 2 rfl
          have k22f := ((h9.sw1.sw0).box1 2).2
          have k23 := (h9.sw1.sw0).bx 3 rfl
          have k23f := ((h9.sw1.sw0).box1 3).2
          have k24 := (h9.sw1.sw0).bx 4 rfl
          have k24f := ((h9.sw1.sw0).box1 4).2
          have H9 := Lib.hid h9
          have HKd := Lib.hid hKd1
          clear h7 h8 h9 hKd hKd1
          gi_wp2_with fail
          have h10 := H9.out.res_set (v0 := .int .i64 0) (v1 := .int .i64 0) (v2 := .int .i64 0) (v3 := .int .i64 0) (v4 := .int .i64 0) (a := .bool false) (b := .int .i64 0)
          refine step_fin (n := w3.heap.size) (v := ev0) (X := _) h10 ((Plain.arm _ _).sepF ((Plain.box _ _ _).sepF ((Plain.box _ _ _).sepF ((Plain.box _ _ _).sepF ((Plain.tq _ _ _ _ _).sepF ((Plain.lat _ _).sepF hRF)))))) hD (Nat.le_trans H6.out.to_below.size hD) (res_ctl HKd.out) rfl rfl rfl fun A' h11 => ?_
          rw [HV2.out, HG2.out]
          exact ⟨rfl, On.ck_shut (c := { c with now := to }) (by rw [HS.out]; exact h11.out1.out1.out1)⟩
        case stop =>
          intro D c pre A _ _ h _
          have hX : On w0 A (sep (armA ba []) (prA False)) := by
            unfold sxF at h
            split at h <;> exact h
          exact (On.pr_open (p := False) (On.comm hX)).1.elim
      | cons x T =>
        obtain ⟨x1, x2⟩ := x
        have hP : PlainF w3.heap.size (prA False) := (Plain.pr _).f _
        by_cases hx : to < x2
        · have e2 : c.stepV to = none := by
            unfold Ck.stepV
            rw [if_pos HE1.out, HS.out]
            show (if to < x2 then none else _) = _
            rw [if_pos hx]
          have e3 : c.step to = { c with now := to } := by
            unfold Ck.step
            rw [if_pos HE1.out, HS.out]
            show (if to < x2 then _ else _) = _
            rw [if_pos hx, ← HS.out]
          have HV2 := Lib.hid (HV.out.symm.trans e2)
          have HG2 := Lib.hid (HG.out.symm.trans e3)
          clear e2 e3
          gi_wp2_with fail
          refine wpIn_range_onF rfl (by omega) (gf := 109) (lb := #[.pointer (some ⟨ba, 0, none⟩)]) rfl trivial (enters_of Try.func109 (by kernel_rfl) rfl)
            (Sq := armA ba ((x1, x2) :: T)) (Plain.arm ba _) (stF I) (stF_plain hI) (fun c _ => sxF (prA False) I c) (fun c _ => sxF_plain hP hI c) H6.out (fun K hK => arm_iter _ HTm.out (by have := HFw.out; omega) hK) (fun _ => rfl) ?round ?done ?stop
          case round =>
            rintro K l pre ⟨y1, y2⟩ A hlA hlr hpre hon
            cases pre with
            | cons _ _ => exact (On.pr_open (p := False) (On.comm hon)).1.elim
            | nil =>
              obtain ⟨_, hp⟩ := hpre
              injection hp with hp _
              cases hp
              have H8 := Lib.hid hon
              clear hon hlr
              gi_wp2_with fail
              refine ⟨_, hI, H8.out, fun Wb _ h9 => ?_⟩
              have h9' : On w0 Wb (sep (holdA K Wb) (stpA b0 cb tb to v c.lates c.ats R 0 false ev0 c.S c.now c.worst)) := by
                rw [HI.out]
                exact h9
              unfold stpA at h9'
              have p1 := (h9'.sw3.sw2.sw1.sw0).bx 0 rfl
              have H9 := Lib.hid h9
              clear h9 h9'
              gi_wp2_with fail
              exact H9.out
          case done =>
            intro D A hD hon hKd
            exact (On.pr_open (p := False) (On.comm hon)).1.elim
          case stop =>
            intro D c' pre A hD _ hs hKd
            unfold sxF at hs
            split at hs
            · exact (On.pr_open (p := False) (On.comm hs)).1.elim
            · have h7 : On w0 A (sep (armA ba ((x1, x2) :: T)) (stpA b0 cb tb to v c.lates c.ats R 0 false ev0 c.S c.now c.worst)) := by
                rw [HI.out]
                exact hs
              rw [HS.out] at h7
              clear hs
              unfold stpA at h7
              have p0 := (h7.sw4.sw3.sw2.sw1.sw0).bx 0 rfl
              have p1 := (h7.sw3.sw2.sw1.sw0).bx 0 rfl
              have p2 := (h7.sw5.sw4.sw3.sw2.sw1.sw0).bxg (ck_now HOk.out.len)
              have p2f := ((h7.sw5.sw4.sw3.sw2.sw1.sw0).box1 514).2
              have h8 := (h7.sw5.sw4.sw3.sw2.sw1.sw0).box_set 514 (.int .i64 to)
              rw [ck_setNow HOk.out.len] at h8
              obtain ⟨A1, hA1⟩ : ∃ x, A.setCell ⟨cb, 514, none⟩ (.int .i64 to) = x := ⟨_, rfl⟩
              rw [hA1] at h8
              have h9 := (h8.sw1.sw0.sw2.sw1.sw3.sw2.sw3.sw4.sw5)
              have hKd1 : A1.heap[D]? = some (.deferred (some [])) := by rw [← hA1]; exact setCell_ctl hKd (.inl rfl)
              unfold evC ev0 at h9
              have k00 := (h9).bx 0 rfl
              have k00f := ((h9).box1 0).2
              have k10 := (h9.sw0).bx 0 rfl
              have k10f := ((h9.sw0).box1 0).2
              have k20 := (h9.sw1.sw0).bx 0 rfl
              have k20f := ((h9.sw1.sw0).box1 0).2
              have k21 := (h9.sw1.sw0).bx 1 rfl
              have k21f := ((h9.sw1.sw0).box1 1).2
              have k22 := (h9.sw1.sw0).bx 2 rfl
              have k22f := ((h9.sw1.sw0).box1 2).2
              have k23 := (h9.sw1.sw0).bx 3 rfl
              have k23f := ((h9.sw1.sw0).box1 3).2
              have k24 := (h9.sw1.sw0).bx 4 rfl
              have k24f := ((h9.sw1.sw0).box1 4).2
              have H9 := Lib.hid h9
              have HKd := Lib.hid hKd1
              clear h7 h8 h9 hKd hKd1
              gi_wp2_with fail
              have h10 := H9.out.res_set (v0 := .int .i64 0) (v1 := .int .i64 0) (v2 := .int .i64 0) (v3 := .int .i64 0) (v4 := .int .i64 0) (a := .bool false) (b := .int .i64 0)
              refine step_fin (n := w3.heap.size) (v := ev0) (X := _) h10 ((Plain.arm _ _).sepF ((Plain.box _ _ _).sepF ((Plain.box _ _ _).sepF ((Plain.box _ _ _).sepF ((Plain.tq _ _ _ _ _).sepF ((Plain.lat _ _).sepF hRF)))))) hD (Nat.le_trans H6.out.to_below.size hD) (res_ctl HKd.out) rfl rfl rfl fun A' h11 => ?_
              rw [HV2.out, HG2.out]
              exact ⟨rfl, On.ck_shut (c := { c with now := to }) (by rw [HS.out]; exact h11.out1.out1.out1)⟩
            · exact (On.pr_open (p := False) (On.comm hs)).1.elim
        · exact absurd ⟨x1, x2, T, HS.out, Int.not_lt.1 hx⟩ HF.out
  · have z : (T != 0) = true := by simpa using ht
    have e1 : c.stepE to = T := by unfold Ck.stepE; rw [if_neg (by rw [hT']; exact ht), hT']
    have e2 : c.stepV to = none := by unfold Ck.stepV; rw [if_neg (by rw [e1]; exact ht)]
    have e3 : c.step to = c := by unfold Ck.step; rw [if_neg (by rw [e1]; exact ht)]
    rw [e1, e2, e3]
    have k00 := (h1).bx 0 rfl
    have k00f := ((h1).box1 0).2
    have k10 := (h1.sw0).bx 0 rfl
    have k10f := ((h1.sw0).box1 0).2
    have k20 := (h1.sw1.sw0).bx 0 rfl
    have k20f := ((h1.sw1.sw0).box1 0).2
    have k21 := (h1.sw1.sw0).bx 1 rfl
    have k21f := ((h1.sw1.sw0).box1 1).2
    have k22 := (h1.sw1.sw0).bx 2 rfl
    have k22f := ((h1.sw1.sw0).box1 2).2
    have k23 := (h1.sw1.sw0).bx 3 rfl
    have k23f := ((h1.sw1.sw0).box1 3).2
    have k24 := (h1.sw1.sw0).bx 4 rfl
    have k24f := ((h1.sw1.sw0).box1 4).2
    have k30 := (h1.sw2.sw1.sw0).bx 0 rfl
    have k40 := (h1.sw3.sw2.sw1.sw0).bx 0 rfl
    have H1 := Lib.hid h1
    clear h h1 e1 e2 e3 hT' ho
    refine (callsIn_wide (n := 9)).1 ?_
    refine callsIn_of_wp_marks Try.func87 rfl trivial ?_ rfl
    simp only [Try.ntmps87, List.size_toArray, List.length_cons, List.length_nil, Nat.reduceAdd, Nat.reduceSub, Array.replicate_succ, Array.replicate_zero, List.push_toArray, List.append_toArray, List.nil_append, List.cons_append]
    gi_wp2_with fail
    clear hW
    refine ⟨trivial, ?_⟩
    refine (callsIn_wide.2 (HTi.out _)).mono ?_
    rintro e w1 ⟨rfl, rfl⟩
    gi_wp2_with fail
    have h2 := H1.out.res_set (v0 := .int .i64 0) (v1 := .int .i64 0) (v2 := .int .i64 0) (v3 := .int .i64 0) (v4 := .int .i64 0) (a := .bool false) (b := .int .i64 T)
    exact ⟨_, step_results (v := ev0) h2 rfl rfl rfl, rfl, h2.out1.out1.out1.out1.out1⟩
end
end Go.Proofs.Ytkjpkhpiojahkaa
