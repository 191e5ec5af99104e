/-
  Clock: Step, when a timer fires.
-/
import Derived.Test.YtkjpkhpiojahkaaCkS
namespace Go.Proofs.Ytkjpkhpiojahkaa
set_option linter.unusedVariables false
set_option linter.unusedSimpArgs false
open Go.RowKit Hp
attribute [local go_sem] Oper.semAt_some
section
variable {w0 w : World} {R : Ast} {cb : Nat} {c : Ck}
set_option maxRecDepth 100000 in
set_option maxHeartbeats 40000000 in
theorem step_fire (hT : Tame R) (h : On w0 w (sep (ckA cb c) R)) (ho : CkOk c) (to : Int) (ht : timeE to = 0) (hlt : ¬ to < c.now) {x1 x2 : Int} {T : List (It Int)} (hcS : c.S = (x1, x2) :: T) (hx : ¬ to < x2) :
    Calls Try.prog 87 #[.pointer (some ⟨cb, 0, none⟩), .int .i64 to] w fun e w' => e = .returned (.tuple #[evV (c.stepV to), .bool (c.stepV to).isSome, .int .i64 (c.stepE to)]) ∧ On w0 w' (sep (ckA cb (c.step to)) R) := by
  obtain ⟨b0, hb0⟩ : ∃ b, w.heap.size = b := ⟨_, rfl⟩
  obtain ⟨W, hW⟩ : ∃ x, ((((w.alloc (.cells #[.pointer (some ⟨cb, 0, none⟩)] 101)).alloc (.cells #[.int .i64 to] 3)).alloc (.cells #[.int .i64 0, .int .i64 0, .int .i64 0, .int .i64 0, .int .i64 0] 109)).alloc (.cells #[.bool false] 4)).alloc (.cells #[.int .i64 0] 40) = x := ⟨_, rfl⟩
  have h1 := ((((h.new1 101 #[.pointer (some ⟨cb, 0, none⟩)]).new1 3 #[.int .i64 to]).new1 109 #[.int .i64 0, .int .i64 0, .int .i64 0, .int .i64 0, .int .i64 0]).new1 4 #[.bool false]).new1 40 #[.int .i64 0]
  simp only [World.size_alloc, hb0] at h1
  rw [hW] at h1
  have HTi := Lib.hid (fun A : World => time_any to A)
  rw [ht] at HTi
  have hT' := ht
  have HcS := Lib.hid hcS
  clear hcS ht
  have e1 : c.stepE to = 0 := by unfold Ck.stepE; rw [if_pos hT', if_neg hlt]
  rw [e1]
  obtain ⟨tb, v, h2⟩ := (h1.sw4.sw3.sw2.sw1.sw0).ck_open
  have h3 := (h2.sw2.sw1.sw0.sw3.sw2.sw1.sw4.sw3.sw2.sw5.sw4.sw3.sw6.sw5.sw4)
  have hn := (h3.sw4.sw3.sw2.sw1.sw0).bxg (ck_now ho.len)
  have hq0 := (h3.sw4.sw3.sw2.sw1.sw0).bxg ck_q
  have k30 := (h3.sw2.sw1.sw0).bx 0 rfl
  have k40 := (h3.sw3.sw2.sw1.sw0).bx 0 rfl
  obtain ⟨now, hnow⟩ : ∃ x, c.now = x := ⟨_, rfl⟩
  rw [hnow] at hn hlt
  have hle : now ≤ to := by omega
  have h4 := h3.below (Below.refl _ W).drew
  have HAr := Lib.hid (T_armed (h4.sw5.sw4.sw3.sw2.sw1.sw0) ho.sorted (by have := ho.few; omega))
  have HOk := Lib.hid ho
  have HNow := Lib.hid hnow
  have HT := Lib.hid hT
  have HE1 := Lib.hid e1
  obtain ⟨V, hV⟩ : ∃ V, c.stepV to = V := ⟨_, rfl⟩
  obtain ⟨G, hG⟩ : ∃ V, c.step to = V := ⟨_, rfl⟩
  rw [hV, hG]
  have HV := Lib.hid hV
  have HG := Lib.hid hG
  clear h h1 h2 h3 h4 hT' ho hnow hT e1 hV hG
  refine (callsIn_wide (n := 9)).1 ?_
  refine callsIn_of_wp_marks Try.func87 rfl trivial ?_ rfl
  simp only [Try.ntmps87, List.size_toArray, List.length_cons, List.length_nil, Nat.reduceAdd, Nat.reduceSub, Array.replicate_succ, Array.replicate_zero, List.push_toArray, List.append_toArray, List.nil_append, List.cons_append]
  gi_wp2_with fail
  clear hW
  refine ⟨trivial, ?_⟩
  refine (callsIn_wide.2 (HTi.out _)).mono ?_
  rintro e w1 ⟨rfl, rfl⟩
  gi_wp2_with fail
  refine wpIn_wide.2 ?_
  have k30_d := drewC k30
  have k40_d := drewC k40
  have hn_d := drewC hn
  refine wp_region_loose (fun A => A = W.drew) (by kernel_rfl) (by kernel_rfl) rfl ?_
  repeat (first
    | (refine loose_skip (by rfl) ?_; simp only [Act.put, List.setIfInBounds_toArray, List.set_cons_zero, List.set_cons_succ])
    | (refine loose_val (v := ?_) (by rfl) ?_ ?_; rotate_left; (focus (intro A' hA'; subst hA'; go_simp; first | done | with_reducible rfl)); simp only [Act.put, List.setIfInBounds_toArray, List.set_cons_zero, List.set_cons_succ]))
  refine loose_nil ?_
  intro A3 hA3
  subst hA3
  gi_wp2_with fail
  refine ⟨trivial, ?_⟩
  refine (callsIn_wide.2 HAr.out).mono ?_
  rintro e w3 ⟨ba, rfl, h5⟩
  have hq : ∀ w, (binOp BinOp.eql 84 (.func (.func 109) #[] #[.pointer (some ⟨ba, 0, none⟩)]) .nilFunc).run Try.prog w = .ok (.bool false) w := fun w => by kernel_rfl
  have hRF := HT.out.at h5.out1.out1.out1.out1.out1.out1.out1.out1.out1
  have h6 : On w0 w3 (sep (armA ba c.S) (stpA b0 cb tb to v c.lates c.ats R 0 false ev0 c.S c.now c.worst)) := (h5.sw1.sw2.sw3.sw4.sw5.sw6)
  have hI : PlainF w3.heap.size (stpA b0 cb tb to v c.lates c.ats R 0 false ev0 c.S c.now c.worst) := Plain.stp hRF
  obtain ⟨I, hIe⟩ : ∃ I, stpA b0 cb tb to v c.lates c.ats R 0 false ev0 c.S c.now c.worst = I := ⟨_, rfl⟩
  rw [hIe] at h6 hI
  have HI := Lib.hid hIe
  have H6 := Lib.hid h6
  clear h5 h6 hIe k30 k40 hn hq0
  have HTm := Lib.hid HOk.out.times
  have HFw := Lib.hid HOk.out.few
  obtain ⟨S, hS⟩ : ∃ S, c.S = S := ⟨_, rfl⟩
  have HS := Lib.hid hS
  rw [hS] at H6 HTm HFw
  clear hS
  have hcS := HcS.out
  rw [HS.out] at hcS
  subst hcS
  have hP : PlainF w3.heap.size (prA False) := (Plain.pr _).f _
  obtain ⟨ids0, ids1⟩ := HOk.out.ids (x1, x2) (by rw [HS.out]; exact List.mem_cons_self ..)
  obtain ⟨N, hN⟩ : ∃ N : Nat, x1 = (N : Int) := ⟨x1.toNat, by omega⟩
  have hN1 : (N : Int) < 512 := by omega
  have hN0 : (0 : Int) ≤ (N : Int) := by omega
  have hNl : N < 512 := by omega
  subst hN
  obtain ⟨aa, haa⟩ : ∃ x, c.ats[N]? = some x := ⟨_, List.getElem?_eq_getElem (by rw [HOk.out.len]; exact hNl)⟩
  have hat : c.at (N : Int) = aa := by unfold Ck.at; rw [Int.toNat_natCast, haa]; rfl
  have har := HOk.out.atR (N : Int)
  rw [hat] at har
  have hx2 := timeE_iff.1 (HTm.out (↑N, x2) (List.mem_cons_self ..))
  obtain ⟨har0, har1⟩ := har
  obtain ⟨hx20, hx21⟩ := hx2
  simp only at hx20 hx21
  have e2 : c.stepV to = some (c.evOf (↑N, x2)) := by
    unfold Ck.stepV
    rw [if_pos HE1.out, HS.out]
    show (if to < x2 then none else _) = _
    rw [if_neg (Int.not_lt.2 hx)]
  have e3 : c.step to = { c with S := T, now := x2, worst := max c.worst (x2 - aa) } := by
    unfold Ck.step
    rw [if_pos HE1.out, HS.out]
    show (if to < x2 then _ else _) = _
    rw [if_neg (Int.not_lt.2 hx), hat]
  have hev : c.evOf (↑N, x2) = ⟨(N : Int) / 64, (N : Int) % 64, aa, x2 - aa, x2⟩ := by unfold Ck.evOf; rw [hat]
  have HV2 := Lib.hid (HV.out.symm.trans e2)
  have HG2 := Lib.hid (HG.out.symm.trans e3)
  have HEv := Lib.hid hev
  have HAa := Lib.hid haa
  have hwor := HOk.out.wor
  obtain ⟨ww, hww⟩ : ∃ x, c.worst = x := ⟨_, rfl⟩
  rw [hww] at hwor
  have HWw := Lib.hid hww
  have hwo : without (((N : Int), x2) :: T) (N : Int) = T := by
    have hd := HOk.out.dist
    rw [HS.out] at hd
    unfold without
    rw [List.filter_cons_of_neg (by simp)]
    exact List.filter_eq_self.2 fun y hy => by simpa using Ne.symm ((List.pairwise_cons.1 hd).1 y hy)
  have HWo := Lib.hid hwo
  obtain ⟨J, hJ⟩ : ∃ J, stpA b0 cb tb to v c.lates c.ats R 0 true ⟨(N : Int) / 64, (N : Int) % 64, aa, x2 - aa, x2⟩ T x2 (max ww (x2 - aa)) = J := ⟨_, rfl⟩
  have hJp : PlainF w3.heap.size J := by rw [← hJ]; exact Plain.stp hRF
  have HJ := Lib.hid hJ
  clear e2 e3 hev haa hat hww hwo hJ
  gi_wp2_with fail
  refine wpIn_range_onF rfl (by omega) (gf := 109) (lb := #[.pointer (some ⟨ba, 0, none⟩)]) rfl trivial (enters_of Try.func109 (by kernel_rfl) rfl)
    (Sq := armA ba (((N : Int), x2) :: T)) (Plain.arm ba _) (stF I) (stF_plain hI) (fun c _ => sxF J (prA False) c) (fun c _ => sxF_plain hJp hP c) H6.out (fun K hK => arm_iter _ HTm.out (by have := HFw.out; omega) hK) (fun _ => rfl) ?round ?done ?stop
  case round =>
    rintro K l pre ⟨y1, y2⟩ A hlA hlr hpre hon
    cases pre with
    | cons _ _ => exact (On.pr_open (p := False) (On.comm hon)).1.elim
    | nil =>
      obtain ⟨_, hp⟩ := hpre
      injection hp with hp _
      cases hp
      have H8 := Lib.hid hon
      clear hon hlr
      gi_wp2_with fail
      refine ⟨_, hI, H8.out, fun Wb _ h9 => ?_⟩
      have h9' : On w0 Wb (sep (holdA K Wb) (stpA b0 cb tb to v c.lates c.ats R 0 false ev0 c.S c.now c.worst)) := by
        rw [HI.out]
        exact h9
      rw [HS.out] at h9'
      unfold stpA at h9'
      have p0 := (h9'.sw4.sw3.sw2.sw1.sw0).bx 0 rfl
      have p1 := (h9'.sw3.sw2.sw1.sw0).bx 0 rfl
      have p2 := (h9'.sw5.sw4.sw3.sw2.sw1.sw0).bxg ck_q
      have hca := T_cancel (h9'.sw6.sw5.sw4.sw3.sw2.sw1.sw0) (by have := HFw.out; omega) (N : Int) (wf_in (by omega))
      rw [HWo.out] at hca
      have HCa := Lib.hid hca
      clear h9 h9' hca
      gi_wp2_with fail
      refine ⟨trivial, ?_⟩
      refine (CallsIn.inRound l (callsIn_wide.2 HCa.out)).mono ?_
      rintro e Z ⟨rfl, hz⟩
      -- places: queue, kept, result 40, 4, 109, to, pointer, clock, latenesses, R
      clear p0 p1 p2
      have p0 := (hz.sw5.sw4.sw3.sw2.sw1.sw0).bx 0 rfl
      have hz1 := (hz.sw6.sw5.sw4.sw3.sw2.sw1.sw0)
      have p3 := hz1.bxg (ck_now HOk.out.len)
      have p3f := (hz1.box1 514).2
      have hz2 := hz1.box_set 514 (.int .i64 x2)
      rw [ck_setNow HOk.out.len] at hz2
      obtain ⟨Z1, hZ1⟩ : ∃ x, Z.setCell ⟨cb, 514, none⟩ (.int .i64 x2) = x := ⟨_, rfl⟩
      rw [hZ1] at hz2
      have r0 := (hz2.sw6.sw5.sw4.sw3.sw2.sw1.sw0).bx 0 rfl
      have r1 := hz2.bxg (ck_at HAa.out)
      have hsub : IntKind.i64.wrap (x2 - aa) = x2 - aa := IntWalk.i64_in _ (by omega)
      -- the event's own cells
      obtain ⟨bv, hbv⟩ : ∃ b, Z1.heap.size = b := ⟨_, rfl⟩
      have hz3 := hz2.new1 109 #[.int .i64 0, .int .i64 0, .int .i64 0, .int .i64 0, .int .i64 0]
      obtain ⟨Z2, hZ2⟩ : ∃ x, Z1.alloc (.cells #[.int .i64 0, .int .i64 0, .int .i64 0, .int .i64 0, .int .i64 0] 109) = x := ⟨_, rfl⟩
      rw [hZ2, hbv] at hz3
      have k00 := (hz3).bx 0 rfl
      have k00f := ((hz3).box1 0).2
      have k01 := (hz3).bx 1 rfl
      have k01f := ((hz3).box1 1).2
      have k02 := (hz3).bx 2 rfl
      have k02f := ((hz3).box1 2).2
      have k03 := (hz3).bx 3 rfl
      have k03f := ((hz3).box1 3).2
      have k04 := (hz3).bx 4 rfl
      have k04f := ((hz3).box1 4).2
      have hz4 := hz3.ev_set (v0 := .int .i64 ((N : Int) / 64)) (v1 := .int .i64 ((N : Int) % 64)) (v2 := .int .i64 aa) (v3 := .int .i64 (x2 - aa)) (v4 := .int .i64 x2)
      have hS1 : Z1.drew.cell? ⟨b0, 0, none⟩ = some (.pointer (some ⟨cb, 0, none⟩)) ∧ Z1.drew.cell? ⟨cb, 1 + N, none⟩ = some (.int .i64 aa) := ⟨r0, r1⟩
      have hS2 : Z2.drew.cell? ⟨b0, 0, none⟩ = some (.pointer (some ⟨cb, 0, none⟩)) ∧ Z2.drew.cell? ⟨cb, 1 + N, none⟩ = some (.int .i64 aa) := ⟨(hz3.sw7.sw6.sw5.sw4.sw3.sw2.sw1.sw0).bx 0 rfl, hz3.sw0.bxg (ck_at HAa.out)⟩
      have hS3 := And.intro (drewC ((hz4.sw7.sw6.sw5.sw4.sw3.sw2.sw1.sw0).bx 0 rfl)) (drewC (hz4.sw0.bxg (ck_at HAa.out)))
      have HZ4 := Lib.hid hz4
      have HS2 := Lib.hid hS2
      have HS3 := Lib.hid hS3
      clear hz hz1 hz2 hz3 hz4 hS2 hS3
      gi_wp2_with fail
      apply wpIn_one
      case h =>
        refine wpIn_region_any (by kernel_rfl) ?_
        change wpAnyIn _ _ _ _ _ _ _ _ _ (World.drew _)
        refine wpAnyS_in (k := 999) (S := fun A0 => A0.cell? ⟨b0, 0, none⟩ = some (.pointer (some ⟨cb, 0, none⟩)) ∧ A0.cell? ⟨cb, 1 + N, none⟩ = some (.int .i64 aa)) ?_
        refine anyS_take (i := 0) (v := ?_) (by kernel_rfl) (by rfl) (by kernel_rfl) (by kernel_rfl) (by kernel_rfl) (by kernel_rfl) (fun _ _ _ h => by cases h.1) (hS1) ⟨Or.inl ⟨by rfl, ?_⟩, fun _ => rfl⟩ ?_; rotate_left; (focus (intro w hS0; (first | (have s2 := hS0.2.2; have s1 := hS0.2.1; have s0 := hS0.1) | (have s1 := hS0.2; have s0 := hS0.1) | skip); go_simp; first | done | with_reducible rfl)); simp only [Act.put, List.setIfInBounds_toArray, List.set_cons_zero, List.set_cons_succ]
        refine anyS_take (i := 1) (v := ?_) (by kernel_rfl) (by rfl) (by kernel_rfl) (by kernel_rfl) (by kernel_rfl) (by kernel_rfl) (fun _ _ _ h => by cases h.1) (hS1) ⟨Or.inl ⟨by rfl, ?_⟩, fun _ => rfl⟩ ?_; rotate_left; (focus (intro w hS0; (first | (have s2 := hS0.2.2; have s1 := hS0.2.1; have s0 := hS0.1) | (have s1 := hS0.2; have s0 := hS0.1) | skip); go_simp; first | done | with_reducible rfl)); simp only [Act.put, List.setIfInBounds_toArray, List.set_cons_zero, List.set_cons_succ]
        refine anyS_take (i := 2) (v := ?_) (by kernel_rfl) (by rfl) (by kernel_rfl) (by kernel_rfl) (by kernel_rfl) (by kernel_rfl) (fun _ _ _ h => by cases h.1) (hS1) ⟨Or.inl ⟨by rfl, ?_⟩, fun _ => rfl⟩ ?_; rotate_left; (focus (intro w hS0; (first | (have s2 := hS0.2.2; have s1 := hS0.2.1; have s0 := hS0.1) | (have s1 := hS0.2; have s0 := hS0.1) | skip); go_simp; first | done | with_reducible rfl)); simp only [Act.put, List.setIfInBounds_toArray, List.set_cons_zero, List.set_cons_succ]
        refine anyS_take (i := 3) (v := ?_) (by kernel_rfl) (by rfl) (by kernel_rfl) (by kernel_rfl) (by kernel_rfl) (by kernel_rfl) (fun _ _ _ h => by cases h.1) (hS1) ⟨Or.inl ⟨by rfl, ?_⟩, fun _ => rfl⟩ ?_; rotate_left; (focus (intro w hS0; (first | (have s2 := hS0.2.2; have s1 := hS0.2.1; have s0 := hS0.1) | (have s1 := hS0.2; have s0 := hS0.1) | skip); go_simp; first | done | with_reducible rfl)); simp only [Act.put, List.setIfInBounds_toArray, List.set_cons_zero, List.set_cons_succ]
        refine anyS_take (i := 4) (v := ?_) (by kernel_rfl) (by rfl) (by kernel_rfl) (by kernel_rfl) (by kernel_rfl) (by kernel_rfl) (fun _ _ _ h => by cases h.1) (hS1) ⟨Or.inl ⟨by rfl, ?_⟩, fun _ => rfl⟩ ?_; rotate_left; (focus (intro w hS0; (first | (have s2 := hS0.2.2; have s1 := hS0.2.1; have s0 := hS0.1) | (have s1 := hS0.2; have s0 := hS0.1) | skip); go_simp; first | done | with_reducible rfl)); simp only [Act.put, List.setIfInBounds_toArray, List.set_cons_zero, List.set_cons_succ]
        refine anyS_take (i := 5) (v := ?_) (by kernel_rfl) (by rfl) (by kernel_rfl) (by kernel_rfl) (by kernel_rfl) (by kernel_rfl) (fun _ _ _ h => by cases h.1) (hS1) ⟨Or.inl ⟨by rfl, ?_⟩, fun _ => rfl⟩ ?_; rotate_left; (focus (intro w hS0; (first | (have s2 := hS0.2.2; have s1 := hS0.2.1; have s0 := hS0.1) | (have s1 := hS0.2; have s0 := hS0.1) | skip); go_simp; first | done | with_reducible rfl)); simp only [Act.put, List.setIfInBounds_toArray, List.set_cons_zero, List.set_cons_succ]
        refine anyS_take (i := 6) (v := ?_) (by kernel_rfl) (by rfl) (by kernel_rfl) (by kernel_rfl) (by kernel_rfl) (by kernel_rfl) (fun _ _ _ h => by cases h.1) (hS1) ⟨Or.inl ⟨by rfl, ?_⟩, fun _ => rfl⟩ ?_; rotate_left; (focus (intro w hS0; (first | (have s2 := hS0.2.2; have s1 := hS0.2.1; have s0 := hS0.1) | (have s1 := hS0.2; have s0 := hS0.1) | skip); go_simp; first | done | with_reducible rfl)); simp only [Act.put, List.setIfInBounds_toArray, List.set_cons_zero, List.set_cons_succ]
        refine anyS_take (i := 7) (v := ?_) (by kernel_rfl) (by rfl) (by kernel_rfl) (by kernel_rfl) (by kernel_rfl) (by kernel_rfl) (fun _ _ _ h => by cases h.1) (hS1) ⟨Or.inl ⟨by rfl, ?_⟩, fun _ => rfl⟩ ?_; rotate_left; (focus (intro w hS0; (first | (have s2 := hS0.2.2; have s1 := hS0.2.1; have s0 := hS0.1) | (have s1 := hS0.2; have s0 := hS0.1) | skip); go_simp; first | done | with_reducible rfl)); simp only [Act.put, List.setIfInBounds_toArray, List.set_cons_zero, List.set_cons_succ]
        refine anyS_take (i := 8) (v := ?_) (by kernel_rfl) (by rfl) (by kernel_rfl) (by kernel_rfl) (by kernel_rfl) (by kernel_rfl) (fun _ _ _ h => by cases h.1) (hS1) ⟨Or.inl ⟨by rfl, ?_⟩, fun _ => rfl⟩ ?_; rotate_left; (focus (intro w hS0; (first | (have s2 := hS0.2.2; have s1 := hS0.2.1; have s0 := hS0.1) | (have s1 := hS0.2; have s0 := hS0.1) | skip); go_simp; first | done | with_reducible rfl)); simp only [Act.put, List.setIfInBounds_toArray, List.set_cons_zero, List.set_cons_succ]
        refine anyS_take (i := 9) (v := ?_) (by kernel_rfl) (by rfl) (by kernel_rfl) (by kernel_rfl) (by kernel_rfl) (by kernel_rfl) (fun _ _ _ h => by cases h.1) (hS1) ⟨Or.inl ⟨by rfl, ?_⟩, fun _ => rfl⟩ ?_; rotate_left; (focus (intro w hS0; (first | (have s2 := hS0.2.2; have s1 := hS0.2.1; have s0 := hS0.1) | (have s1 := hS0.2; have s0 := hS0.1) | skip); go_simp; first | done | with_reducible rfl)); simp only [Act.put, List.setIfInBounds_toArray, List.set_cons_zero, List.set_cons_succ]
        refine anyS_take (i := 10) (v := ?_) (by kernel_rfl) (by rfl) (by kernel_rfl) (by kernel_rfl) (by kernel_rfl) (by kernel_rfl) (fun _ _ _ h => by cases h.1) (hS1) ⟨Or.inl ⟨by rfl, ?_⟩, fun _ => rfl⟩ ?_; rotate_left; (focus (intro w hS0; (first | (have s2 := hS0.2.2; have s1 := hS0.2.1; have s0 := hS0.1) | (have s1 := hS0.2; have s0 := hS0.1) | skip); go_simp; first | done | with_reducible rfl)); simp only [Act.put, List.setIfInBounds_toArray, List.set_cons_zero, List.set_cons_succ]
        refine anyS_take (i := 11) (v := ?_) (by kernel_rfl) (by rfl) (by kernel_rfl) (by kernel_rfl) (by kernel_rfl) (by kernel_rfl) (fun _ _ _ h => by cases h.1) (hS1) ⟨Or.inl ⟨by rfl, ?_⟩, fun _ => rfl⟩ ?_; rotate_left; (focus (intro w hS0; (first | (have s2 := hS0.2.2; have s1 := hS0.2.1; have s0 := hS0.1) | (have s1 := hS0.2; have s0 := hS0.1) | skip); go_simp; first | done | with_reducible rfl)); simp only [Act.put, List.setIfInBounds_toArray, List.set_cons_zero, List.set_cons_succ]
        refine anyS_take (i := 12) (v := ?_) (by kernel_rfl) (by rfl) (by kernel_rfl) (by kernel_rfl) (by kernel_rfl) (by kernel_rfl) (fun _ _ _ h => by cases h.1) (hS1) ⟨Or.inl ⟨by rfl, ?_⟩, fun _ => rfl⟩ ?_; rotate_left; (focus (intro w hS0; (first | (have s2 := hS0.2.2; have s1 := hS0.2.1; have s0 := hS0.1) | (have s1 := hS0.2; have s0 := hS0.1) | skip); go_simp; first | done | with_reducible rfl)); simp only [Act.put, List.setIfInBounds_toArray, List.set_cons_zero, List.set_cons_succ]
        refine anyS_take (i := 13) (v := ?_) (by kernel_rfl) (by rfl) (by kernel_rfl) (by kernel_rfl) (by kernel_rfl) (by kernel_rfl) (fun _ _ _ h => by cases h.1) (hS1) ⟨Or.inl ⟨by rfl, ?_⟩, fun _ => rfl⟩ ?_; rotate_left; (focus (intro w hS0; (first | (have s2 := hS0.2.2; have s1 := hS0.2.1; have s0 := hS0.1) | (have s1 := hS0.2; have s0 := hS0.1) | skip); go_simp; first | done | with_reducible rfl)); simp only [Act.put, List.setIfInBounds_toArray, List.set_cons_zero, List.set_cons_succ]
        refine anyS_take (i := 14) (v := ?_) (by kernel_rfl) (by rfl) (by kernel_rfl) (by kernel_rfl) (by kernel_rfl) (by kernel_rfl) (fun _ _ _ h => by cases h.1) (hS1) ⟨Or.inl ⟨by rfl, ?_⟩, fun _ => rfl⟩ ?_; rotate_left; (focus (intro w hS0; (first | (have s2 := hS0.2.2; have s1 := hS0.2.1; have s0 := hS0.1) | (have s1 := hS0.2; have s0 := hS0.1) | skip); go_simp; first | done | with_reducible rfl)); simp only [Act.put, List.setIfInBounds_toArray, List.set_cons_zero, List.set_cons_succ]
        refine anyS_take (i := 15) (v := ?_) (by kernel_rfl) (by rfl) (by kernel_rfl) (by kernel_rfl) (by kernel_rfl) (by kernel_rfl) (fun _ _ _ h => by cases h.1) (hS1) ⟨Or.inl ⟨by rfl, ?_⟩, fun _ => rfl⟩ ?_; rotate_left; (focus (intro w hS0; (first | (have s2 := hS0.2.2; have s1 := hS0.2.1; have s0 := hS0.1) | (have s1 := hS0.2; have s0 := hS0.1) | skip); go_simp; first | done | with_reducible rfl)); simp only [Act.put, List.setIfInBounds_toArray, List.set_cons_zero, List.set_cons_succ]
        refine anyS_take (i := 16) (v := ?_) (by kernel_rfl) (by rfl) (by kernel_rfl) (by kernel_rfl) (by kernel_rfl) (by kernel_rfl) (fun _ _ _ h => by cases h.1) (hS1) ⟨Or.inl ⟨by rfl, ?_⟩, fun _ => rfl⟩ ?_; rotate_left; (focus (intro w hS0; (first | (have s2 := hS0.2.2; have s1 := hS0.2.1; have s0 := hS0.1) | (have s1 := hS0.2; have s0 := hS0.1) | skip); go_simp; first | done | with_reducible rfl)); simp only [Act.put, List.setIfInBounds_toArray, List.set_cons_zero, List.set_cons_succ]
        refine anyS_take (i := 17) (v := ?_) (by kernel_rfl) (by rfl) (by kernel_rfl) (by kernel_rfl) (by kernel_rfl) (by kernel_rfl) (fun _ _ _ h => by cases h.1) (hS1) ⟨Or.inl ⟨by rfl, ?_⟩, fun _ => rfl⟩ ?_; rotate_left; (focus (intro w hS0; (first | (have s2 := hS0.2.2; have s1 := hS0.2.1; have s0 := hS0.1) | (have s1 := hS0.2; have s0 := hS0.1) | skip); go_simp; first | done | with_reducible rfl)); simp only [Act.put, List.setIfInBounds_toArray, List.set_cons_zero, List.set_cons_succ]
        refine anyS_take (i := 18) (v := ?_) (by kernel_rfl) (by rfl) (by kernel_rfl) (by kernel_rfl) (by kernel_rfl) (by kernel_rfl) (fun _ _ _ h => by cases h.1) (hS1) ⟨Or.inl ⟨by rfl, ?_⟩, fun _ => rfl⟩ ?_; rotate_left; (focus (intro w hS0; (first | (have s2 := hS0.2.2; have s1 := hS0.2.1; have s0 := hS0.1) | (have s1 := hS0.2; have s0 := hS0.1) | skip); go_simp; first | done | with_reducible rfl)); simp only [Act.put, List.setIfInBounds_toArray, List.set_cons_zero, List.set_cons_succ]
        refine anyS_take (i := 19) (v := ?_) (by kernel_rfl) (by rfl) (by kernel_rfl) (by kernel_rfl) (by kernel_rfl) (by kernel_rfl) (fun _ _ _ h => by cases h.1) (hS1) ⟨Or.inl ⟨by rfl, ?_⟩, fun _ => rfl⟩ ?_; rotate_left; (focus (intro w hS0; (first | (have s2 := hS0.2.2; have s1 := hS0.2.1; have s0 := hS0.1) | (have s1 := hS0.2; have s0 := hS0.1) | skip); go_simp; first | done | with_reducible rfl)); simp only [Act.put, List.setIfInBounds_toArray, List.set_cons_zero, List.set_cons_succ]
        refine anyS_one (i := 20) (by kernel_rfl) ?_
        refine opIn_list (by rfl) ?_
        gi_wp2_with fail
        refine opPost_normal ?_
        refine ⟨.inr HS2.out, ?_⟩
        refine anyS_one (i := 21) (by kernel_rfl) ?_
        refine opIn_list (by rfl) ?_
        gi_wp2_with fail
        refine opPost_normal ?_
        refine ⟨.inr HS3.out, ?_⟩
        refine anyS_done (by kernel_rfl) ?_
        exact ⟨rfl, rfl, rfl⟩
      case k =>
        have hz4 := HZ4.out
        obtain ⟨Z3, hZ3⟩ : ∃ x, ((((Z2.setCell ⟨bv, 0, none⟩ (.int .i64 ((N : Int) / 64))).setCell ⟨bv, 1, none⟩ (.int .i64 ((N : Int) % 64))).setCell ⟨bv, 2, none⟩ (.int .i64 aa)).setCell ⟨bv, 3, none⟩ (.int .i64 (x2 - aa))).setCell ⟨bv, 4, none⟩ (.int .i64 x2) = x := ⟨_, rfl⟩
        rw [hZ3] at hz4 ⊢
        have HZ3 := Lib.hid hZ3
        clear HS2 HS3 hS1 HZ4 hZ3 k00 k00f k01 k01f k02 k02f k03 k03f k04 k04f hZ2 hZ1 hbv r0 r1 p0 p3 p3f hsub
        have p0 := drewC (drewC ((hz4.sw7.sw6.sw5.sw4.sw3.sw2.sw1.sw0).bx 0 rfl))
        have q3 := drewC (drewC (hz4.bx 3 rfl))
        have p3 := drewC (drewC (hz4.sw0.bxg (ck_worst HOk.out.len)))
        rw [HWw.out] at p3
        have hz5 := hz4.sw0.below ((Below.refl _ Z3).drew.trans (Below.refl _ Z3.drew).drew)
        have p3f := (hz5.box1 515).2
        obtain ⟨mw, hmw⟩ : ∃ m, max ww (x2 - aa) = m := ⟨_, rfl⟩
        have hmw' : (if ww < x2 - aa then x2 - aa else ww) = mw := by rw [← hmw]; omega
        have hz6 := hz5.box_set 515 (.int .i64 mw)
        rw [ck_setWorst HOk.out.len] at hz6
        obtain ⟨Z5, hZ5⟩ : ∃ x, Z3.drew.drew.setCell ⟨cb, 515, none⟩ (.int .i64 mw) = x := ⟨_, rfl⟩
        rw [hZ5] at hz6
        have hz7 := (hz6.sw3.sw2.sw1.sw0.sw4.sw3.sw2.sw1.sw5.sw4.sw3.sw2.sw3)
        unfold evC ev0 at hz7
        have m00 := (hz7).bx 0 rfl
        have m00f := ((hz7).box1 0).2
        have m10 := (hz7.sw0).bx 0 rfl
        have m10f := ((hz7.sw0).box1 0).2
        have m20 := (hz7.sw1.sw0).bx 0 rfl
        have m20f := ((hz7.sw1.sw0).box1 0).2
        have m21 := (hz7.sw1.sw0).bx 1 rfl
        have m21f := ((hz7.sw1.sw0).box1 1).2
        have m22 := (hz7.sw1.sw0).bx 2 rfl
        have m22f := ((hz7.sw1.sw0).box1 2).2
        have m23 := (hz7.sw1.sw0).bx 3 rfl
        have m23f := ((hz7.sw1.sw0).box1 3).2
        have m24 := (hz7.sw1.sw0).bx 4 rfl
        have m24f := ((hz7.sw1.sw0).box1 4).2
        have m30 := (hz7.sw2.sw1.sw0).bx 0 rfl
        have m31 := (hz7.sw2.sw1.sw0).bx 1 rfl
        have m32 := (hz7.sw2.sw1.sw0).bx 2 rfl
        have m33 := (hz7.sw2.sw1.sw0).bx 3 rfl
        have m34 := (hz7.sw2.sw1.sw0).bx 4 rfl
        have HZ7 := Lib.hid hz7
        have HMw := Lib.hid hmw
        clear hz4 hz5 hz6 hz7 hmw
        gi_wp2_with fail
        refine wpIn_region_last (os := ?_) (s := ?_) (fun A' => A' = Z3.drew.drew) (by simp only [List.dropLast]; rfl) (by rfl) (by kernel_rfl) (by kernel_rfl) (by kernel_rfl) (by kernel_rfl) rfl ?_
        iterate 10 (first
          | (refine loose_skip (by rfl) ?_; simp only [Act.put, List.setIfInBounds_toArray, List.set_cons_zero, List.set_cons_succ])
          | (refine loose_val (v := ?_) (by rfl) ?_ ?_; rotate_left; (focus (intro A' hA'; subst hA'; go_simp; first | done | with_reducible rfl)); simp only [Act.put, List.setIfInBounds_toArray, List.set_cons_zero, List.set_cons_succ]))
        refine loose_nil ?_
        intro A3 hA3
        subst hA3
        gi_wp2_with fail
        have h8 := HZ7.out.res_set (v0 := .int .i64 ((N : Int) / 64)) (v1 := .int .i64 ((N : Int) % 64)) (v2 := .int .i64 aa) (v3 := .int .i64 (x2 - aa)) (v4 := .int .i64 x2) (a := .bool true) (b := .int .i64 0)
        have h9 := (h8.sw2.sw1.sw0.sw5.sw4.sw3.sw2.sw1.sw6.sw5.sw7.sw6).out1
        show On w0 _ (sep (holdA K Wb) J)
        rw [← HJ.out, HMw.out]
        exact h9
  case done =>
    intro D A hD hon hKd
    exact (On.pr_open (p := False) (On.comm hon)).1.elim
  case stop =>
    intro D c' pre A hD _ hs hKd
    unfold sxF at hs
    split at hs
    · have h7 : On w0 A (sep (armA ba (((N : Int), x2) :: T)) (stpA b0 cb tb to v c.lates c.ats R 0 true ⟨(N : Int) / 64, (N : Int) % 64, aa, x2 - aa, x2⟩ T x2 (max ww (x2 - aa)))) := by
        rw [HJ.out]
        exact hs
      unfold stpA at h7
      have H7 := Lib.hid (h7.sw0.sw1.sw2)
      have HKd := Lib.hid hKd
      clear hs h7 hKd
      gi_wp2_with fail
      refine step_fin (n := w3.heap.size) (v := ⟨(N : Int) / 64, (N : Int) % 64, aa, x2 - aa, x2⟩) (X := _) H7.out ((Plain.arm _ _).sepF ((Plain.box _ _ _).sepF ((Plain.box _ _ _).sepF ((Plain.box _ _ _).sepF ((Plain.tq _ _ _ _ _).sepF ((Plain.lat _ _).sepF hRF)))))) hD (Nat.le_trans H6.out.to_below.size hD) HKd.out rfl rfl rfl fun A' h11 => ?_
      rw [HV2.out, HG2.out, HEv.out]
      exact ⟨rfl, On.ck_shut (c := { c with S := T, now := x2, worst := max c.worst (x2 - aa) }) (by rw [HWw.out]; exact h11.out1.out1.out1)⟩
    · exact (On.pr_open (p := False) (On.comm hs)).1.elim
    · exact (On.pr_open (p := False) (On.comm hs)).1.elim
end
end Go.Proofs.Ytkjpkhpiojahkaa
