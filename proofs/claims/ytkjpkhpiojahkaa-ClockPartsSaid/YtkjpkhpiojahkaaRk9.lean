/-
  The clock and the document's: same.
-/
import Derived.Test.YtkjpkhpiojahkaaRk8
namespace Go.Proofs.Ytkjpkhpiojahkaa
set_option linter.unusedVariables false
open Go.RowKit Hp
attribute [local go_sem] Oper.semAt_some
section
variable {w0 w : World} {R : Ast} {cb rb : Nat} {c : Ck}
set_option maxRecDepth 100000 in
set_option maxHeartbeats 8000000 in
theorem same_ok (hT : Tame R) (h : On w0 w (sep (ckA cb c) (sep (refK rb c) R))) (ho : CkOk c) :
    Calls Try.prog 82 #[.pointer (some ⟨cb, 0, none⟩), .pointer (some ⟨rb, 0, none⟩)] w fun e w' => e = .returned (.bool true) ∧ On w0 w' (sep (ckA cb c) (sep (refK rb c) R)) := by
  have hnx := K_next h ho
  obtain ⟨r, hr, h1⟩ := h.sw0.refk_open
  have hlen := hr.len
  have hfew := ho.few
  obtain ⟨v1, v2, h2⟩ := h1.rk_open
  obtain ⟨a1, c1, rfl, _⟩ := h2.sw0.tms_form
  have h2' : On w0 w (sep (boxA rb 116 #[.slice a1 r.L.length c1, v2, .int .i64 r.now, .int .i64 r.worst]) (sep (tmsA (.slice a1 r.L.length c1) r.L) (sep (latA v2 r.lates) (sep (ckA cb c) R)))) := h2
  obtain ⟨n, hn⟩ : ∃ n, r.L.length = n := ⟨_, rfl⟩
  obtain ⟨now, hnow⟩ : ∃ n, r.now = n := ⟨_, rfl⟩
  obtain ⟨wor, hwor⟩ : ∃ n, r.worst = n := ⟨_, rfl⟩
  have HRs := Lib.hid (show ∀ A, On w0 A (sep (boxA rb 116 #[.slice a1 n c1, v2, .int .i64 now, .int .i64 wor]) (sep (tmsA (.slice a1 n c1) r.L) (sep (latA v2 r.lates) (sep (ckA cb c) R)))) → On w0 A (sep (ckA cb c) (sep (refK rb c) R)) from fun A hA => by
    rw [← hn, ← hnow, ← hwor] at hA
    exact (On.refk_shut hr (On.rk_shut hA)).sw0)
  rw [hn, hnow, hwor] at h2'
  have hn5 : n ≤ 512 := by rw [← hn, hlen]; exact hfew
  have HN := Lib.hid hn
  have HNow := Lib.hid (show c.now = now by rw [← hr.now]; exact hnow)
  have HWor := Lib.hid (show c.worst = wor by rw [← hr.worst]; exact hwor)
  have HSl := Lib.hid (show c.S.length = n by rw [← hlen]; exact hn)
  have HR := Lib.hid hr
  have HO := Lib.hid ho
  have HT := Lib.hid hT
  have H2 := Lib.hid h2'
  have HFi := Lib.hid (fun A (hb : Below w.heap.size w A) => RK_first (h1.below hb) (by rw [hn]; omega))
  obtain ⟨p, hp⟩ : ∃ p, (c.S.headD (0, 0)).2 = p := ⟨_, rfl⟩
  obtain ⟨q, hq⟩ : ∃ p, headE c.S = p := ⟨_, rfl⟩
  rw [hp, hq] at hnx
  have HNx := Lib.hid hnx
  have HP := Lib.hid hp
  have HQ := Lib.hid hq
  clear h h1 h2 h2' hnx hr hlen hfew hn hnow hwor ho hT hp hq
  go_enter Try.func82, Try.ntmps82
  go_wp2_with fail
  refine HNx.out.mono ?_
  rintro e x1 ⟨rfl, hb1⟩
  have HF1 := Lib.hid (HFi.out x1 hb1)
  have HB1 := Lib.hid hb1
  clear hb1
  go_wp2_with fail
  refine HF1.out.mono ?_
  rintro e x2 ⟨⟨x, rfl, hfi⟩, hb2⟩
  have h3 := (H2.out.below HB1.out).below hb2
  have q0 := h3.bx 0 rfl
  have H3 := Lib.hid h3
  clear hb2
  rcases hfi with ⟨rfl, hnil⟩ | ⟨j, t, rfl, hjt, hmin⟩
  · have hSn : c.S = [] := List.eq_nil_of_length_eq_zero (by rw [← HR.out.len, hnil]; rfl)
    have e1 : p = 0 := by rw [← HP.out, hSn]; rfl
    have e2 : q = 14 := by rw [← HQ.out, hSn]; rfl
    subst e1 e2
    clear hnil hSn h3 HP HQ
    go_wp2_with fail
    clear q0
    go_loopg [8] n (fun gh s8 wr => ∃ k : Nat, k + gh = n ∧ s8 = .int .i64 (k : Int) ∧ On w0 wr (sep (boxA rb 116 #[.slice a1 n c1, v2, .int .i64 now, .int .i64 wor]) (sep (tmsA (.slice a1 n c1) r.L) (sep (latA v2 r.lates) (sep (ckA cb c) R)))))
    case atStart => exact ⟨0, by omega, rfl, H3.out⟩
    case round =>
      obtain ⟨k, hk, rfl, hon⟩ := hrel
      by_cases hlt : k < n
      · have hltI : (k : Int) < (n : Int) := by omega
        have hk0 : (0 : Int) ≤ (k : Int) := by omega
        have q0 := hon.bx 0 rfl
        have hond := hon.below (Below.refl _ wr).drew
        have q0d := hond.bx 0 rfl
        obtain ⟨t, hkt⟩ : ∃ t, r.L[k]? = some t := ⟨_, List.getElem?_eq_getElem (by rw [HN.out]; exact hlt)⟩
        obtain ⟨g, hg, c0, d1, d2, d3⟩ := hond.sw0.tms_at hkt
        obtain ⟨hm, hh, ha, hf⟩ := HR.out.found HO.out hkt (k := t.kind) (i := t.id) (tmIs_iff.2 ⟨rfl, rfl⟩)
        have e1 : c.whenE t.kind t.id = 0 := by unfold Ck.whenE hasE; rw [if_pos hm, hh]; rfl
        have e2 : c.whenA t.kind t.id = t.at' := by unfold Ck.whenA; rw [if_pos e1]; exact ha.symm
        have e3 : c.whenF t.kind t.id = t.fires := by unfold Ck.whenF; rw [if_pos e1]; exact hf.symm
        have hwh := K_when (hond.sw2.sw1.sw0) HO.out t.kind t.id
        rw [e1, e2, e3] at hwh
        have HWh := Lib.hid hwh
        have HT' := Lib.hid hkt
        have H4 := Lib.hid hond
        have g1 : (t.at' != t.at') = false := by simp
        have g2 : (t.fires != t.fires) = false := by simp
        clear hon hond hkt hm hh ha hf e1 e2 e3 hwh
        cases hg
        go_wp2_with fail
        go_region_held3 (fun A0 => A0.cell? ⟨rb, 0, none⟩ = some (.slice (some ⟨g, 0, none⟩) n c1) ∧ A0.cell? ⟨g, k * 4, none⟩ = some (.int .i64 t.kind) ∧ A0.cell? ⟨g, k * 4 + 1, none⟩ = some (.int .i64 t.id))
          (first | (refine ⟨?_, ?_, ?_⟩ <;> assumption) | go_keep)
          (first
            | (go_at_call 88; ((with_reducible refine HWh.out.mono ?_); rintro e A1 ⟨rfl, hb5⟩; (have h5 := H4.out.below hb5); (have u0 := h5.bx 0 rfl); (obtain ⟨_, hg2, c0', d1', d2', d3'⟩ := h5.sw0.tms_at HT'.out); cases hg2; (have H5 := Lib.hid h5); clear h5 hb5)))
        all_goals go_wp2_with fail
        all_goals go_roundg (n - (k + 1))
        all_goals first | omega | exact ⟨k + 1, by omega, by go_num, H5.out⟩
      · have hkn : k = n := by omega
        subst hkn
        have q0 := hon.bx 0 rfl
        have hond := hon.below (Below.refl _ wr).drew
        have q0d := hond.bx 0 rfl
        have q2d := hond.bx 2 rfl
        have q3d := hond.bx 3 rfl
        have hle := K_len ((Plain.box _ _ _).sepT ((Plain.tms _ _).sepT ((Plain.lat _ _).sepT HT.out))) (hond.sw2.sw1.sw0) HO.out
        rw [HSl.out] at hle
        have HLe := Lib.hid hle
        have HNo := Lib.hid (fun (A : World) (X : Ast) (hA : On w0 A (sep (ckA cb c) X)) => K_now hA HO.out)
        have HWo := Lib.hid (fun (A : World) (X : Ast) (hA : On w0 A (sep (ckA cb c) X)) => K_worst hA HO.out)
        rw [HNow.out] at HNo
        rw [HWor.out] at HWo
        have g1 : (now == now) = true := by simp
        have g2 : (wor == wor) = true := by simp
        have g3 : ((k : Int) == (k : Int)) = true := by simp
        clear hon hond hle
        go_wp2_with fail
        go_region_held3 (fun A0 => A0.cell? ⟨rb, 0, none⟩ = some (.slice a1 k c1) ∧ A0.cell? ⟨rb, 2, none⟩ = some (.int .i64 now) ∧ A0.cell? ⟨rb, 3, none⟩ = some (.int .i64 wor))
          (first | (refine ⟨?_, ?_, ?_⟩ <;> assumption) | go_keep)
          (first
            | (go_at_call 76; ((with_reducible refine HLe.out.mono ?_); rintro e A1 ⟨rfl, h5⟩; (have d10 := (h5.sw0).bx 0 rfl); (have d12 := (h5.sw0).bx 2 rfl); (have d13 := (h5.sw0).bx 3 rfl); (have HN1 := Lib.hid (HNo.out A1 _ h5)); (have HW1 := Lib.hid (HWo.out A1 _ h5)); (have H5 := Lib.hid (h5.sw0.sw1.sw2)); clear h5))
            | (go_at_call 78; ((with_reducible refine HN1.out.mono ?_); rintro e A2 ⟨rfl, rfl⟩))
            | (go_at_call 79; ((with_reducible refine HW1.out.mono ?_); rintro e A3 ⟨rfl, rfl⟩)))
        all_goals go_wp2_with fail
        all_goals go_ret
        all_goals exact ⟨rfl, HRs.out _ H5.out⟩
  · obtain ⟨x, T, hs⟩ : ∃ x T, c.S = x :: T := by
      cases hS : c.S with
      | nil =>
        have := HR.out.mem (List.mem_of_getElem? hjt)
        rw [hS] at this
        cases this
      | cons x T => exact ⟨x, T, rfl⟩
    have hk := HR.out.first HO.out hs hjt hmin
    have e1 : p = t.fires := by rw [← HP.out, hs, ← hk]; rfl
    have e2 : q = 0 := by rw [← HQ.out, hs]; rfl
    obtain ⟨b2, hb2, c0, c1', c2, c3⟩ := h3.sw0.tms_at hjt
    subst hb2
    have hjl : j < n := by rw [← HN.out]; exact (List.getElem?_eq_some_iff.1 hjt).1
    have hj0 : (0 : Int) ≤ (j : Int) := by omega
    have hj1 : ¬ (j : Int) < 0 := by omega
    have hjI : (j : Int) < (n : Int) := by omega
    have g2 : (t.fires != t.fires) = false := by simp
    subst e1 e2
    clear hjt hmin hs hk h3 HP HQ
    go_wp2_with fail
    clear c0 c1' c2 c3 hjl hj0 hj1 hjI g2
    clear q0
    go_loopg [8] n (fun gh s8 wr => ∃ k : Nat, k + gh = n ∧ s8 = .int .i64 (k : Int) ∧ On w0 wr (sep (boxA rb 116 #[.slice (some ⟨b2, 0, none⟩) n c1, v2, .int .i64 now, .int .i64 wor]) (sep (tmsA (.slice (some ⟨b2, 0, none⟩) n c1) r.L) (sep (latA v2 r.lates) (sep (ckA cb c) R)))))
    case atStart => exact ⟨0, by omega, rfl, H3.out⟩
    case round =>
      obtain ⟨k, hk, rfl, hon⟩ := hrel
      by_cases hlt : k < n
      · have hltI : (k : Int) < (n : Int) := by omega
        have hk0 : (0 : Int) ≤ (k : Int) := by omega
        have q0 := hon.bx 0 rfl
        have hond := hon.below (Below.refl _ wr).drew
        have q0d := hond.bx 0 rfl
        obtain ⟨t, hkt⟩ : ∃ t, r.L[k]? = some t := ⟨_, List.getElem?_eq_getElem (by rw [HN.out]; exact hlt)⟩
        obtain ⟨g, hg, c0, d1, d2, d3⟩ := hond.sw0.tms_at hkt
        obtain ⟨hm, hh, ha, hf⟩ := HR.out.found HO.out hkt (k := t.kind) (i := t.id) (tmIs_iff.2 ⟨rfl, rfl⟩)
        have e1 : c.whenE t.kind t.id = 0 := by unfold Ck.whenE hasE; rw [if_pos hm, hh]; rfl
        have e2 : c.whenA t.kind t.id = t.at' := by unfold Ck.whenA; rw [if_pos e1]; exact ha.symm
        have e3 : c.whenF t.kind t.id = t.fires := by unfold Ck.whenF; rw [if_pos e1]; exact hf.symm
        have hwh := K_when (hond.sw2.sw1.sw0) HO.out t.kind t.id
        rw [e1, e2, e3] at hwh
        have HWh := Lib.hid hwh
        have HT' := Lib.hid hkt
        have H4 := Lib.hid hond
        have g1 : (t.at' != t.at') = false := by simp
        have g2 : (t.fires != t.fires) = false := by simp
        clear hon hond hkt hm hh ha hf e1 e2 e3 hwh
        cases hg
        go_wp2_with fail
        go_region_held3 (fun A0 => A0.cell? ⟨rb, 0, none⟩ = some (.slice (some ⟨b2, 0, none⟩) n c1) ∧ A0.cell? ⟨b2, k * 4, none⟩ = some (.int .i64 t.kind) ∧ A0.cell? ⟨b2, k * 4 + 1, none⟩ = some (.int .i64 t.id))
          (first | (refine ⟨?_, ?_, ?_⟩ <;> assumption) | go_keep)
          (first
            | (go_at_call 88; ((with_reducible refine HWh.out.mono ?_); rintro e A1 ⟨rfl, hb5⟩; (have h5 := H4.out.below hb5); (have u0 := h5.bx 0 rfl); (obtain ⟨_, hg2, c0', d1', d2', d3'⟩ := h5.sw0.tms_at HT'.out); cases hg2; (have H5 := Lib.hid h5); clear h5 hb5)))
        all_goals go_wp2_with fail
        all_goals go_roundg (n - (k + 1))
        all_goals first | omega | exact ⟨k + 1, by omega, by go_num, H5.out⟩
      · have hkn : k = n := by omega
        subst hkn
        have q0 := hon.bx 0 rfl
        have hond := hon.below (Below.refl _ wr).drew
        have q0d := hond.bx 0 rfl
        have q2d := hond.bx 2 rfl
        have q3d := hond.bx 3 rfl
        have hle := K_len ((Plain.box _ _ _).sepT ((Plain.tms _ _).sepT ((Plain.lat _ _).sepT HT.out))) (hond.sw2.sw1.sw0) HO.out
        rw [HSl.out] at hle
        have HLe := Lib.hid hle
        have HNo := Lib.hid (fun (A : World) (X : Ast) (hA : On w0 A (sep (ckA cb c) X)) => K_now hA HO.out)
        have HWo := Lib.hid (fun (A : World) (X : Ast) (hA : On w0 A (sep (ckA cb c) X)) => K_worst hA HO.out)
        rw [HNow.out] at HNo
        rw [HWor.out] at HWo
        have g1 : (now == now) = true := by simp
        have g2 : (wor == wor) = true := by simp
        have g3 : ((k : Int) == (k : Int)) = true := by simp
        clear hon hond hle
        go_wp2_with fail
        go_region_held3 (fun A0 => A0.cell? ⟨rb, 0, none⟩ = some (.slice (some ⟨b2, 0, none⟩) k c1) ∧ A0.cell? ⟨rb, 2, none⟩ = some (.int .i64 now) ∧ A0.cell? ⟨rb, 3, none⟩ = some (.int .i64 wor))
          (first | (refine ⟨?_, ?_, ?_⟩ <;> assumption) | go_keep)
          (first
            | (go_at_call 76; ((with_reducible refine HLe.out.mono ?_); rintro e A1 ⟨rfl, h5⟩; (have d10 := (h5.sw0).bx 0 rfl); (have d12 := (h5.sw0).bx 2 rfl); (have d13 := (h5.sw0).bx 3 rfl); (have HN1 := Lib.hid (HNo.out A1 _ h5)); (have HW1 := Lib.hid (HWo.out A1 _ h5)); (have H5 := Lib.hid (h5.sw0.sw1.sw2)); clear h5))
            | (go_at_call 78; ((with_reducible refine HN1.out.mono ?_); rintro e A2 ⟨rfl, rfl⟩))
            | (go_at_call 79; ((with_reducible refine HW1.out.mono ?_); rintro e A3 ⟨rfl, rfl⟩)))
        all_goals go_wp2_with fail
        all_goals go_ret
        all_goals exact ⟨rfl, HRs.out _ H5.out⟩
end
end Go.Proofs.Ytkjpkhpiojahkaa
