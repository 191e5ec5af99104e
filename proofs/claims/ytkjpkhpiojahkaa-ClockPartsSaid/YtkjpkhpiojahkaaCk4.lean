/-
  Clock: Set.
-/
import Derived.Test.YtkjpkhpiojahkaaCk3
namespace Go.Proofs.Ytkjpkhpiojahkaa
set_option linter.unusedVariables false
open Go.RowKit Hp
attribute [local go_sem] Oper.semAt_some
section
variable {w0 w : World} {R : Ast} {cb : Nat} {c : Ck}
theorem On.lat_some {v : Value} {x : Int} {l : List Int} (h : On w0 w (sep (latA v (x :: l)) R)) : ∃ g off cap, v = .slice (some ⟨g, off, none⟩) (l.length + 1) cap ∧ l.length + 1 ≤ cap := by
  obtain ⟨F, hF, _⟩ := h.get1
  rcases hF with ⟨_, h2, _⟩ | ⟨g, off, cap, cur, h1, _, h3, _⟩
  · cases h2
  · exact ⟨g, off, cap, h1, h3⟩
theorem lates_snoc (l : List Int) : (l ++ [0])[0]?.getD 0 = l.headD 0 := by cases l <;> rfl
set_option maxRecDepth 100000 in
set_option maxHeartbeats 8000000 in
theorem K_set (h : On w0 w (sep (ckA cb c) R)) (ho : CkOk c) (hll : c.lates.length < 1000000) (k id a : Int) :
    Calls Try.prog 75 #[.pointer (some ⟨cb, 0, none⟩), .int .i64 k, .int .i64 id, .int .i64 a] w fun e w' => e = .returned (.int .i64 (c.setE k id a)) ∧ On w0 w' (sep (ckA cb (c.set k id a)) R) := by
  have HNu := Lib.hid (number_ok k id w)
  have HTi := Lib.hid (fun A : World => time_any a A)
  have hsame : c.setE k id a ≠ 0 → c.set k id a = c := fun h => by unfold Ck.set; rw [if_neg h]
  have HSame := Lib.hid hsame
  have H := Lib.hid h
  obtain ⟨T, hT⟩ : ∃ T, timeE a = T := ⟨_, rfl⟩
  rw [hT] at HTi
  by_cases hm : mayT k id
  · rw [decide_eq_true hm] at HNu
    by_cases ht : T = 0
    · subst ht
      obtain ⟨tb, v, h1⟩ := h.ck_open
      have c0 := h1.bxg (ck_q (tb := tb) (ats := c.ats) (v := v) (now := c.now) (worst := c.worst))
      have c1 := h1.bxg (ck_lates ho.len)
      have c2 := h1.bxg (ck_now ho.len)
      obtain ⟨n0, n1⟩ := nm_range hm
      obtain ⟨N, hN⟩ : ∃ N : Nat, nm k id = (N : Int) := ⟨(nm k id).toNat, by omega⟩
      have hNl : N < 512 := by omega
      have hN0 : (0 : Int) ≤ (N : Int) := by omega
      have hNI : (N : Int) < 512 := by omega
      obtain ⟨M, hM⟩ : ∃ M, max a c.now = M := ⟨_, rfl⟩
      obtain ⟨L, hL⟩ : ∃ L, c.late1 = L := ⟨_, rfl⟩
      obtain ⟨E, hE⟩ : ∃ E, afterE M L = E := ⟨_, rfl⟩
      have hse : c.setE k id a = E := by unfold Ck.setE; rw [if_pos hm, if_pos hT, hM, hL, hE]
      rw [hse]
      have HAf := Lib.hid (fun A : World => after_ok M L A)
      rw [hE] at HAf
      obtain ⟨F, hF⟩ : ∃ F, M + L = F := ⟨_, rfl⟩
      rw [hF] at HAf
      obtain ⟨bz, hbz⟩ : ∃ b, w.heap.size = b := ⟨_, rfl⟩
      obtain ⟨W, hW⟩ : ∃ x, w.alloc (.cells #[.int .i64 0] 3) = x := ⟨_, rfl⟩
      have h2 := h1.new1 3 #[.int .i64 0]
      rw [hW, hbz] at h2
      have hrd : ReadsI W (.slice (some ⟨bz, 0, none⟩) 1 1) 1 [0] := .inr ⟨_, _, rfl, rfl, fun j y hy => by
        match j, hy with
        | 0, hy => cases hy; exact h2.bx 0 rfl⟩
      have hmx : c.lates.length + 1 ≤ maxLen := by unfold maxLen; omega
      have hby : (c.lates.length + 1) * 8 ≤ 140737488355328 := by omega
      obtain ⟨x, hx⟩ : ∃ x, c.ats[N]? = some x := ⟨_, List.getElem?_eq_getElem (by rw [ho.len]; exact hNl)⟩
      have HArm := Lib.hid (fun he : E = 0 => (⟨armE_set (a := a) ho (hse.trans he), armS_set (a := a) ho (hse.trans he), by unfold Ck.fires; rw [hM, hL, hF]⟩ : armE c.S 512 (nm k id) (c.fires a) = 0 ∧ armS c.S 512 (nm k id) (c.fires a) = (c.set k id a).S ∧ c.fires a = F))
      have HSet := Lib.hid (fun he : E = 0 => (by unfold Ck.set; rw [if_pos (hse.trans he)] : c.set k id a = { c with S := (c.set k id a).S, ats := c.ats.set (nm k id).toNat a, lates := c.lates.tail }))
      have HFew := Lib.hid ho.few
      have HSo := Lib.hid ho.sorted
      obtain ⟨D, hD⟩ : ∃ D, c.set k id a = D := ⟨_, rfl⟩
      have HD := Lib.hid hD
      rw [hD] at HArm HSet hsame ⊢
      rw [hN] at HArm HSet
      have HRd := Lib.hid hrd
      have HN := Lib.hid hN
      have HM := Lib.hid hm
      have HLn := Lib.hid ho.len
      have HLt := Lib.hid hL
      have HX := Lib.hid hx
      obtain ⟨now, hnow⟩ : ∃ x, c.now = x := ⟨_, rfl⟩
      rw [hnow] at c2 hM
      have HNow := Lib.hid hnow
      have HSm := Lib.hid (fun he : E ≠ 0 => hsame (by rw [hse]; exact he))
      obtain ⟨ls, hls⟩ : ∃ x, c.lates = x := ⟨_, rfl⟩
      have HLs := Lib.hid hls
      have HLl := Lib.hid (show ls.length < 1000000 by rw [← hls]; exact hll)
      rw [hls] at h1 h2 hmx hby
      have hls2 : L = ls.headD 0 := by rw [← hL, ← hls]; rfl
      have HL2 := Lib.hid hls2
      clear hsame hT hm hN hL hE hse ho hnow hD h hrd hx hls hls2 hll hF
      cases ls with
      | nil =>
        obtain ⟨va, vc, rfl, _⟩ := (h1.sw1.sw0).lat_read
        have H2 := Lib.hid (h2.sw2.sw1.sw0)
        clear h1 h2
        by_cases hlt : a < now
        · have hMn : M = now := by omega
          have hge : ¬ now ≤ a := by omega
          rw [hMn] at HAf
          clear hM hMn
          go_enter Try.func75, Try.ntmps75
          go_wp2_with fail
          refine HNu.out.mono ?_
          rintro e w1 ⟨n, rfl, hn, rfl⟩
          obtain rfl := (hn HM.out).trans HN.out
          clear hn
          go_wp2_with fail
          refine (HTi.out w).mono ?_
          rintro e w1 ⟨rfl, rfl⟩
          go_wp2_with (at_builtin; go_loud (refine wpList_append_lat (by rfl) _ _ (by rfl) (by rfl) H2.out (by rfl) HRd.out hmx hby ?_; intro v' w2 h3 h4; (obtain ⟨qa, qc, rfl, hq⟩ := h3.lat_read); (obtain ⟨qb, qo, rfl, _, hqc⟩ := hq.row (by simp)); (have q0 : w2.cell? ⟨qb, qo, none⟩ = some (.int .i64 L) := by have := hqc 0 (by simp); rw [lates_snoc, Nat.add_zero] at this; rw [this, HL2.out]); (have H4 := Lib.hid h4); (have h5 := (h4.sw1.sw0)); (have d0 := h5.bxg ck_q); (have d1 := h5.bxg (ck_lates HLn.out)); (have d2 := h5.bxg (ck_now HLn.out)); rw [HNow.out] at d2; clear h3 h4 hq hqc h5))
          refine (HAf.out _).mono ?_
          rintro e w3 ⟨rfl, rfl⟩
          by_cases hE0 : E = 0
          rotate_left
          · have z : (E != 0) = true := by simpa using hE0
            rw [if_neg hE0]
            go_wp2_with fail
            go_ret
            refine ⟨rfl, ?_⟩
            rw [HSm.out hE0]
            exact On.ck_shut (by rw [HLs.out]; exact (H4.out.sw0.sw1.sw2).out1)
          subst hE0
          rw [if_pos rfl]
          have h6 := (H4.out.sw1.sw0)
          have d3 := h6.bxg (ck_at HX.out)
          have d3f := (h6.box1 (1 + N)).2
          have h7 := h6.box_set (1 + N) (.int .i64 a)
          rw [ck_setAt HLn.out hNl] at h7
          obtain ⟨w4, hw4⟩ : ∃ x, w2.setCell ⟨cb, 1 + N, none⟩ (.int .i64 a) = x := ⟨_, rfl⟩
          rw [hw4] at h7
          have d4 := h7.bxg ck_q
          obtain ⟨a1, a2, a3⟩ := HArm.out (by trivial)
          have hta := T_arm (h7.sw2.sw1.sw0) HSo.out (by have := HFew.out; omega) (N : Int) F (wf_in (by omega))
          rw [a3] at a1 a2
          rw [a1, a2] at hta
          have HTa := Lib.hid hta
          clear h6 h7 a1 a2 a3 hta
          go_wp2_with fail
          refine HTa.out.mono ?_
          rintro e w5 ⟨rfl, h8⟩
          have H8 := Lib.hid h8
          clear h8
          go_wp2_with fail
          go_ret
          refine ⟨rfl, ?_⟩
          rw [HSet.out (by trivial)]
          exact On.ck_shut (c := { c with S := D.S, ats := c.ats.set (N : Int).toNat a, lates := c.lates.tail }) (by rw [HLs.out, Int.toNat_natCast]; exact (H8.out.sw2.sw1.sw0.sw1).out1)
        · have hMn : M = a := by omega
          have hge : now ≤ a := by omega
          rw [hMn] at HAf
          clear hM hMn
          go_enter Try.func75, Try.ntmps75
          go_wp2_with fail
          refine HNu.out.mono ?_
          rintro e w1 ⟨n, rfl, hn, rfl⟩
          obtain rfl := (hn HM.out).trans HN.out
          clear hn
          go_wp2_with fail
          refine (HTi.out w).mono ?_
          rintro e w1 ⟨rfl, rfl⟩
          go_wp2_with (at_builtin; go_loud (refine wpList_append_lat (by rfl) _ _ (by rfl) (by rfl) H2.out (by rfl) HRd.out hmx hby ?_; intro v' w2 h3 h4; (obtain ⟨qa, qc, rfl, hq⟩ := h3.lat_read); (obtain ⟨qb, qo, rfl, _, hqc⟩ := hq.row (by simp)); (have q0 : w2.cell? ⟨qb, qo, none⟩ = some (.int .i64 L) := by have := hqc 0 (by simp); rw [lates_snoc, Nat.add_zero] at this; rw [this, HL2.out]); (have H4 := Lib.hid h4); (have h5 := (h4.sw1.sw0)); (have d0 := h5.bxg ck_q); (have d1 := h5.bxg (ck_lates HLn.out)); (have d2 := h5.bxg (ck_now HLn.out)); rw [HNow.out] at d2; clear h3 h4 hq hqc h5))
          refine (HAf.out _).mono ?_
          rintro e w3 ⟨rfl, rfl⟩
          by_cases hE0 : E = 0
          rotate_left
          · have z : (E != 0) = true := by simpa using hE0
            rw [if_neg hE0]
            go_wp2_with fail
            go_ret
            refine ⟨rfl, ?_⟩
            rw [HSm.out hE0]
            exact On.ck_shut (by rw [HLs.out]; exact (H4.out.sw0.sw1.sw2).out1)
          subst hE0
          rw [if_pos rfl]
          have h6 := (H4.out.sw1.sw0)
          have d3 := h6.bxg (ck_at HX.out)
          have d3f := (h6.box1 (1 + N)).2
          have h7 := h6.box_set (1 + N) (.int .i64 a)
          rw [ck_setAt HLn.out hNl] at h7
          obtain ⟨w4, hw4⟩ : ∃ x, w2.setCell ⟨cb, 1 + N, none⟩ (.int .i64 a) = x := ⟨_, rfl⟩
          rw [hw4] at h7
          have d4 := h7.bxg ck_q
          obtain ⟨a1, a2, a3⟩ := HArm.out (by trivial)
          have hta := T_arm (h7.sw2.sw1.sw0) HSo.out (by have := HFew.out; omega) (N : Int) F (wf_in (by omega))
          rw [a3] at a1 a2
          rw [a1, a2] at hta
          have HTa := Lib.hid hta
          clear h6 h7 a1 a2 a3 hta
          go_wp2_with fail
          refine HTa.out.mono ?_
          rintro e w5 ⟨rfl, h8⟩
          have H8 := Lib.hid h8
          clear h8
          go_wp2_with fail
          go_ret
          refine ⟨rfl, ?_⟩
          rw [HSet.out (by trivial)]
          exact On.ck_shut (c := { c with S := D.S, ats := c.ats.set (N : Int).toNat a, lates := c.lates.tail }) (by rw [HLs.out, Int.toNat_natCast]; exact (H8.out.sw2.sw1.sw0.sw1).out1)
      | cons y l =>
        obtain ⟨g, off, vc, rfl, hvc⟩ := (h1.sw1.sw0).lat_some
        have H2 := Lib.hid (h2.sw2.sw1.sw0)
        clear h1 h2
        by_cases hlt : a < now
        · have hMn : M = now := by omega
          have hge : ¬ now ≤ a := by omega
          rw [hMn] at HAf
          clear hM hMn
          go_enter Try.func75, Try.ntmps75
          go_wp2_with fail
          refine HNu.out.mono ?_
          rintro e w1 ⟨n, rfl, hn, rfl⟩
          obtain rfl := (hn HM.out).trans HN.out
          clear hn
          go_wp2_with fail
          refine (HTi.out w).mono ?_
          rintro e w1 ⟨rfl, rfl⟩
          go_wp2_with (at_builtin; go_loud (refine wpList_append_lat (by rfl) _ _ (by rfl) (by rfl) H2.out (by rfl) HRd.out hmx hby ?_; intro v' w2 h3 h4; (obtain ⟨qa, qc, rfl, hq⟩ := h3.lat_read); (obtain ⟨qb, qo, rfl, _, hqc⟩ := hq.row (by simp)); (have q0 : w2.cell? ⟨qb, qo, none⟩ = some (.int .i64 L) := by have := hqc 0 (by simp); rw [lates_snoc, Nat.add_zero] at this; rw [this, HL2.out]); (have H4 := Lib.hid h4); (have h5 := (h4.sw1.sw0)); (have d0 := h5.bxg ck_q); (have d1 := h5.bxg (ck_lates HLn.out)); (have d2 := h5.bxg (ck_now HLn.out)); rw [HNow.out] at d2; clear h3 h4 hq hqc h5))
          refine (HAf.out _).mono ?_
          rintro e w3 ⟨rfl, rfl⟩
          by_cases hE0 : E = 0
          rotate_left
          · have z : (E != 0) = true := by simpa using hE0
            rw [if_neg hE0]
            go_wp2_with fail
            go_ret
            refine ⟨rfl, ?_⟩
            rw [HSm.out hE0]
            exact On.ck_shut (by rw [HLs.out]; exact (H4.out.sw0.sw1.sw2).out1)
          subst hE0
          rw [if_pos rfl]
          by_cases hv : vc - 1 = 0
          · have hl0 : l = [] := List.eq_nil_of_length_eq_zero (by omega)
            have hcl := clone_ok H4.out ⟨g, off, none⟩ l.length 0 l (fun A _ => .inr ⟨_, _, rfl, rfl, fun j y hy => by rw [hl0] at hy; simp at hy⟩) (by have := HLl.out; simp at this; omega)
            have HCl := Lib.hid hcl
            clear hcl hl0
            go_wp2_with fail
            refine HCl.out.mono ?_
            rintro e w6 ⟨v6, rfl, h5⟩
            obtain ⟨ca, cc, rfl, _⟩ := h5.lat_read
            have h6 := (h5.sw2.sw1.sw0)
            have e0 := h6.bxg ck_q
            have e1 := h6.bxg (ck_lates HLn.out)
            have e1f := (h6.box1 513).2
            have h6b := h6.box_set 513 (.slice ca l.length cc)
            rw [ck_setLates HLn.out] at h6b
            obtain ⟨w7, hw7⟩ : ∃ x, w6.setCell ⟨cb, 513, none⟩ (.slice ca l.length cc) = x := ⟨_, rfl⟩
            rw [hw7] at h6b
            have e2 := h6b.bxg ck_q
            have e3 := h6b.bxg (ck_at HX.out)
            have e3f := (h6b.box1 (1 + N)).2
            have h7 := h6b.box_set (1 + N) (.int .i64 a)
            rw [ck_setAt HLn.out hNl] at h7
            clear d0 d1 d2 h5 h6 h6b
            obtain ⟨w4, hw4⟩ : ∃ x, w7.setCell ⟨cb, 1 + N, none⟩ (.int .i64 a) = x := ⟨_, rfl⟩
            rw [hw4] at h7
            have d4 := h7.bxg ck_q
            obtain ⟨a1, a2, a3⟩ := HArm.out (by trivial)
            have hta := T_arm (h7.sw3.sw2.sw1.sw0) HSo.out (by have := HFew.out; omega) (N : Int) F (wf_in (by omega))
            rw [a3] at a1 a2
            rw [a1, a2] at hta
            have HTa := Lib.hid hta
            clear h7 a1 a2 a3 hta
            go_wp2_with fail
            refine HTa.out.mono ?_
            rintro e w5 ⟨rfl, h8⟩
            have H8 := Lib.hid h8
            clear h8
            go_wp2_with fail
            go_ret
            refine ⟨rfl, ?_⟩
            rw [HSet.out (by trivial)]
            exact On.ck_shut (c := { c with S := D.S, ats := c.ats.set (N : Int).toNat a, lates := c.lates.tail }) (by rw [HLs.out, Int.toNat_natCast]; exact (H8.out.sw2.sw1.sw0.sw3.sw2.sw1.sw2).out1.out1)
          · have hcl := clone_ok H4.out ⟨g, off + 1, none⟩ l.length (vc - 1) l (fun A hA => by
              obtain ⟨_, _, he, hi⟩ := (On.lat_tail hA).lat_read
              cases he
              exact reads_intsAt hi rfl) (by have := HLl.out; simp at this; omega)
            have HCl := Lib.hid hcl
            clear hcl
            go_wp2_with fail
            refine HCl.out.mono ?_
            rintro e w6 ⟨v6, rfl, h5⟩
            obtain ⟨ca, cc, rfl, _⟩ := h5.lat_read
            have h6 := (h5.sw2.sw1.sw0)
            have e0 := h6.bxg ck_q
            have e1 := h6.bxg (ck_lates HLn.out)
            have e1f := (h6.box1 513).2
            have h6b := h6.box_set 513 (.slice ca l.length cc)
            rw [ck_setLates HLn.out] at h6b
            obtain ⟨w7, hw7⟩ : ∃ x, w6.setCell ⟨cb, 513, none⟩ (.slice ca l.length cc) = x := ⟨_, rfl⟩
            rw [hw7] at h6b
            have e2 := h6b.bxg ck_q
            have e3 := h6b.bxg (ck_at HX.out)
            have e3f := (h6b.box1 (1 + N)).2
            have h7 := h6b.box_set (1 + N) (.int .i64 a)
            rw [ck_setAt HLn.out hNl] at h7
            clear d0 d1 d2 h5 h6 h6b
            obtain ⟨w4, hw4⟩ : ∃ x, w7.setCell ⟨cb, 1 + N, none⟩ (.int .i64 a) = x := ⟨_, rfl⟩
            rw [hw4] at h7
            have d4 := h7.bxg ck_q
            obtain ⟨a1, a2, a3⟩ := HArm.out (by trivial)
            have hta := T_arm (h7.sw3.sw2.sw1.sw0) HSo.out (by have := HFew.out; omega) (N : Int) F (wf_in (by omega))
            rw [a3] at a1 a2
            rw [a1, a2] at hta
            have HTa := Lib.hid hta
            clear h7 a1 a2 a3 hta
            go_wp2_with fail
            refine HTa.out.mono ?_
            rintro e w5 ⟨rfl, h8⟩
            have H8 := Lib.hid h8
            clear h8
            go_wp2_with fail
            go_ret
            refine ⟨rfl, ?_⟩
            rw [HSet.out (by trivial)]
            exact On.ck_shut (c := { c with S := D.S, ats := c.ats.set (N : Int).toNat a, lates := c.lates.tail }) (by rw [HLs.out, Int.toNat_natCast]; exact (H8.out.sw2.sw1.sw0.sw3.sw2.sw1.sw2).out1.out1)
        · have hMn : M = a := by omega
          have hge : now ≤ a := by omega
          rw [hMn] at HAf
          clear hM hMn
          go_enter Try.func75, Try.ntmps75
          go_wp2_with fail
          refine HNu.out.mono ?_
          rintro e w1 ⟨n, rfl, hn, rfl⟩
          obtain rfl := (hn HM.out).trans HN.out
          clear hn
          go_wp2_with fail
          refine (HTi.out w).mono ?_
          rintro e w1 ⟨rfl, rfl⟩
          go_wp2_with (at_builtin; go_loud (refine wpList_append_lat (by rfl) _ _ (by rfl) (by rfl) H2.out (by rfl) HRd.out hmx hby ?_; intro v' w2 h3 h4; (obtain ⟨qa, qc, rfl, hq⟩ := h3.lat_read); (obtain ⟨qb, qo, rfl, _, hqc⟩ := hq.row (by simp)); (have q0 : w2.cell? ⟨qb, qo, none⟩ = some (.int .i64 L) := by have := hqc 0 (by simp); rw [lates_snoc, Nat.add_zero] at this; rw [this, HL2.out]); (have H4 := Lib.hid h4); (have h5 := (h4.sw1.sw0)); (have d0 := h5.bxg ck_q); (have d1 := h5.bxg (ck_lates HLn.out)); (have d2 := h5.bxg (ck_now HLn.out)); rw [HNow.out] at d2; clear h3 h4 hq hqc h5))
          refine (HAf.out _).mono ?_
          rintro e w3 ⟨rfl, rfl⟩
          by_cases hE0 : E = 0
          rotate_left
          · have z : (E != 0) = true := by simpa using hE0
            rw [if_neg hE0]
            go_wp2_with fail
            go_ret
            refine ⟨rfl, ?_⟩
            rw [HSm.out hE0]
            exact On.ck_shut (by rw [HLs.out]; exact (H4.out.sw0.sw1.sw2).out1)
          subst hE0
          rw [if_pos rfl]
          by_cases hv : vc - 1 = 0
          · have hl0 : l = [] := List.eq_nil_of_length_eq_zero (by omega)
            have hcl := clone_ok H4.out ⟨g, off, none⟩ l.length 0 l (fun A _ => .inr ⟨_, _, rfl, rfl, fun j y hy => by rw [hl0] at hy; simp at hy⟩) (by have := HLl.out; simp at this; omega)
            have HCl := Lib.hid hcl
            clear hcl hl0
            go_wp2_with fail
            refine HCl.out.mono ?_
            rintro e w6 ⟨v6, rfl, h5⟩
            obtain ⟨ca, cc, rfl, _⟩ := h5.lat_read
            have h6 := (h5.sw2.sw1.sw0)
            have e0 := h6.bxg ck_q
            have e1 := h6.bxg (ck_lates HLn.out)
            have e1f := (h6.box1 513).2
            have h6b := h6.box_set 513 (.slice ca l.length cc)
            rw [ck_setLates HLn.out] at h6b
            obtain ⟨w7, hw7⟩ : ∃ x, w6.setCell ⟨cb, 513, none⟩ (.slice ca l.length cc) = x := ⟨_, rfl⟩
            rw [hw7] at h6b
            have e2 := h6b.bxg ck_q
            have e3 := h6b.bxg (ck_at HX.out)
            have e3f := (h6b.box1 (1 + N)).2
            have h7 := h6b.box_set (1 + N) (.int .i64 a)
            rw [ck_setAt HLn.out hNl] at h7
            clear d0 d1 d2 h5 h6 h6b
            obtain ⟨w4, hw4⟩ : ∃ x, w7.setCell ⟨cb, 1 + N, none⟩ (.int .i64 a) = x := ⟨_, rfl⟩
            rw [hw4] at h7
            have d4 := h7.bxg ck_q
            obtain ⟨a1, a2, a3⟩ := HArm.out (by trivial)
            have hta := T_arm (h7.sw3.sw2.sw1.sw0) HSo.out (by have := HFew.out; omega) (N : Int) F (wf_in (by omega))
            rw [a3] at a1 a2
            rw [a1, a2] at hta
            have HTa := Lib.hid hta
            clear h7 a1 a2 a3 hta
            go_wp2_with fail
            refine HTa.out.mono ?_
            rintro e w5 ⟨rfl, h8⟩
            have H8 := Lib.hid h8
            clear h8
            go_wp2_with fail
            go_ret
            refine ⟨rfl, ?_⟩
            rw [HSet.out (by trivial)]
            exact On.ck_shut (c := { c with S := D.S, ats := c.ats.set (N : Int).toNat a, lates := c.lates.tail }) (by rw [HLs.out, Int.toNat_natCast]; exact (H8.out.sw2.sw1.sw0.sw3.sw2.sw1.sw2).out1.out1)
          · have hcl := clone_ok H4.out ⟨g, off + 1, none⟩ l.length (vc - 1) l (fun A hA => by
              obtain ⟨_, _, he, hi⟩ := (On.lat_tail hA).lat_read
              cases he
              exact reads_intsAt hi rfl) (by have := HLl.out; simp at this; omega)
            have HCl := Lib.hid hcl
            clear hcl
            go_wp2_with fail
            refine HCl.out.mono ?_
            rintro e w6 ⟨v6, rfl, h5⟩
            obtain ⟨ca, cc, rfl, _⟩ := h5.lat_read
            have h6 := (h5.sw2.sw1.sw0)
            have e0 := h6.bxg ck_q
            have e1 := h6.bxg (ck_lates HLn.out)
            have e1f := (h6.box1 513).2
            have h6b := h6.box_set 513 (.slice ca l.length cc)
            rw [ck_setLates HLn.out] at h6b
            obtain ⟨w7, hw7⟩ : ∃ x, w6.setCell ⟨cb, 513, none⟩ (.slice ca l.length cc) = x := ⟨_, rfl⟩
            rw [hw7] at h6b
            have e2 := h6b.bxg ck_q
            have e3 := h6b.bxg (ck_at HX.out)
            have e3f := (h6b.box1 (1 + N)).2
            have h7 := h6b.box_set (1 + N) (.int .i64 a)
            rw [ck_setAt HLn.out hNl] at h7
            clear d0 d1 d2 h5 h6 h6b
            obtain ⟨w4, hw4⟩ : ∃ x, w7.setCell ⟨cb, 1 + N, none⟩ (.int .i64 a) = x := ⟨_, rfl⟩
            rw [hw4] at h7
            have d4 := h7.bxg ck_q
            obtain ⟨a1, a2, a3⟩ := HArm.out (by trivial)
            have hta := T_arm (h7.sw3.sw2.sw1.sw0) HSo.out (by have := HFew.out; omega) (N : Int) F (wf_in (by omega))
            rw [a3] at a1 a2
            rw [a1, a2] at hta
            have HTa := Lib.hid hta
            clear h7 a1 a2 a3 hta
            go_wp2_with fail
            refine HTa.out.mono ?_
            rintro e w5 ⟨rfl, h8⟩
            have H8 := Lib.hid h8
            clear h8
            go_wp2_with fail
            go_ret
            refine ⟨rfl, ?_⟩
            rw [HSet.out (by trivial)]
            exact On.ck_shut (c := { c with S := D.S, ats := c.ats.set (N : Int).toNat a, lates := c.lates.tail }) (by rw [HLs.out, Int.toNat_natCast]; exact (H8.out.sw2.sw1.sw0.sw3.sw2.sw1.sw2).out1.out1)
    · have e1 : c.setE k id a = T := by unfold Ck.setE; rw [if_pos hm, if_neg (by rw [hT]; exact ht), hT]
      have e2 := hsame (by rw [e1]; exact ht)
      rw [e1, e2]
      have HM := Lib.hid hm
      have z : (T != 0) = true := by simpa using ht
      clear h hsame e1 e2 hT hm ho
      go_enter Try.func75, Try.ntmps75
      go_wp2_with fail
      refine HNu.out.mono ?_
      rintro e w1 ⟨n, rfl, _, rfl⟩
      go_wp2_with fail
      refine (HTi.out w).mono ?_
      rintro e w1 ⟨rfl, rfl⟩
      go_wp2_with fail
      go_ret
      exact ⟨rfl, H.out⟩
  · have e1 : c.setE k id a = 1 := by unfold Ck.setE; rw [if_neg hm]
    have e2 := hsame (by rw [e1]; decide)
    rw [e1, e2]
    rw [decide_eq_false hm] at HNu
    clear h hsame e1 e2 hT hm ho
    go_enter Try.func75, Try.ntmps75
    go_wp2_with fail
    refine HNu.out.mono ?_
    rintro e w1 ⟨n, rfl, _, rfl⟩
    go_wp2_with fail
    go_ret
    exact ⟨rfl, H.out⟩
end
end Go.Proofs.Ytkjpkhpiojahkaa
