/-
  The document's clock in memory: Step.
-/
import Derived.Test.YtkjpkhpiojahkaaRk6
namespace Go.Proofs.Ytkjpkhpiojahkaa
set_option linter.unusedVariables false
open Go.RowKit Hp
attribute [local go_sem] Oper.semAt_some
/-- the timer that fired -/
def tmOf : Option Ev → Tm
  | none => ⟨-1, 0, 0, 0⟩
  | some v => ⟨v.kind, v.id, v.at', v.now⟩
theorem RkOk.now' {c : Ck} {r : Rk} (h : RkOk c r) (to : Int) : RkOk { c with now := to } { r with now := to } := ⟨h.lates, rfl, h.worst, h.perm, h.each⟩
theorem RkOk.fire {c : Ck} {r : Rk} (ho : CkOk c) (h : RkOk c r) {x : It Int} {T : List (It Int)} (hs : c.S = x :: T) {j : Nat} {t : Tm} (ht : r.L[j]? = some t) (hk : tmKey t = x) (m : Int) :
    RkOk { c with S := T, now := x.2, worst := m } ⟨r.L.eraseIdx j, r.lates, x.2, m⟩ := by
  refine ⟨h.lates, rfl, rfl, ?_, fun u hu => h.each u (erase_sub u hu)⟩
  have h1 := h.erase ho ht
  have h2 : nm t.kind t.id = x.1 := by rw [← hk]; rfl
  have hd := ho.dist
  rw [hs] at h1 hd
  rw [h2, without_head hd] at h1
  exact h1
section
variable {w0 w : World} {R : Ast} {rb : Nat} {c : Ck}
theorem On.tm_set {b : Nat} {x0 x1 x2 x3 v0 v1 v2 v3 : Value} (h : On w0 w (sep (boxA b 124 #[x0, x1, x2, x3]) R)) :
    On w0 ((((w.setCell ⟨b, 0, none⟩ v0).setCell ⟨b, 1, none⟩ v1).setCell ⟨b, 2, none⟩ v2).setCell ⟨b, 3, none⟩ v3) (sep (boxA b 124 #[v0, v1, v2, v3]) R) :=
  (((h.box_set 0 v0).box_set 1 v1).box_set 2 v2).box_set 3 v3
theorem rk_results {A : World} {X : Ast} {b : Nat} {E : Int} {t : Tm} {tm : Array Value} (h : On w0 A (sep (boxA b 124 (tmC t).toArray) X))
    (t4 : tm[4]? = some (.pointer (some ⟨b, 0, none⟩))) (t5 : tm[5]? = some (.int .i64 E)) :
    (results Try.f86 tm).run Try.prog A = .ok (.tuple #[.agg (tmC t).toArray, .int .i64 E]) A := by
  unfold tmC at h ⊢
  have d0 := h.bx 0 rfl
  have d1 := h.bx 1 rfl
  have d2 := h.bx 2 rfl
  have d3 := h.bx 3 rfl
  simp [results, Try.f86, go_sem, t4, t5, d0, d1, d2, d3]
set_option maxRecDepth 100000 in
set_option maxHeartbeats 8000000 in
theorem RK_step (h : On w0 w (sep (refK rb c) R)) (ho : CkOk c) (to : Int) :
    Calls Try.prog 86 #[.pointer (some ⟨rb, 0, none⟩), .int .i64 to] w fun e w' => e = .returned (.tuple #[.agg (tmC (tmOf (c.stepV to))).toArray, .int .i64 (c.stepE to)]) ∧ On w0 w' (sep (refK rb (c.step to)) R) := by
  obtain ⟨r, hr, h1⟩ := h.refk_open
  obtain ⟨b4, hb4⟩ : ∃ b, w.heap.size = b := ⟨_, rfl⟩
  obtain ⟨W0, hW0⟩ : ∃ x, w.alloc (.cells #[.int .i64 0, .int .i64 0, .int .i64 0, .int .i64 0] 124) = x := ⟨_, rfl⟩
  have h0 := h1.new1 124 #[.int .i64 0, .int .i64 0, .int .i64 0, .int .i64 0]
  rw [hW0, hb4] at h0
  obtain ⟨b6, hb6⟩ : ∃ b, W0.heap.size = b := ⟨_, rfl⟩
  obtain ⟨W, hW⟩ : ∃ x, W0.alloc (.cells #[.int .i64 (-1), .int .i64 0, .int .i64 0, .int .i64 0] 124) = x := ⟨_, rfl⟩
  have h2 := h0.new1 124 #[.int .i64 (-1), .int .i64 0, .int .i64 0, .int .i64 0]
  rw [hW, hb6] at h2
  clear h0
  obtain ⟨T, hT⟩ : ∃ T, timeE to = T := ⟨_, rfl⟩
  have HTi := Lib.hid (RK_time to W)
  rw [hT] at HTi
  have hlen := hr.len
  have hfew := ho.few
  have k00 := (h2).bx 0 rfl
  have k00f := ((h2).box1 0).2
  have k01 := (h2).bx 1 rfl
  have k01f := ((h2).box1 1).2
  have k02 := (h2).bx 2 rfl
  have k02f := ((h2).box1 2).2
  have k03 := (h2).bx 3 rfl
  have k03f := ((h2).box1 3).2
  have k10 := (h2.sw0).bx 0 rfl
  have k10f := ((h2.sw0).box1 0).2
  have k11 := (h2.sw0).bx 1 rfl
  have k11f := ((h2.sw0).box1 1).2
  have k12 := (h2.sw0).bx 2 rfl
  have k12f := ((h2.sw0).box1 2).2
  have k13 := (h2.sw0).bx 3 rfl
  have k13f := ((h2.sw0).box1 3).2
  have s1 := h2.set_same 1 rfl
  have s2 := h2.set_same 2 rfl
  have s3 := h2.set_same 3 rfl
  by_cases ht : T = 0
  · subst ht
    obtain ⟨now, hnow⟩ : ∃ x, r.now = x := ⟨_, rfl⟩
    obtain ⟨v1, v2, h3⟩ := (h2.sw1.sw0).rk_open
    obtain ⟨a, cc, rfl, _⟩ := h3.sw0.tms_form
    have h3' : On w0 W (sep (boxA rb 116 #[.slice a r.L.length cc, v2, .int .i64 r.now, .int .i64 r.worst]) (sep (tmsA (.slice a r.L.length cc) r.L) (sep (latA v2 r.lates) (sep (boxA b6 124 #[.int .i64 (-1), .int .i64 0, .int .i64 0, .int .i64 0]) (sep (boxA b4 124 #[.int .i64 0, .int .i64 0, .int .i64 0, .int .i64 0]) R))))) := h3
    have hn2 := h3'.bx 2 rfl
    rw [hnow] at hn2
    by_cases hlt : to < now
    · have e1 : c.stepE to = 10 := by unfold Ck.stepE; rw [if_pos hT, if_pos (by rw [← hr.now, hnow]; exact hlt)]
      have e2 : c.stepV to = none := by unfold Ck.stepV; rw [if_neg (by rw [e1]; decide)]
      have e3 : c.step to = c := by unfold Ck.step; rw [if_neg (by rw [e1]; decide)]
      rw [e1, e2, e3]
      have H2 := Lib.hid (h2.sw0)
      have HR := Lib.hid hr
      clear h h1 h2 h3 h3' e1 e2 e3 hT ho hr hnow hlen hfew
      go_enter Try.func86, Try.ntmps86
      go_wp2_with fail
      refine HTi.out.mono ?_
      rintro e w1 ⟨rfl, rfl⟩
      go_wp2_with fail
      have h4 := H2.out.tm_set (v0 := .int .i64 (-1)) (v1 := .int .i64 0) (v2 := .int .i64 0) (v3 := .int .i64 0)
      refine bodyPost_ret (rk_results (t := tmOf none) h4 rfl rfl) rfl ?_
      exact ⟨rfl, On.refk_shut HR.out h4.out1.out1⟩
    · have hle : now ≤ to := by omega
      have hE := stepE_zero (c := c) hT (by rw [← hr.now, hnow]; exact hle)
      rw [hE]
      obtain ⟨V, hV⟩ : ∃ V, c.stepV to = V := ⟨_, rfl⟩
      obtain ⟨G, hG⟩ : ∃ G, c.step to = G := ⟨_, rfl⟩
      rw [hV, hG]
      have HV := Lib.hid hV
      have HG := Lib.hid hG
      have HE := Lib.hid hE
      have HO := Lib.hid ho
      have HR := Lib.hid hr
      have HNow := Lib.hid hnow
      have HFi := Lib.hid (RK_first (h2.sw1.sw0) (by omega))
      obtain ⟨n, hn⟩ : ∃ n, r.L.length = n := ⟨_, rfl⟩
      have HN := Lib.hid hn
      rw [hn, hnow] at h3'
      have hn5 : n ≤ 512 := by omega
      have H3 := Lib.hid h3'
      have H3r := Lib.hid (show ∀ A v2' X, On w0 A (sep (boxA rb 116 #[.slice a n cc, v2', .int .i64 now, .int .i64 r.worst]) (sep (tmsA (.slice a n cc) r.L) (sep (latA v2' r.lates) X))) → On w0 A (sep (rkA rb r) X) from fun A v2' X hA => by rw [← hn, ← hnow] at hA; exact On.rk_shut hA)
      clear h h1 h2 h3 h3' hV hG hE hT ho hr hnow hlen hfew hn
      go_enter Try.func86, Try.ntmps86
      go_wp2_with fail
      refine HTi.out.mono ?_
      rintro e w1 ⟨rfl, rfl⟩
      go_wp2_with fail
      refine HFi.out.mono ?_
      rintro e w1 ⟨⟨x, rfl, hfi⟩, hb⟩
      have h5 := H3.out.below hb
      clear hb k00 k00f k01 k01f k02 k02f k03 k03f k10 k10f k11 k11f k12 k12f k13 k13f s1 s2 s3 hn2 hW hb6
      rcases hfi with ⟨rfl, hnil⟩ | ⟨j, t, rfl, hjt, hmin⟩
      · have hSn : c.S = [] := List.eq_nil_of_length_eq_zero (by rw [← HR.out.len, hnil]; rfl)
        have HVV := Lib.hid (show V = none by rw [← HV.out]; unfold Ck.stepV; rw [if_pos HE.out, hSn])
        have HGG := Lib.hid (show G = { c with now := to } by rw [← HG.out]; unfold Ck.step; rw [if_pos HE.out, hSn])
        clear hnil hSn
        have h6 := h5.box_set 2 (.int .i64 to)
        obtain ⟨W2, hW2⟩ : ∃ x, w1.setCell ⟨rb, 2, none⟩ (.int .i64 to) = x := ⟨_, rfl⟩
        rw [hW2] at h6
        have q2 := h5.bx 2 rfl
        have q2f := (h5.box1 2).2
        have m30 := (h6.sw2.sw1.sw0).bx 0 rfl
        have m31 := (h6.sw2.sw1.sw0).bx 1 rfl
        have m32 := (h6.sw2.sw1.sw0).bx 2 rfl
        have m33 := (h6.sw2.sw1.sw0).bx 3 rfl
        have m40 := (h6.sw3.sw2.sw1.sw0).bx 0 rfl
        have m40f := ((h6.sw3.sw2.sw1.sw0).box1 0).2
        have m41 := (h6.sw3.sw2.sw1.sw0).bx 1 rfl
        have m41f := ((h6.sw3.sw2.sw1.sw0).box1 1).2
        have m42 := (h6.sw3.sw2.sw1.sw0).bx 2 rfl
        have m42f := ((h6.sw3.sw2.sw1.sw0).box1 2).2
        have m43 := (h6.sw3.sw2.sw1.sw0).bx 3 rfl
        have m43f := ((h6.sw3.sw2.sw1.sw0).box1 3).2
        have H6 := Lib.hid (h6.sw3.sw2.sw1.sw0)
        clear h5 h6
        go_wp2_with fail
        have h7 := H6.out.tm_set (v0 := .int .i64 (-1)) (v1 := .int .i64 0) (v2 := .int .i64 0) (v3 := .int .i64 0)
        refine bodyPost_ret (rk_results (t := tmOf none) h7 rfl rfl) rfl ?_
        rw [HVV.out, HGG.out]
        refine ⟨rfl, On.refk_shut (HR.out.now' to) ?_⟩
        have h8 := (h7.sw3.sw2.sw1).out1.out1
        rw [← HN.out] at h8
        exact On.rk_shut (r := { r with now := to }) h8
      · obtain ⟨x, T, hs⟩ : ∃ x T, c.S = x :: T := by
          cases hS : c.S with
          | nil =>
            have := HR.out.mem (List.mem_of_getElem? hjt)
            rw [hS] at this
            cases this
          | cons x T => exact ⟨x, T, rfl⟩
        have hk := HR.out.first HO.out hs hjt hmin
        have hx2 : t.fires = x.2 := by rw [← hk]; rfl
        have hjl := (List.getElem?_eq_some_iff.1 hjt).1
        have hj0 : (0 : Int) ≤ (j : Int) := by omega
        have hj1 : ¬ (j : Int) < 0 := by omega
        have hjn : j < n := by rw [← HN.out]; exact hjl
        have hjI : (j : Int) < (n : Int) := by omega
        have q0 := h5.bx 0 rfl
        obtain ⟨b2, rfl, c0, c1, c2, c3⟩ := h5.sw0.tms_at hjt
        by_cases htf : to < t.fires
        · have HVV := Lib.hid (show V = none by
            rw [← HV.out]
            unfold Ck.stepV
            rw [if_pos HE.out, hs]
            show (if to < x.2 then none else _) = _
            rw [← hx2, if_pos htf])
          have HGG := Lib.hid (show G = { c with now := to } by
            rw [← HG.out]
            unfold Ck.step
            rw [if_pos HE.out, hs]
            show (if to < x.2 then _ else _) = _
            rw [← hx2, if_pos htf, ← hs])
          clear hjt hmin hs hk hx2 hjl
          have h6 := h5.box_set 2 (.int .i64 to)
          obtain ⟨W2, hW2⟩ : ∃ x, w1.setCell ⟨rb, 2, none⟩ (.int .i64 to) = x := ⟨_, rfl⟩
          rw [hW2] at h6
          have q2 := h5.bx 2 rfl
          have q2f := (h5.box1 2).2
          have m30 := (h6.sw2.sw1.sw0).bx 0 rfl
          have m31 := (h6.sw2.sw1.sw0).bx 1 rfl
          have m32 := (h6.sw2.sw1.sw0).bx 2 rfl
          have m33 := (h6.sw2.sw1.sw0).bx 3 rfl
          have m40 := (h6.sw3.sw2.sw1.sw0).bx 0 rfl
          have m40f := ((h6.sw3.sw2.sw1.sw0).box1 0).2
          have m41 := (h6.sw3.sw2.sw1.sw0).bx 1 rfl
          have m41f := ((h6.sw3.sw2.sw1.sw0).box1 1).2
          have m42 := (h6.sw3.sw2.sw1.sw0).bx 2 rfl
          have m42f := ((h6.sw3.sw2.sw1.sw0).box1 2).2
          have m43 := (h6.sw3.sw2.sw1.sw0).bx 3 rfl
          have m43f := ((h6.sw3.sw2.sw1.sw0).box1 3).2
          have H6 := Lib.hid (h6.sw3.sw2.sw1.sw0)
          clear h5 h6
          go_wp2_with fail
          have h7 := H6.out.tm_set (v0 := .int .i64 (-1)) (v1 := .int .i64 0) (v2 := .int .i64 0) (v3 := .int .i64 0)
          refine bodyPost_ret (rk_results (t := tmOf none) h7 rfl rfl) rfl ?_
          rw [HVV.out, HGG.out]
          refine ⟨rfl, On.refk_shut (HR.out.now' to) ?_⟩
          have h8 := (h7.sw3.sw2.sw1).out1.out1
          rw [← HN.out] at h8
          exact On.rk_shut (r := { r with now := to }) h8
        · have hm := List.mem_of_getElem? hjt
          have hac := (HR.out.each t hm).2
          have hat1 : nm t.kind t.id = x.1 := by rw [← hk]; rfl
          rw [hat1] at hac
          have htm := timeE_iff.1 (HO.out.times x (by rw [hs]; exact List.mem_cons_self ..))
          rw [← hx2] at htm
          have har := HO.out.atR x.1
          rw [hac] at har
          have hdv := nm_div (HR.out.each t hm).1
          rw [hat1] at hdv
          obtain ⟨ww, hww⟩ : ∃ x, r.worst = x := ⟨_, rfl⟩
          have HWw := Lib.hid hww
          have hcw : c.worst = ww := by rw [← HR.out.worst]; exact hww
          obtain ⟨mw, hmw⟩ : ∃ m, max ww (t.fires - t.at') = m := ⟨_, rfl⟩
          have hmw' : (if ww < t.fires - t.at' then t.fires - t.at' else ww) = mw := by rw [← hmw]; omega
          have hsub : IntKind.i64.wrap (t.fires - t.at') = t.fires - t.at' := IntWalk.i64_in _ (by omega)
          have HVV := Lib.hid (show V = some ⟨t.kind, t.id, t.at', t.fires - t.at', t.fires⟩ by
            rw [← HV.out]
            unfold Ck.stepV
            rw [if_pos HE.out, hs]
            show (if to < x.2 then none else _) = _
            rw [← hx2, if_neg htf]
            unfold Ck.evOf
            rw [hdv.1, hdv.2, hac, ← hx2])
          have HGG := Lib.hid (show G = { c with S := T, now := x.2, worst := mw } by
            rw [← HG.out]
            unfold Ck.step
            rw [if_pos HE.out, hs]
            show (if to < x.2 then _ else _) = _
            rw [← hx2, if_neg htf, hac, hcw, hmw])
          have HRF := Lib.hid (HR.out.fire HO.out hs hjt hk mw)
          rw [← hx2] at HGG HRF
          obtain ⟨b9, hb9⟩ : ∃ b, w1.heap.size = b := ⟨_, rfl⟩
          obtain ⟨W2, hW2⟩ : ∃ x, w1.alloc (.cells #[.int .i64 t.kind, .int .i64 t.id, .int .i64 t.at', .int .i64 t.fires] 124) = x := ⟨_, rfl⟩
          have h6 := h5.new1 124 #[.int .i64 t.kind, .int .i64 t.id, .int .i64 t.at', .int .i64 t.fires]
          rw [hW2, hb9] at h6
          have h7 := H3r.out _ _ _ (h6.sw0.sw1.sw2)
          have HDr := Lib.hid (RK_drop h7 (by rw [HN.out]; omega) hjl)
          clear h5 h6 h7 hm hac hat1 hdv hww hmw hjt hmin hs hk hx2 hjl hcw
          go_wp2_with fail
          refine HDr.out.mono ?_
          rintro e w3 ⟨rfl, h8⟩
          obtain ⟨u1, u2, h9⟩ := h8.rk_open
          have h9' : On w0 w3 (sep (boxA rb 116 #[u1, u2, .int .i64 r.now, .int .i64 r.worst]) (sep (tmsA u1 (r.L.eraseIdx j)) (sep (latA u2 r.lates) (sep (boxA b9 124 #[.int .i64 t.kind, .int .i64 t.id, .int .i64 t.at', .int .i64 t.fires]) (sep (boxA b6 124 #[.int .i64 (-1), .int .i64 0, .int .i64 0, .int .i64 0]) (sep (boxA b4 124 #[.int .i64 0, .int .i64 0, .int .i64 0, .int .i64 0]) R)))))) := h9
          rw [HWw.out] at h9'
          have q2 := h9'.bx 2 rfl
          have q2f := (h9'.box1 2).2
          have p3 := (h9'.sw2.sw1.sw0).bx 3 rfl
          have h10 := h9'.box_set 2 (.int .i64 t.fires)
          obtain ⟨W4, hW4⟩ : ∃ x, w3.setCell ⟨rb, 2, none⟩ (.int .i64 t.fires) = x := ⟨_, rfl⟩
          rw [hW4] at h10
          have r2 := h10.bx 2 rfl
          have r3 := h10.bx 3 rfl
          have r9 := (h10.sw2.sw1.sw0).bx 2 rfl
          have h11 := h10.below (Below.refl _ W4).drew
          have s3 := h11.bx 3 rfl
          have s3f := (h11.box1 3).2
          have h12 := h11.box_set 3 (.int .i64 mw)
          obtain ⟨W5, hW5⟩ : ∃ x, W4.drew.setCell ⟨rb, 3, none⟩ (.int .i64 mw) = x := ⟨_, rfl⟩
          rw [hW5] at h12
          have m30 := (h12.sw2.sw1.sw0).bx 0 rfl
          have m31 := (h12.sw2.sw1.sw0).bx 1 rfl
          have m32 := (h12.sw2.sw1.sw0).bx 2 rfl
          have m33 := (h12.sw2.sw1.sw0).bx 3 rfl
          have m50 := (h12.sw4.sw3.sw2.sw1.sw0).bx 0 rfl
          have m50f := ((h12.sw4.sw3.sw2.sw1.sw0).box1 0).2
          have m51 := (h12.sw4.sw3.sw2.sw1.sw0).bx 1 rfl
          have m51f := ((h12.sw4.sw3.sw2.sw1.sw0).box1 1).2
          have m52 := (h12.sw4.sw3.sw2.sw1.sw0).bx 2 rfl
          have m52f := ((h12.sw4.sw3.sw2.sw1.sw0).box1 2).2
          have m53 := (h12.sw4.sw3.sw2.sw1.sw0).bx 3 rfl
          have m53f := ((h12.sw4.sw3.sw2.sw1.sw0).box1 3).2
          have H12 := Lib.hid (h12.sw4.sw3.sw2.sw1.sw0)
          clear h8 h9 h9' h10 h11 h12
          go_wp2_with fail
          refine wp_region_last (os := ?_) (s := ?_) (fun A' => A' = W4.drew) (by simp only [List.dropLast]; rfl) (by rfl) (by kernel_rfl) (by kernel_rfl) (by kernel_rfl) rfl ?_
          repeat (first
            | (refine loose_skip (by rfl) ?_; simp only [Act.put, List.setIfInBounds_toArray, List.set_cons_zero, List.set_cons_succ])
            | (refine loose_val (v := ?_) (by rfl) ?_ ?_; rotate_left; (focus (intro A' hA'; subst hA' ;  have r2' := drewC r2 ;  have r3' := drewC r3 ;  have r9' := drewC r9; go_simp; first | done | with_reducible rfl)); simp only [Act.put, List.setIfInBounds_toArray, List.set_cons_zero, List.set_cons_succ]))
          refine loose_nil ?_
          intro A3 hA3
          subst hA3
          go_wp2_with fail
          have h13 := H12.out.tm_set (v0 := .int .i64 t.kind) (v1 := .int .i64 t.id) (v2 := .int .i64 t.at') (v3 := .int .i64 t.fires)
          refine bodyPost_ret (rk_results (t := t) h13 rfl rfl) rfl ?_
          rw [HVV.out, HGG.out]
          exact ⟨rfl, On.refk_shut HRF.out (On.rk_shut (r := ⟨r.L.eraseIdx j, r.lates, t.fires, mw⟩) (h13.sw3.sw2.sw1.sw4.sw3.sw2).out1.out1.out1)⟩
  · have z : (T != 0) = true := by simpa using ht
    have e1 : c.stepE to = T := by unfold Ck.stepE; rw [if_neg (by rw [hT]; exact ht), hT]
    have e2 : c.stepV to = none := by unfold Ck.stepV; rw [if_neg (by rw [e1]; exact ht)]
    have e3 : c.step to = c := by unfold Ck.step; rw [if_neg (by rw [e1]; exact ht)]
    rw [e1, e2, e3]
    have H2 := Lib.hid (h2.sw0)
    have HR := Lib.hid hr
    clear h h1 h2 e1 e2 e3 hT ho hr hlen hfew
    go_enter Try.func86, Try.ntmps86
    go_wp2_with fail
    refine HTi.out.mono ?_
    rintro e w1 ⟨rfl, rfl⟩
    go_wp2_with fail
    have h4 := H2.out.tm_set (v0 := .int .i64 (-1)) (v1 := .int .i64 0) (v2 := .int .i64 0) (v3 := .int .i64 0)
    refine bodyPost_ret (rk_results (t := tmOf none) h4 rfl rfl) rfl ?_
    exact ⟨rfl, On.refk_shut HR.out h4.out1.out1⟩
end
end Go.Proofs.Ytkjpkhpiojahkaa
