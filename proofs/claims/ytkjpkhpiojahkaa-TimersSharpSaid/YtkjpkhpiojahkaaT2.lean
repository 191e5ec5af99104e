/-
  Walks: Arm of a queue of timers.
-/
import Derived.Test.YtkjpkhpiojahkaaT1
import Derived.Test.YtkjpkhpiojahkaaL6
namespace Go.Proofs.Ytkjpkhpiojahkaa
set_option linter.unusedVariables false
open Go.RowKit Hp
attribute [local go_sem] Oper.semAt_some

def armE (S : List (It Int)) (most id at' : Int) : Int := if id < 0 then 1 else if timeE at' = 0 then (if has S id = false ∧ most ≤ (S.length : Int) then 13 else 0) else timeE at'
def armS (S : List (It Int)) (most id at' : Int) : List (It Int) := if armE S most id at' = 0 then ins ltI (id, at') (without S id) else S

section
variable {w0 w : World} {tb : Nat} {S : List (It Int)} {R : Ast} {most now worst : Int}
set_option maxRecDepth 100000 in
set_option maxHeartbeats 4000000 in
theorem T_arm (h : On w0 w (sep (tqA tb most S now worst) R)) (hs : Sorted ltI S) (hl : S.length < 700000) (id at' : Int) (hw : (Lit.int .i64 id).wf = true) :
    Calls Try.prog 44 #[.pointer (some ⟨tb, 0, none⟩), .int .i64 id, .int .i64 at'] w fun e w' => e = .returned (.int .i64 (armE S most id at')) ∧ On w0 w' (sep (tqA tb most (armS S most id at') now worst) R) := by
  by_cases h0 : id < 0
  · have e1 : armE S most id at' = 1 := by unfold armE; rw [if_pos h0]
    have e2 : armS S most id at' = S := by unfold armS; rw [if_neg (by rw [e1]; decide)]
    rw [e1, e2]
    have H := Lib.hid h
    clear h e1 e2
    go_enter Try.func44, Try.ntmps44
    go_wp2_with fail
    go_ret
    exact ⟨rfl, H.out⟩
  obtain ⟨ae, hae⟩ : ∃ e, armE S most id at' = e := ⟨_, rfl⟩
  obtain ⟨aS, haS⟩ : ∃ T, armS S most id at' = T := ⟨_, rfl⟩
  rw [hae, haS]
  have HAe := Lib.hid hae
  have HAs := Lib.hid haS
  clear hae haS
  have g0 : decide (id < 0) = false := by simp; omega
  obtain ⟨bk, hbk⟩ : ∃ b, w.heap.size = b := ⟨_, rfl⟩
  obtain ⟨W, hW⟩ : ∃ W, w.alloc (.cells #[.int .i64 at', .int .i64 id] 24) = W := ⟨_, rfl⟩
  have h1 := h.new1 24 #[.int .i64 at', .int .i64 id]
  rw [hW, hbk] at h1
  obtain ⟨tt, htt⟩ : ∃ tt, timeE at' = tt := ⟨_, rfl⟩
  have ht := time_any at' W
  rw [htt] at ht
  have HT := Lib.hid ht
  have HTt := Lib.hid htt
  have H1 := Lib.hid h1.out1
  by_cases h2 : tt = 0
  · subst h2
    obtain ⟨qb, h3⟩ := h1.sw0.tq_open
    have c1 : W.cell? ⟨tb, 1, none⟩ = some (.pointer (some ⟨qb, 0, none⟩)) := (h3.box1 1).1
    obtain ⟨kk, hkk⟩ : ∃ kk, keyAt 0 S id = kk := ⟨_, rfl⟩
    obtain ⟨ii, hii⟩ : ∃ ii, idAt S id = ii := ⟨_, rfl⟩
    obtain ⟨ge, hge⟩ : ∃ ge, hasE S id = ge := ⟨_, rfl⟩
    have hg := Q_get h3.sw0 (by omega) id hw
    rw [hkk, hii, hge] at hg
    have HG := Lib.hid hg
    have H3 := Lib.hid h3
    have HKk := Lib.hid hkk
    have HIi := Lib.hid hii
    have HGe := Lib.hid hge
    have HS := Lib.hid hs
    have HDist := Lib.hid h3.sw0.qu_distinct
    clear h h1 ht htt hg h3 hkk hii hge hs
    go_enter Try.func44, Try.ntmps44
    go_wp2_with fail
    clear hW hbk
    refine HT.out.mono ?_
    rintro e w1 ⟨rfl, rfl⟩
    go_wp2_with fail
    refine HG.out.mono ?_
    rintro e w1 ⟨rfl, hb1⟩
    obtain ⟨bo, hbo⟩ : ∃ b, w1.heap.size = b := ⟨_, rfl⟩
    obtain ⟨w2, hw2⟩ : ∃ w2, w1.alloc (.cells #[.int .i64 kk, .int .i64 ii] 24) = w2 := ⟨_, rfl⟩
    have h4 := (H3.out.below hb1).new1 24 #[.int .i64 kk, .int .i64 ii]
    rw [hw2, hbo] at h4
    have c2 : w2.cell? ⟨tb, 1, none⟩ = some (.pointer (some ⟨qb, 0, none⟩)) := ((h4.sw0).box1 1).1
    have c3 : w2.cell? ⟨tb, 0, none⟩ = some (.int .i64 most) := ((h4.sw0).box1 0).1
    have HLn := Lib.hid (Q_len (h4.sw1.sw0))
    have H4 := Lib.hid h4
    clear hb1 h4
    cases hh : has S id with
    | false =>
      have z0 : ge = 14 := by rw [← HGe.out]; unfold hasE; rw [hh]; rfl
      subst z0
      obtain ⟨k, hk⟩ : ∃ k, S.length = k := ⟨_, rfl⟩
      have hlc : ∀ A, A = w2.drew → Calls Try.prog 30 #[.pointer (some ⟨qb, 0, none⟩)] A fun e w' => e = .returned (.int .i64 (k : Int)) ∧ w' = w2.drew := fun A hA => by
        subst hA
        have h5 := H4.out.below ((Below.refl _ w2).drew)
        rw [← hk]
        exact (Q_len (h5.sw1.sw0)).mono fun e w' ⟨h1, h2⟩ => ⟨h1, h2.symm⟩
      have HLc := Lib.hid hlc
      have c2' : w2.drew.cell? ⟨tb, 1, none⟩ = some (.pointer (some ⟨qb, 0, none⟩)) := c2
      have c3' : w2.drew.cell? ⟨tb, 0, none⟩ = some (.int .i64 most) := c3
      have HK := Lib.hid hk
      have HHh := Lib.hid hh
      clear hlc hk hh
      by_cases hm : most ≤ (k : Int)
      · have e1' : armE S most id at' = 13 := by unfold armE; rw [if_neg (by omega), HTt.out, if_pos rfl, HK.out, if_pos ⟨HHh.out, hm⟩]
        have e2' : armS S most id at' = S := by unfold armS; rw [if_neg (by rw [e1']; decide)]
        obtain rfl := HAe.out.symm.trans e1'
        obtain rfl := HAs.out.symm.trans e2'
        have H5 := Lib.hid (H4.out.below ((Below.refl _ w2).drew)).out1.tq_shut
        clear e1' e2'
        go_wp2_with fail
        refine wp_region_loose (fun A => A = w2.drew) (by kernel_rfl) (by kernel_rfl) rfl ?_
        iterate 15 (first
          | (refine loose_skip (by rfl) ?_; simp only [Act.put, List.setIfInBounds_toArray, List.set_cons_zero, List.set_cons_succ])
          | (refine loose_val (v := ?_) (by rfl) ?_ ?_; rotate_left; (focus (intro A' hA'; subst hA'; go_simp; first | done | with_reducible rfl)); simp only [Act.put, List.setIfInBounds_toArray, List.set_cons_zero, List.set_cons_succ])
          | (refine loose_call HLc.out (by rfl) ?_ ?_; (focus (intro A' hA'; go_simp; done)); simp only [Act.put, List.setIfInBounds_toArray, List.set_cons_zero, List.set_cons_succ]))
        refine loose_nil ?_
        intro A3 hA3
        subst hA3
        go_wp2_with fail
        go_ret
        exact ⟨rfl, H5.out.sw0.out1⟩
      · have hmI : (k : Int) < most := by omega
        have e1' : armE S most id at' = 0 := by unfold armE; rw [if_neg (by omega), HTt.out, if_pos rfl, HK.out, if_neg (fun h => hm h.2)]
        have e2' : armS S most id at' = ins ltI (id, at') S := by unfold armS; rw [if_pos e1', without_none HHh.out]
        obtain rfl := HAe.out.symm.trans e1'
        obtain rfl := HAs.out.symm.trans e2'
        have H5 := Lib.hid (H4.out.below ((Below.refl _ w2).drew.drew)).out1
        obtain ⟨bs, hbs⟩ : ∃ b, w2.drew.drew.heap.size = b := ⟨_, rfl⟩
        obtain ⟨w3, hw3⟩ : ∃ w3, w2.drew.drew.alloc (.cells #[.int .i64 at', .int .i64 id] 24) = w3 := ⟨_, rfl⟩
        have h6 := H5.out.new1 24 #[.int .i64 at', .int .i64 id]
        rw [hw3, hbs] at h6
        have hck : checkE S at' id = 0 := by unfold checkE; rw [if_neg (by omega), HTt.out, if_pos rfl, HHh.out]; rfl
        have hp : Calls Try.prog 92 #[.pointer (some ⟨qb, 0, none⟩), .slice (some ⟨bs, 0, none⟩) 1 1] w3 fun e w' => e = .returned (.int .i64 0) ∧ On w0 w' (sep (quA qb (ins ltI (id, at') S)) (sep (boxA bs 24 #[.int .i64 at', .int .i64 id]) (sep (boxA tb 152 #[.int .i64 most, .pointer (some ⟨qb, 0, none⟩), .int .i64 now, .int .i64 worst]) (sep (boxA bk 24 #[.int .i64 at', .int .i64 id]) R)))) := by
          have := Q_put (h6.sw1.sw0) (some ⟨bs, 0, none⟩) 1 [(at', id)] (fun A T hA => by
            obtain ⟨F, hF, _⟩ := hA.sw0.get1
            refine keysAt_box hF fun k hk => ?_
            match k, hk with
            | 0, _ => exact ⟨rfl, rfl⟩) (by simpa using hw) (Nat.le_refl _) (by omega) (by simp; omega) 1 (Nat.le_refl _) (fun j hj => by
              have : j = 0 := by omega
              subst this
              exact hck) 0 (by simp) (fun h => absurd h (by simp))
          have e3 : putT S [(at', id)] [(at', id)].length 1 = ins ltI (id, at') S := by
            show addN S [(at', id)] 1 = _
            show putS ltI S id at' = _
            unfold putS
            rw [if_neg (by omega), HHh.out]
            rfl
          rw [e3] at this
          exact this
        have HP := Lib.hid hp
        have H6 := Lib.hid h6
        clear e1' e2' h6 hp hck
        go_wp2_with fail
        refine wp_region_loose (fun A => A = w2.drew) (by kernel_rfl) (by kernel_rfl) rfl ?_
        iterate 15 (first
          | (refine loose_skip (by rfl) ?_; simp only [Act.put, List.setIfInBounds_toArray, List.set_cons_zero, List.set_cons_succ])
          | (refine loose_val (v := ?_) (by rfl) ?_ ?_; rotate_left; (focus (intro A' hA'; subst hA'; go_simp; first | done | with_reducible rfl)); simp only [Act.put, List.setIfInBounds_toArray, List.set_cons_zero, List.set_cons_succ])
          | (refine loose_call HLc.out (by rfl) ?_ ?_; (focus (intro A' hA'; go_simp; done)); simp only [Act.put, List.setIfInBounds_toArray, List.set_cons_zero, List.set_cons_succ]))
        refine loose_nil ?_
        intro A3 hA3
        subst hA3
        have h6' := H6.out
        have f1 : w3.cell? ⟨tb, 1, none⟩ = some (.pointer (some ⟨qb, 0, none⟩)) := ((h6'.sw0).box1 1).1
        have f2 : w3.cell? ⟨bk, 0, none⟩ = some (.int .i64 at') := ((h6'.sw2.sw1.sw0).box1 0).1
        have f3 : w3.cell? ⟨bk, 1, none⟩ = some (.int .i64 id) := ((h6'.sw2.sw1.sw0).box1 1).1
        clear h6'
        have d1 : w2.drew.drew.cell? ⟨tb, 1, none⟩ = some (.pointer (some ⟨qb, 0, none⟩)) := c2
        have d2 : w2.drew.drew.cell? ⟨bk, 0, none⟩ = some (.int .i64 at') := ((H5.out.sw1.sw0).box1 0).1
        have d3 : w2.drew.drew.cell? ⟨bk, 1, none⟩ = some (.int .i64 id) := ((H5.out.sw1.sw0).box1 1).1
        go_wp2_with fail
        go_region_held3 (fun A0 => A0.cell? ⟨tb, 1, none⟩ = some (.pointer (some ⟨qb, 0, none⟩)) ∧ A0.cell? ⟨bk, 0, none⟩ = some (.int .i64 at') ∧ A0.cell? ⟨bk, 1, none⟩ = some (.int .i64 id))
          (first | (refine ⟨?_, ?_, ?_⟩ <;> assumption) | go_keep)
          (first
            | (go_at_call 92; refine HP.out.mono ?_; rintro e A1 ⟨rfl, hA1⟩; have u1 : A1.cell? ⟨tb, 1, none⟩ = some (.pointer (some ⟨qb, 0, none⟩)) := ((hA1.sw1.sw0).box1 1).1; have u2 : A1.cell? ⟨bk, 0, none⟩ = some (.int .i64 at') := ((hA1.sw2.sw1.sw0).box1 0).1; have u3 : A1.cell? ⟨bk, 1, none⟩ = some (.int .i64 id) := ((hA1.sw2.sw1.sw0).box1 1).1; have HA1 := Lib.hid hA1; clear hA1))
        go_wp2_with fail
        all_goals go_ret
        all_goals exact ⟨rfl, ((HA1.out.sw0.sw2.sw1.sw2).out1.out1).tq_shut⟩
    | true =>
      have z0 : ge = 0 := by rw [← HGe.out]; unfold hasE; rw [hh]; rfl
      have z1 : ii = id := by rw [← HIi.out]; unfold idAt; rw [hh]; rfl
      subst z0 z1
      obtain ⟨k0, hk0⟩ := has_some hh
      have z2 : kk = k0 := by rw [← HKk.out]; exact keyAt_mem HDist.out hk0
      subst z2
      have e1' : armE S most ii at' = 0 := by unfold armE; rw [if_neg (by omega), HTt.out, if_pos rfl, if_neg (fun h => by rw [hh] at h; cases h.1)]
      have e2' : armS S most ii at' = ins ltI (ii, at') (without S ii) := by unfold armS; rw [if_pos e1']
      have a0 : w2.cell? ⟨bo, 0, none⟩ = some (.int .i64 kk) := (H4.out.box1 0).1
      have a1 : w2.cell? ⟨bo, 1, none⟩ = some (.int .i64 ii) := (H4.out.box1 1).1
      have b0 : w2.cell? ⟨bk, 0, none⟩ = some (.int .i64 at') := ((H4.out.sw2.sw1.sw0).box1 0).1
      have b1 : w2.cell? ⟨bk, 1, none⟩ = some (.int .i64 ii) := ((H4.out.sw2.sw1.sw0).box1 1).1
      have hm1 : moveE S at' ii = 0 := by unfold moveE; rw [if_pos hh, HTt.out]
      have hm2 : moveS S at' ii = ins ltI (ii, at') (without S ii) := by unfold moveS; rw [if_pos hh, if_pos HTt.out]; unfold chS; rw [if_pos hh]
      have H5 := Lib.hid H4.out.out1.tq_shut
      obtain rfl := HAe.out.symm.trans e1'
      by_cases hka : kk = at'
      · subst hka
        have e3 : ins ltI (ii, kk) (without S ii) = S := ins_back ltI_swo HS.out HDist.out hk0
        obtain rfl := HAs.out.symm.trans (e2'.trans e3)
        have hq : ∀ w, (binOp BinOp.eql 24 (.agg #[.int .i64 kk, .int .i64 ii]) (.agg #[.int .i64 kk, .int .i64 ii])).run Try.prog w = .ok (.bool true) w := fun w => by rw [eql32]; simp
        have H6 := Lib.hid (H5.out.below ((Below.refl _ w2).drew))
        clear e1' e2' e3 hm1 hm2 hk0 hh
        have a0 : w2.drew.cell? ⟨bo, 0, none⟩ = some (.int .i64 kk) := a0
        have a1 : w2.drew.cell? ⟨bo, 1, none⟩ = some (.int .i64 ii) := a1
        have b0 : w2.drew.cell? ⟨bk, 0, none⟩ = some (.int .i64 kk) := b0
        have b1 : w2.drew.cell? ⟨bk, 1, none⟩ = some (.int .i64 ii) := b1
        go_wp2_with fail
        refine wp_region_loose (fun A => A = w2.drew) (by kernel_rfl) (by kernel_rfl) rfl ?_
        iterate 15 (first
          | (refine loose_skip (by rfl) ?_; simp only [Act.put, List.setIfInBounds_toArray, List.set_cons_zero, List.set_cons_succ])
          | (refine loose_val (v := ?_) (by rfl) ?_ ?_; rotate_left; (focus (intro A' hA'; subst hA'; go_simp; first | done | with_reducible rfl)); simp only [Act.put, List.setIfInBounds_toArray, List.set_cons_zero, List.set_cons_succ]))
        refine loose_nil ?_
        intro A3 hA3
        subst hA3
        go_wp2_with fail
        go_ret
        exact ⟨rfl, H6.out.sw0.out1⟩
      · obtain rfl := HAs.out.symm.trans e2'
        have hq : ∀ w, (binOp BinOp.eql 24 (.agg #[.int .i64 kk, .int .i64 ii]) (.agg #[.int .i64 at', .int .i64 ii])).run Try.prog w = .ok (.bool false) w := fun w => by rw [eql32]; simp [hka]
        have hmv := Q_move ((H4.out.below ((Below.refl _ w2).drew.drew)).sw1.sw0) (by omega) at' ii hw
        rw [hm1, hm2] at hmv
        have HMv := Lib.hid hmv
        clear e1' e2' hk0 hh hm1 hm2 hmv
        have a0 : w2.drew.cell? ⟨bo, 0, none⟩ = some (.int .i64 kk) := a0
        have a1 : w2.drew.cell? ⟨bo, 1, none⟩ = some (.int .i64 ii) := a1
        have b0 : w2.drew.cell? ⟨bk, 0, none⟩ = some (.int .i64 at') := b0
        have b1 : w2.drew.cell? ⟨bk, 1, none⟩ = some (.int .i64 ii) := b1
        have b2 : w2.drew.drew.cell? ⟨bk, 0, none⟩ = some (.int .i64 at') := b0
        have b3 : w2.drew.drew.cell? ⟨bk, 1, none⟩ = some (.int .i64 ii) := b1
        have c4 : w2.drew.drew.cell? ⟨tb, 1, none⟩ = some (.pointer (some ⟨qb, 0, none⟩)) := c2
        go_wp2_with fail
        refine wp_region_loose (fun A => A = w2.drew) (by kernel_rfl) (by kernel_rfl) rfl ?_
        iterate 15 (first
          | (refine loose_skip (by rfl) ?_; simp only [Act.put, List.setIfInBounds_toArray, List.set_cons_zero, List.set_cons_succ])
          | (refine loose_val (v := ?_) (by rfl) ?_ ?_; rotate_left; (focus (intro A' hA'; subst hA'; go_simp; first | done | with_reducible rfl)); simp only [Act.put, List.setIfInBounds_toArray, List.set_cons_zero, List.set_cons_succ]))
        refine loose_nil ?_
        intro A3 hA3
        subst hA3
        go_wp2_with fail
        go_region_held3 (fun A0 => A0.cell? ⟨tb, 1, none⟩ = some (.pointer (some ⟨qb, 0, none⟩)) ∧ A0.cell? ⟨bk, 0, none⟩ = some (.int .i64 at') ∧ A0.cell? ⟨bk, 1, none⟩ = some (.int .i64 ii))
          (first | (refine ⟨?_, ?_, ?_⟩ <;> assumption) | go_keep)
          (first
            | (go_at_call 36; refine HMv.out.mono ?_; rintro e A1 ⟨rfl, hA1⟩; have u1 : A1.cell? ⟨tb, 1, none⟩ = some (.pointer (some ⟨qb, 0, none⟩)) := ((hA1.sw1.sw0).box1 1).1; have u2 : A1.cell? ⟨bk, 0, none⟩ = some (.int .i64 at') := ((hA1.sw2.sw1.sw0).box1 0).1; have u3 : A1.cell? ⟨bk, 1, none⟩ = some (.int .i64 ii) := ((hA1.sw2.sw1.sw0).box1 1).1; have HA1 := Lib.hid hA1; clear hA1))
        all_goals go_wp2_with fail
        all_goals go_ret
        all_goals exact ⟨rfl, ((HA1.out.sw0.sw2.sw1.sw2).out1.out1).tq_shut⟩
  · have e1' : armE S most id at' = tt := by unfold armE; rw [if_neg h0, htt, if_neg h2]
    have e2' : armS S most id at' = S := by unfold armS; rw [if_neg (by rw [e1']; exact h2)]
    have g2 : (tt != 0) = true := by simp [h2]
    obtain rfl := HAe.out.symm.trans e1'
    obtain rfl := HAs.out.symm.trans e2'
    clear h h1 e1' e2' ht
    go_enter Try.func44, Try.ntmps44
    go_wp2_with fail
    clear hW hbk
    refine HT.out.mono ?_
    rintro e w1 ⟨rfl, rfl⟩
    go_wp2_with fail
    go_ret
    exact ⟨rfl, H1.out⟩
end
end Go.Proofs.Ytkjpkhpiojahkaa
