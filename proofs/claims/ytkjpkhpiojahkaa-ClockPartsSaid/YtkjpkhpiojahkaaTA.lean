/-
  Timers: their queues as pieces of memory. Walks: New, Now, Worst, Cancel, When, Next.
  Walks: Arm of a queue of timers.
  Walks: Due of a queue of timers.
  Walks: the timers' example.
  Timers: plain facts.
-/
import Derived.Test.YtkjpkhpiojahkaaRed
import Derived.Test.YtkjpkhpiojahkaaRng2
import Derived.Test.YtkjpkhpiojahkaaLKO
/-! ### Timers: their queues as pieces of memory. Walks: New, Now, Worst, Cancel, When, Next. -/
namespace Go.Proofs.Ytkjpkhpiojahkaa
set_option linter.unusedVariables false
open Go.RowKit Hp
attribute [local go_sem] Oper.semAt_some

/-- a queue of timers -/
def tqA (tb : Nat) (most : Int) (S : List (It Int)) (now worst : Int) : Ast := exA fun qb : Nat => sep (boxA tb 152 #[.int .i64 most, .pointer (some ⟨qb, 0, none⟩), .int .i64 now, .int .i64 worst]) (quA qb S)
theorem Plain.tq (tb : Nat) (most : Int) (S : List (It Int)) (now worst : Int) : Plain (tqA tb most S now worst) := Plain.ex fun _ => (Plain.box _ _ _).sep (Plain.qu _ _)

section
variable {w0 w : World} {tb : Nat} {S : List (It Int)} {R : Ast} {most now worst : Int}
theorem On.tq_open (h : On w0 w (sep (tqA tb most S now worst) R)) : ∃ qb, On w0 w (sep (boxA tb 152 #[.int .i64 most, .pointer (some ⟨qb, 0, none⟩), .int .i64 now, .int .i64 worst]) (sep (quA qb S) R)) := by
  obtain ⟨qb, h⟩ := h.ex_open
  exact ⟨qb, h.assoc⟩
theorem On.tq_shut {qb : Nat} (h : On w0 w (sep (boxA tb 152 #[.int .i64 most, .pointer (some ⟨qb, 0, none⟩), .int .i64 now, .int .i64 worst]) (sep (quA qb S) R))) : On w0 w (sep (tqA tb most S now worst) R) :=
  On.ex_shut (f := fun qb : Nat => sep (boxA tb 152 #[.int .i64 most, .pointer (some ⟨qb, 0, none⟩), .int .i64 now, .int .i64 worst]) (quA qb S)) qb h.assoc'

set_option maxRecDepth 100000 in
set_option maxHeartbeats 2000000 in
theorem T_new (h : On w0 w R) (room : Int) (h1 : 1 ≤ room) (h2 : room ≤ 1024) : Calls Try.prog 43 #[.int .i64 room] w fun e w' => ∃ tb, e = .returned (.tuple #[.pointer (some ⟨tb, 0, none⟩), .int .i64 0]) ∧ On w0 w' (sep (tqA tb room [] 0 0) R) := by
  have H0 := Lib.hid (Q_new h)
  have g1 : decide (room < 1) = false := by simp; omega
  have g2 : decide (1024 < room) = false := by simp; omega
  clear h
  go_enter Try.func43, Try.ntmps43
  go_wp2_with fail
  refine H0.out.mono ?_
  rintro e w1 ⟨qb, rfl, k1⟩
  have k2 := k1.new1 152 #[.int .i64 room, .pointer (some ⟨qb, 0, none⟩), .int .i64 0, .int .i64 0]
  have HO := Lib.hid k2.tq_shut
  clear k1 k2
  go_wp2_with fail
  go_ret2
  exact ⟨_, rfl, HO.out⟩
theorem T_new_not (room : Int) (w : World) (h1 : room < 1 ∨ 1024 < room) : Calls Try.prog 43 #[.int .i64 room] w fun e w' => e = .returned (.tuple #[.pointer none, .int .i64 1]) ∧ Below w.heap.size w w' := by
  by_cases h : room < 1
  · go_enter Try.func43, Try.ntmps43
    go_wp2_with fail
    go_ret2
    exact ⟨rfl, Below.refl _ _⟩
  · have h2 : 1024 < room := by omega
    go_enter Try.func43, Try.ntmps43
    go_wp2_with fail
    go_ret2
    exact ⟨rfl, Below.refl _ _⟩
set_option maxRecDepth 100000 in
set_option maxHeartbeats 1000000 in
theorem T_now (h : On w0 w (sep (tqA tb most S now worst) R)) : Calls Try.prog 46 #[.pointer (some ⟨tb, 0, none⟩)] w fun e w' => e = .returned (.int .i64 now) ∧ w = w' := by
  obtain ⟨qb, h⟩ := h.tq_open
  have c : w.cell? ⟨tb, 2, none⟩ = some (.int .i64 now) := (h.box1 2).1
  clear h
  go_enter Try.func46, Try.ntmps46
  go_wp2_with fail
  go_ret
  exact ⟨rfl, rfl⟩
set_option maxRecDepth 100000 in
set_option maxHeartbeats 1000000 in
theorem T_worst (h : On w0 w (sep (tqA tb most S now worst) R)) : Calls Try.prog 47 #[.pointer (some ⟨tb, 0, none⟩)] w fun e w' => e = .returned (.int .i64 worst) ∧ w = w' := by
  obtain ⟨qb, h⟩ := h.tq_open
  have c : w.cell? ⟨tb, 3, none⟩ = some (.int .i64 worst) := (h.box1 3).1
  clear h
  go_enter Try.func47, Try.ntmps47
  go_wp2_with fail
  go_ret
  exact ⟨rfl, rfl⟩
set_option maxRecDepth 100000 in
set_option maxHeartbeats 2000000 in
theorem T_cancel (h : On w0 w (sep (tqA tb most S now worst) R)) (hl : S.length < 900000) (id : Int) (hw : (Lit.int .i64 id).wf = true) :
    Calls Try.prog 48 #[.pointer (some ⟨tb, 0, none⟩), .int .i64 id] w fun e w' => e = .returned (.int .i64 (hasE S id)) ∧ On w0 w' (sep (tqA tb most (without S id) now worst) R) := by
  obtain ⟨qb, h⟩ := h.tq_open
  have c : w.cell? ⟨tb, 1, none⟩ = some (.pointer (some ⟨qb, 0, none⟩)) := (h.box1 1).1
  have H1 := Lib.hid (Q_drop h.sw0 hl id hw)
  clear h
  go_enter Try.func48, Try.ntmps48
  go_wp2_with fail
  refine H1.out.mono ?_
  rintro e w1 ⟨rfl, h1⟩
  have H2 := Lib.hid h1.sw0.tq_shut
  clear h1
  go_wp2_with fail
  go_ret
  exact ⟨rfl, H2.out.below ((Below.refl _ w1).alloc (Nat.le_refl _) _)⟩
set_option maxRecDepth 100000 in
set_option maxHeartbeats 2000000 in
theorem T_when (h : On w0 w (sep (tqA tb most S now worst) R)) (hl : S.length < 900000) (id : Int) (hw : (Lit.int .i64 id).wf = true) :
    Calls Try.prog 108 #[.pointer (some ⟨tb, 0, none⟩), .int .i64 id] w fun e w' => e = .returned (.tuple #[.int .i64 (keyAt 0 S id), .int .i64 (hasE S id)]) ∧ Below w.heap.size w w' := by
  obtain ⟨qb, h⟩ := h.tq_open
  have c : w.cell? ⟨tb, 1, none⟩ = some (.pointer (some ⟨qb, 0, none⟩)) := (h.box1 1).1
  have H1 := Lib.hid (Q_get h.sw0 hl id hw)
  clear h
  go_enter Try.func108, Try.ntmps108
  go_wp2_with fail
  refine H1.out.mono ?_
  rintro e w1 ⟨rfl, h1⟩
  have H2 := Lib.hid h1
  clear h1
  go_wp2_with fail
  go_ret2
  exact ⟨rfl, H2.out.alloc H2.out.size _⟩
set_option maxRecDepth 100000 in
set_option maxHeartbeats 2000000 in
theorem T_next (h : On w0 w (sep (tqA tb most S now worst) R)) (hs : Sorted ltI S) :
    Calls Try.prog 49 #[.pointer (some ⟨tb, 0, none⟩)] w fun e w' => e = .returned (.tuple #[.int .i64 (S.headD (0, 0)).2, .int .i64 (headE S)]) ∧ Below w.heap.size w w' := by
  obtain ⟨qb, h⟩ := h.tq_open
  have c : w.cell? ⟨tb, 1, none⟩ = some (.pointer (some ⟨qb, 0, none⟩)) := (h.box1 1).1
  have hf := Q_first h.sw0 hs
  obtain ⟨p1, hp1⟩ : ∃ p, (S.headD (0, 0)).2 = p := ⟨_, rfl⟩
  obtain ⟨q1, hq1⟩ : ∃ p, (S.headD (0, 0)).1 = p := ⟨_, rfl⟩
  obtain ⟨e1, he1⟩ : ∃ p, headE S = p := ⟨_, rfl⟩
  rw [hp1, hq1, he1] at hf
  rw [hp1, he1]
  have H1 := Lib.hid hf
  clear h hf hp1 hq1 he1
  go_enter Try.func49, Try.ntmps49
  go_wp2_with fail
  refine H1.out.mono ?_
  rintro e w1 ⟨rfl, h1⟩
  have H2 := Lib.hid h1
  clear h1
  go_wp2_with fail
  go_ret2
  exact ⟨rfl, H2.out.alloc H2.out.size _⟩
end
end Go.Proofs.Ytkjpkhpiojahkaa

/-! ### Walks: Arm of a queue of timers. -/
namespace Go.Proofs.Ytkjpkhpiojahkaa
set_option linter.unusedVariables false
open Go.RowKit Hp
attribute [local go_sem] Oper.semAt_some

def armE (S : List (It Int)) (most id at' : Int) : Int := if id < 0 then 1 else if timeE at' = 0 then (if has S id = false ∧ most ≤ (S.length : Int) then 13 else 0) else timeE at'
def armS (S : List (It Int)) (most id at' : Int) : List (It Int) := if armE S most id at' = 0 then ins ltI (id, at') (without S id) else S

section
variable {w0 w : World} {tb : Nat} {S : List (It Int)} {R : Ast} {most now worst : Int}
set_option maxRecDepth 100000 in
set_option maxHeartbeats 4000000 in
theorem T_arm (h : On w0 w (sep (tqA tb most S now worst) R)) (hs : Sorted ltI S) (hl : S.length < 700000) (id at' : Int) (hw : (Lit.int .i64 id).wf = true) :
    Calls Try.prog 44 #[.pointer (some ⟨tb, 0, none⟩), .int .i64 id, .int .i64 at'] w fun e w' => e = .returned (.int .i64 (armE S most id at')) ∧ On w0 w' (sep (tqA tb most (armS S most id at') now worst) R) := by
  by_cases h0 : id < 0
  · have e1 : armE S most id at' = 1 := by unfold armE; rw [if_pos h0]
    have e2 : armS S most id at' = S := by unfold armS; rw [if_neg (by rw [e1]; decide)]
    rw [e1, e2]
    have H := Lib.hid h
    clear h e1 e2
    go_enter Try.func44, Try.ntmps44
    go_wp2_with fail
    go_ret
    exact ⟨rfl, H.out⟩
  obtain ⟨ae, hae⟩ : ∃ e, armE S most id at' = e := ⟨_, rfl⟩
  obtain ⟨aS, haS⟩ : ∃ T, armS S most id at' = T := ⟨_, rfl⟩
  rw [hae, haS]
  have HAe := Lib.hid hae
  have HAs := Lib.hid haS
  clear hae haS
  have g0 : decide (id < 0) = false := by simp; omega
  obtain ⟨bk, hbk⟩ : ∃ b, w.heap.size = b := ⟨_, rfl⟩
  obtain ⟨W, hW⟩ : ∃ W, w.alloc (.cells #[.int .i64 at', .int .i64 id] 24) = W := ⟨_, rfl⟩
  have h1 := h.new1 24 #[.int .i64 at', .int .i64 id]
  rw [hW, hbk] at h1
  obtain ⟨tt, htt⟩ : ∃ tt, timeE at' = tt := ⟨_, rfl⟩
  have ht := time_any at' W
  rw [htt] at ht
  have HT := Lib.hid ht
  have HTt := Lib.hid htt
  have H1 := Lib.hid h1.out1
  by_cases h2 : tt = 0
  · subst h2
    obtain ⟨qb, h3⟩ := h1.sw0.tq_open
    have c1 : W.cell? ⟨tb, 1, none⟩ = some (.pointer (some ⟨qb, 0, none⟩)) := (h3.box1 1).1
    obtain ⟨kk, hkk⟩ : ∃ kk, keyAt 0 S id = kk := ⟨_, rfl⟩
    obtain ⟨ii, hii⟩ : ∃ ii, idAt S id = ii := ⟨_, rfl⟩
    obtain ⟨ge, hge⟩ : ∃ ge, hasE S id = ge := ⟨_, rfl⟩
    have hg := Q_get h3.sw0 (by omega) id hw
    rw [hkk, hii, hge] at hg
    have HG := Lib.hid hg
    have H3 := Lib.hid h3
    have HKk := Lib.hid hkk
    have HIi := Lib.hid hii
    have HGe := Lib.hid hge
    have HS := Lib.hid hs
    have HDist := Lib.hid h3.sw0.qu_distinct
    clear h h1 ht htt hg h3 hkk hii hge hs
    go_enter Try.func44, Try.ntmps44
    go_wp2_with fail
    clear hW hbk
    refine HT.out.mono ?_
    rintro e w1 ⟨rfl, rfl⟩
    go_wp2_with fail
    refine HG.out.mono ?_
    rintro e w1 ⟨rfl, hb1⟩
    obtain ⟨bo, hbo⟩ : ∃ b, w1.heap.size = b := ⟨_, rfl⟩
    obtain ⟨w2, hw2⟩ : ∃ w2, w1.alloc (.cells #[.int .i64 kk, .int .i64 ii] 24) = w2 := ⟨_, rfl⟩
    have h4 := (H3.out.below hb1).new1 24 #[.int .i64 kk, .int .i64 ii]
    rw [hw2, hbo] at h4
    have c2 : w2.cell? ⟨tb, 1, none⟩ = some (.pointer (some ⟨qb, 0, none⟩)) := ((h4.sw0).box1 1).1
    have c3 : w2.cell? ⟨tb, 0, none⟩ = some (.int .i64 most) := ((h4.sw0).box1 0).1
    have HLn := Lib.hid (Q_len (h4.sw1.sw0))
    have H4 := Lib.hid h4
    clear hb1 h4
    cases hh : has S id with
    | false =>
      have z0 : ge = 14 := by rw [← HGe.out]; unfold hasE; rw [hh]; rfl
      subst z0
      obtain ⟨k, hk⟩ : ∃ k, S.length = k := ⟨_, rfl⟩
      have hlc : ∀ A, A = w2.drew → Calls Try.prog 30 #[.pointer (some ⟨qb, 0, none⟩)] A fun e w' => e = .returned (.int .i64 (k : Int)) ∧ w' = w2.drew := fun A hA => by
        subst hA
        have h5 := H4.out.below ((Below.refl _ w2).drew)
        rw [← hk]
        exact (Q_len (h5.sw1.sw0)).mono fun e w' ⟨h1, h2⟩ => ⟨h1, h2.symm⟩
      have HLc := Lib.hid hlc
      have c2' : w2.drew.cell? ⟨tb, 1, none⟩ = some (.pointer (some ⟨qb, 0, none⟩)) := c2
      have c3' : w2.drew.cell? ⟨tb, 0, none⟩ = some (.int .i64 most) := c3
      have HK := Lib.hid hk
      have HHh := Lib.hid hh
      clear hlc hk hh
      by_cases hm : most ≤ (k : Int)
      · have e1' : armE S most id at' = 13 := by unfold armE; rw [if_neg (by omega), HTt.out, if_pos rfl, HK.out, if_pos ⟨HHh.out, hm⟩]
        have e2' : armS S most id at' = S := by unfold armS; rw [if_neg (by rw [e1']; decide)]
        obtain rfl := HAe.out.symm.trans e1'
        obtain rfl := HAs.out.symm.trans e2'
        have H5 := Lib.hid (H4.out.below ((Below.refl _ w2).drew)).out1.tq_shut
        clear e1' e2'
        go_wp2_with fail
        refine wp_region_loose (fun A => A = w2.drew) (by kernel_rfl) (by kernel_rfl) rfl ?_
        iterate 15 (first
          | (refine loose_skip (by rfl) ?_; simp only [Act.put, List.setIfInBounds_toArray, List.set_cons_zero, List.set_cons_succ])
          | (refine loose_val (v := ?_) (by rfl) ?_ ?_; rotate_left; (focus (intro A' hA'; subst hA'; go_simp; first | done | with_reducible rfl)); simp only [Act.put, List.setIfInBounds_toArray, List.set_cons_zero, List.set_cons_succ])
          | (refine loose_call HLc.out (by rfl) ?_ ?_; (focus (intro A' hA'; go_simp; done)); simp only [Act.put, List.setIfInBounds_toArray, List.set_cons_zero, List.set_cons_succ]))
        refine loose_nil ?_
        intro A3 hA3
        subst hA3
        go_wp2_with fail
        go_ret
        exact ⟨rfl, H5.out.sw0.out1⟩
      · have hmI : (k : Int) < most := by omega
        have e1' : armE S most id at' = 0 := by unfold armE; rw [if_neg (by omega), HTt.out, if_pos rfl, HK.out, if_neg (fun h => hm h.2)]
        have e2' : armS S most id at' = ins ltI (id, at') S := by unfold armS; rw [if_pos e1', without_none HHh.out]
        obtain rfl := HAe.out.symm.trans e1'
        obtain rfl := HAs.out.symm.trans e2'
        have H5 := Lib.hid (H4.out.below ((Below.refl _ w2).drew.drew)).out1
        obtain ⟨bs, hbs⟩ : ∃ b, w2.drew.drew.heap.size = b := ⟨_, rfl⟩
        obtain ⟨w3, hw3⟩ : ∃ w3, w2.drew.drew.alloc (.cells #[.int .i64 at', .int .i64 id] 24) = w3 := ⟨_, rfl⟩
        have h6 := H5.out.new1 24 #[.int .i64 at', .int .i64 id]
        rw [hw3, hbs] at h6
        have hck : checkE S at' id = 0 := by unfold checkE; rw [if_neg (by omega), HTt.out, if_pos rfl, HHh.out]; rfl
        have hp : Calls Try.prog 92 #[.pointer (some ⟨qb, 0, none⟩), .slice (some ⟨bs, 0, none⟩) 1 1] w3 fun e w' => e = .returned (.int .i64 0) ∧ On w0 w' (sep (quA qb (ins ltI (id, at') S)) (sep (boxA bs 24 #[.int .i64 at', .int .i64 id]) (sep (boxA tb 152 #[.int .i64 most, .pointer (some ⟨qb, 0, none⟩), .int .i64 now, .int .i64 worst]) (sep (boxA bk 24 #[.int .i64 at', .int .i64 id]) R)))) := by
          have := Q_put (h6.sw1.sw0) (some ⟨bs, 0, none⟩) 1 [(at', id)] (fun A T hA => by
            obtain ⟨F, hF, _⟩ := hA.sw0.get1
            refine keysAt_box hF fun k hk => ?_
            match k, hk with
            | 0, _ => exact ⟨rfl, rfl⟩) (by simpa using hw) (Nat.le_refl _) (by omega) (by simp; omega) 1 (Nat.le_refl _) (fun j hj => by
              have : j = 0 := by omega
              subst this
              exact hck) 0 (by simp) (fun h => absurd h (by simp))
          have e3 : putT S [(at', id)] [(at', id)].length 1 = ins ltI (id, at') S := by
            show addN S [(at', id)] 1 = _
            show putS ltI S id at' = _
            unfold putS
            rw [if_neg (by omega), HHh.out]
            rfl
          rw [e3] at this
          exact this
        have HP := Lib.hid hp
        have H6 := Lib.hid h6
        clear e1' e2' h6 hp hck
        go_wp2_with fail
        refine wp_region_loose (fun A => A = w2.drew) (by kernel_rfl) (by kernel_rfl) rfl ?_
        iterate 15 (first
          | (refine loose_skip (by rfl) ?_; simp only [Act.put, List.setIfInBounds_toArray, List.set_cons_zero, List.set_cons_succ])
          | (refine loose_val (v := ?_) (by rfl) ?_ ?_; rotate_left; (focus (intro A' hA'; subst hA'; go_simp; first | done | with_reducible rfl)); simp only [Act.put, List.setIfInBounds_toArray, List.set_cons_zero, List.set_cons_succ])
          | (refine loose_call HLc.out (by rfl) ?_ ?_; (focus (intro A' hA'; go_simp; done)); simp only [Act.put, List.setIfInBounds_toArray, List.set_cons_zero, List.set_cons_succ]))
        refine loose_nil ?_
        intro A3 hA3
        subst hA3
        have h6' := H6.out
        have f1 : w3.cell? ⟨tb, 1, none⟩ = some (.pointer (some ⟨qb, 0, none⟩)) := ((h6'.sw0).box1 1).1
        have f2 : w3.cell? ⟨bk, 0, none⟩ = some (.int .i64 at') := ((h6'.sw2.sw1.sw0).box1 0).1
        have f3 : w3.cell? ⟨bk, 1, none⟩ = some (.int .i64 id) := ((h6'.sw2.sw1.sw0).box1 1).1
        clear h6'
        have d1 : w2.drew.drew.cell? ⟨tb, 1, none⟩ = some (.pointer (some ⟨qb, 0, none⟩)) := c2
        have d2 : w2.drew.drew.cell? ⟨bk, 0, none⟩ = some (.int .i64 at') := ((H5.out.sw1.sw0).box1 0).1
        have d3 : w2.drew.drew.cell? ⟨bk, 1, none⟩ = some (.int .i64 id) := ((H5.out.sw1.sw0).box1 1).1
        go_wp2_with fail
        go_region_held3 (fun A0 => A0.cell? ⟨tb, 1, none⟩ = some (.pointer (some ⟨qb, 0, none⟩)) ∧ A0.cell? ⟨bk, 0, none⟩ = some (.int .i64 at') ∧ A0.cell? ⟨bk, 1, none⟩ = some (.int .i64 id))
          (first | (refine ⟨?_, ?_, ?_⟩ <;> assumption) | go_keep)
          (first
            | (go_at_call 92; refine HP.out.mono ?_; rintro e A1 ⟨rfl, hA1⟩; have u1 : A1.cell? ⟨tb, 1, none⟩ = some (.pointer (some ⟨qb, 0, none⟩)) := ((hA1.sw1.sw0).box1 1).1; have u2 : A1.cell? ⟨bk, 0, none⟩ = some (.int .i64 at') := ((hA1.sw2.sw1.sw0).box1 0).1; have u3 : A1.cell? ⟨bk, 1, none⟩ = some (.int .i64 id) := ((hA1.sw2.sw1.sw0).box1 1).1; have HA1 := Lib.hid hA1; clear hA1))
        go_wp2_with fail
        all_goals go_ret
        all_goals exact ⟨rfl, ((HA1.out.sw0.sw2.sw1.sw2).out1.out1).tq_shut⟩
    | true =>
      have z0 : ge = 0 := by rw [← HGe.out]; unfold hasE; rw [hh]; rfl
      have z1 : ii = id := by rw [← HIi.out]; unfold idAt; rw [hh]; rfl
      subst z0 z1
      obtain ⟨k0, hk0⟩ := has_some hh
      have z2 : kk = k0 := by rw [← HKk.out]; exact keyAt_mem HDist.out hk0
      subst z2
      have e1' : armE S most ii at' = 0 := by unfold armE; rw [if_neg (by omega), HTt.out, if_pos rfl, if_neg (fun h => by rw [hh] at h; cases h.1)]
      have e2' : armS S most ii at' = ins ltI (ii, at') (without S ii) := by unfold armS; rw [if_pos e1']
      have a0 : w2.cell? ⟨bo, 0, none⟩ = some (.int .i64 kk) := (H4.out.box1 0).1
      have a1 : w2.cell? ⟨bo, 1, none⟩ = some (.int .i64 ii) := (H4.out.box1 1).1
      have b0 : w2.cell? ⟨bk, 0, none⟩ = some (.int .i64 at') := ((H4.out.sw2.sw1.sw0).box1 0).1
      have b1 : w2.cell? ⟨bk, 1, none⟩ = some (.int .i64 ii) := ((H4.out.sw2.sw1.sw0).box1 1).1
      have hm1 : moveE S at' ii = 0 := by unfold moveE; rw [if_pos hh, HTt.out]
      have hm2 : moveS S at' ii = ins ltI (ii, at') (without S ii) := by unfold moveS; rw [if_pos hh, if_pos HTt.out]; unfold chS; rw [if_pos hh]
      have H5 := Lib.hid H4.out.out1.tq_shut
      obtain rfl := HAe.out.symm.trans e1'
      by_cases hka : kk = at'
      · subst hka
        have e3 : ins ltI (ii, kk) (without S ii) = S := ins_back ltI_swo HS.out HDist.out hk0
        obtain rfl := HAs.out.symm.trans (e2'.trans e3)
        have hq : ∀ w, (binOp BinOp.eql 24 (.agg #[.int .i64 kk, .int .i64 ii]) (.agg #[.int .i64 kk, .int .i64 ii])).run Try.prog w = .ok (.bool true) w := fun w => by rw [eql32]; simp
        have H6 := Lib.hid (H5.out.below ((Below.refl _ w2).drew))
        clear e1' e2' e3 hm1 hm2 hk0 hh
        have a0 : w2.drew.cell? ⟨bo, 0, none⟩ = some (.int .i64 kk) := a0
        have a1 : w2.drew.cell? ⟨bo, 1, none⟩ = some (.int .i64 ii) := a1
        have b0 : w2.drew.cell? ⟨bk, 0, none⟩ = some (.int .i64 kk) := b0
        have b1 : w2.drew.cell? ⟨bk, 1, none⟩ = some (.int .i64 ii) := b1
        go_wp2_with fail
        refine wp_region_loose (fun A => A = w2.drew) (by kernel_rfl) (by kernel_rfl) rfl ?_
        iterate 15 (first
          | (refine loose_skip (by rfl) ?_; simp only [Act.put, List.setIfInBounds_toArray, List.set_cons_zero, List.set_cons_succ])
          | (refine loose_val (v := ?_) (by rfl) ?_ ?_; rotate_left; (focus (intro A' hA'; subst hA'; go_simp; first | done | with_reducible rfl)); simp only [Act.put, List.setIfInBounds_toArray, List.set_cons_zero, List.set_cons_succ]))
        refine loose_nil ?_
        intro A3 hA3
        subst hA3
        go_wp2_with fail
        go_ret
        exact ⟨rfl, H6.out.sw0.out1⟩
      · obtain rfl := HAs.out.symm.trans e2'
        have hq : ∀ w, (binOp BinOp.eql 24 (.agg #[.int .i64 kk, .int .i64 ii]) (.agg #[.int .i64 at', .int .i64 ii])).run Try.prog w = .ok (.bool false) w := fun w => by rw [eql32]; simp [hka]
        have hmv := Q_move ((H4.out.below ((Below.refl _ w2).drew.drew)).sw1.sw0) (by omega) at' ii hw
        rw [hm1, hm2] at hmv
        have HMv := Lib.hid hmv
        clear e1' e2' hk0 hh hm1 hm2 hmv
        have a0 : w2.drew.cell? ⟨bo, 0, none⟩ = some (.int .i64 kk) := a0
        have a1 : w2.drew.cell? ⟨bo, 1, none⟩ = some (.int .i64 ii) := a1
        have b0 : w2.drew.cell? ⟨bk, 0, none⟩ = some (.int .i64 at') := b0
        have b1 : w2.drew.cell? ⟨bk, 1, none⟩ = some (.int .i64 ii) := b1
        have b2 : w2.drew.drew.cell? ⟨bk, 0, none⟩ = some (.int .i64 at') := b0
        have b3 : w2.drew.drew.cell? ⟨bk, 1, none⟩ = some (.int .i64 ii) := b1
        have c4 : w2.drew.drew.cell? ⟨tb, 1, none⟩ = some (.pointer (some ⟨qb, 0, none⟩)) := c2
        go_wp2_with fail
        refine wp_region_loose (fun A => A = w2.drew) (by kernel_rfl) (by kernel_rfl) rfl ?_
        iterate 15 (first
          | (refine loose_skip (by rfl) ?_; simp only [Act.put, List.setIfInBounds_toArray, List.set_cons_zero, List.set_cons_succ])
          | (refine loose_val (v := ?_) (by rfl) ?_ ?_; rotate_left; (focus (intro A' hA'; subst hA'; go_simp; first | done | with_reducible rfl)); simp only [Act.put, List.setIfInBounds_toArray, List.set_cons_zero, List.set_cons_succ]))
        refine loose_nil ?_
        intro A3 hA3
        subst hA3
        go_wp2_with fail
        go_region_held3 (fun A0 => A0.cell? ⟨tb, 1, none⟩ = some (.pointer (some ⟨qb, 0, none⟩)) ∧ A0.cell? ⟨bk, 0, none⟩ = some (.int .i64 at') ∧ A0.cell? ⟨bk, 1, none⟩ = some (.int .i64 ii))
          (first | (refine ⟨?_, ?_, ?_⟩ <;> assumption) | go_keep)
          (first
            | (go_at_call 36; refine HMv.out.mono ?_; rintro e A1 ⟨rfl, hA1⟩; have u1 : A1.cell? ⟨tb, 1, none⟩ = some (.pointer (some ⟨qb, 0, none⟩)) := ((hA1.sw1.sw0).box1 1).1; have u2 : A1.cell? ⟨bk, 0, none⟩ = some (.int .i64 at') := ((hA1.sw2.sw1.sw0).box1 0).1; have u3 : A1.cell? ⟨bk, 1, none⟩ = some (.int .i64 ii) := ((hA1.sw2.sw1.sw0).box1 1).1; have HA1 := Lib.hid hA1; clear hA1))
        all_goals go_wp2_with fail
        all_goals go_ret
        all_goals exact ⟨rfl, ((HA1.out.sw0.sw2.sw1.sw2).out1.out1).tq_shut⟩
  · have e1' : armE S most id at' = tt := by unfold armE; rw [if_neg h0, htt, if_neg h2]
    have e2' : armS S most id at' = S := by unfold armS; rw [if_neg (by rw [e1']; exact h2)]
    have g2 : (tt != 0) = true := by simp [h2]
    obtain rfl := HAe.out.symm.trans e1'
    obtain rfl := HAs.out.symm.trans e2'
    clear h h1 e1' e2' ht
    go_enter Try.func44, Try.ntmps44
    go_wp2_with fail
    clear hW hbk
    refine HT.out.mono ?_
    rintro e w1 ⟨rfl, rfl⟩
    go_wp2_with fail
    go_ret
    exact ⟨rfl, H1.out⟩
end
end Go.Proofs.Ytkjpkhpiojahkaa

/-! ### Walks: Due of a queue of timers. -/
namespace Go.Proofs.Ytkjpkhpiojahkaa
set_option linter.unusedVariables false
open Go.RowKit Hp
attribute [local go_sem] Oper.semAt_some

def dueE (now t : Int) : Int := if timeE t = 0 then (if t < now then 10 else 0) else timeE t
/-- those that are left -/
def late (S : List (It Int)) (t : Int) : List (It Int) := S.drop (upto S t).length
/-- how late the latest one is then -/
def worstS (worst t : Int) (T : List (It Int)) : Int := T.foldl (fun m x => max m (t - x.2)) worst
theorem worstS_snoc (worst t : Int) (T : List (It Int)) (x : It Int) : worstS worst t (T ++ [x]) = max (worstS worst t T) (t - x.2) := by simp [worstS]
/-- a timer that fired, as cells -/
def firedC (t : Int) (x : It Int) : List Value := [.int .i64 x.1, .int .i64 x.2, .int .i64 (t - x.2)]
def firedA (v : Value) (t : Int) (T : List (It Int)) : Ast := rowA v 64 3 T.length (T.flatMap (firedC t))
theorem Plain.fired (v : Value) (t : Int) (T : List (It Int)) : Plain (firedA v t T) := Plain.row _ _ _ _ _
theorem info64 : (Try.prog.info? 64).map (fun i => (i.zero, i.size, i.bytes)) = some (some (.agg #[.int .i64 0, .int .i64 0, .int .i64 0]), 3, 24) := by kernel_rfl
theorem firedSlice : SliceOf Try.prog 60 64 3 24 := by
  obtain ⟨i0, hi0, hz0, hz1, hz2⟩ := info_parts2 info64
  exact ⟨Try.underlying60, ⟨i0, _, hi0, hz0, hz1, hz2, rfl⟩, by omega⟩
theorem firedA_nil (w : World) (t : Int) : (firedA (.slice none 0 0) t []).holds w (fun _ => False) := ⟨World.ownsRow_nil _ _ _ _, fun j => by simp [Value.ownBlock]⟩
theorem timeE_ok {t : Int} (h : timeE t = 0) : 0 ≤ t ∧ t < 1099511627776 := by
  unfold timeE at h
  split at h
  · cases h
  · split at h
    · cases h
    · omega
theorem upto_le {T : List (It Int)} {t : Int} {x : It Int} (h : x ∈ upto T t) : x.2 ≤ t := by
  induction T with
  | nil => cases h
  | cons y T ih =>
    unfold upto at h ih
    rw [List.takeWhile_cons] at h
    split at h
    · rename_i hy
      rcases List.mem_cons.1 h with h | h
      · rw [h]; simpa using hy
      · exact ih h
    · cases h
def cellF (b : Nat) (t : Int) (T : List (It Int)) : Ast := exA fun v : Value => sep (boxA b 60 #[v]) (firedA v t T)
theorem Plain.cellF (b : Nat) (t : Int) (T : List (It Int)) : Plain (cellF b t T) := Plain.ex fun _ => (Plain.box _ _ _).sep (Plain.fired _ _ _)

section
variable {w0 w : World} {tb : Nat} {S : List (It Int)} {R : Ast} {most now worst : Int}
set_option maxRecDepth 100000 in
set_option maxHeartbeats 4000000 in
theorem T_due_not (h : On w0 w (sep (tqA tb most S now worst) R)) (t : Int) (hd : dueE now t ≠ 0) :
    Calls Try.prog 45 #[.pointer (some ⟨tb, 0, none⟩), .int .i64 t] w fun e w' => e = .returned (.tuple #[.slice none 0 0, .int .i64 (dueE now t)]) ∧ On w0 w' (sep (tqA tb most S now worst) R) := by
  obtain ⟨qb, h1⟩ := h.tq_open
  obtain ⟨b0, hb0⟩ : ∃ b, w.heap.size = b := ⟨_, rfl⟩
  obtain ⟨tt, htt⟩ : ∃ tt, timeE t = tt := ⟨_, rfl⟩
  obtain ⟨W, hW⟩ : ∃ W, (w.alloc (.cells #[.pointer (some ⟨tb, 0, none⟩)] 55)).alloc (.cells #[.int .i64 t] 3) = W := ⟨_, rfl⟩
  have h2 := (h1.new1 55 #[.pointer (some ⟨tb, 0, none⟩)]).new1 3 #[.int .i64 t]
  simp only [World.size_alloc, hb0] at h2
  rw [hW] at h2
  have ht := time_any t W
  rw [htt] at ht
  have HT := Lib.hid ht
  have HF := Lib.hid ((h2.below ((Below.refl _ W).drew)).out1.out1.tq_shut)
  have HF0 := Lib.hid (h2.out1.out1.tq_shut)
  have c0 : W.cell? ⟨b0, 0, none⟩ = some (.pointer (some ⟨tb, 0, none⟩)) := ((h2.sw0).box1 0).1
  have c1 : W.cell? ⟨b0 + 1, 0, none⟩ = some (.int .i64 t) := (h2.box1 0).1
  have c2 : W.cell? ⟨tb, 2, none⟩ = some (.int .i64 now) := ((h2.sw1.sw0).box1 2).1
  obtain ⟨de, hde⟩ : ∃ de, dueE now t = de := ⟨_, rfl⟩
  rw [hde] at hd ⊢
  by_cases h0 : tt = 0
  · have htn : t < now := by
      rcases Int.lt_or_le t now with h | h
      · exact h
      · exfalso
        apply hd
        rw [← hde]
        unfold dueE
        rw [htt, if_pos h0, if_neg (by omega)]
    have hd10 : de = 10 := by rw [← hde]; unfold dueE; rw [htt, if_pos h0, if_pos htn]
    subst hd10 h0
    have g1 : decide (t < now) = true := by simp; omega
    clear h h1 h2 hd hde htt ht
    refine (callsIn_wide (n := 9)).1 ?_
    refine callsIn_of_wp_marks Try.func45 rfl trivial ?_ rfl
    simp only [Try.ntmps45, List.size_toArray, List.length_cons, List.length_nil, Nat.reduceAdd, Nat.reduceSub, Array.replicate_succ, Array.replicate_zero, List.push_toArray, List.append_toArray, List.nil_append, List.cons_append]
    gi_wp2_with fail
    clear hW
    refine ⟨trivial, ?_⟩
    refine (callsIn_wide.2 HT.out).mono ?_
    rintro e w1 ⟨rfl, rfl⟩
    gi_wp2_with fail
    refine wpIn_wide.2 ?_
    refine wp_region_loose (fun A => A = W.drew) (by kernel_rfl) (by kernel_rfl) rfl ?_
    iterate 6 (first
      | (refine loose_skip (by rfl) ?_; simp only [Act.put, List.setIfInBounds_toArray, List.set_cons_zero, List.set_cons_succ])
      | (refine loose_val (v := ?_) (by rfl) ?_ ?_; rotate_left; (focus (intro A' hA'; subst hA' ;  have c0' : W.drew.cell? ⟨b0, 0, none⟩ = some (.pointer (some ⟨tb, 0, none⟩)) := c0 ;  have c1' : W.drew.cell? ⟨b0 + 1, 0, none⟩ = some (.int .i64 t) := c1 ;  have c2' : W.drew.cell? ⟨tb, 2, none⟩ = some (.int .i64 now) := c2; go_simp; first | done | with_reducible rfl)); simp only [Act.put, List.setIfInBounds_toArray, List.set_cons_zero, List.set_cons_succ]))
    refine loose_nil ?_
    intro A3 hA3
    subst hA3
    gi_wp2_with fail
    exact ⟨.tuple #[.slice none 0 0, .int .i64 10], by simp [results, Try.f45, go_sem], rfl, HF.out⟩
  · have hdt : de = tt := by rw [← hde]; unfold dueE; rw [htt, if_neg h0]
    subst hdt
    have g2 : (de != 0) = true := by simp [h0]
    clear h h1 h2 hd hde htt ht
    refine (callsIn_wide (n := 9)).1 ?_
    refine callsIn_of_wp_marks Try.func45 rfl trivial ?_ rfl
    simp only [Try.ntmps45, List.size_toArray, List.length_cons, List.length_nil, Nat.reduceAdd, Nat.reduceSub, Array.replicate_succ, Array.replicate_zero, List.push_toArray, List.append_toArray, List.nil_append, List.cons_append]
    gi_wp2_with fail
    clear hW
    refine ⟨trivial, ?_⟩
    refine (callsIn_wide.2 HT.out).mono ?_
    rintro e w1 ⟨rfl, rfl⟩
    gi_wp2_with fail
    exact ⟨.tuple #[.slice none 0 0, .int .i64 de], by simp [results, Try.f45, go_sem], rfl, HF0.out⟩
set_option maxRecDepth 100000 in
set_option maxHeartbeats 4000000 in
theorem T_due (h : On w0 w (sep (tqA tb most S now worst) R)) (hs : Sorted ltI S) (hT : Timed S) (hl : S.length < 700000) (hR : Tame R) (t : Int) (hd : dueE now t = 0) :
    Calls Try.prog 45 #[.pointer (some ⟨tb, 0, none⟩), .int .i64 t] w fun e w' => ∃ v, e = .returned (.tuple #[v, .int .i64 0]) ∧ On w0 w' (sep (firedA v t (upto S t)) (sep (tqA tb most (late S t) t (worstS worst t (upto S t))) R)) := by
  obtain ⟨qb, h1⟩ := h.tq_open
  obtain ⟨b0, hb0⟩ : ∃ b, w.heap.size = b := ⟨_, rfl⟩
  have ht0 : timeE t = 0 := by
    unfold dueE at hd
    split at hd
    · assumption
    · exact hd
  have htn : ¬ t < now := by
    unfold dueE at hd
    rw [if_pos ht0] at hd
    split at hd
    · cases hd
    · assumption
  obtain ⟨W, hW⟩ : ∃ W, (w.alloc (.cells #[.pointer (some ⟨tb, 0, none⟩)] 55)).alloc (.cells #[.int .i64 t] 3) = W := ⟨_, rfl⟩
  have h2 := (h1.new1 55 #[.pointer (some ⟨tb, 0, none⟩)]).new1 3 #[.int .i64 t]
  simp only [World.size_alloc, hb0] at h2
  rw [hW] at h2
  have ht := time_any t W
  rw [ht0] at ht
  have HT := Lib.hid ht
  have c0 : W.cell? ⟨b0, 0, none⟩ = some (.pointer (some ⟨tb, 0, none⟩)) := ((h2.sw0).box1 0).1
  have c1 : W.cell? ⟨b0 + 1, 0, none⟩ = some (.int .i64 t) := (h2.box1 0).1
  have c2 : W.cell? ⟨tb, 2, none⟩ = some (.int .i64 now) := ((h2.sw1.sw0).box1 2).1
  have c3 : W.frozen? ⟨tb, 2, none⟩ = false := ((h2.sw1.sw0).box1 2).2
  have H2 := Lib.hid h2
  have HT0 := Lib.hid ht0
  have HS := Lib.hid hs
  have HTm := Lib.hid hT
  have g1 : decide (t < now) = false := by simp; omega
  clear h h1 h2 hd ht ht0 hs hT
  refine (callsIn_wide (n := 9)).1 ?_
  refine callsIn_of_wp_marks Try.func45 rfl trivial ?_ rfl
  simp only [Try.ntmps45, List.size_toArray, List.length_cons, List.length_nil, Nat.reduceAdd, Nat.reduceSub, Array.replicate_succ, Array.replicate_zero, List.push_toArray, List.append_toArray, List.nil_append, List.cons_append]
  gi_wp2_with fail
  clear hW
  refine ⟨trivial, ?_⟩
  refine (callsIn_wide.2 HT.out).mono ?_
  rintro e w1 ⟨rfl, rfl⟩
  gi_wp2_with fail
  refine wpIn_wide.2 ?_
  refine wp_region_loose (fun A => A = W.drew) (by kernel_rfl) (by kernel_rfl) rfl ?_
  iterate 6 (first
    | (refine loose_skip (by rfl) ?_; simp only [Act.put, List.setIfInBounds_toArray, List.set_cons_zero, List.set_cons_succ])
    | (refine loose_val (v := ?_) (by rfl) ?_ ?_; rotate_left; (focus (intro A' hA'; subst hA' ;  have c0' : W.drew.cell? ⟨b0, 0, none⟩ = some (.pointer (some ⟨tb, 0, none⟩)) := c0 ;  have c1' : W.drew.cell? ⟨b0 + 1, 0, none⟩ = some (.int .i64 t) := c1 ;  have c2' : W.drew.cell? ⟨tb, 2, none⟩ = some (.int .i64 now) := c2; go_simp; first | done | with_reducible rfl)); simp only [Act.put, List.setIfInBounds_toArray, List.set_cons_zero, List.set_cons_succ]))
  refine loose_nil ?_
  intro A3 hA3
  subst hA3
  obtain ⟨bo, hbo⟩ : ∃ b, W.heap.size = b := ⟨_, rfl⟩
  obtain ⟨x1, hx1⟩ : ∃ x, W.setCell ⟨tb, 2, none⟩ (.int .i64 t) = x := ⟨_, rfl⟩
  obtain ⟨x2, hx2⟩ : ∃ x, x1.alloc (.cells #[.slice none 0 0] 60) = x := ⟨_, rfl⟩
  have hs1 : x1.heap.size = bo := by rw [← hx1, ← hbo]; simp [World.setCell]
  have h3 := (H2.out.sw1.sw0).box_set 2 (.int .i64 t)
  rw [hx1] at h3
  have h4 := h3.new1 60 #[.slice none 0 0]
  rw [hx2, hs1] at h4
  have h5 : On w0 x2.drew.drew (sep (boxA bo 60 #[.slice none 0 0]) (sep (boxA tb 152 #[.int .i64 most, .pointer (some ⟨qb, 0, none⟩), .int .i64 t, .int .i64 worst]) (sep (boxA (b0 + 1) 3 #[.int .i64 t]) (sep (boxA b0 55 #[.pointer (some ⟨tb, 0, none⟩)]) (sep (quA qb S) R))))) := h4.below ((Below.refl _ x2).drew.drew)
  have d0 : x2.drew.drew.cell? ⟨b0, 0, none⟩ = some (.pointer (some ⟨tb, 0, none⟩)) := ((h5.sw2.sw1.sw0).box1 0).1
  have d1 : x2.drew.drew.cell? ⟨b0 + 1, 0, none⟩ = some (.int .i64 t) := ((h5.sw1.sw0).box1 0).1
  have d2 : x2.drew.drew.cell? ⟨tb, 1, none⟩ = some (.pointer (some ⟨qb, 0, none⟩)) := ((h5.sw0).box1 1).1
  have hun : Calls Try.prog 37 #[.pointer (some ⟨qb, 0, none⟩), .int .i64 t] x2.drew.drew fun e w' => ∃ bl bt, e = .returned (.func (.func 104) #[] #[.pointer (some ⟨bl, 0, none⟩), .pointer (some ⟨bt, 0, none⟩)]) ∧ w'.cell? ⟨b0, 0, none⟩ = some (.pointer (some ⟨tb, 0, none⟩)) ∧ w'.cell? ⟨b0 + 1, 0, none⟩ = some (.int .i64 t) ∧ w'.cell? ⟨tb, 1, none⟩ = some (.pointer (some ⟨qb, 0, none⟩)) ∧
      Hid (On w0 w' (sep (untA bl bt S t) (sep (quA qb S) (sep (boxA bo 60 #[.slice none 0 0]) (sep (boxA tb 152 #[.int .i64 most, .pointer (some ⟨qb, 0, none⟩), .int .i64 t, .int .i64 worst]) (sep (boxA (b0 + 1) 3 #[.int .i64 t]) (sep (boxA b0 55 #[.pointer (some ⟨tb, 0, none⟩)]) R))))))) := by
    refine (Q_until (h5.sw3.sw2.sw1.sw0) HS.out (by omega) t).mono fun e w' ⟨bl, bt, he, h6⟩ => ?_
    exact ⟨bl, bt, he, ((h6.sw4.sw3.sw2.sw1.sw0).box1 0).1, ((h6.sw3.sw2.sw1.sw0).box1 0).1, ((h6.sw2.sw1.sw0).box1 1).1, Lib.hid h6⟩
  have HUn := Lib.hid hun
  clear h3 h4 h5 hun
  gi_wp2_with fail
  clear hx1 hx2 hbo hs1
  refine wpIn_wide.2 ?_
  go_region_held3 (fun A0 => A0.cell? ⟨b0, 0, none⟩ = some (.pointer (some ⟨tb, 0, none⟩)) ∧ A0.cell? ⟨b0 + 1, 0, none⟩ = some (.int .i64 t) ∧ A0.cell? ⟨tb, 1, none⟩ = some (.pointer (some ⟨qb, 0, none⟩)))
    (first | (refine ⟨?_, ?_, ?_⟩ <;> assumption) | go_keep)
    (first
      | (go_at_call 37; refine HUn.out.mono ?_; rintro e A1 ⟨bl, bt, rfl, e0, e1, e2, HA1⟩))
  all_goals have hq : ∀ w, (binOp BinOp.eql 47 (.func (.func 104) #[] #[.pointer (some ⟨bl, 0, none⟩), .pointer (some ⟨bt, 0, none⟩)]) .nilFunc).run Try.prog w = .ok (.bool false) w := fun w => by kernel_rfl
  all_goals gi_wp2_with fail
  have hon : On w0 A1 (sep (untA bl bt S t) (sep (cellF bo t []) (sep (boxA tb 152 #[.int .i64 most, .pointer (some ⟨qb, 0, none⟩), .int .i64 t, .int .i64 (worstS worst t [])]) (sep (quA qb (S.drop 0)) (sep (boxA (b0 + 1) 3 #[.int .i64 t]) (sep (boxA b0 55 #[.pointer (some ⟨tb, 0, none⟩)]) R)))))) := by
    have h6 := HA1.out.add (Below.refl _ A1) (firedA_nil A1 t) (fun _ h => h.elim)
    exact On.sw0 (On.ex_shut (f := fun v : Value => sep (boxA bo 60 #[v]) (firedA v t [])) (.slice none 0 0) (On.assoc' (h6.sw2.sw1.sw0.sw3)))
  have hRF := hR.at hon.out1.out1.out1.out1.out1.out1
  have HOn := Lib.hid hon
  clear hon e0 e1 e2 d0 d1 d2 c0 c1 c2 c3
  refine wpIn_range_onF rfl (by omega) (gf := 104) (lb := #[.pointer (some ⟨bl, 0, none⟩), .pointer (some ⟨bt, 0, none⟩)]) rfl trivial (enters_of Try.func104 (by kernel_rfl) rfl)
    (Sq := untA bl bt S t) (Plain.unt bl bt S t) (fun pre => sep (cellF bo t pre) (sep (boxA tb 152 #[.int .i64 most, .pointer (some ⟨qb, 0, none⟩), .int .i64 t, .int .i64 (worstS worst t pre)]) (sep (quA qb (S.drop pre.length)) (sep (boxA (b0 + 1) 3 #[.int .i64 t]) (sep (boxA b0 55 #[.pointer (some ⟨tb, 0, none⟩)]) R)))))
    (fun _ => (Plain.cellF _ _ _).sepF ((Plain.box _ _ _).sepF ((Plain.qu _ _).sepF ((Plain.box _ _ _).sepF ((Plain.box _ _ _).sepF hRF))))) (fun _ _ => prA False) (fun _ _ => (Plain.pr _).f _) HOn.out (fun K hK => unt_iter _ (by omega) hK) (fun _ => rfl) ?round ?done ?stop
  case round =>
    rintro K l pre ⟨x1, x2⟩ A hlA hlr hpre hon
    have hlp := hpre.length_le
    rw [List.length_append, List.length_singleton] at hlp
    have hx : (upto S t)[pre.length]? = some (x1, x2) := by
      obtain ⟨t', ht⟩ := hpre
      rw [← ht, List.append_assoc, List.getElem?_append_right (Nat.le_refl _)]
      simp
    have hxt : x2 ≤ t := upto_le (List.mem_of_getElem? hx)
    have hlu := (upto_pre S t).length_le
    have hxS : S[pre.length]? = some (x1, x2) := by
      obtain ⟨t', ht⟩ := upto_pre S t
      rw [← ht, List.getElem?_append_left (by omega)]
      exact hx
    have hlS : pre.length < S.length := by omega
    have hdr : S.drop pre.length = (x1, x2) :: S.drop (pre.length + 1) := by
      rw [List.drop_eq_getElem_cons hlS]
      congr 1
      rw [List.getElem?_eq_getElem hlS] at hxS
      exact Option.some.inj hxS
    have hx0 := timeE_ok (HTm.out _ (List.mem_of_getElem? hxS))
    have ht0 := timeE_ok HT0.out
    obtain ⟨ww, hww⟩ : ∃ ww, worstS worst t pre = ww := ⟨_, rfl⟩
    rw [hdr, hww] at hon
    obtain ⟨D, hD⟩ : ∃ D, S.drop (pre.length + 1) = D := ⟨_, rfl⟩
    rw [hD] at hon
    have hdl : D.length < 700000 := by rw [← hD, List.length_drop]; omega
    obtain ⟨kb, hkb⟩ : ∃ b, A.heap.size = b := ⟨_, rfl⟩
    obtain ⟨A2, hA2⟩ : ∃ A2, A.alloc (.cells #[.int .i64 x2, .int .i64 x1] 24) = A2 := ⟨_, rfl⟩
    have h8 := (hon.new1 24 #[.int .i64 x2, .int .i64 x1]).sw0
    rw [hA2, hkb] at h8
    have H9 := Lib.hid h8
    have HWw := Lib.hid hww
    have HD := Lib.hid hD
    have hpl : pre.length < 700000 := by omega
    clear hon hpre h8 hlr hx hxS hdr hlp hlu hlS hww hD
    gi_wp2_with fail
    clear hA2 hkb
    refine ⟨_, (Plain.box _ _ _).sepF ((Plain.cellF _ _ _).sepF ((Plain.box _ _ _).sepF ((Plain.qu _ _).sepF ((Plain.box _ _ _).sepF ((Plain.box _ _ _).sepF hRF))))), H9.out, ?_⟩
    intro Wb
    intros
    rename_i h9
    have p0 : Wb.drew.cell? ⟨b0, 0, none⟩ = some (.pointer (some ⟨tb, 0, none⟩)) := ((h9.sw5.sw4.sw3.sw2.sw1.sw0).box1 0).1
    have p1 : Wb.drew.cell? ⟨tb, 1, none⟩ = some (.pointer (some ⟨qb, 0, none⟩)) := ((h9.sw2.sw1.sw0).box1 1).1
    have p2 : Wb.drew.cell? ⟨kb, 1, none⟩ = some (.int .i64 x1) := ((h9.sw0).box1 1).1
    have h10 := (h9.sw3.sw2.sw1.sw0).below ((Below.refl _ Wb).drew)
    obtain ⟨hid0, hidw⟩ := h10.qu_ids (x1, x2) (List.mem_cons_self ..)
    have hwo : without ((x1, x2) :: D) x1 = D := by
      have hd := h10.qu_distinct
      unfold without
      rw [List.filter_cons_of_neg (by simp)]
      exact List.filter_eq_self.2 fun y hy => by simpa using Ne.symm ((List.pairwise_cons.1 hd).1 y hy)
    have hdp := Q_drop h10 (by simp; omega) x1 hidw
    rw [hwo] at hdp
    have HDp := Lib.hid hdp
    clear h9 h10 hwo hdp
    gi_wp2_with fail
    refine wpIn_region_last (os := ?_) (s := ?_) (fun A' => A' = Wb.drew) (by simp only [List.dropLast]; rfl) (by rfl) (by kernel_rfl) (by kernel_rfl) (by kernel_rfl) (by kernel_rfl) rfl ?_
    iterate 6 (first
      | (refine loose_skip (by rfl) ?_; simp only [Act.put, List.setIfInBounds_toArray, List.set_cons_zero, List.set_cons_succ])
      | (refine loose_val (v := ?_) (by rfl) ?_ ?_; rotate_left; (focus (intro A' hA'; subst hA'; go_simp; first | done | with_reducible rfl)); simp only [Act.put, List.setIfInBounds_toArray, List.set_cons_zero, List.set_cons_succ]))
    refine loose_nil ?_
    intro A3 hA3
    subst hA3
    gi_wp2_with fail
    refine ⟨trivial, ?_⟩
    refine (CallsIn.inRound l (callsIn_wide.2 HDp.out)).mono ?_
    rintro e B1 ⟨rfl, h11⟩
    have q0 : B1.cell? ⟨b0, 0, none⟩ = some (.pointer (some ⟨tb, 0, none⟩)) := ((h11.sw5.sw4.sw3.sw2.sw1.sw0).box1 0).1
    have q1 : B1.cell? ⟨b0 + 1, 0, none⟩ = some (.int .i64 t) := ((h11.sw4.sw3.sw2.sw1.sw0).box1 0).1
    have q2 : B1.cell? ⟨kb, 0, none⟩ = some (.int .i64 x2) := ((h11.sw1.sw0).box1 0).1
    have q3 : B1.cell? ⟨kb, 1, none⟩ = some (.int .i64 x1) := ((h11.sw1.sw0).box1 1).1
    obtain ⟨fb, hfb⟩ : ∃ b, B1.heap.size = b := ⟨_, rfl⟩
    obtain ⟨B2, hB2⟩ : ∃ B2, B1.alloc (.cells #[.int .i64 x1, .int .i64 x2, .int .i64 (t - x2)] 64) = B2 := ⟨_, rfl⟩
    have h12 := h11.new1 64 #[.int .i64 x1, .int .i64 x2, .int .i64 (t - x2)]
    rw [hB2, hfb] at h12
    have r0 : B2.cell? ⟨b0, 0, none⟩ = some (.pointer (some ⟨tb, 0, none⟩)) := ((h12.sw6.sw5.sw4.sw3.sw2.sw1.sw0).box1 0).1
    have r1 : B2.cell? ⟨tb, 3, none⟩ = some (.int .i64 ww) := ((h12.sw4.sw3.sw2.sw1.sw0).box1 3).1
    have r2 : B2.cell? ⟨fb, 2, none⟩ = some (.int .i64 (t - x2)) := (h12.box1 2).1
    have r3 : B2.frozen? ⟨tb, 3, none⟩ = false := ((h12.sw4.sw3.sw2.sw1.sw0).box1 3).2
    have H12 := Lib.hid h12
    have hsub : IntKind.i64.wrap (t - x2) = t - x2 := IntWalk.i64_in _ (by omega)
    obtain ⟨mw, hmw⟩ : ∃ m, max ww (t - x2) = m := ⟨_, rfl⟩
    have hmw' : (if ww < t - x2 then t - x2 else ww) = mw := by rw [← hmw]; omega
    have h13 := ((h12.below ((Below.refl _ B2).drew)).sw4.sw3.sw2.sw1.sw0).box_set 3 (.int .i64 mw)
    obtain ⟨B3, hB3⟩ : ∃ B3, B2.drew.setCell ⟨tb, 3, none⟩ (.int .i64 mw) = B3 := ⟨_, rfl⟩
    rw [hB3] at h13
    have s0 : B2.drew.cell? ⟨b0, 0, none⟩ = some (.pointer (some ⟨tb, 0, none⟩)) := r0
    have s1 : B2.drew.cell? ⟨tb, 3, none⟩ = some (.int .i64 ww) := r1
    have s2 : B2.drew.cell? ⟨fb, 2, none⟩ = some (.int .i64 (t - x2)) := r2
    have s3 : B2.drew.frozen? ⟨tb, 3, none⟩ = false := r3
    obtain ⟨v, h14⟩ := (h13.sw4.sw3.sw2.sw1.sw0).ex_open
    have h15 := h14.assoc
    obtain ⟨F, ⟨how0, _⟩, _⟩ := h15.sw0.get1
    obtain ⟨va, vc, rfl⟩ : ∃ q cc, v = .slice q pre.length cc := by
      rcases own_parts how0 with ⟨h1, h2⟩ | ⟨_, _, _, h1, _⟩
      · exact ⟨_, _, by rw [h2]; exact h1⟩
      · exact ⟨_, _, h1⟩
    have o0 : B3.cell? ⟨bo, 0, none⟩ = some (.slice va pre.length vc) := (h15.box1 0).1
    have o1 : B3.cell? ⟨fb, 0, none⟩ = some (.int .i64 x1) := ((h15.sw2.sw1.sw0).box1 0).1
    have o2 : B3.cell? ⟨fb, 1, none⟩ = some (.int .i64 x2) := ((h15.sw2.sw1.sw0).box1 1).1
    have o3 : B3.cell? ⟨fb, 2, none⟩ = some (.int .i64 (t - x2)) := ((h15.sw2.sw1.sw0).box1 2).1
    have h16 := h15.sw0
    have hbk : Below B3.heap.size B3 (B3.alloc (.cells #[.int .i64 x1, .int .i64 x2, .int .i64 (t - x2)] 64)) := (Below.refl _ B3).alloc (Nat.le_refl _) _
    obtain ⟨F, ⟨how, _⟩, _⟩ := (h16.below hbk).get1
    have HRd := Lib.hid (cells_reads B3 #[.int .i64 x1, .int .i64 x2, .int .i64 (t - x2)] 64)
    have HOw := Lib.hid how
    have hkc : ∀ u ∈ firedC t (x1, x2), u.oneCell' = true := by
      intro u hu
      simp [firedC] at hu
      rcases hu with rfl | rfl | rfl <;> rfl
    have hmx : pre.length + 1 ≤ maxLen := by unfold maxLen; omega
    have hby : (pre.length + 1) * 24 ≤ 140737488355328 := by omega
    have H16 := Lib.hid h16
    have HBk := Lib.hid hbk
    have HMw := Lib.hid hmw
    clear h11 h12 h13 h14 h15 h16 how0 how hbk hmw
    gi_wp2_with fail
    refine wpIn_region_last (os := ?_) (s := ?_) (fun A' => A' = B2.drew) (by simp only [List.dropLast]; rfl) (by rfl) (by kernel_rfl) (by kernel_rfl) (by kernel_rfl) (by kernel_rfl) rfl ?_
    iterate 10 (first
      | (refine loose_skip (by rfl) ?_; simp only [Act.put, List.setIfInBounds_toArray, List.set_cons_zero, List.set_cons_succ])
      | (refine loose_val (v := ?_) (by rfl) ?_ ?_; rotate_left; (focus (intro A' hA'; subst hA'; go_simp; first | done | with_reducible rfl)); simp only [Act.put, List.setIfInBounds_toArray, List.set_cons_zero, List.set_cons_succ]))
    refine loose_nil ?_
    intro A3 hA3
    subst hA3
    gi_wp2_with (gi_at_builtin; go_loud (refine wpListIn_append_any (by rfl) _ _ 60 (by rfl) 64 3 24 firedSlice (.slice va pre.length vc) pre.length (pre.flatMap (firedC t)) (by rfl) HOw.out _ 1 (firedC t (x1, x2)) (by rfl) HRd.out hkc hmx hby ?_; intro v' A5 hown hgrow hat; obtain ⟨qq, qn, qcc, rfl⟩ := own_form hown; have h17 := H16.out.row_push HBk.out hgrow hown hat; have s4 : A5.cell? ⟨bo, 0, none⟩ = some (.slice va pre.length vc) := (h17.sw0.box1 0).1; have s5 : A5.frozen? ⟨bo, 0, none⟩ = false := (h17.sw0.box1 0).2; have H17 := Lib.hid (h17.sw0.box_set 0 (.slice qq qn qcc)); clear h17 hown hgrow hat))
    have e1 : worstS worst t (pre ++ [(x1, x2)]) = mw := by rw [worstS_snoc, HWw.out]; exact HMw.out
    have e2 : S.drop (pre.length + 1) = D := HD.out
    have e3 : firedA (.slice qq qn qcc) t (pre ++ [(x1, x2)]) = rowA (.slice qq qn qcc) 64 3 (pre.length + 1) (pre.flatMap (firedC t) ++ firedC t (x1, x2)) := by unfold firedA; simp
    rw [e1, e2]
    have h18 := H17.out
    have h19 := (h18.sw2.sw1.sw0.sw5.sw4.sw3.sw2.sw1.sw5.sw4).out1.out1
    rw [← e3] at h19
    exact On.sw0 (On.ex_shut (f := fun v : Value => sep (boxA bo 60 #[v]) (firedA v t (pre ++ [(x1, x2)]))) _ h19.assoc')
  case done =>
    intro D A hD hon hKd
    have hDw : w0.heap.size ≤ D := Nat.le_trans HOn.out.to_below.size hD
    obtain ⟨v, h6⟩ := (hon.sw0).ex_open
    have h7 := h6.assoc
    obtain ⟨F, ⟨how0, _⟩, _⟩ := h7.sw0.get1
    obtain ⟨va, vc, rfl⟩ : ∃ q cc, v = .slice q (upto S t).length cc := by
      rcases own_parts how0 with ⟨h1, h2⟩ | ⟨_, _, _, h1, _⟩
      · exact ⟨_, _, by rw [h2]; exact h1⟩
      · exact ⟨_, _, h1⟩
    have o0 : A.cell? ⟨bo, 0, none⟩ = some (.slice va (upto S t).length vc) := (h7.box1 0).1
    have H7 := Lib.hid h7
    have HKd := Lib.hid hKd
    clear hon h6 h7 how0 hKd
    gi_wp2_with fail
    have h8 := H7.out
    have h9 := (h8.sw1.sw4.sw3.sw2.sw5.sw4.sw3).out1.out1.out1.out1
    have h10 := ((h9.sw0.sw1).tq_shut).sw0
    refine fin_markF (n := A1.heap.size) (X := sep (firedA (.slice va (upto S t).length vc) t (upto S t)) (sep (tqA tb most (late S t) t (worstS worst t (upto S t))) R)) (v := .tuple #[.slice va (upto S t).length vc, .int .i64 0]) ((Plain.fired _ _ _).sepF ((Plain.tq _ _ _ _ _).sepF hRF)) hD h10 hDw HKd.out (fun A' h => ⟨by simp [results, Try.f45, go_sem], _, rfl, h⟩)
  case stop =>
    intro D c pre A _ _ h _
    exact (On.pr_open (p := False) (On.comm h)).1.elim
end
end Go.Proofs.Ytkjpkhpiojahkaa

/-! ### Walks: the timers' example. -/
namespace Go.Proofs.Ytkjpkhpiojahkaa
set_option linter.unusedVariables false
open Go.RowKit Hp
attribute [local go_sem] Oper.semAt_some

theorem eql64 (p q r p' q' r' : Int) (w : World) : (binOp BinOp.eql 64 (.agg #[.int .i64 p, .int .i64 q, .int .i64 r]) (.agg #[.int .i64 p', .int .i64 q', .int .i64 r'])).run Try.prog w = .ok (.bool (decide (p = p' ∧ q = q' ∧ r = r'))) w := by
  go_simp
  by_cases h1 : p = p' <;> by_cases h2 : q = q' <;> by_cases h3 : r = r' <;> simp [h1, h2, h3]
/-- those that fired, in memory -/
def FAt (w : World) (a : Option Addr) (t : Int) (T : List (It Int)) : Prop :=
  T.length = 0 ∨ ∃ b off, a = some ⟨b, off, none⟩ ∧ b < w.heap.size ∧ ∀ k x, T[k]? = some x → w.cell? ⟨b, off + k * 3, none⟩ = some (.int .i64 x.1) ∧ w.cell? ⟨b, off + k * 3 + 1, none⟩ = some (.int .i64 x.2) ∧ w.cell? ⟨b, off + k * 3 + 2, none⟩ = some (.int .i64 (t - x.2))
theorem firedC_len (t : Int) (x : It Int) : (firedC t x).length = 3 := rfl
theorem fired_own {w : World} {v : Value} {t : Int} {T : List (It Int)} (h : w.ownsRow 0 64 3 v T.length (T.flatMap (firedC t))) : ∃ a c, v = .slice a T.length c ∧ T.length ≤ c ∧ FAt w a t T := by
  rcases own_parts h with ⟨h1, h2⟩ | ⟨g, cap, cur, h1, _, h3, h4, _⟩
  · exact ⟨none, 0, by rw [h1, h2], by omega, .inl h2⟩
  · refine ⟨_, _, h1, h4, .inr ⟨g, 0, rfl, lt_of_some h3, fun k x hx => ?_⟩⟩
    rw [Nat.zero_add]
    subst h1
    have h1 := flat_at (firedC t) 3 (firedC_len t) T k 0 _ hx (by omega)
    have h2 := flat_at (firedC t) 3 (firedC_len t) T k 1 _ hx (by omega)
    have h3 := flat_at (firedC t) 3 (firedC_len t) T k 2 _ hx (by omega)
    exact ⟨own_cellG h (by simpa [firedC] using h1), own_cellG h (by simpa [firedC] using h2), own_cellG h (by simpa [firedC] using h3)⟩
theorem On.fired1 {w0 w : World} {v : Value} {t : Int} {T : List (It Int)} {R : Ast} (h : On w0 w (sep (firedA v t T) R)) : ∃ a c, v = .slice a T.length c ∧ T.length ≤ c ∧ FAt w a t T := by
  obtain ⟨F, hF, _⟩ := h.get1
  exact fired_own hF.1
theorem On.fired_get {w0 w : World} {a : Option Addr} {n c : Nat} {t : Int} {T : List (It Int)} {R : Ast} (h : On w0 w (sep (firedA (.slice a n c) t T) R)) : FAt w a t T := by
  obtain ⟨a', c', he, _, hf⟩ := h.fired1
  cases he
  exact hf
def tex : List (It Int) := [(2, 4), (1, 10), (3, 10)]
set_option maxRecDepth 100000 in
set_option maxHeartbeats 4000000 in
theorem tawake_ok (w : World) : Calls Try.prog 42 #[] w fun e w' => e = .returned (.bool true) ∧ Below w.heap.size w w' := by
  have H0 := Lib.hid (T_new (On.emp w) 9 (by decide) (by decide))
  go_enter Try.func42, Try.ntmps42
  go_wp2_with fail
  refine H0.out.mono ?_
  rintro e w1 ⟨tb, rfl, h1⟩
  have a1 : Calls Try.prog 44 #[.pointer (some ⟨tb, 0, none⟩), .int .i64 3, .int .i64 10] w1 fun e w' => e = .returned (.int .i64 0) ∧ On w w' (sep (tqA tb 9 [(3, 10)] 0 0) emp) := T_arm h1 (by unfold Sorted; decide) (by decide) 3 10 (by decide)
  have HA1 := Lib.hid a1
  clear h1 a1
  go_wp2_with fail
  refine HA1.out.mono ?_
  rintro e w2 ⟨rfl, h2⟩
  have a2 : Calls Try.prog 44 #[.pointer (some ⟨tb, 0, none⟩), .int .i64 1, .int .i64 10] w2 fun e w' => e = .returned (.int .i64 0) ∧ On w w' (sep (tqA tb 9 [(1, 10), (3, 10)] 0 0) emp) := T_arm h2 (by unfold Sorted; decide) (by decide) 1 10 (by decide)
  have HA2 := Lib.hid a2
  clear h2 a2
  go_wp2_with fail
  refine HA2.out.mono ?_
  rintro e w3 ⟨rfl, h3⟩
  have a3 : Calls Try.prog 44 #[.pointer (some ⟨tb, 0, none⟩), .int .i64 2, .int .i64 4] w3 fun e w' => e = .returned (.int .i64 0) ∧ On w w' (sep (tqA tb 9 tex 0 0) emp) := T_arm h3 (by unfold Sorted; decide) (by decide) 2 4 (by decide)
  have HA3 := Lib.hid a3
  clear h3 a3
  go_wp2_with fail
  refine HA3.out.mono ?_
  rintro e w4 ⟨rfl, h4⟩
  have a4 : Calls Try.prog 45 #[.pointer (some ⟨tb, 0, none⟩), .int .i64 12] w4 fun e w' => ∃ v, e = .returned (.tuple #[v, .int .i64 0]) ∧ On w w' (sep (firedA v 12 tex) (sep (tqA tb 9 [] 12 8) emp)) := T_due h4 (by unfold Sorted; decide) (by unfold Timed; decide) (by decide) Plain.emp.tame 12 (by decide)
  have HA4 := Lib.hid a4
  clear h4 a4
  go_wp2_with fail
  refine HA4.out.mono ?_
  rintro e w5 ⟨v, rfl, h5⟩
  obtain ⟨a, c, rfl, _, hf⟩ := h5.fired1
  have hl3 : tex.length = 3 := rfl
  rw [hl3] at h5 ⊢
  obtain ⟨b, off, rfl, _, hc⟩ := hf.resolve_left (by decide)
  obtain ⟨c0, c1, c2⟩ := hc 0 (2, 4) rfl
  obtain ⟨c3, c4, c5⟩ := hc 1 (1, 10) rfl
  obtain ⟨c6, c7, c8⟩ := hc 2 (3, 10) rfl
  simp only [Nat.zero_mul, Nat.add_zero, Nat.one_mul, Nat.reduceMul] at c0 c1 c2 c3 c4 c5 c6 c7 c8
  have HW := Lib.hid (T_worst h5.out1)
  have HB := Lib.hid h5.to_below
  have hq1 : ∀ w, (binOp BinOp.eql 64 (.agg #[.int .i64 2, .int .i64 4, .int .i64 (12 - 4)]) (.agg #[.int .i64 2, .int .i64 4, .int .i64 8])).run Try.prog w = .ok (.bool true) w := fun w => by rw [eql64]; rfl
  have hq2 : ∀ w, (binOp BinOp.eql 64 (.agg #[.int .i64 1, .int .i64 10, .int .i64 (12 - 10)]) (.agg #[.int .i64 1, .int .i64 10, .int .i64 2])).run Try.prog w = .ok (.bool true) w := fun w => by rw [eql64]; rfl
  have hq3 : ∀ w, (binOp BinOp.eql 64 (.agg #[.int .i64 3, .int .i64 10, .int .i64 (12 - 10)]) (.agg #[.int .i64 3, .int .i64 10, .int .i64 2])).run Try.prog w = .ok (.bool true) w := fun w => by rw [eql64]; rfl
  clear h5 hf hc hl3
  go_wp2_with fail
  refine HW.out.mono ?_
  rintro e w6 ⟨rfl, rfl⟩
  go_wp2_with fail
  go_ret
  exact ⟨rfl, HB.out⟩
end Go.Proofs.Ytkjpkhpiojahkaa

/-! ### Timers: plain facts. -/
namespace Go.Proofs.Ytkjpkhpiojahkaa
set_option linter.unusedVariables false
open Go.RowKit Hp

section
variable {S : List (It Int)} {t : Int}
theorem upto_late (S : List (It Int)) (t : Int) : upto S t ++ late S t = S := by
  unfold late
  have := List.prefix_iff_eq_take.1 (upto_pre S t)
  conv => rhs; rw [← List.take_append_drop (upto S t).length S]
  rw [← this]
theorem late_sub (S : List (It Int)) (t : Int) : (late S t).Sublist S := List.drop_sublist _ _
theorem late_sorted (hs : Sorted ltI S) : Sorted ltI (late S t) := hs.sublist (late_sub S t)
theorem Timed.late (h : Timed S) : Timed (late S t) := fun x hx => h x ((late_sub S t).subset hx)
theorem late_length : (late S t).length + (upto S t).length = S.length := by
  have := congrArg List.length (upto_late S t)
  rw [List.length_append] at this
  omega
theorem ahead_le {x y : It Int} (h : Hp.ahead ltI x y = true) : x.2 ≤ y.2 := by
  rw [ahead_iff] at h
  simp [ltI] at h
  omega
theorem sorted_le {x : It Int} (hs : Sorted ltI (x :: S)) : ∀ y ∈ S, x.2 ≤ y.2 := fun y hy => ahead_le ((List.pairwise_cons.1 hs).1 y hy)
theorem late_gt (hs : Sorted ltI S) : ∀ y ∈ late S t, t < y.2 := by
  intro y hy
  induction S with
  | nil => unfold Go.Proofs.Ytkjpkhpiojahkaa.late at hy; simp at hy
  | cons x S ih =>
    unfold Go.Proofs.Ytkjpkhpiojahkaa.late upto at hy ih
    rw [List.takeWhile_cons] at hy
    split at hy
    · rename_i hx
      exact ih (List.pairwise_cons.1 hs).2 hy
    · rename_i hx
      have hx' : t < x.2 := by simpa using hx
      rcases List.mem_cons.1 hy with h | h
      · rw [h]; exact hx'
      · have := sorted_le hs y h; omega
theorem upto_head {x : It Int} (h : x.2 ≤ t) : upto (x :: S) t = x :: upto S t := by
  unfold upto
  rw [List.takeWhile_cons, if_pos (by simpa using h)]
theorem worst_none (hs : ∀ y ∈ S, t ≤ y.2) (worst : Int) (h0 : 0 ≤ worst) : ∀ T : List (It Int), (∀ y ∈ T, t ≤ y.2) → worstS worst t T = worst := by
  intro T
  induction T generalizing worst with
  | nil => intro _; rfl
  | cons y T ih =>
    intro hT
    have h1 := hT y (List.mem_cons_self ..)
    have h2 : max worst (t - y.2) = worst := by omega
    show worstS (max worst (t - y.2)) t T = worst
    rw [h2]
    exact ih worst h0 fun z hz => hT z (List.mem_cons_of_mem _ hz)
theorem dueE_ok {now : Int} (h1 : timeE t = 0) (h2 : now ≤ t) : dueE now t = 0 := by
  unfold dueE
  rw [if_pos h1, if_neg (by omega)]
end
end Go.Proofs.Ytkjpkhpiojahkaa
