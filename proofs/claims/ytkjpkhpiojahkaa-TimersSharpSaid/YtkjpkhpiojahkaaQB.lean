/-
  Walks: a queue's check, Move, Copy.
  Walks: a queue's Move, Copy.
-/
import Derived.Test.YtkjpkhpiojahkaaQA
/-! ### Walks: a queue's check, Move, Copy. -/
namespace Go.Proofs.Ytkjpkhpiojahkaa
set_option linter.unusedVariables false
open Go.RowKit Hp

def checkE (S : List (It Int)) (t id : Int) : Int := if id < 0 then 1 else if timeE t = 0 then (if has S id then 15 else 0) else timeE t
def moveE (S : List (It Int)) (t id : Int) : Int := if has S id then timeE t else 14
def moveS (S : List (It Int)) (t id : Int) : List (It Int) := if has S id then (if timeE t = 0 then chS ltI S id t else S) else S
theorem itq_hasE {S : List (It Int)} {id : Int} : hasE (itq S) id = hasE S id := by unfold hasE; rw [itq_has]

section
variable {w0 w : World} {qb : Nat} {S : List (It Int)} {R : Ast}

set_option maxRecDepth 100000 in
set_option maxHeartbeats 4000000 in
theorem Q_check (h : On w0 w (sep (quA qb S) R)) (hl : S.length < 900000) (t id : Int) (hw : (Lit.int .i64 id).wf = true) :
    Calls Try.prog 138 #[.pointer (some ⟨qb, 0, none⟩), .agg #[.int .i64 t, .int .i64 id]] w fun e w' => e = .returned (.int .i64 (checkE S t id)) ∧ Below w.heap.size w w' := by
  have hd := h.qu_distinct
  obtain ⟨h1, h2, h⟩ := h.qu_open
  obtain ⟨w1, hw1⟩ : ∃ w1, w.alloc (.cells #[.int .i64 t, .int .i64 id] 24) = w1 := ⟨_, rfl⟩
  have hb1 : Below w.heap.size w w1 := by rw [← hw1]; exact (Below.refl _ w).alloc (Nat.le_refl _) _
  have p0 : w1.cell? ⟨w.heap.size, 0, none⟩ = some (.int .i64 t) := by rw [← hw1, World.cell?_alloc_at _ _ _ _ rfl]; rfl
  have p1 : w1.cell? ⟨w.heap.size, 1, none⟩ = some (.int .i64 id) := by rw [← hw1, World.cell?_alloc_at _ _ _ _ rfl]; rfl
  have h3 := h.below hb1
  have c0 : w1.cell? ⟨qb, 0, none⟩ = some (.pointer (some ⟨h1, 0, none⟩)) := (h3.box1 0).1
  have hg : ∀ A, Below w1.heap.size w1 A → Calls Try.prog 101 #[.pointer (some ⟨h1, 0, none⟩), .int .i64 id] A fun e w' => e = .returned (.tuple #[.agg #[.int .i64 (keyAt 0 S id), .int .i64 (idAt S id)], .int .i64 (hasE S id)]) ∧ Below A.heap.size A w' := fun A hA => by
    have hg := Ke.KU_get ((h3.below hA).sw0) (by rw [itq_length]; exact hl) id hw
    rw [itq_keyAt hd, itq_hasE] at hg
    exact hg
  obtain ⟨a1, ha1⟩ : ∃ a, keyAt 0 S id = a := ⟨_, rfl⟩
  obtain ⟨a2, ha2⟩ : ∃ a, idAt S id = a := ⟨_, rfl⟩
  simp only [ha1, ha2] at hg
  obtain ⟨te, hte⟩ : ∃ te, timeE t = te := ⟨_, rfl⟩
  have HT := Lib.hid (time_any t w1)
  have HB := Lib.hid hb1
  have hba : Below w1.heap.size w1 ((w1.alloc (.cells #[.int .i64 0, .int .i64 0] 24)).drew) := ((Below.refl _ w1).alloc (Nat.le_refl _) _).drew
  have hpa : (w1.alloc (.cells #[.int .i64 0, .int .i64 0] 24)).drew.heap[w1.heap.size]? = some (.cells #[.int .i64 0, .int .i64 0] 24 (0, 0)) := heap_alloc_new w1 _
  have hn3 := World.new_ne w1 _ c0
  have hn4 := World.new_ne w1 _ p1
  have HBa := Lib.hid hba
  have HPa := Lib.hid hpa
  clear hba hpa
  unfold checkE
  rw [hte]
  rw [hte] at HT
  by_cases hneg : id < 0
  · rw [if_pos hneg]
    have hng : (id < 0) = True := by simp [hneg]
    clear h h3 hg hd ha1 ha2 hb1 hte
    go_enter Try.func138, Try.ntmps138
    go_wp2
    go_ret
    exact ⟨rfl, HB.out⟩
  · rw [if_neg hneg]
    by_cases ht0 : te = 0
    · rw [if_pos ht0]
      subst ht0
      unfold hasE at hg
      cases hh : has S id with
      | true =>
        simp only [hh, if_true] at hg
        rw [if_pos rfl]
        have HG := Lib.hid hg
        clear h h3 hg hd ha1 ha2 hb1 hte hh
        go_enter Try.func138, Try.ntmps138
        go_wp2_with fail
        refine HT.out.mono ?_
        rintro e w' ⟨rfl, rfl⟩
        go_wp2_with fail
        go_region_held3 (fun A0 => A0.cell? ⟨qb, 0, none⟩ = some (.pointer (some ⟨h1, 0, none⟩)) ∧ A0.cell? ⟨w.heap.size, 1, none⟩ = some (.int .i64 id))
          (first | (refine ⟨?_, ?_⟩ <;> assumption) | go_keep)
          (first
            | (go_at_call 101; refine (HG.out ((w1.alloc (.cells #[.int .i64 0, .int .i64 0] 24)).drew) HBa.out).mono ?_; rintro e w2 ⟨rfl, hb2⟩; have k0 := zatB (zatB c0 HBa.out) hb2; have k1 := zatB (zatB p1 HBa.out) hb2; have o2 := (Mod.of_below (S := none') hb2).obj HPa.out (fun h => h); have k2 : w2.cell? ⟨w1.heap.size, 0, none⟩ = some (.int .i64 0) := (by simp [World.cell?, o2]); have k3 : w2.cell? ⟨w1.heap.size, 1, none⟩ = some (.int .i64 0) := (by simp [World.cell?, o2]); have k4 : w2.frozen? ⟨w1.heap.size, 0, none⟩ = false := (by simp [World.frozen?, o2]); have k5 : w2.frozen? ⟨w1.heap.size, 1, none⟩ = false := (by simp [World.frozen?, o2]); have HB2 := Lib.hid (HB.out.trans (HBa.out.trans (hb2.mono HBa.out.size) |>.mono HB.out.size)); clear hb2 o2)
            | (go_at_call 101; refine (HG.out w1.drew ((Below.refl _ w1).drew)).mono ?_; rintro e w2 ⟨rfl, hb2⟩; have k0 := zatB (w := w1.drew) c0 hb2; have k1 := zatB (w := w1.drew) p1 hb2; have HB2 := Lib.hid (HB.out.drew.trans (hb2.mono HB.out.size)); have hn1 := World.new_ne w2 _ k0; have hn2 := World.new_ne w2 _ k1; clear hb2))
        all_goals go_wp2_with fail
        all_goals go_ret
        · exact ⟨rfl, HB2.out.alloc HB2.out.size _⟩
        · exact ⟨rfl, (HB2.out.setCell (p := ⟨w1.heap.size, 0, none⟩) HB.out.size _).setCell (p := ⟨w1.heap.size, 1, none⟩) HB.out.size _⟩
      | false =>
        simp only [hh, Bool.false_eq_true, if_false] at hg
        rw [if_neg (by simp)]
        have HG := Lib.hid hg
        clear h h3 hg hd ha1 ha2 hb1 hte hh
        go_enter Try.func138, Try.ntmps138
        go_wp2_with fail
        refine HT.out.mono ?_
        rintro e w' ⟨rfl, rfl⟩
        go_wp2_with fail
        go_region_held3 (fun A0 => A0.cell? ⟨qb, 0, none⟩ = some (.pointer (some ⟨h1, 0, none⟩)) ∧ A0.cell? ⟨w.heap.size, 1, none⟩ = some (.int .i64 id))
          (first | (refine ⟨?_, ?_⟩ <;> assumption) | go_keep)
          (first
            | (go_at_call 101; refine (HG.out ((w1.alloc (.cells #[.int .i64 0, .int .i64 0] 24)).drew) HBa.out).mono ?_; rintro e w2 ⟨rfl, hb2⟩; have k0 := zatB (zatB c0 HBa.out) hb2; have k1 := zatB (zatB p1 HBa.out) hb2; have o2 := (Mod.of_below (S := none') hb2).obj HPa.out (fun h => h); have k2 : w2.cell? ⟨w1.heap.size, 0, none⟩ = some (.int .i64 0) := (by simp [World.cell?, o2]); have k3 : w2.cell? ⟨w1.heap.size, 1, none⟩ = some (.int .i64 0) := (by simp [World.cell?, o2]); have k4 : w2.frozen? ⟨w1.heap.size, 0, none⟩ = false := (by simp [World.frozen?, o2]); have k5 : w2.frozen? ⟨w1.heap.size, 1, none⟩ = false := (by simp [World.frozen?, o2]); have HB2 := Lib.hid (HB.out.trans (HBa.out.trans (hb2.mono HBa.out.size) |>.mono HB.out.size)); clear hb2 o2)
            | (go_at_call 101; refine (HG.out w1.drew ((Below.refl _ w1).drew)).mono ?_; rintro e w2 ⟨rfl, hb2⟩; have k0 := zatB (w := w1.drew) c0 hb2; have k1 := zatB (w := w1.drew) p1 hb2; have HB2 := Lib.hid (HB.out.drew.trans (hb2.mono HB.out.size)); have hn1 := World.new_ne w2 _ k0; have hn2 := World.new_ne w2 _ k1; clear hb2))
        all_goals go_wp2_with fail
        all_goals go_ret
        · exact ⟨rfl, HB2.out.alloc HB2.out.size _⟩
        · exact ⟨rfl, (HB2.out.setCell (p := ⟨w1.heap.size, 0, none⟩) HB.out.size _).setCell (p := ⟨w1.heap.size, 1, none⟩) HB.out.size _⟩
    · rw [if_neg ht0]
      have hne : (te == 0) = false := by simp [ht0]
      clear h h3 hg hd ha1 ha2 hb1 hte
      go_enter Try.func138, Try.ntmps138
      go_wp2_with fail
      refine HT.out.mono ?_
      rintro e w' ⟨rfl, rfl⟩
      go_wp2
      go_ret
      exact ⟨rfl, HB.out⟩
end
end Go.Proofs.Ytkjpkhpiojahkaa

/-! ### Walks: a queue's Move, Copy. -/
namespace Go.Proofs.Ytkjpkhpiojahkaa
set_option linter.unusedVariables false
open Go.RowKit Hp

section
variable {w0 w : World} {qb : Nat} {S : List (It Int)} {R : Ast}

set_option maxRecDepth 100000 in
set_option maxHeartbeats 8000000 in
theorem Q_move (h : On w0 w (sep (quA qb S) R)) (hl : S.length < 900000) (t id : Int) (hw : (Lit.int .i64 id).wf = true) :
    Calls Try.prog 36 #[.pointer (some ⟨qb, 0, none⟩), .agg #[.int .i64 t, .int .i64 id]] w fun e w' => e = .returned (.int .i64 (moveE S t id)) ∧ On w0 w' (sep (quA qb (moveS S t id)) R) := by
  obtain ⟨b, hbb⟩ : ∃ b, w.heap.size = b := ⟨_, rfl⟩
  obtain ⟨w1, hw1⟩ : ∃ w1, w.alloc (.cells #[.int .i64 t, .int .i64 id] 24) = w1 := ⟨_, rfl⟩
  have h3 := h.new1 24 #[.int .i64 t, .int .i64 id]
  rw [hw1, hbb] at h3
  have p0 : w1.cell? ⟨b, 0, none⟩ = some (.int .i64 t) := (h3.box1 0).1
  have p1 : w1.cell? ⟨b, 1, none⟩ = some (.int .i64 id) := (h3.box1 1).1
  have hg := Q_get (h3.sw0) hl id hw
  obtain ⟨a1, ha1⟩ : ∃ a, keyAt 0 S id = a := ⟨_, rfl⟩
  obtain ⟨a2, ha2⟩ : ∃ a, idAt S id = a := ⟨_, rfl⟩
  rw [ha1, ha2] at hg
  obtain ⟨te, hte⟩ : ∃ te, timeE t = te := ⟨_, rfl⟩
  have HT := Lib.hid (time_any t)
  unfold moveE moveS
  rw [hte]
  rw [hte] at HT
  unfold hasE at hg
  have H3 := Lib.hid h3
  have HTe := Lib.hid hte
  clear h h3 ha1 ha2 hte
  cases hh : has S id with
  | false =>
    simp only [hh, Bool.false_eq_true, if_false] at hg
    simp only [Bool.false_eq_true, if_false]
    have HG := Lib.hid hg
    clear hg hh
    go_enter Try.func36, Try.ntmps36
    go_wp2_with fail
    refine HG.out.mono ?_
    rintro e w2 ⟨rfl, hb2⟩
    have hb3 : Below w1.heap.size w1 (w2.alloc (.cells #[.int .i64 a1, .int .i64 a2] 24)) := hb2.alloc hb2.size _
    have HO := Lib.hid (H3.out.below hb3).out1
    clear hb2 hb3
    go_wp2
    go_ret
    exact ⟨rfl, HO.out⟩
  | true =>
    simp only [hh, if_true] at hg
    simp only [if_true]
    have HG := Lib.hid hg
    have HHh := Lib.hid hh
    clear hg hh
    by_cases ht0 : te = 0
    · rw [if_pos ht0]
      subst ht0
      go_enter Try.func36, Try.ntmps36
      go_wp2_with fail
      refine HG.out.mono ?_
      rintro e w2 ⟨rfl, hb2⟩
      obtain ⟨w3, hw3⟩ : ∃ w3, w2.alloc (.cells #[.int .i64 a1, .int .i64 a2] 24) = w3 := ⟨_, rfl⟩
      have hb3 : Below w1.heap.size w1 w3 := by rw [← hw3]; exact hb2.alloc hb2.size _
      have q0 := zatB p0 hb3
      have q1 := zatB p1 hb3
      have h4 := H3.out.below hb3
      have H4 := Lib.hid h4
      clear hb2 hb3 p0 p1 h4
      go_wp2_with fail
      refine (HT.out _).mono ?_
      rintro e w' ⟨rfl, rfl⟩
      obtain ⟨h1, h2, h5⟩ := (H4.out.sw0).qu_open
      have h5 := h5.below ((Below.refl _ w3).drew)
      have c0 : w3.cell? ⟨qb, 0, none⟩ = some (.pointer (some ⟨h1, 0, none⟩)) := (h5.box1 0).1
      have hc := Ke.KU_change Ke.lessB (h5.sw0) (by rw [itq_length]; exact hl) id (t, id) hw
      rw [itq_hasE, show hasE S id = 0 by unfold hasE; rw [HHh.out]; rfl] at hc
      have HCh := Lib.hid hc
      clear h5 hc
      go_wp2_with fail
      go_region_held3 (fun A0 => A0.cell? ⟨qb, 0, none⟩ = some (.pointer (some ⟨h1, 0, none⟩)) ∧ A0.cell? ⟨b, 0, none⟩ = some (.int .i64 t) ∧ A0.cell? ⟨b, 1, none⟩ = some (.int .i64 id))
        (first | (refine ⟨?_, ?_, ?_⟩ <;> assumption) | go_keep)
        (first
          | (go_at_call 103; refine HCh.out.mono ?_; rintro e w5 ⟨rfl, k5⟩; have r0 : w5.cell? ⟨qb, 0, none⟩ = some (.pointer (some ⟨h1, 0, none⟩)) := ((k5.sw0).box1 0).1; have r1 : w5.cell? ⟨qb, 1, none⟩ = some (.pointer (some ⟨h2, 0, none⟩)) := ((k5.sw0).box1 1).1; have r2 : w5.cell? ⟨b, 0, none⟩ = some (.int .i64 t) := ((k5.sw2.sw1.sw0).box1 0).1; have r3 : w5.cell? ⟨b, 1, none⟩ = some (.int .i64 id) := ((k5.sw2.sw1.sw0).box1 1).1; have K5 := Lib.hid (k5.mono1 fun F => Ke.permK itq_ch F); clear k5))
      have h6 := K5.out.below ((Below.refl _ w5).drew)
      have hc2 := Ke.KU_change Ke.lessF (h6.sw1.sw0) (by rw [itq_length]; exact hl) id (t, id) hw
      rw [itq_hasE, show hasE S id = 0 by unfold hasE; rw [HHh.out]; rfl] at hc2
      have HCh2 := Lib.hid hc2
      clear h6 hc2
      go_wp2_with fail
      go_region_held3 (fun A0 => A0.cell? ⟨qb, 1, none⟩ = some (.pointer (some ⟨h2, 0, none⟩)) ∧ A0.cell? ⟨b, 0, none⟩ = some (.int .i64 t) ∧ A0.cell? ⟨b, 1, none⟩ = some (.int .i64 id))
        (first | (refine ⟨?_, ?_, ?_⟩ <;> assumption) | go_keep)
        (first
          | (go_at_call 103; refine HCh2.out.mono ?_; rintro e w6 ⟨rfl, k6⟩; have s1 : w6.cell? ⟨qb, 1, none⟩ = some (.pointer (some ⟨h2, 0, none⟩)) := ((k6.sw1.sw0).box1 1).1; have s2 : w6.cell? ⟨b, 0, none⟩ = some (.int .i64 t) := ((k6.sw2.sw1.sw0).box1 0).1; have s3 : w6.cell? ⟨b, 1, none⟩ = some (.int .i64 id) := ((k6.sw2.sw1.sw0).box1 1).1; have K6 := Lib.hid (k6.mono1 fun F => Ke.permK itq_ch F); clear k6))
      go_wp2_with fail
      go_ret
      exact ⟨rfl, (K6.out.sw1.sw0.sw1).qu_shut.sw0.out1⟩
    · rw [if_neg ht0]
      have hne : (te == 0) = false := by simp [ht0]
      go_enter Try.func36, Try.ntmps36
      go_wp2_with fail
      refine HG.out.mono ?_
      rintro e w2 ⟨rfl, hb2⟩
      obtain ⟨w3, hw3⟩ : ∃ w3, w2.alloc (.cells #[.int .i64 a1, .int .i64 a2] 24) = w3 := ⟨_, rfl⟩
      have hb3 : Below w1.heap.size w1 w3 := by rw [← hw3]; exact hb2.alloc hb2.size _
      have q0 := zatB p0 hb3
      have q1 := zatB p1 hb3
      have HO := Lib.hid (H3.out.below hb3).out1
      clear hb2 hb3 p0 p1
      go_wp2_with fail
      refine (HT.out _).mono ?_
      rintro e w' ⟨rfl, rfl⟩
      go_wp2
      go_ret
      exact ⟨rfl, HO.out⟩

set_option maxRecDepth 100000 in
set_option maxHeartbeats 4000000 in
theorem Q_copy (h : On w0 w (sep (quA qb S) R)) (hl : S.length < 900000) :
    Calls Try.prog 38 #[.pointer (some ⟨qb, 0, none⟩)] w fun e w' => ∃ qc, e = .returned (.pointer (some ⟨qc, 0, none⟩)) ∧ On w0 w' (sep (quA qc S) (sep (quA qb S) R)) := by
  obtain ⟨h1, h2, h⟩ := h.qu_open
  have h0 := h.below ((Below.refl _ w).drew)
  have c0 : w.cell? ⟨qb, 0, none⟩ = some (.pointer (some ⟨h1, 0, none⟩)) := (h.box1 0).1
  have c1 : w.cell? ⟨qb, 1, none⟩ = some (.pointer (some ⟨h2, 0, none⟩)) := (h.box1 1).1
  have HC1 := Lib.hid (Ke.KU_copy (h0.sw0) (by rw [itq_length]; exact hl))
  clear h h0
  go_enter Try.func38, Try.ntmps38
  go_wp2_with fail
  go_region_held3 (fun A0 => A0.cell? ⟨qb, 0, none⟩ = some (.pointer (some ⟨h1, 0, none⟩)) ∧ A0.cell? ⟨qb, 1, none⟩ = some (.pointer (some ⟨h2, 0, none⟩)))
    (first | (refine ⟨?_, ?_⟩ <;> assumption) | go_keep)
    (first
      | (go_at_call 105; ((with_reducible refine HC1.out.mono ?_); rintro e w2 ⟨g1, rfl, k2⟩; have r0 : w2.cell? ⟨qb, 0, none⟩ = some (.pointer (some ⟨h1, 0, none⟩)) := ((k2.sw1.sw0).box1 0).1; have r1 : w2.cell? ⟨qb, 1, none⟩ = some (.pointer (some ⟨h2, 0, none⟩)) := ((k2.sw1.sw0).box1 1).1; have HC2 := Lib.hid (Ke.KU_copy (k2.sw2.sw1.sw0) (by rw [itq_length]; exact hl)); clear k2))
      | (go_at_call 105; ((with_reducible refine HC2.out.mono ?_); rintro e w3 ⟨g2, rfl, k3⟩; have s0 : w3.cell? ⟨qb, 0, none⟩ = some (.pointer (some ⟨h1, 0, none⟩)) := ((k3.sw3.sw2.sw1.sw0).box1 0).1; have s1 : w3.cell? ⟨qb, 1, none⟩ = some (.pointer (some ⟨h2, 0, none⟩)) := ((k3.sw3.sw2.sw1.sw0).box1 1).1; have K3 := Lib.hid k3; have hn1 := World.new_ne w3 _ s0; clear k3)))
  go_wp2_with fail
  go_ret
  have hon := K3.out.new1 138 #[.pointer (some ⟨g1, 0, none⟩), .pointer (some ⟨g2, 0, none⟩)]
  have h5 := (hon.sw2.sw1.sw4.sw3.sw4).qu_shut
  exact ⟨_, rfl, (h5.sw0.sw1.sw2).qu_shut.sw0⟩
end
end Go.Proofs.Ytkjpkhpiojahkaa
