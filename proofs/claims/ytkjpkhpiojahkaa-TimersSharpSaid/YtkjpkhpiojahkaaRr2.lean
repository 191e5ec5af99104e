/-
  Walks: the queue and the document's answer do a call.
-/
import Derived.Test.YtkjpkhpiojahkaaRr1
import Derived.Deep.RegionHeld3
namespace Go.Proofs.Ytkjpkhpiojahkaa
set_option linter.unusedVariables false
open Go.RowKit Hp
attribute [local go_sem] Oper.semAt_some

namespace Hp
/-- what a Put of any keys leaves -/
def putL (S : List (It Int)) (ks : List (Int × Int)) : List (It Int) := if ∀ j, j < ks.length → okAt S ks j then putAll S ks else S
def stepQ (S : List (It Int)) (ask t id : Int) (ks : List (Int × Int)) : List (It Int) := if ask = 0 then putL S ks else if ask = 1 then moveS S t id else if ask = 2 then without S id else S
section
variable {S : List (It Int)} {ks : List (Int × Int)} {ask t id : Int}
theorem putL_eq {i : Nat} (hi : i ≤ ks.length) (h1 : ∀ j, j < i → okAt S ks j) (h2 : i < ks.length → ¬ okAt S ks i) : putT S ks ks.length i = putL S ks := by
  unfold putT putL
  by_cases h : i < ks.length
  · rw [if_pos h, if_neg (fun hh => h2 h (hh i h))]
  · rw [if_neg h, if_pos (fun j hj => h1 j (by omega))]
    rfl
theorem putL_sorted (hs : Sorted ltI S) : Sorted ltI (putL S ks) := by
  unfold putL
  split
  · exact putAll_sorted hs
  · exact hs
theorem putL_length : (putL S ks).length ≤ S.length + ks.length := by
  unfold putL
  split
  · exact addN_length _
  · omega
theorem moveS_sorted (hs : Sorted ltI S) : Sorted ltI (moveS S t id) := by
  unfold moveS
  split
  · split
    · exact chS_sorted ltI_swo hs
    · exact hs
  · exact hs
theorem moveS_length : (moveS S t id).length ≤ S.length := by
  unfold moveS
  split
  · split
    · rename_i h _
      unfold chS
      rw [if_pos h, (ins_perm _ _).length_eq, List.length_cons]
      obtain ⟨k, hk⟩ := has_some h
      have : (without S id).length < S.length := by
        refine Nat.lt_of_le_of_ne without_length_le fun e => ?_
        have e2 : without S id = S := without_sub.eq_of_length e
        have := without_gone (S := S) (id := id) (id, k) (by rw [e2]; exact hk)
        exact this rfl
      omega
    · exact Nat.le_refl _
  · exact Nat.le_refl _
theorem stepQ_sorted (hs : Sorted ltI S) : Sorted ltI (stepQ S ask t id ks) := by
  unfold stepQ
  split
  · exact putL_sorted hs
  · split
    · exact moveS_sorted hs
    · split
      · exact without_sorted hs
      · exact hs
theorem stepQ_length : (stepQ S ask t id ks).length ≤ S.length + ks.length := by
  unfold stepQ
  split
  · exact putL_length
  · split
    · exact Nat.le_trans moveS_length (by omega)
    · split
      · exact Nat.le_trans without_length_le (by omega)
      · omega
end
end Hp

section
variable {w0 w : World} {qb rb : Nat} {S : List (It Int)} {R : Ast} {ask t id : Int} {la : Option Addr} {lc : Nat} {ks : List (Int × Int)}

set_option maxRecDepth 100000 in
set_option maxHeartbeats 4000000 in
theorem does4_put (h : On w0 w (sep (quA qb S) (sep (refA rb S) R))) (hl : S.length + ks.length < 700000) (hL : Ke.KeysAt w0 la ks) (hwf : ∀ k ∈ ks, (Lit.int .i64 k.2).wf = true) (hcap : ks.length ≤ lc) (hcm : lc ≤ 9223372036854775807) :
    Calls Try.prog 28 #[.pointer (some ⟨qb, 0, none⟩), .pointer (some ⟨rb, 0, none⟩), .agg #[.int .i64 0, .int .i64 t, .int .i64 id, .slice la ks.length lc]] w fun e w' => e = .returned (.bool true) ∧ On w0 w' (sep (quA qb (putL S ks)) (sep (refA rb (putL S ks)) R)) := by
  obtain ⟨n, hn⟩ : ∃ n, ks.length = n := ⟨_, rfl⟩
  obtain ⟨w1, hw1⟩ : ∃ w1, w.alloc (.cells #[.int .i64 0, .int .i64 t, .int .i64 id, .slice la n lc] 35) = w1 := ⟨_, rfl⟩
  obtain ⟨b, hb'⟩ : ∃ b, w.heap.size = b := ⟨_, rfl⟩
  have h1 : On w0 w1 (sep (quA qb S) (sep (refA rb S) (sep (boxA b 35 #[.int .i64 0, .int .i64 t, .int .i64 id, .slice la n lc]) R))) := by
    rw [← hw1, ← hb']
    exact h.new3 35 _
  have c0 : w1.cell? ⟨b, 0, none⟩ = some (.int .i64 0) := h1.box3 0
  have c3 : w1.cell? ⟨b, 3, none⟩ = some (.slice la n lc) := h1.box3 3
  have hd := h1.below ((Below.refl _ w1).drew)
  obtain ⟨i, hi1, hi2, hi3⟩ := first_bad (okAt S ks) ks.length
  have hbad : i < ks.length → checkE (addN S ks i) (kj ks i).1 (kj ks i).2 ≠ 0 := hi3
  have hput := Q_put hd la lc ks (fun A T hA => keysAt_below hL hA.to_below) hwf hcap hcm (by omega) i hi1 hi2 _ rfl (fun hi => by rw [if_pos hi]; exact hbad hi)
  have hrput := fun (A : World) (T : List (It Int)) (hA : On w0 A (sep (quA qb T) (sep (refA rb S) (sep (boxA b 35 #[.int .i64 0, .int .i64 t, .int .i64 id, .slice la n lc]) R)))) =>
    RR_put hA.left la lc ks (fun A hA => keysAt_below hL hA.to_below) (by omega) i hi1 hi2 _ rfl (fun hi => by rw [if_pos hi]; exact hbad hi)
  obtain ⟨ee, hee⟩ : ∃ ee, (if i < ks.length then checkE (addN S ks i) (kj ks i).1 (kj ks i).2 else 0) = ee := ⟨_, rfl⟩
  have hee2 : (if i < ks.length then checkE (addN S ks i) (ks[i]?.getD (0, 0)).1 (ks[i]?.getD (0, 0)).2 else 0) = ee := hee
  rw [hee2, putL_eq hi1 hi2 hi3, hn] at hput
  simp only [hee] at hrput
  simp only [putL_eq hi1 hi2 hi3] at hrput
  simp only [hn] at hrput
  have hcl : ∀ (A : World) S1 S2, On w0 A (sep (quA qb S1) (sep (refA rb S2) (sep (boxA b 35 #[.int .i64 0, .int .i64 t, .int .i64 id, .slice la n lc]) R))) → A.cell? ⟨b, 3, none⟩ = some (.slice la n lc) := fun A S1 S2 hA => hA.box3 3
  rw [hn]
  have HPut := Lib.hid hput
  have HRput := Lib.hid hrput
  have HCl := Lib.hid hcl
  clear h h1 hd hput hrput hcl hee hee2 hi1 hi2 hi3 hbad hL hwf
  go_enter Try.func28, Try.ntmps28
  go_wp2_with fail
  go_region_held3 (fun A0 => A0.cell? ⟨b, 3, none⟩ = some (.slice la n lc))
    (first | assumption | go_keep)
    (first
      | (go_at_call 92; refine HPut.out.mono ?_; rintro e A1 ⟨rfl, h1⟩; have k0 := HCl.out A1 _ _ h1; have H1 := Lib.hid h1; clear h1)
      | (go_at_call 93; refine (HRput.out _ _ H1.out).mono ?_; rintro e A2 ⟨rfl, h2⟩; have l0 := HCl.out A2 _ _ h2.left; have H2 := Lib.hid h2.left; clear h2))
  go_wp2
  go_ret
  exact ⟨rfl, H2.out.drop3⟩

set_option maxRecDepth 100000 in
set_option maxHeartbeats 4000000 in
theorem does4_move (h : On w0 w (sep (quA qb S) (sep (refA rb S) R))) (hl : S.length < 700000) (hw : (Lit.int .i64 id).wf = true) (n : Nat) :
    Calls Try.prog 28 #[.pointer (some ⟨qb, 0, none⟩), .pointer (some ⟨rb, 0, none⟩), .agg #[.int .i64 1, .int .i64 t, .int .i64 id, .slice la n lc]] w fun e w' => e = .returned (.bool true) ∧ On w0 w' (sep (quA qb (moveS S t id)) (sep (refA rb (moveS S t id)) R)) := by
  have hdist := h.qu_distinct
  obtain ⟨w1, hw1⟩ : ∃ w1, w.alloc (.cells #[.int .i64 1, .int .i64 t, .int .i64 id, .slice la n lc] 35) = w1 := ⟨_, rfl⟩
  obtain ⟨b, hb'⟩ : ∃ b, w.heap.size = b := ⟨_, rfl⟩
  have h1 : On w0 w1 (sep (quA qb S) (sep (refA rb S) (sep (boxA b 35 #[.int .i64 1, .int .i64 t, .int .i64 id, .slice la n lc]) R))) := by
    rw [← hw1, ← hb']
    exact h.new3 35 _
  have c0 : w1.cell? ⟨b, 0, none⟩ = some (.int .i64 1) := h1.box3 0
  have c1 : w1.cell? ⟨b, 1, none⟩ = some (.int .i64 t) := h1.box3 1
  have c2 : w1.cell? ⟨b, 2, none⟩ = some (.int .i64 id) := h1.box3 2
  have hd := h1.below ((Below.refl _ w1).drew)
  have hput := Q_move hd (by omega) t id hw
  have hrput := fun (A : World) (T : List (It Int)) (hA : On w0 A (sep (quA qb T) (sep (refA rb S) (sep (boxA b 35 #[.int .i64 1, .int .i64 t, .int .i64 id, .slice la n lc]) R)))) =>
    RR_move hA.left hdist (by omega) t id
  obtain ⟨ee, hee⟩ : ∃ ee, moveE S t id = ee := ⟨_, rfl⟩
  rw [hee] at hput
  simp only [hee] at hrput
  have hcl : ∀ (A : World) S1 S2, On w0 A (sep (quA qb S1) (sep (refA rb S2) (sep (boxA b 35 #[.int .i64 1, .int .i64 t, .int .i64 id, .slice la n lc]) R))) → A.cell? ⟨b, 1, none⟩ = some (.int .i64 t) ∧ A.cell? ⟨b, 2, none⟩ = some (.int .i64 id) := fun A S1 S2 hA => ⟨hA.box3 1, hA.box3 2⟩
  have HPut := Lib.hid hput
  have HRput := Lib.hid hrput
  have HCl := Lib.hid hcl
  clear h h1 hd hput hrput hcl hee hdist
  go_enter Try.func28, Try.ntmps28
  go_wp2_with fail
  go_region_held3 (fun A0 => A0.cell? ⟨b, 1, none⟩ = some (.int .i64 t) ∧ A0.cell? ⟨b, 2, none⟩ = some (.int .i64 id))
    (first | (refine ⟨?_, ?_⟩ <;> assumption) | go_keep)
    (first
      | (go_at_call 36; refine HPut.out.mono ?_; rintro e A1 ⟨rfl, h1⟩; obtain ⟨k0, k1⟩ := HCl.out A1 _ _ h1; have H1 := Lib.hid h1; clear h1)
      | (go_at_call 94; refine (HRput.out _ _ H1.out).mono ?_; rintro e A2 ⟨rfl, h2⟩; obtain ⟨l0, l1⟩ := HCl.out A2 _ _ h2.left; have H2 := Lib.hid h2.left; clear h2))
  go_wp2
  go_ret
  exact ⟨rfl, H2.out.drop3⟩
set_option maxRecDepth 100000 in
set_option maxHeartbeats 4000000 in
theorem does4_drop (h : On w0 w (sep (quA qb S) (sep (refA rb S) R))) (hl : S.length < 700000) (hw : (Lit.int .i64 id).wf = true) (n : Nat) :
    Calls Try.prog 28 #[.pointer (some ⟨qb, 0, none⟩), .pointer (some ⟨rb, 0, none⟩), .agg #[.int .i64 2, .int .i64 t, .int .i64 id, .slice la n lc]] w fun e w' => e = .returned (.bool true) ∧ On w0 w' (sep (quA qb (without S id)) (sep (refA rb (without S id)) R)) := by
  have hdist := h.qu_distinct
  obtain ⟨w1, hw1⟩ : ∃ w1, w.alloc (.cells #[.int .i64 2, .int .i64 t, .int .i64 id, .slice la n lc] 35) = w1 := ⟨_, rfl⟩
  obtain ⟨b, hb'⟩ : ∃ b, w.heap.size = b := ⟨_, rfl⟩
  have h1 : On w0 w1 (sep (quA qb S) (sep (refA rb S) (sep (boxA b 35 #[.int .i64 2, .int .i64 t, .int .i64 id, .slice la n lc]) R))) := by
    rw [← hw1, ← hb']
    exact h.new3 35 _
  have c0 : w1.cell? ⟨b, 0, none⟩ = some (.int .i64 2) := h1.box3 0
  have c2 : w1.cell? ⟨b, 2, none⟩ = some (.int .i64 id) := h1.box3 2
  have hat := R_at h1.left (by omega) id
  have hget := Q_get h1 (by omega) id hw
  cases hh : has S id with
  | false =>
    have he : hasE S id = 14 := by unfold hasE; rw [hh]; rfl
    have hka : keyAt 0 S id = 0 := keyAt_none hh
    have hia : idAt S id = 0 := by unfold idAt; rw [hh]; rfl
    have ha' : (if has S id = true then (idx S id : Int) else -1) = -1 := by rw [hh]; rfl
    rw [ha'] at hat
    rw [he, hka, hia] at hget
    have HAt := Lib.hid hat
    have HGet := Lib.hid hget
    have H1 := Lib.hid h1
    have HDr := Lib.hid (fun (A : World) (R' : Ast) (hA : On w0 A (sep (quA qb S) R')) => Q_drop hA (by omega) id hw)
    simp only [he, hka, hia] at HDr
    have hwo := without_none hh
    simp only [hwo] at HDr
    rw [hwo]
    clear h h1 hat hget hdist he hka hia ha' hh hwo
    go_enter Try.func28, Try.ntmps28
    go_wp2_with fail
    refine HAt.out.mono ?_
    rintro e w2 ⟨rfl, rfl⟩
    go_wp2_with fail
    refine HGet.out.mono ?_
    rintro e w2 ⟨rfl, hb2⟩
    obtain ⟨kb, hkb⟩ : ∃ kb, w2.heap.size = kb := ⟨_, rfl⟩
    obtain ⟨wz, hwz⟩ : ∃ wz, w2.alloc (.cells #[.int .i64 0, .int .i64 0] 24) = wz := ⟨_, rfl⟩
    have hz := (H1.out.below hb2).new1 24 #[.int .i64 0, .int .i64 0]
    rw [hwz, hkb] at hz
    have z0 : wz.cell? ⟨kb, 0, none⟩ = some (.int .i64 0) := (hz.box1 0).1
    have z1 : wz.cell? ⟨kb, 1, none⟩ = some (.int .i64 0) := (hz.box1 1).1
    have z2 : wz.frozen? ⟨kb, 0, none⟩ = false := (hz.box1 0).2
    have z3 : wz.frozen? ⟨kb, 1, none⟩ = false := (hz.box1 1).2
    obtain ⟨w3, hw3⟩ : ∃ w3, (wz.setCell ⟨kb, 0, none⟩ (.int .i64 0)).setCell ⟨kb, 1, none⟩ (.int .i64 0) = w3 := ⟨_, rfl⟩
    have h3 : On w0 w3 (sep (boxA kb 24 #[.int .i64 0, .int .i64 0]) (sep (quA qb S) (sep (refA rb S) (sep (boxA b 35 #[.int .i64 2, .int .i64 t, .int .i64 id, .slice la n lc]) R)))) := by
      rw [← hw3]; exact (hz.box_set 0 (.int .i64 0)).box_set 1 (.int .i64 0)
    have d0 : w3.cell? ⟨b, 0, none⟩ = some (.int .i64 2) := ((h3.sw2.sw1.sw0).box1 0).1
    have d2 : w3.cell? ⟨b, 2, none⟩ = some (.int .i64 id) := ((h3.sw2.sw1.sw0).box1 2).1
    have k0 : w3.cell? ⟨kb, 0, none⟩ = some (.int .i64 0) := (h3.box1 0).1
    have hdr := HDr.out w3 _ (h3.sw0)
    have HDr3 := Lib.hid hdr
    clear h3 hdr hb2 c0 c2
    go_wp2_with fail
    clear hw3 hkb d0 d2 k0
    refine HDr3.out.mono ?_
    rintro e w5 ⟨rfl, h5⟩
    have g0 : w5.cell? ⟨kb, 0, none⟩ = some (.int .i64 0) := (h5.sw0.box1 0).1
    have g1 : w5.cell? ⟨kb, 1, none⟩ = some (.int .i64 0) := (h5.sw0.box1 1).1
    have g2 : w5.frozen? ⟨kb, 0, none⟩ = false := (h5.sw0.box1 0).2
    have g3 : w5.frozen? ⟨kb, 1, none⟩ = false := (h5.sw0.box1 1).2
    obtain ⟨w6, hw6⟩ : ∃ w6, (w5.setCell ⟨kb, 0, none⟩ (.int .i64 0)).setCell ⟨kb, 1, none⟩ (.int .i64 0) = w6 := ⟨_, rfl⟩
    have h6 := (h5.sw0.box_set 0 (.int .i64 0)).box_set 1 (.int .i64 0)
    rw [hw6] at h6
    have d0 : w6.cell? ⟨b, 0, none⟩ = some (.int .i64 2) := ((h6.sw2.sw1.sw0).box1 0).1
    have d2 : w6.cell? ⟨b, 2, none⟩ = some (.int .i64 id) := ((h6.sw2.sw1.sw0).box1 2).1
    have k0 : w6.cell? ⟨kb, 0, none⟩ = some (.int .i64 0) := (h6.box1 0).1
    have k1 : w6.cell? ⟨kb, 1, none⟩ = some (.int .i64 0) := (h6.box1 1).1
    have hq : ∀ w, (binOp BinOp.eql 24 (.agg #[.int .i64 0, .int .i64 0]) (.agg #[.int .i64 0, .int .i64 0])).run Try.prog w = .ok (.bool true) w := fun w => by rw [eql32]; simp
    have H9 := Lib.hid h6.out1.drop3
    clear h6 h5
    go_wp2_with fail
    go_ret
    exact ⟨rfl, H9.out⟩
  | true =>
    have he : hasE S id = 0 := by unfold hasE; rw [hh]; rfl
    obtain ⟨k, hix⟩ := idx_some hh
    have hka : keyAt 0 S id = k := keyAt_mem hdist (List.mem_of_getElem? hix)
    have hia : idAt S id = id := by unfold idAt; rw [hh]; rfl
    have ha' : (if has S id = true then (idx S id : Int) else -1) = (idx S id : Int) := by rw [hh]; rfl
    have hil := idx_lt.2 hh
    rw [ha'] at hat
    rw [he, hka, hia] at hget
    obtain ⟨ix, hixx⟩ : ∃ ix : Nat, idx S id = ix := ⟨_, rfl⟩
    rw [hixx] at hat hix hil
    have hng : decide ((ix : Int) < 0) = false := by simp
    have hilI : (ix : Int) < (S.length : Int) := by omega
    have hi0 : (0 : Int) ≤ (ix : Int) := by omega
    have HAt := Lib.hid hat
    have HGet := Lib.hid hget
    have H1 := Lib.hid h1
    have HIx := Lib.hid hix
    have HDr := Lib.hid (fun (A : World) (R' : Ast) (hA : On w0 A (sep (quA qb S) R')) => Q_drop hA (by omega) id hw)
    simp only [he, hka, hia] at HDr
    have HRd := Lib.hid (fun (A : World) (R' : Ast) (hA : On w0 A (sep (refA rb S) R')) => R_drop hA hdist (by omega) id)
    simp only [he, hka] at HRd
    clear h h1 hat hget hdist he hka hia ha' hh hix hil hixx
    go_enter Try.func28, Try.ntmps28
    go_wp2_with fail
    refine HAt.out.mono ?_
    rintro e w2 ⟨rfl, rfl⟩
    go_wp2_with fail
    refine HGet.out.mono ?_
    rintro e w2 ⟨rfl, hb2⟩
    obtain ⟨kb, hkb⟩ : ∃ kb, w2.heap.size = kb := ⟨_, rfl⟩
    obtain ⟨w3, hw3⟩ : ∃ w3, w2.alloc (.cells #[.int .i64 k, .int .i64 id] 24) = w3 := ⟨_, rfl⟩
    have h3 := (H1.out.below hb2).new1 24 #[.int .i64 k, .int .i64 id]
    rw [hw3, hkb] at h3
    have d0 : w3.cell? ⟨b, 0, none⟩ = some (.int .i64 2) := ((h3.sw2.sw1.sw0).box1 0).1
    have d2 : w3.cell? ⟨b, 2, none⟩ = some (.int .i64 id) := ((h3.sw2.sw1.sw0).box1 2).1
    have k0 : w3.cell? ⟨kb, 0, none⟩ = some (.int .i64 k) := (h3.box1 0).1
    have hdr := HDr.out w3 _ (h3.sw0)
    have HDr3 := Lib.hid hdr
    clear h3 hdr hb2 c0 c2
    go_wp2_with fail
    clear hw3 hkb d0 d2 k0
    refine HDr3.out.mono ?_
    rintro e w5 ⟨rfl, h5⟩
    have g0 : w5.cell? ⟨kb, 0, none⟩ = some (.int .i64 k) := (h5.sw0.box1 0).1
    have g1 : w5.cell? ⟨kb, 1, none⟩ = some (.int .i64 id) := (h5.sw0.box1 1).1
    have g2 : w5.frozen? ⟨kb, 0, none⟩ = false := (h5.sw0.box1 0).2
    have g3 : w5.frozen? ⟨kb, 1, none⟩ = false := (h5.sw0.box1 1).2
    obtain ⟨w6, hw6⟩ : ∃ w6, (w5.setCell ⟨kb, 0, none⟩ (.int .i64 k)).setCell ⟨kb, 1, none⟩ (.int .i64 id) = w6 := ⟨_, rfl⟩
    have h6 := (h5.sw0.box_set 0 (.int .i64 k)).box_set 1 (.int .i64 id)
    rw [hw6] at h6
    have d0 : w6.cell? ⟨b, 0, none⟩ = some (.int .i64 2) := ((h6.sw2.sw1.sw0).box1 0).1
    have d2 : w6.cell? ⟨b, 2, none⟩ = some (.int .i64 id) := ((h6.sw2.sw1.sw0).box1 2).1
    have k0 : w6.cell? ⟨kb, 0, none⟩ = some (.int .i64 k) := (h6.box1 0).1
    have k1 : w6.cell? ⟨kb, 1, none⟩ = some (.int .i64 id) := (h6.box1 1).1
    have hq : ∀ w, (binOp BinOp.eql 24 (.agg #[.int .i64 k, .int .i64 id]) (.agg #[.int .i64 k, .int .i64 id])).run Try.prog w = .ok (.bool true) w := fun w => by rw [eql32]; simp
    obtain ⟨v, hraw⟩ := h6.out1.ref2
    obtain ⟨g, cap, rfl, hcap, y0, y1, hgl⟩ := hraw.at HIx.out
    have yc := hraw.c0
    obtain ⟨kb2, hkb2⟩ : ∃ kb2, w6.heap.size = kb2 := ⟨_, rfl⟩
    obtain ⟨w7, hw7⟩ : ∃ w7, w6.alloc (.cells #[.int .i64 k, .int .i64 id] 24) = w7 := ⟨_, rfl⟩
    have h7 := h6.new1 24 #[.int .i64 k, .int .i64 id]
    rw [hw7, hkb2] at h7
    have m0 : w7.cell? ⟨b, 0, none⟩ = some (.int .i64 2) := ((h7.sw3.sw2.sw1.sw0).box1 0).1
    have m2 : w7.cell? ⟨b, 2, none⟩ = some (.int .i64 id) := ((h7.sw3.sw2.sw1.sw0).box1 2).1
    have m3 : w7.cell? ⟨kb, 0, none⟩ = some (.int .i64 k) := (h7.sw0.box1 0).1
    have m4 : w7.cell? ⟨kb, 1, none⟩ = some (.int .i64 id) := (h7.sw0.box1 1).1
    have m5 : w7.cell? ⟨kb2, 0, none⟩ = some (.int .i64 k) := (h7.box1 0).1
    have m6 : w7.cell? ⟨kb2, 1, none⟩ = some (.int .i64 id) := (h7.box1 1).1
    have hrd := HRd.out w7 _ (h7.sw2.sw1.sw0)
    have HRd7 := Lib.hid hrd
    clear h6 h7 hraw hrd h5
    go_wp2_with fail
    refine HRd7.out.mono ?_
    rintro e w8 ⟨rfl, h8⟩
    have n3 : w8.cell? ⟨kb, 0, none⟩ = some (.int .i64 k) := ((h8.sw1.sw0).box1 0).1
    have n4 : w8.cell? ⟨kb, 1, none⟩ = some (.int .i64 id) := ((h8.sw1.sw0).box1 1).1
    have n5 : w8.cell? ⟨kb2, 0, none⟩ = some (.int .i64 k) := (h8.sw0.box1 0).1
    have n6 : w8.cell? ⟨kb2, 1, none⟩ = some (.int .i64 id) := (h8.sw0.box1 1).1
    have H9 := Lib.hid ((h8.sw0.sw1.sw2).out1.out1.drop3)
    clear h8 hw7 hkb2
    go_wp2_with fail
    go_ret
    exact ⟨rfl, H9.out⟩

set_option maxRecDepth 100000 in
set_option maxHeartbeats 4000000 in
theorem does4_get (h : On w0 w (sep (quA qb S) (sep (refA rb S) R))) (hl : S.length < 700000) (hw : (Lit.int .i64 id).wf = true) (n : Nat) (ha0 : ask ≠ 0) (ha1 : ask ≠ 1) (ha2 : ask ≠ 2) :
    Calls Try.prog 28 #[.pointer (some ⟨qb, 0, none⟩), .pointer (some ⟨rb, 0, none⟩), .agg #[.int .i64 ask, .int .i64 t, .int .i64 id, .slice la n lc]] w fun e w' => e = .returned (.bool true) ∧ On w0 w' (sep (quA qb (S)) (sep (refA rb (S)) R)) := by
  have hdist := h.qu_distinct
  obtain ⟨w1, hw1⟩ : ∃ w1, w.alloc (.cells #[.int .i64 ask, .int .i64 t, .int .i64 id, .slice la n lc] 35) = w1 := ⟨_, rfl⟩
  obtain ⟨b, hb'⟩ : ∃ b, w.heap.size = b := ⟨_, rfl⟩
  have h1 : On w0 w1 (sep (quA qb S) (sep (refA rb S) (sep (boxA b 35 #[.int .i64 ask, .int .i64 t, .int .i64 id, .slice la n lc]) R))) := by
    rw [← hw1, ← hb']
    exact h.new3 35 _
  have c0 : w1.cell? ⟨b, 0, none⟩ = some (.int .i64 ask) := h1.box3 0
  have c2 : w1.cell? ⟨b, 2, none⟩ = some (.int .i64 id) := h1.box3 2
  have hat := R_at h1.left (by omega) id
  have hget := Q_get h1 (by omega) id hw
  have a0 : (ask == 0) = false := by simpa using ha0
  have a1 : (ask == 1) = false := by simpa using ha1
  have a2 : (ask == 2) = false := by simpa using ha2
  cases hh : has S id with
  | false =>
    have he : hasE S id = 14 := by unfold hasE; rw [hh]; rfl
    have hka : keyAt 0 S id = 0 := keyAt_none hh
    have hia : idAt S id = 0 := by unfold idAt; rw [hh]; rfl
    have ha' : (if has S id = true then (idx S id : Int) else -1) = -1 := by rw [hh]; rfl
    rw [ha'] at hat
    rw [he, hka, hia] at hget
    have HAt := Lib.hid hat
    have HGet := Lib.hid hget
    have H1 := Lib.hid h1
    clear h h1 hat hget hdist he hka hia ha' hh
    go_enter Try.func28, Try.ntmps28
    go_wp2_with fail
    refine HAt.out.mono ?_
    rintro e w2 ⟨rfl, rfl⟩
    go_wp2_with fail
    refine HGet.out.mono ?_
    rintro e w2 ⟨rfl, hb2⟩
    obtain ⟨kb, hkb⟩ : ∃ kb, w2.heap.size = kb := ⟨_, rfl⟩
    obtain ⟨wz, hwz⟩ : ∃ wz, w2.alloc (.cells #[.int .i64 0, .int .i64 0] 24) = wz := ⟨_, rfl⟩
    have hz := (H1.out.below hb2).new1 24 #[.int .i64 0, .int .i64 0]
    rw [hwz, hkb] at hz
    have z0 : wz.cell? ⟨kb, 0, none⟩ = some (.int .i64 0) := (hz.box1 0).1
    have z1 : wz.cell? ⟨kb, 1, none⟩ = some (.int .i64 0) := (hz.box1 1).1
    have z2 : wz.frozen? ⟨kb, 0, none⟩ = false := (hz.box1 0).2
    have z3 : wz.frozen? ⟨kb, 1, none⟩ = false := (hz.box1 1).2
    obtain ⟨w3, hw3⟩ : ∃ w3, (wz.setCell ⟨kb, 0, none⟩ (.int .i64 0)).setCell ⟨kb, 1, none⟩ (.int .i64 0) = w3 := ⟨_, rfl⟩
    have h3 : On w0 w3 (sep (boxA kb 24 #[.int .i64 0, .int .i64 0]) (sep (quA qb S) (sep (refA rb S) (sep (boxA b 35 #[.int .i64 ask, .int .i64 t, .int .i64 id, .slice la n lc]) R)))) := by
      rw [← hw3]; exact (hz.box_set 0 (.int .i64 0)).box_set 1 (.int .i64 0)
    have d0 : w3.cell? ⟨b, 0, none⟩ = some (.int .i64 ask) := ((h3.sw2.sw1.sw0).box1 0).1
    have d2 : w3.cell? ⟨b, 2, none⟩ = some (.int .i64 id) := ((h3.sw2.sw1.sw0).box1 2).1
    have k0 : w3.cell? ⟨kb, 0, none⟩ = some (.int .i64 0) := (h3.box1 0).1
    have k1 : w3.cell? ⟨kb, 1, none⟩ = some (.int .i64 0) := (h3.box1 1).1
    have hq : ∀ w, (binOp BinOp.eql 24 (.agg #[.int .i64 0, .int .i64 0]) (.agg #[.int .i64 0, .int .i64 0])).run Try.prog w = .ok (.bool true) w := fun w => by rw [eql32]; simp
    have H9 := Lib.hid h3.out1.drop3
    clear h3 hb2 c0 c2
    go_wp2_with fail
    go_ret
    exact ⟨rfl, H9.out⟩
  | true =>
    have he : hasE S id = 0 := by unfold hasE; rw [hh]; rfl
    obtain ⟨k, hix⟩ := idx_some hh
    have hka : keyAt 0 S id = k := keyAt_mem hdist (List.mem_of_getElem? hix)
    have hia : idAt S id = id := by unfold idAt; rw [hh]; rfl
    have ha' : (if has S id = true then (idx S id : Int) else -1) = (idx S id : Int) := by rw [hh]; rfl
    have hil := idx_lt.2 hh
    rw [ha'] at hat
    rw [he, hka, hia] at hget
    obtain ⟨ix, hixx⟩ : ∃ ix : Nat, idx S id = ix := ⟨_, rfl⟩
    rw [hixx] at hat hix hil
    have hng : decide ((ix : Int) < 0) = false := by simp
    have hilI : (ix : Int) < (S.length : Int) := by omega
    have hi0 : (0 : Int) ≤ (ix : Int) := by omega
    have HAt := Lib.hid hat
    have HGet := Lib.hid hget
    have H1 := Lib.hid h1
    have HIx := Lib.hid hix
    clear h h1 hat hget hdist he hka hia ha' hh hix hil hixx
    go_enter Try.func28, Try.ntmps28
    go_wp2_with fail
    refine HAt.out.mono ?_
    rintro e w2 ⟨rfl, rfl⟩
    go_wp2_with fail
    refine HGet.out.mono ?_
    rintro e w2 ⟨rfl, hb2⟩
    obtain ⟨kb, hkb⟩ : ∃ kb, w2.heap.size = kb := ⟨_, rfl⟩
    obtain ⟨w3, hw3⟩ : ∃ w3, w2.alloc (.cells #[.int .i64 k, .int .i64 id] 24) = w3 := ⟨_, rfl⟩
    have h3 := (H1.out.below hb2).new1 24 #[.int .i64 k, .int .i64 id]
    rw [hw3, hkb] at h3
    have d0 : w3.cell? ⟨b, 0, none⟩ = some (.int .i64 ask) := ((h3.sw2.sw1.sw0).box1 0).1
    have d2 : w3.cell? ⟨b, 2, none⟩ = some (.int .i64 id) := ((h3.sw2.sw1.sw0).box1 2).1
    have k0 : w3.cell? ⟨kb, 0, none⟩ = some (.int .i64 k) := (h3.box1 0).1
    have k1 : w3.cell? ⟨kb, 1, none⟩ = some (.int .i64 id) := (h3.box1 1).1
    have hq : ∀ w, (binOp BinOp.eql 24 (.agg #[.int .i64 k, .int .i64 id]) (.agg #[.int .i64 k, .int .i64 id])).run Try.prog w = .ok (.bool true) w := fun w => by rw [eql32]; simp
    obtain ⟨v, hraw⟩ := h3.out1.ref2
    obtain ⟨g, cap, rfl, hcap, y0, y1, hgl⟩ := hraw.at HIx.out
    have yc := hraw.c0
    obtain ⟨kb2, hkb2⟩ : ∃ kb2, w3.heap.size = kb2 := ⟨_, rfl⟩
    obtain ⟨w7, hw7⟩ : ∃ w7, w3.alloc (.cells #[.int .i64 k, .int .i64 id] 24) = w7 := ⟨_, rfl⟩
    have h7 := h3.new1 24 #[.int .i64 k, .int .i64 id]
    rw [hw7, hkb2] at h7
    have m0 : w7.cell? ⟨b, 0, none⟩ = some (.int .i64 ask) := ((h7.sw3.sw2.sw1.sw0).box1 0).1
    have m2 : w7.cell? ⟨b, 2, none⟩ = some (.int .i64 id) := ((h7.sw3.sw2.sw1.sw0).box1 2).1
    have m3 : w7.cell? ⟨kb, 0, none⟩ = some (.int .i64 k) := (h7.sw0.box1 0).1
    have m4 : w7.cell? ⟨kb, 1, none⟩ = some (.int .i64 id) := (h7.sw0.box1 1).1
    have m5 : w7.cell? ⟨kb2, 0, none⟩ = some (.int .i64 k) := (h7.box1 0).1
    have m6 : w7.cell? ⟨kb2, 1, none⟩ = some (.int .i64 id) := (h7.box1 1).1
    have H9 := Lib.hid h3.out1.drop3
    have H9 := Lib.hid h7.out1.out1.drop3
    clear h3 h7 hraw hb2 c0 c2
    go_wp2_with fail
    go_ret
    exact ⟨rfl, H9.out⟩

end
end Go.Proofs.Ytkjpkhpiojahkaa
