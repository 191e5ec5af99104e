/-
  Walk: TimersOnce.
-/
import Derived.Test.YtkjpkhpiojahkaaOnce
import Derived.Test.YtkjpkhpiojahkaaL11
import Derived.Test.YtkjpkhpiojahkaaT7
namespace Go.Proofs.Ytkjpkhpiojahkaa
set_option linter.unusedVariables false
open Go.RowKit Hp
attribute [local go_sem] Oper.semAt_some

set_option maxRecDepth 100000 in
set_option maxHeartbeats 8000000 in
theorem tonce_ok (a a' : Option Addr) (cap cap' : Nat) (zs ys : List Int) (w : World) (hc : IntsAt w a zs) (hc' : IntsAt w a' ys) :
    Calls Try.prog 6 #[.slice a zs.length cap, .slice a' ys.length cap'] w fun e w' => e = .returned (.bool true) ∧ Below w.heap.size w w' := by
  obtain ⟨n, hn⟩ : ∃ n, zs.length = n := ⟨_, rfl⟩
  obtain ⟨m, hm⟩ : ∃ n, ys.length = n := ⟨_, rfl⟩
  rw [hn, hm]
  have HC := Lib.hid hc
  have HN := Lib.hid hn
  have HC' := Lib.hid hc'
  have HM := Lib.hid hm
  clear hc hn hc' hm
  by_cases h60 : n ≤ 60 ∧ m ≤ 60
  · obtain ⟨h60, hm60⟩ := h60
    have g1 : decide ((60 : Int) < (n : Int)) = false := by simp; omega
    have g2 : decide ((60 : Int) < (m : Int)) = false := by simp; omega
    obtain ⟨i4, hi4, hz4, hz5, hz6⟩ := info_parts Try.info4
    have HN0 := Lib.hid (T_new (On.emp w) 60 (by decide) (by decide))
    go_enter Try.func6, Try.ntmps6
    go_wp2_with fail
    refine HN0.out.mono ?_
    rintro e w1 ⟨tb, rfl, h1⟩
    have H1 := Lib.hid h1
    clear h1
    go_wp2_with (at_make; refine wpList_make_full _ rfl _ _ 58 rfl w1.heap.size 4 i4 (.bool false) 1 Try.underlying58 hi4 hz4 hz5 .i64 .i64 _ _ n rfl rfl rfl rfl (by rw [hz6]; omega) (by unfold maxLen; omega) (Nat.le_refl _) ?_; intro w2 hown hgrow)
    have hb2 : Below w1.heap.size w1 w2 := ⟨hgrow.os, hgrow.tape, hgrow.output, hgrow.size, fun k hk => hgrow.block k hk (by simp)⟩
    rw [made_flags] at hown
    obtain ⟨g, hg⟩ : ∃ g, w1.heap.size = g := ⟨_, rfl⟩
    rw [hg] at hown
    have h2 : On w w2 (sep (flagA g n (List.replicate n false)) (sep (tqA tb 60 [] 0 0) emp)) := H1.out.add hb2 (rowA_of hown) (fun j hj => by omega)
    have H2 := Lib.hid h2
    rw [hg]
    clear hown hgrow hb2 hg h2
    go_wp2_with fail
    go_loopg [8] n (fun gh s8 wr => ∃ (i : Nat) (S : List (It Int)) (A : List Bool), i + gh = n ∧ s8 = .int .i64 (i : Int) ∧ Sorted ltI S ∧ Timed S ∧ S.length ≤ i ∧ (∀ x ∈ S, x.1 < (i : Int)) ∧ Rel zs S A ∧ On w wr (sep (tqA tb 60 S 0 0) (sep (flagA g n A) emp)))
    case atStart => exact ⟨0, [], List.replicate n false, by omega, rfl, List.Pairwise.nil, (fun x hx => by cases hx), by simp, (fun x hx => by cases hx), by rw [← HN.out]; exact Rel.start zs, H2.out.sw0⟩
    case round =>
      obtain ⟨i, S, A, hi, rfl, hs, ht, hsl, hid, hrel2, hon⟩ := hrel
      by_cases hlt : i < n
      · have hltI : (i : Int) < (n : Int) := by omega
        have hi0 : (0 : Int) ≤ (i : Int) := by omega
        obtain ⟨b, off, rfl, hb, hcc⟩ := HC.out.row (by rw [HN.out]; omega)
        have HBl := Lib.hid hb
        have HCc := Lib.hid hcc
        obtain ⟨x, hx⟩ : ∃ x, zs[i]?.getD 0 = x := ⟨_, rfl⟩
        have HX0 := Lib.hid hx
        have q0 : wr.cell? ⟨b, off + i, none⟩ = some (.int .i64 x) := by rw [← hx]; exact (hon.to_below.cell (by exact hb)).trans (hcc i (by rw [HN.out]; exact hlt))
        have hhas : has S (i : Int) = false := has_none.2 fun y hy => by have := hid y hy; omega
        obtain ⟨ae, hae⟩ : ∃ ae, armE S 60 (i : Int) x = ae := ⟨_, rfl⟩
        have har := T_arm hon hs (by omega) (i : Int) x (wf_small hi0 (by omega))
        rw [hae] at har
        obtain ⟨S2, hS2⟩ : ∃ T, armS S 60 (i : Int) x = T := ⟨_, rfl⟩
        rw [hS2] at har
        have HAr := Lib.hid har
        have haE : ae = timeE x := by
          rw [← hae]; unfold armE
          rw [if_neg (by omega)]
          split
          · rename_i h0; rw [if_neg (by rintro ⟨_, h⟩; omega), h0]
          · rfl
        have hsl60 : S.length ≤ 60 := by omega
        clear hb
        by_cases ht0 : timeE x = 0
        · have hae0 : ae = 0 := by rw [haE, ht0]
          obtain ⟨hx0, hx1⟩ := timeE_ok ht0
          have hS2' : S2 = ins ltI ((i : Int), x) S := by rw [← hS2]; unfold armS; rw [hae, if_pos hae0, without_none hhas]
          have HS := Lib.hid (show Sorted ltI S2 by rw [hS2']; exact ins_sorted ltI_swo hs fun y hy => (fun e => by have := hid y hy; rw [e] at this; exact absurd this (by simp)))
          have HT := Lib.hid (show Timed S2 by
            rw [hS2']
            intro y hy
            rcases ins_mem.1 hy with h | h
            · rw [h]; exact ht0
            · exact ht y h)
          have HL := Lib.hid (show S2.length = S.length + 1 by rw [hS2', ins_length])
          have HI := Lib.hid (show ∀ y ∈ S2, y.1 < ((i + 1 : Nat) : Int) by
            rw [hS2']
            intro y hy
            rcases ins_mem.1 hy with h | h
            · rw [h]; simp; omega
            · have := hid y h; omega)
          have HRel := Lib.hid (show Rel zs S2 (A.set i true) by rw [hS2', ← hx]; exact hrel2.put (by rw [HN.out]; exact hlt) hhas)
          have hfl := (hrel2.get (j := i) (by rw [HN.out]; exact hlt))
          have HFl := Lib.hid hfl
          have HAl := Lib.hid (show A.length = n by rw [← HN.out]; exact hrel2.len)
          subst hae0
          clear har hs ht hid hon hcc hx hS2 hS2' haE hhas ht0 hae hrel2 hfl
          go_wp2_with fail
          refine HAr.out.mono ?_
          rintro e x1 ⟨rfl, h2⟩
          have h2' := h2.sw0
          obtain ⟨k0, k1⟩ := h2'.flag HFl.out
          have h3 := h2'.flag_set i true
          obtain ⟨W3, hW3⟩ : ∃ x, x1.setCell ⟨g, i, none⟩ (.bool true) = x := ⟨_, rfl⟩
          rw [hW3] at h3
          obtain ⟨k2, _⟩ := h3.flag (i := i) (b := true) (by rw [List.getElem?_set, if_pos rfl, if_pos (by rw [HAl.out]; exact hlt)])
          have q0' : W3.cell? ⟨b, off + i, none⟩ = some (.int .i64 x) := by rw [← HX0.out]; exact (h3.to_below.cell (by exact HBl.out)).trans (HCc.out i (by rw [HN.out]; exact hlt))
          have H2 := Lib.hid h3.sw0
          clear h2 h2' h3
          go_wp2_with fail
          have k2_d := drewC k2
          have q0'_d := drewC q0'
          refine wp_region_loose (fun A => A = W3.drew) (by kernel_rfl) (by kernel_rfl) rfl ?_
          repeat (first
            | (refine loose_skip (by rfl) ?_; simp only [Act.put, List.setIfInBounds_toArray, List.set_cons_zero, List.set_cons_succ])
            | (refine loose_val (v := ?_) (by rfl) ?_ ?_; rotate_left; (focus (intro A' hA'; subst hA'; go_simp; first | done | with_reducible rfl)); simp only [Act.put, List.setIfInBounds_toArray, List.set_cons_zero, List.set_cons_succ]))
          refine loose_nil ?_
          intro A3 hA3
          subst hA3
          go_wp2_with fail
          go_roundg (n - (i + 1))
          case measure => omega
          case rel => exact ⟨i + 1, S2, _, by omega, by go_num, HS.out, HT.out, by rw [HL.out]; omega, HI.out, HRel.out, H2.out.below (Below.refl _ W3).drew⟩
        · by_cases hx0 : x < 0
          · have hng : decide ((0 : Int) ≤ x) = false := by simp; omega
            have hae0 : (ae == 0) = false := by rw [haE]; simpa using ht0
            have hS2' : S2 = S := by rw [← hS2]; unfold armS; rw [hae, if_neg (by rw [haE]; exact ht0)]
            have hRel2 := hrel2.keep (zs := zs) (i := i) (by rw [HN.out]; exact hlt) hhas
            subst hS2'
            have HS := Lib.hid hs
            have HT := Lib.hid ht
            have HI := Lib.hid hid
            have HRel := Lib.hid hrel2
            have HKeep := Lib.hid hRel2
            clear har hs ht hid hon hcc hx hS2 haE hhas ht0 hae hrel2 hRel2
            go_wp2_with fail
            refine HAr.out.mono ?_
            rintro e x1 ⟨rfl, h2⟩
            have h2' := h2.sw0
            have hfl := (HRel.out.get (j := i) (by rw [HN.out]; exact hlt))
            obtain ⟨k0, k1⟩ := h2'.flag hfl
            have h3 := h2'.flag_set i false
            rw [HKeep.out] at h3
            obtain ⟨W3, hW3⟩ : ∃ x, x1.setCell ⟨g, i, none⟩ (.bool false) = x := ⟨_, rfl⟩
            rw [hW3] at h3
            have hh0 : has S2 (i : Int) = false := has_none.2 fun y hy => by have := HI.out y hy; omega
            rw [hh0] at hfl
            obtain ⟨k2, _⟩ := h3.flag hfl
            have q0' : W3.cell? ⟨b, off + i, none⟩ = some (.int .i64 x) := by rw [← HX0.out]; exact (h3.to_below.cell (by exact HBl.out)).trans (HCc.out i (by rw [HN.out]; exact hlt))
            have H2 := Lib.hid h3.sw0
            clear h2 h2' h3 hfl hh0
            go_wp2_with fail
            have k2_d := drewC k2
            have q0'_d := drewC q0'
            refine wp_region_loose (fun A => A = W3.drew) (by kernel_rfl) (by kernel_rfl) rfl ?_
            repeat (first
              | (refine loose_skip (by rfl) ?_; simp only [Act.put, List.setIfInBounds_toArray, List.set_cons_zero, List.set_cons_succ])
              | (refine loose_val (v := ?_) (by rfl) ?_ ?_; rotate_left; (focus (intro A' hA'; subst hA'; go_simp; first | done | with_reducible rfl)); simp only [Act.put, List.setIfInBounds_toArray, List.set_cons_zero, List.set_cons_succ]))
            refine loose_nil ?_
            intro A3 hA3
            subst hA3
            go_wp2_with fail
            go_roundg (n - (i + 1))
            case measure => omega
            case rel => exact ⟨i + 1, S2, A, by omega, by go_num, HS.out, HT.out, by omega, fun y hy => by have := HI.out y hy; omega, HRel.out, H2.out.below (Below.refl _ W3).drew⟩
          · have hng : (0 : Int) ≤ x := by omega
            have hng2 : decide (x < 1099511627776) = false := by
              simp only [decide_eq_false_iff_not]
              intro h
              apply ht0
              unfold timeE
              rw [if_neg (by omega), if_neg (by omega)]
            have hae0 : (ae == 0) = false := by rw [haE]; simpa using ht0
            have hS2' : S2 = S := by rw [← hS2]; unfold armS; rw [hae, if_neg (by rw [haE]; exact ht0)]
            have hRel2 := hrel2.keep (zs := zs) (i := i) (by rw [HN.out]; exact hlt) hhas
            subst hS2'
            have HS := Lib.hid hs
            have HT := Lib.hid ht
            have HI := Lib.hid hid
            have HRel := Lib.hid hrel2
            have HKeep := Lib.hid hRel2
            clear har hs ht hid hon hcc hx hS2 haE hhas ht0 hae hrel2 hRel2
            go_wp2_with fail
            refine HAr.out.mono ?_
            rintro e x1 ⟨rfl, h2⟩
            have h2' := h2.sw0
            have hfl := (HRel.out.get (j := i) (by rw [HN.out]; exact hlt))
            obtain ⟨k0, k1⟩ := h2'.flag hfl
            have h3 := h2'.flag_set i false
            rw [HKeep.out] at h3
            obtain ⟨W3, hW3⟩ : ∃ x, x1.setCell ⟨g, i, none⟩ (.bool false) = x := ⟨_, rfl⟩
            rw [hW3] at h3
            have hh0 : has S2 (i : Int) = false := has_none.2 fun y hy => by have := HI.out y hy; omega
            rw [hh0] at hfl
            obtain ⟨k2, _⟩ := h3.flag hfl
            have q0' : W3.cell? ⟨b, off + i, none⟩ = some (.int .i64 x) := by rw [← HX0.out]; exact (h3.to_below.cell (by exact HBl.out)).trans (HCc.out i (by rw [HN.out]; exact hlt))
            have H2 := Lib.hid h3.sw0
            clear h2 h2' h3 hfl hh0
            go_wp2_with fail
            have k2_d := drewC k2
            have q0'_d := drewC q0'
            refine wp_region_loose (fun A => A = W3.drew) (by kernel_rfl) (by kernel_rfl) rfl ?_
            repeat (first
              | (refine loose_skip (by rfl) ?_; simp only [Act.put, List.setIfInBounds_toArray, List.set_cons_zero, List.set_cons_succ])
              | (refine loose_val (v := ?_) (by rfl) ?_ ?_; rotate_left; (focus (intro A' hA'; subst hA'; go_simp; first | done | with_reducible rfl)); simp only [Act.put, List.setIfInBounds_toArray, List.set_cons_zero, List.set_cons_succ]))
            refine loose_nil ?_
            intro A3 hA3
            subst hA3
            go_wp2_with fail
            go_roundg (n - (i + 1))
            case measure => omega
            case rel => exact ⟨i + 1, S2, A, by omega, by go_num, HS.out, HT.out, by omega, fun y hy => by have := HI.out y hy; omega, HRel.out, H2.out.below (Below.refl _ W3).drew⟩
      · have hin : i = n := by omega
        subst hin
        have hsl60 : S.length ≤ 60 := by omega
        have HS := Lib.hid hs
        have HT := Lib.hid ht
        have HRel := Lib.hid hrel2
        have HOn := Lib.hid hon
        clear hs ht hrel2 hon hid
        go_wp2_with fail
        go_loopg [9, 10, 11] m (fun gh s9 s10 s11 wy => ∃ (j : Nat) (now worst : Int) (T : List (It Int)) (B : List Bool), j + gh = m ∧ s9 = .int .i64 now ∧ s10 = .int .i64 worst ∧ s11 = .int .i64 (j : Int) ∧ timeE now = 0 ∧ Sorted ltI T ∧ Timed T ∧ T.length ≤ 60 ∧ Rel zs T B ∧ On w wy (sep (tqA tb 60 T now worst) (sep (flagA g i B) emp)))
        case atStart => exact ⟨0, 0, 0, S, A, by omega, rfl, rfl, rfl, by decide, HS.out, HT.out, hsl60, HRel.out, HOn.out⟩
        case round =>
          obtain ⟨j, now, worst, T, B, hj, rfl, rfl, rfl, hnw, hs, ht, htl, hrel2, hon⟩ := hrel
          have hnw2 := timeE_ok hnw
          by_cases hlt : j < m
          · have hltI : (j : Int) < (m : Int) := by omega
            have hi0 : (0 : Int) ≤ (j : Int) := by omega
            obtain ⟨b, off, rfl, hb, hcc⟩ := HC'.out.row (by rw [HM.out]; omega)
            obtain ⟨y, hy⟩ : ∃ y, ys[j]?.getD 0 = y := ⟨_, rfl⟩
            have q0 : wr.cell? ⟨b, off + j, none⟩ = some (.int .i64 y) := by rw [← hy]; exact (hon.to_below.cell (by exact hb)).trans (hcc j (by rw [HM.out]; exact hlt))
            have hw0 : IntKind.i64.wrap (1099511627776 - now) = 1099511627776 - now := IntWalk.i64_in _ (by omega)
            clear hb hcc hy hnw
            by_cases hy0 : y < 0
            ·
              have HA := Lib.hid (tawake_ok wr)
              have HB := Lib.hid hon.to_below
              clear hs ht hrel2 hon hw0
              go_wp2_with fail
              all_goals
                refine HA.out.mono ?_
                rintro e w3 ⟨rfl, hb3⟩
                have HB3 := Lib.hid hb3
                clear hb3
                go_wp2_with fail
                go_ret
                exact ⟨rfl, HB.out.trans (HB3.out.mono HB.out.size)⟩
            · by_cases hy1 : 1099511627776 - now ≤ y
              · have hy0' : decide (y < 0) = false := by simp; omega
                have HA := Lib.hid (tawake_ok wr)
                have HB := Lib.hid hon.to_below
                clear hs ht hrel2 hon hw0
                go_wp2_with fail
                all_goals
                  refine HA.out.mono ?_
                  rintro e w3 ⟨rfl, hb3⟩
                  have HB3 := Lib.hid hb3
                  clear hb3
                  go_wp2_with fail
                  go_ret
                  exact ⟨rfl, HB.out.trans (HB3.out.mono HB.out.size)⟩
              · have hy0' : decide (y < 0) = false := by simp; omega
                have hy1' : decide (1099511627776 - now ≤ y) = false := by simp; omega
                obtain ⟨t, htt⟩ : ∃ t, now + y = t := ⟨_, rfl⟩
                have hw1 : IntKind.i64.wrap (now + y) = t := (IntWalk.i64_in _ (by omega)).trans htt
                have htk : timeE t = 0 := by unfold timeE; rw [if_neg (by omega), if_neg (by omega)]
                have htk2 := timeE_ok htk
                have hd0 := dueE_ok (now := now) htk (by omega)
                have hdist : T.Pairwise fun a b => a.1 ≠ b.1 := by
                  obtain ⟨_, h⟩ := hon.tq_open
                  exact h.sw0.qu_distinct
                have hdu := T_due hon hs ht (by omega) ((Plain.flag _ _ _).sepT Plain.emp.tame) t hd0
                have hul := upto_late T t
                have hule : ∀ x ∈ upto T t, x.2 ≤ t := fun x hx => upto_le hx
                have HSL := Lib.hid (late_sorted (t := t) hs)
                have HTL := Lib.hid (Timed.late (t := t) ht)
                have HGt := Lib.hid (late_gt (t := t) hs)
                have hlen := late_length (S := T) (t := t)
                obtain ⟨U, hU⟩ : ∃ U, upto T t = U := ⟨_, rfl⟩
                obtain ⟨L, hL⟩ : ∃ U, late T t = U := ⟨_, rfl⟩
                rw [hU, hL] at hdu hul hlen
                rw [hU] at hule
                rw [hL] at HSL HTL HGt
                obtain ⟨wst, hwst⟩ : ∃ z, worstS worst t U = z := ⟨_, rfl⟩
                rw [hwst] at hdu
                subst hul
                have HDu := Lib.hid hdu
                have HS := Lib.hid hs
                have HT := Lib.hid ht
                have HRel2 := Lib.hid hrel2
                have HDi := Lib.hid hdist
                have HUle := Lib.hid hule
                have HTk := Lib.hid htk
                have HWst := Lib.hid hwst
                have hul60 : U.length ≤ 60 := by omega
                obtain ⟨u, hu⟩ : ∃ u, U.length = u := ⟨_, rfl⟩
                have HUl := Lib.hid hu
                have hll60 : L.length ≤ 60 := by omega
                rw [hu] at hul60 hlen
                have gt : (t != t) = false := by simp
                clear hs ht hrel2 hon hdist hule htk hdu hU hL htt hwst hu hd0
                go_wp2_with fail
                refine HDu.out.mono ?_
                rintro e w6 ⟨v, rfl, h6⟩
                obtain ⟨fa, fc, rfl, _, _⟩ := h6.fired1
                rw [HUl.out] at h6 ⊢
                have HNw := Lib.hid (T_now h6.sw0)
                have H6 := Lib.hid h6
                clear h6
                go_wp2_with fail
                refine HNw.out.mono ?_
                rintro e w7 ⟨rfl, rfl⟩
                go_wp2_with fail
                obtain ⟨lb, hlb⟩ : ∃ b, w6.heap.size = b := ⟨_, rfl⟩
                obtain ⟨w7, hw7⟩ : ∃ x, w6.alloc (.cells #[.int .i64 (-1), .int .i64 0] 24) = x := ⟨_, rfl⟩
                have h7 := H6.out.new1 24 #[.int .i64 (-1), .int .i64 0]
                rw [hw7, hlb] at h7
                have H7 := Lib.hid (h7.sw0.sw1.sw2)
                rw [hw7, hlb]
                clear h7 hw7 hlb
                go_loopg [10, 15] u (fun gh s10 s15 wz => ∃ (k : Nat) (B2 : List Bool) (la li : Int), k + gh = u ∧ s10 = .int .i64 (worstS worst t (U.take k)) ∧ s15 = .int .i64 (k : Int) ∧ Rel zs (U.drop k ++ L) B2 ∧ (∀ x, U[k]? = some x → bef (la, li) (x.2, x.1) = true) ∧
                  On w wz (sep (firedA (.slice fa u fc) t U) (sep (tqA tb 60 L t wst) (sep (flagA g i B2) (sep (boxA lb 24 #[.int .i64 la, .int .i64 li]) emp)))))
                case atStart => exact ⟨0, B, -1, 0, by omega, rfl, rfl, HRel2.out, fun x hx => by
                  have := timeE_ok (HT.out x (List.mem_append.2 (.inl (List.mem_of_getElem? hx))))
                  simp only [bef]
                  simp
                  omega, H7.out⟩
                case round =>
                  obtain ⟨k, B2, la, li, hk, rfl, rfl, hrl, hla, hon⟩ := hrel
                  by_cases hlt : k < u
                  · have hltI2 : (k : Int) < (u : Int) := by omega
                    have hk0 : (0 : Int) ≤ (k : Int) := by omega
                    obtain ⟨x, hx⟩ : ∃ x, U[k]? = some x := ⟨_, List.getElem?_eq_getElem (by rw [HUl.out]; exact hlt)⟩
                    have hbf := hla x hx
                    have hmU := List.mem_of_getElem? hx
                    have hmT := List.mem_append.2 (Or.inl (b := x ∈ L) hmU)
                    have hle := HUle.out x hmU
                    have hxt := timeE_ok (HT.out x hmT)
                    have hdr : U.drop k = x :: U.drop (k + 1) := by
                      rw [List.drop_eq_getElem_cons (List.getElem?_eq_some_iff.1 hx).1, (List.getElem?_eq_some_iff.1 hx).2]
                    have hdi : (x :: (U.drop (k + 1) ++ L)).Pairwise fun a b => a.1 ≠ b.1 := by
                      have := HDi.out.sublist ((List.drop_sublist k U).append (List.Sublist.refl L))
                      rw [hdr] at this
                      exact this
                    rw [hdr, List.cons_append] at hrl
                    obtain ⟨jj, hjn, hj1, hj2⟩ := hrl.mem x (List.mem_cons_self ..)
                    have hnx : ∀ y, U[k + 1]? = some y → bef (x.2, x.1) (y.2, y.1) = true := fun y hy => by
                      have h1 : Sorted ltI (x :: (U.drop (k + 1) ++ L)) := by
                        have := HS.out.sublist ((List.drop_sublist k U).append (List.Sublist.refl L))
                        rw [hdr] at this
                        exact this
                      have h2 := (List.pairwise_cons.1 h1).1 y (List.mem_append.2 (.inl (List.mem_of_getElem? (i := 0) (by rw [List.getElem?_drop]; exact hy))))
                      exact bef_of_ahead h2
                    have hww : worstS worst t (U.take (k + 1)) = max (worstS worst t (U.take k)) (t - x.2) := by
                      rw [List.take_add_one, hx, Option.toList_some, worstS_snoc]
                    obtain ⟨xi, xa⟩ := x
                    dsimp only at hj1 hj2 hle hxt hww hbf hnx
                    subst hj1
                    have hjI : (jj : Int) < (i : Int) := by rw [← HN.out]; omega
                    have hj0 : (0 : Int) ≤ (jj : Int) := by omega
                    have hjN : ¬ (i : Int) ≤ (jj : Int) := by omega
                    have hjN2 : ¬ i ≤ jj := by omega
                    have hjL : jj < i := by rw [← HN.out]; exact hjn
                    have HRl2 := Lib.hid (hrl.fire hdi rfl)
                    have hfl := hrl.get (j := jj) hjn
                    have hhs : has (((jj : Int), xa) :: (U.drop (k + 1) ++ L)) (jj : Int) = true := by rw [has_cons']; simp
                    rw [hhs] at hfl
                    have HFl := Lib.hid hfl
                    have hwl : IntKind.i64.wrap (t - xa) = t - xa := IntWalk.i64_in _ (by omega)
                    have hng : decide (t - xa < 0) = false := by simp; omega
                    have HX := Lib.hid hx
                    have HNx := Lib.hid hnx
                    have HWw := Lib.hid hww
                    have HZ2 := Lib.hid hj2
                    obtain ⟨zb, zoff, rfl, hzb, hzc⟩ := HC.out.row (by rw [HN.out]; omega)
                    have HZb := Lib.hid hzb
                    have hzc2 := hzc jj hjn
                    rw [hj2] at hzc2
                    have HZc := Lib.hid hzc2
                    obtain ⟨b2, off2, rfl, f0, f1, f2⟩ := hon.fired_at hx
                    obtain ⟨xb, hxb⟩ : ∃ b, wr.heap.size = b := ⟨_, rfl⟩
                    obtain ⟨wa, hwa⟩ : ∃ x, wr.alloc (.cells #[.int .i64 (jj : Int), .int .i64 xa, .int .i64 (t - xa)] 64) = x := ⟨_, rfl⟩
                    have h8 := hon.new1 64 #[.int .i64 (jj : Int), .int .i64 xa, .int .i64 (t - xa)]
                    rw [hwa, hxb] at h8
                    have x00 := (h8).bx 0 rfl
                    have x01 := (h8).bx 1 rfl
                    have x02 := (h8).bx 2 rfl
                    obtain ⟨kb, hkb⟩ : ∃ b, wa.heap.size = b := ⟨_, rfl⟩
                    obtain ⟨wb, hwb⟩ : ∃ x, wa.alloc (.cells #[.int .i64 xa, .int .i64 (jj : Int)] 24) = x := ⟨_, rfl⟩
                    have h9 := h8.new1 24 #[.int .i64 xa, .int .i64 (jj : Int)]
                    rw [hwb, hkb] at h9
                    have y00 := (h9).bx 0 rfl
                    have y01 := (h9).bx 1 rfl
                    have y10 := (h9.sw0).bx 0 rfl
                    have y11 := (h9.sw0).bx 1 rfl
                    have y12 := (h9.sw0).bx 2 rfl
                    have y50 := (h9.sw4.sw3.sw2.sw1.sw0).bx 0 rfl
                    have y50f := ((h9.sw4.sw3.sw2.sw1.sw0).box1 0).2
                    have y51 := (h9.sw4.sw3.sw2.sw1.sw0).bx 1 rfl
                    have y51f := ((h9.sw4.sw3.sw2.sw1.sw0).box1 1).2
                    obtain ⟨fl0, fl1⟩ := (h9.sw3.sw2.sw1.sw0).flag hfl
                    have z0 : wb.cell? ⟨zb, zoff + jj, none⟩ = some (.int .i64 xa) := (h9.to_below.cell (by exact hzb)).trans hzc2
                    have H9 := Lib.hid h9
                    have gx : (xa != xa) = false := by simp
                    have gl : (t - xa != t - xa) = false := by simp
                    have hbe : ∀ A', Below wb.drew.heap.size wb.drew A' → Calls Try.prog 31 #[.agg #[.int .i64 la, .int .i64 li], .agg #[.int .i64 xa, .int .i64 (jj : Int)]] A' fun e w' => e = .returned (.bool true) ∧ Below wb.drew.heap.size wb.drew w' := fun A' hA' => by
                      have := before_any la li xa (jj : Int) A'
                      rw [hbf] at this
                      exact this.mono fun e w' ⟨h1, h2⟩ => ⟨h1, hA'.trans (h2.mono hA'.size)⟩
                    have HBe := Lib.hid hbe
                    clear hon h8 h9 hx hnx hww hj2 hrl hla hdi hfl hhs hbf hmU hmT hdr hzb hzc hzc2 hbe
                    go_wp2_with fail
                    have y00_d := drewC y00
                    have y01_d := drewC y01
                    have y10_d := drewC y10
                    have y11_d := drewC y11
                    have y12_d := drewC y12
                    have y50_d := drewC y50
                    have y51_d := drewC y51
                    have fl0_d := drewC fl0
                    have z0_d := drewC z0
                    refine wp_region_loose (fun A' => Below wb.drew.heap.size wb.drew A') (by kernel_rfl) (by kernel_rfl) (Below.refl _ _) ?_
                    repeat (first
                      | (refine loose_skip (by rfl) ?_; simp only [Act.put, List.setIfInBounds_toArray, List.set_cons_zero, List.set_cons_succ])
                      | (refine loose_val (v := ?_) (by rfl) ?_ ?_; rotate_left; (focus (intro A' hA'; have y00_e := zatB y00_d hA' ;  have y01_e := zatB y01_d hA' ;  have y10_e := zatB y10_d hA' ;  have y11_e := zatB y11_d hA' ;  have y12_e := zatB y12_d hA' ;  have y50_e := zatB y50_d hA' ;  have y51_e := zatB y51_d hA' ;  have fl0_e := zatB fl0_d hA' ;  have z0_e := zatB z0_d hA'; go_simp; first | done | with_reducible rfl)); simp only [Act.put, List.setIfInBounds_toArray, List.set_cons_zero, List.set_cons_succ])
                      | (refine loose_call HBe.out (by rfl) ?_ ?_; (focus (intro A' hA'; go_simp; done)); simp only [Act.put, List.setIfInBounds_toArray, List.set_cons_zero, List.set_cons_succ]))
                    refine loose_nil ?_
                    intro A3 hA3
                    have h10 := (H9.out.below (Below.refl _ wb).drew).below hA3
                    have c00 := (h10).bx 0 rfl
                    have c01 := (h10).bx 1 rfl
                    have c10 := (h10.sw0).bx 0 rfl
                    have c11 := (h10.sw0).bx 1 rfl
                    have c12 := (h10.sw0).bx 2 rfl
                    have c50 := (h10.sw4.sw3.sw2.sw1.sw0).bx 0 rfl
                    have c50f := ((h10.sw4.sw3.sw2.sw1.sw0).box1 0).2
                    have c51 := (h10.sw4.sw3.sw2.sw1.sw0).bx 1 rfl
                    have c51f := ((h10.sw4.sw3.sw2.sw1.sw0).box1 1).2
                    obtain ⟨ff0, ff1⟩ := (h10.sw3.sw2.sw1.sw0).flag HFl.out
                    obtain ⟨W1, hW1⟩ : ∃ x, A3.setCell ⟨g, jj, none⟩ (.bool false) = x := ⟨_, rfl⟩
                    have h11 := (h10.sw3.sw2.sw1.sw0).flag_set jj false
                    rw [hW1] at h11
                    have d10 := (h11.sw0).bx 0 rfl
                    have d11 := (h11.sw0).bx 1 rfl
                    have d20 := (h11.sw1.sw0).bx 0 rfl
                    have d21 := (h11.sw1.sw0).bx 1 rfl
                    have d22 := (h11.sw1.sw0).bx 2 rfl
                    have d50 := (h11.sw4.sw3.sw2.sw1.sw0).bx 0 rfl
                    have d50f := ((h11.sw4.sw3.sw2.sw1.sw0).box1 0).2
                    have d51 := (h11.sw4.sw3.sw2.sw1.sw0).bx 1 rfl
                    have d51f := ((h11.sw4.sw3.sw2.sw1.sw0).box1 1).2
                    obtain ⟨W2, hW2⟩ : ∃ x, W1.setCell ⟨lb, 0, none⟩ (.int .i64 xa) = x := ⟨_, rfl⟩
                    have h12 := (h11.sw4.sw3.sw2.sw1.sw0).box_set 0 (.int .i64 xa)
                    rw [hW2] at h12
                    have e01 := (h12).bx 1 rfl
                    have e01f := ((h12).box1 1).2
                    have e30 := (h12.sw2.sw1.sw0).bx 0 rfl
                    have e31 := (h12.sw2.sw1.sw0).bx 1 rfl
                    have e32 := (h12.sw2.sw1.sw0).bx 2 rfl
                    obtain ⟨W3, hW3⟩ : ∃ x, W2.setCell ⟨lb, 1, none⟩ (.int .i64 (jj : Int)) = x := ⟨_, rfl⟩
                    have h13 := h12.box_set 1 (.int .i64 (jj : Int))
                    rw [hW3] at h13
                    have f30 := (h13.sw2.sw1.sw0).bx 0 rfl
                    have f31 := (h13.sw2.sw1.sw0).bx 1 rfl
                    have f32 := (h13.sw2.sw1.sw0).bx 2 rfl
                    have H13 := Lib.hid (h13.sw1.sw0.sw2.sw1.sw3.sw2.sw4.sw3.sw4).out1.out1
                    clear h10 h11 h12 h13 hA3
                    go_wp2_with fail
                    all_goals
                      go_roundg (u - (k + 1))
                      case measure => omega
                      case rel => exact ⟨k + 1, B2.set jj false, xa, (jj : Int), by omega, by rw [HWw.out]; congr 1; omega, by go_num, HRl2.out, HNx.out, by first | exact H13.out | exact H13.out.below (Below.refl _ _).drew⟩
                  · have hku : k = u := by omega
                    subst hku
                    have hwe : worstS worst t (U.take k) = wst := by rw [List.take_of_length_le (by rw [HUl.out]; exact Nat.le_refl _)]; exact HWst.out
                    rw [List.drop_of_length_le (by rw [HUl.out]; exact Nat.le_refl _), List.nil_append] at hrl
                    have HRl := Lib.hid hrl
                    have HOn := Lib.hid (hon.sw0.sw1)
                    rw [hwe]
                    clear hrl hon hla hwe
                    go_wp2_with fail
                    go_loopg [18] i (fun gh s18 wz => ∃ k2 : Nat, k2 + gh = i ∧ s18 = .int .i64 (k2 : Int) ∧ On w wz (sep (tqA tb 60 L t wst) (sep (flagA g i B2) (sep (firedA (.slice fa k fc) t U) (sep (boxA lb 24 #[.int .i64 la, .int .i64 li]) emp)))))
                    case atStart => exact ⟨0, by omega, rfl, HOn.out⟩
                    case round =>
                      obtain ⟨k2, hk2, rfl, hon⟩ := hrel
                      by_cases hlt2 : k2 < i
                      · have hltI3 : (k2 : Int) < (i : Int) := by omega
                        have hk20 : (0 : Int) ≤ (k2 : Int) := by omega
                        obtain ⟨zb, zoff, rfl, hzb, hzc⟩ := HC.out.row (by rw [HN.out]; omega)
                        have hzc2 := hzc k2 (by rw [HN.out]; exact hlt2)
                        have hfl := HRl.out.get (j := k2) (by rw [HN.out]; exact hlt2)
                        obtain ⟨z, hz⟩ : ∃ z, zs[k2]?.getD 0 = z := ⟨_, rfl⟩
                        rw [hz] at hzc2
                        have z0 : wr.cell? ⟨zb, zoff + k2, none⟩ = some (.int .i64 z) := (hon.to_below.cell (by exact hzb)).trans hzc2
                        have HOn2 := Lib.hid hon
                        cases hh : has L (k2 : Int) with
                        | true =>
                          have hgt : decide (z ≤ t) = false := by
                            obtain ⟨x, hx, hx1⟩ := List.any_eq_true.1 hh
                            have hx1 : x.1 = (k2 : Int) := by simpa using hx1
                            obtain ⟨j2, _, h2, h3⟩ := HRl.out.mem x hx
                            have : j2 = k2 := by omega
                            subst this
                            have := HGt.out x hx
                            simp
                            omega
                          rw [hh] at hfl
                          obtain ⟨k0, _⟩ := hon.sw0.flag hfl
                          clear hon hfl hh hzb hzc hzc2 hz
                          go_wp2_with fail
                          go_roundg (i - (k2 + 1))
                          case measure => omega
                          case rel => exact ⟨k2 + 1, by omega, by go_num, by first | exact HOn2.out | exact HOn2.out.below (Below.refl _ _).drew⟩
                        | false =>
                          rw [hh] at hfl
                          obtain ⟨k0, _⟩ := hon.sw0.flag hfl
                          clear hon hfl hh hzb hzc hzc2 hz
                          go_wp2_with fail
                          go_roundg (i - (k2 + 1))
                          case measure => omega
                          case rel => exact ⟨k2 + 1, by omega, by go_num, by first | exact HOn2.out | exact HOn2.out.below (Below.refl _ _).drew⟩
                      · have hki : k2 = i := by omega
                        subst hki
                        have HOn3 := Lib.hid (hon.sw1.sw0.sw2.sw1).out1.out1
                        clear hon
                        go_wp2_with fail
                        go_roundg (m - (j + 1))
                        case measure => omega
                        case rel => exact ⟨j + 1, t, wst, L, B2, by omega, rfl, rfl, by go_num, HTk.out, HSL.out, HTL.out, hll60, HRl.out, by first | exact HOn3.out | exact HOn3.out.below (Below.refl _ _).drew⟩
          · have hjm : j = m := by omega
            subst hjm
            have HWo := Lib.hid (T_worst hon)
            have HB := Lib.hid hon.to_below
            have gw : (worst == worst) = true := by simp
            clear hs ht hrel2 hon
            go_wp2_with fail
            refine HWo.out.mono ?_
            rintro e x3 ⟨rfl, rfl⟩
            have HAw := Lib.hid (tawake_ok wr)
            go_wp2_with fail
            refine HAw.out.mono ?_
            rintro e x4 ⟨rfl, hb4⟩
            have HB4 := Lib.hid hb4
            clear hb4
            go_wp2_with fail
            go_ret
            exact ⟨rfl, HB.out.trans (HB4.out.mono HB.out.size)⟩
  · have HA := Lib.hid (tawake_ok w)
    by_cases hn60 : n ≤ 60
    · have g1 : decide ((60 : Int) < (n : Int)) = false := by simp; omega
      have g2 : decide ((60 : Int) < (m : Int)) = true := by simp; omega
      clear h60
      go_enter Try.func6, Try.ntmps6
      go_wp2_with fail
      refine HA.out.mono ?_
      rintro e w3 ⟨rfl, hb3⟩
      have HB3 := Lib.hid hb3
      clear hb3
      go_wp2_with fail
      go_ret
      exact ⟨rfl, HB3.out⟩
    · have g1 : decide ((60 : Int) < (n : Int)) = true := by simp; omega
      clear h60
      go_enter Try.func6, Try.ntmps6
      go_wp2_with fail
      refine HA.out.mono ?_
      rintro e w3 ⟨rfl, hb3⟩
      have HB3 := Lib.hid hb3
      clear hb3
      go_wp2_with fail
      go_ret
      exact ⟨rfl, HB3.out⟩
end Go.Proofs.Ytkjpkhpiojahkaa
