/-
  Walk: PlaceMoves.
-/
import Derived.Test.YtkjpkhpiojahkaaPcC
namespace Go.Proofs.Ytkjpkhpiojahkaa
set_option linter.unusedVariables false
open Go.RowKit Hp
attribute [local go_sem] Oper.semAt_some
set_option maxRecDepth 100000 in
set_option maxHeartbeats 8000000 in
theorem pmoves_ok (aa ba : Option Addr) (ac bc : Nat) (a b : List Int) (w : World) (ha : IntsAt w aa a) (haw : ∀ x ∈ a, (Lit.int .i64 x).wf = true) (hb : IntsAt w ba b) (hbw : ∀ x ∈ b, (Lit.int .i64 x).wf = true) :
    Calls Try.prog 13 #[.slice aa a.length ac, .slice ba b.length bc] w fun e w' => e = .returned (.bool true) ∧ Below w.heap.size w w' := by
  have HAw := Lib.hid (fun (A : World) (hA : Below w.heap.size w A) => (pawake_ok A).mono fun e w' ⟨h1, h2⟩ => (⟨h1, hA.trans (h2.mono hA.size)⟩ : e = Ending.returned (.bool true) ∧ Below w.heap.size w w'))
  have HIa := Lib.hid (fun (A : World) (hA : Below w.heap.size w A) => ha.below (Nat.le_refl _) hA)
  have HIb := Lib.hid (fun (A : World) (hA : Below w.heap.size w A) => hb.below (Nat.le_refl _) hA)
  by_cases h30 : a.length ≤ 30 ∧ b.length ≤ 30
  · obtain ⟨ha30, hb30⟩ := h30
    have HMv := Lib.hid (moves_ok (ac := ac) (bc := bc) (On.emp w) (fun A hA => ha.below (Nat.le_refl _) hA.to_below) (by omega) haw (fun A hA => hb.below (Nat.le_refl _) hA.to_below) (by omega) hbw)
    have HW1 := Lib.hid (fun (A : World) (hA : Below w.heap.size w A) => pworkers_ref aa ac a A (ha.below (Nat.le_refl _) hA) (by omega))
    have HW2 := Lib.hid (fun (A : World) (hA : Below w.heap.size w A) => pworkers_ref ba bc b A (hb.below (Nat.le_refl _) hA) (by omega))
    have hlow : workE b = 0 → ∀ x ∈ b, -1 ≤ x := fun h => (work_ok h).2.2.1
    obtain ⟨M, hM⟩ : ∃ x, movesL a b = x := ⟨_, rfl⟩
    have HML := Lib.hid hM
    have HPi := Lib.hid (fun (A : World) (va vb : Option Addr) (vc vd : Nat) (h1 : IntsAt A va M) (h2 : IntsAt A vb M) => (pints_ok va vb vc vd M M A h1 h2 (by rw [← hM]; have := movesN_length a b b.length; unfold movesL; omega) (by rw [← hM]; have := movesN_length a b b.length; unfold movesL; omega)))
    rw [hM] at HMv
    obtain ⟨E1, hE1⟩ : ∃ x, workE a = x := ⟨_, rfl⟩
    obtain ⟨E2, hE2⟩ : ∃ x, workE b = x := ⟨_, rfl⟩
    obtain ⟨G, hG⟩ : ∃ x, movE a b = x := ⟨_, rfl⟩
    have hg := hG
    unfold movE at hg
    rw [hG] at HMv
    rw [hE1, hE2] at hg
    rw [hE1] at HW1
    rw [hE2] at HW2 hlow
    obtain ⟨n, hn⟩ : ∃ x, a.length = x := ⟨_, rfl⟩
    obtain ⟨m, hm⟩ : ∃ x, b.length = x := ⟨_, rfl⟩
    rw [hn, hm] at hg
    rw [hn] at HW1 HMv ha30 ⊢
    rw [hm] at HW2 HMv hb30 ⊢
    have HG := Lib.hid hg
    have HN := Lib.hid hn
    have HM := Lib.hid hm
    have HLo := Lib.hid hlow
    clear ha haw hb hbw hE1 hE2 hG hg hn hm hM hlow
    have g1 : ¬ (30 : Int) < (n : Int) := by omega
    have g2 : ¬ (30 : Int) < (m : Int) := by omega
    go_enter Try.func13, Try.ntmps13
    go_wp2_with fail
    refine HMv.out.mono ?_
    rintro e w1 ⟨v, rfl, hq1, hq2⟩
    by_cases hG0 : G = 0
    · subst hG0
      have h1 := hq2 (by trivial)
      have hg := HG.out
      obtain ⟨rfl, rfl, rfl⟩ : E1 = 0 ∧ E2 = 0 ∧ n = m := by
        by_cases h1 : E1 = 0
        · by_cases h2 : E2 = 0
          · by_cases h3 : n = m
            · exact ⟨h1, h2, h3⟩
            · rw [if_pos h1, if_pos h2, if_neg h3] at hg
              cases hg
          · rw [if_pos h1, if_neg h2] at hg
            exact absurd hg h2
        · rw [if_neg h1] at hg
          exact absurd hg h1
      obtain ⟨va, vc, rfl, _⟩ := h1.ints_read
      have H1 := Lib.hid h1
      have HC1 := Lib.hid (HW1.out w1 h1.to_below)
      clear hq1 hq2 h1 hg
      go_wp2_with fail
      refine HC1.out.mono ?_
      rintro e w2 ⟨rfl, hb2⟩
      have h2 := H1.out.below hb2
      have HC2 := Lib.hid (HW2.out w2 h2.to_below)
      have H2 := Lib.hid h2
      clear hb2 h2
      go_wp2_with fail
      refine HC2.out.mono ?_
      rintro e w3 ⟨rfl, hb3⟩
      have H3 := Lib.hid ((H2.out.below hb3).ints_nil)
      clear hb3
      go_wp2_with fail
      go_loopg [8, 9] n (fun gh s8 s9 wr => ∃ i : Nat, i + gh = n ∧ s9 = .int .i64 (i : Int) ∧ On w wr (sep (intsA s8 (movesN a b i)) (sep (intsA (.slice va M.length vc) M) emp)))
      case atStart => exact ⟨0, by omega, rfl, H3.out⟩
      case round =>
        obtain ⟨i, hi, rfl, hon⟩ := hrel
        by_cases hlt : i < n
        · have hltI : (i : Int) < (n : Int) := by omega
          have hi0 : (0 : Int) ≤ (i : Int) := by omega
          obtain ⟨bb, off, rfl, hbl, hc⟩ := (HIb.out wr hon.to_below).row (by rw [HM.out]; omega)
          obtain ⟨ab, aof, rfl, hal2, hd⟩ := (HIa.out wr hon.to_below).row (by rw [HN.out]; omega)
          obtain ⟨x, hx⟩ : ∃ x, b[i]? = some x := ⟨_, List.getElem?_eq_getElem (by rw [HM.out]; exact hlt)⟩
          obtain ⟨y, hy⟩ : ∃ y, a[i]? = some y := ⟨_, List.getElem?_eq_getElem (by rw [HN.out]; exact hlt)⟩
          have q0 : wr.cell? ⟨bb, off + i, none⟩ = some (.int .i64 x) := by
            have := hc i (by rw [HM.out]; exact hlt)
            rw [hx] at this
            exact this
          have q1 : wr.cell? ⟨ab, aof + i, none⟩ = some (.int .i64 y) := by
            have := hd i (by rw [HN.out]; exact hlt)
            rw [hy] at this
            exact this
          have hxl := HLo.out (by trivial) x (List.mem_of_getElem? hx)
          have hms := movesN_succ a b i
          rw [hx, hy] at hms
          simp only [Option.getD_some] at hms
          have hml := movesN_length a b i
          have HOn := Lib.hid hon
          have HOnd := Lib.hid (hon.below (Below.refl _ wr).drew)
          by_cases hx1 : x = -1
          · subst hx1
            rw [if_neg (by simp)] at hms
            have HMs := Lib.hid hms
            clear hon hbl hc hal2 hd hx hy hms
            go_wp2_with fail
            have q0_d := drewC q0
            have q1_d := drewC q1
            refine wp_region_loose (fun A => A = wr.drew) (by kernel_rfl) (by kernel_rfl) rfl ?_
            repeat (first
              | (refine loose_skip (by rfl) ?_; simp only [Act.put, List.setIfInBounds_toArray, List.set_cons_zero, List.set_cons_succ])
              | (refine loose_val (v := ?_) (by rfl) ?_ ?_; rotate_left; (focus (intro A' hA'; subst hA'; go_simp; first | done | with_reducible rfl)); simp only [Act.put, List.setIfInBounds_toArray, List.set_cons_zero, List.set_cons_succ]))
            refine loose_nil ?_
            intro A3 hA3
            subst hA3
            go_wp2_with fail
            go_roundg (n - (i + 1))
            case measure => omega
            case rel => exact ⟨i + 1, by omega, by go_num, by rw [HMs.out]; exact HOnd.out⟩
          · have z1 : (x != -1) = true := by simpa using hx1
            have z0 : (0 : Int) ≤ x := by omega
            by_cases hxy : y = x
            · subst hxy
              rw [if_neg (by simp)] at hms
              have HMs := Lib.hid hms
              have z2 : (y != y) = false := by simp
              clear hon hbl hc hal2 hd hx hy hms
              go_wp2_with fail
              have q0_d := drewC q0
              have q1_d := drewC q1
              refine wp_region_loose (fun A => A = wr.drew) (by kernel_rfl) (by kernel_rfl) rfl ?_
              repeat (first
                | (refine loose_skip (by rfl) ?_; simp only [Act.put, List.setIfInBounds_toArray, List.set_cons_zero, List.set_cons_succ])
                | (refine loose_val (v := ?_) (by rfl) ?_ ?_; rotate_left; (focus (intro A' hA'; subst hA'; go_simp; first | done | with_reducible rfl)); simp only [Act.put, List.setIfInBounds_toArray, List.set_cons_zero, List.set_cons_succ]))
              refine loose_nil ?_
              intro A3 hA3
              subst hA3
              go_wp2_with fail
              go_roundg (n - (i + 1))
              case measure => omega
              case rel => exact ⟨i + 1, by omega, by go_num, by rw [HMs.out]; exact HOnd.out⟩
            · have z2 : (y != x) = true := by simpa using hxy
              rw [if_pos (by rw [z1]; simpa using fun e => hxy e.symm)] at hms
              obtain ⟨L, hL⟩ : ∃ M, movesN a b i = M := ⟨_, rfl⟩
              rw [hL] at hml hms
              have HMs := Lib.hid hms
              obtain ⟨k, hk⟩ : ∃ k, L.length = k := ⟨_, rfl⟩
              rw [hk] at hml
              have h1 := HOnd.out.new1 3 #[.int .i64 (i : Int)]
              rw [hL] at h1
              obtain ⟨bz, hbz⟩ : ∃ x, wr.drew.heap.size = x := ⟨_, rfl⟩
              obtain ⟨W, hW⟩ : ∃ x, wr.drew.alloc (.cells #[.int .i64 (i : Int)] 3) = x := ⟨_, rfl⟩
              rw [hW, hbz] at h1
              have HRd := Lib.hid (reads_one (h1.bx 0 rfl))
              obtain ⟨F, hF, _⟩ := h1.sw0.get1
              have hown := hF.1
              rw [hk] at hown
              have HOw := Lib.hid hown
              have HK := Lib.hid hk
              have H1' := Lib.hid h1.sw0
              have hmx : k + 1 ≤ maxLen := by unfold maxLen; omega
              have hby : (k + 1) * 8 ≤ 140737488355328 := by omega
              have hone : ∀ u ∈ [Value.int .i64 (i : Int)], u.oneCell' = true := by simp; rfl
              clear hon hbl hc hal2 hd hx hy hms hL hk h1 hF hown
              go_wp2_with fail
              have q0_d := drewC q0
              have q1_d := drewC q1
              refine wp_region_loose (fun A => A = wr.drew) (by kernel_rfl) (by kernel_rfl) rfl ?_
              repeat (first
                | (refine loose_skip (by rfl) ?_; simp only [Act.put, List.setIfInBounds_toArray, List.set_cons_zero, List.set_cons_succ])
                | (refine loose_val (v := ?_) (by rfl) ?_ ?_; rotate_left; (focus (intro A' hA'; subst hA'; go_simp; first | done | with_reducible rfl)); simp only [Act.put, List.setIfInBounds_toArray, List.set_cons_zero, List.set_cons_succ]))
              refine loose_nil ?_
              intro A3 hA3
              subst hA3
              go_wp2_with (at_builtin; go_loud (refine wpList_append_any (by rfl) _ _ 54 (by rfl) 3 1 8 intSlice _ k (ints L) (by rfl) HOw.out (.slice (some ⟨bz, 0, none⟩) 1 1) 1 [.int .i64 (i : Int)] (by rfl) HRd.out hone hmx hby ?_; intro v' w2 hown hgrow hat; have HOw2 := Lib.hid hown; have HGr := Lib.hid hgrow; have HAt := Lib.hid hat; clear hown hgrow hat))
              have h2 := H1'.out.row_push (Below.refl _ _) HGr.out HOw2.out HAt.out
              rw [ints_snoc, ← HMs.out, show k + 1 = (movesN a b (i + 1)).length from by rw [HMs.out, List.length_append, HK.out]; rfl] at h2
              have H3' := Lib.hid h2.sw0.out1
              clear h2
              go_roundg (n - (i + 1))
              case measure => omega
              case rel => exact ⟨i + 1, by omega, by go_num, H3'.out⟩
        · have hin : i = n := by omega
          subst hin
          have h5 := hon
          rw [show movesN a b i = M from by rw [← HML.out]; unfold movesL; rw [HM.out]] at h5
          obtain ⟨xa, xc, rfl, hxa⟩ := h5.ints_read
          obtain ⟨_, _, he, hva⟩ := h5.sw0.ints_read
          cases he
          have hpi := HPi.out wr va xa vc xc hva hxa
          simp only [decide_true] at hpi
          have HC4 := Lib.hid hpi
          have H5 := Lib.hid h5.to_below
          clear hon h5 hxa hva hpi
          go_wp2_with fail
          refine HC4.out.mono ?_
          rintro e w4 ⟨rfl, hb4⟩
          have HC5 := Lib.hid (HAw.out w4 (H5.out.trans (hb4.mono H5.out.size)))
          clear hb4
          go_wp2_with fail
          refine HC5.out.mono ?_
          rintro e w5 ⟨rfl, hb5⟩
          have HB5 := Lib.hid hb5
          clear hb5
          go_wp2_with fail
          go_ret
          exact ⟨rfl, HB5.out⟩
    · obtain ⟨rfl, h1⟩ := hq1 hG0
      have zG : (G != 0) = true := by simpa using hG0
      have HB1 := Lib.hid h1.to_below
      have HC1 := Lib.hid (HW1.out w1 h1.to_below)
      clear hq1 hq2 h1
      go_wp2_with fail
      refine HC1.out.mono ?_
      rintro e w2 ⟨rfl, hb2⟩
      have HB2 := Lib.hid (HB1.out.trans (hb2.mono HB1.out.size))
      have HA2 := Lib.hid (HAw.out w2 HB2.out)
      have HC2 := Lib.hid (HW2.out w2 HB2.out)
      clear hb2
      by_cases h1 : E1 = 0
      · subst h1
        go_wp2_with fail
        refine HC2.out.mono ?_
        rintro e w3 ⟨rfl, hb3⟩
        have HB3 := Lib.hid (HB2.out.trans (hb3.mono HB2.out.size))
        have HA3 := Lib.hid (HAw.out w3 HB3.out)
        clear hb3
        by_cases h2 : E2 = 0
        · subst h2
          by_cases h3 : n = m
          · exfalso
            have := HG.out
            simp only [if_true, if_pos h3] at this
            exact hG0 this.symm
          · have hg1 : G = 1 := by have := HG.out; simp only [if_true, if_neg h3] at this; exact this.symm
            subst hg1
            have z3 : ((n : Int) != (m : Int)) = true := by simp; omega
            go_wp2_with fail
            refine HA3.out.mono ?_
            rintro e w5 ⟨rfl, hb5⟩
            have HB5 := Lib.hid hb5
            clear hb5
            go_wp2_with fail
            go_ret
            exact ⟨rfl, HB5.out⟩
        · have hg1 : G = E2 := by have := HG.out; simp only [if_true, if_neg h2] at this; exact this.symm
          subst hg1
          have z3 : (G == 0) = false := by simpa using h2
          have z4 : (G == G) = true := by simp
          go_wp2_with fail
          refine HA3.out.mono ?_
          rintro e w5 ⟨rfl, hb5⟩
          have HB5 := Lib.hid hb5
          clear hb5
          go_wp2_with fail
          go_ret
          exact ⟨rfl, HB5.out⟩
      · have hg1 : G = E1 := by have := HG.out; rw [if_neg h1] at this; exact this.symm
        subst hg1
        have z3 : (G == 0) = false := by simpa using h1
        have z4 : (G == G) = true := by simp
        go_wp2_with fail
        refine HA2.out.mono ?_
        rintro e w5 ⟨rfl, hb5⟩
        have HB5 := Lib.hid hb5
        clear hb5
        go_wp2_with fail
        go_ret
        exact ⟨rfl, HB5.out⟩
  · have HA0 := Lib.hid (HAw.out w (Below.refl _ w))
    obtain ⟨n, hn⟩ : ∃ x, a.length = x := ⟨_, rfl⟩
    obtain ⟨m, hm⟩ : ∃ x, b.length = x := ⟨_, rfl⟩
    rw [hn, hm] at h30 ⊢
    clear hn hm ha haw hb hbw
    by_cases h1 : n ≤ 30
    · have g1 : ¬ (30 : Int) < (n : Int) := by omega
      have g2 : (30 : Int) < (m : Int) := by omega
      clear h30
      go_enter Try.func13, Try.ntmps13
      go_wp2_with fail
      refine HA0.out.mono ?_
      rintro e w5 ⟨rfl, hb5⟩
      have HB5 := Lib.hid hb5
      clear hb5
      go_wp2_with fail
      go_ret
      exact ⟨rfl, HB5.out⟩
    · have g1 : (30 : Int) < (n : Int) := by omega
      clear h30
      go_enter Try.func13, Try.ntmps13
      go_wp2_with fail
      refine HA0.out.mono ?_
      rintro e w5 ⟨rfl, hb5⟩
      have HB5 := Lib.hid hb5
      clear hb5
      go_wp2_with fail
      go_ret
      exact ⟨rfl, HB5.out⟩
end Go.Proofs.Ytkjpkhpiojahkaa
