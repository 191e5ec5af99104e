/-
  Walk: the law ChainOnce.
-/
import Derived.Test.YtmbdolmkldbjcaaOnce
import Derived.Test.YtmbdolmkldbjcaaL3
namespace Go.Proofs.Ytmbdolmkldbjcaa
open Go.RowKit

theorem below_drewN' {B : Nat} {a w : World} (h : Below B a w) (n : Nat) : Below B a (w.drewN n) := ⟨h.os, h.tape, h.output, h.size, h.block⟩
theorem below_of_drewN {w w' : World} {n : Nat} (h : Below (w.drewN n).heap.size (w.drewN n) w') : Below w.heap.size w w' := ⟨h.os, h.tape, h.output, h.size, h.block⟩

set_option maxHeartbeats 400000 in
theorem Wrong_big (a : Option Addr) (cap len : Nat) (w : World) (h64 : 64 < len) :
    Calls Try.prog 10 #[.slice a len cap] w fun e w' => e = .returned (.int .i64 13) ∧ w = w' := by
  go_enter Try.func10, Try.ntmps10
  go_wp2
  go_ret
  exact ⟨rfl, rfl⟩
theorem Wrong_all (a : Option Addr) (cap : Nat) (zs : List Int) (w : World) (hc : IntsAt w a zs) :
    Calls Try.prog 10 #[.slice a zs.length cap] w fun e w' => e = .returned (.int .i64 (err zs)) ∧ w = w' := by
  by_cases h : 64 < zs.length
  · exact (Wrong_big a cap zs.length w h).mono fun _ _ ⟨he, hw⟩ => ⟨he.trans (ret_int (by rw [err, if_pos h])), hw⟩
  · exact Wrong_any a cap zs w (by omega) hc

set_option maxRecDepth 100000 in
set_option maxHeartbeats 1000000 in
theorem once_big (a b : Option Addr) (cap cap' len len' : Nat) (w : World) (h : 20 < len') :
    Calls Try.prog 4 #[.slice a len cap, .slice b len' cap'] w fun e w' => e = .returned (.bool true) ∧ Below w.heap.size w w' := by
  go_enter Try.func4, Try.ntmps4
  go_wp2_with (go_at_call 8; refine (awake_hid _).out.mono ?_; rintro e w1 ⟨rfl, hb1⟩)
  go_ret
  exact ⟨rfl, hb1⟩

set_option maxRecDepth 100000 in
set_option maxHeartbeats 1000000 in
theorem once_bad (a b : Option Addr) (cap cap' : Nat) (zs cs : List Int) (w : World) (hl' : cs.length ≤ 20)
    (hc : IntsAt w a zs) (hc' : IntsAt w b cs) (hcap : cs.length ≤ cap') (hr : rightOf zs cs ≠ 0) :
    Calls Try.prog 4 #[.slice a zs.length cap, .slice b cs.length cap'] w fun e w' => e = .returned (.bool true) ∧ Below w.heap.size w w' := by
  have h1 := Wrong_all a cap zs w hc
  by_cases he : err zs = 0
  · rw [he] at h1
    have hl64 := (err_ok he).1
    have hp : picked zs cs = rightOf zs cs := by rw [rightOf, if_neg (by rw [he]; simp)]
    have h2 := Picked_any a b cap cap' zs cs w (by omega) (by omega) hc' hcap
    obtain ⟨r, hrr⟩ : ∃ r, rightOf zs cs = r := ⟨_, rfl⟩
    rw [hp, hrr] at h2
    rw [hrr] at hr
    have hb : (r != 0) = true := by simp [hr]
    have H1 := Lib.hid h1
    have H2 := Lib.hid h2
    clear h1 h2 hrr hp hr he
    go_enter Try.func4, Try.ntmps4
    go_wp2_with (first | (go_at_call 10; refine H1.out.mono ?_; rintro e w2 ⟨rfl, rfl⟩) | (go_at_call 11; refine H2.out.mono ?_; rintro e w2 ⟨rfl, m, rfl⟩) | (go_at_call 8; refine (awake_hid _).out.mono ?_; rintro e w3 ⟨rfl, hb3⟩))
    go_ret
    exact ⟨rfl, (⟨rfl, rfl, rfl, Nat.le_refl _, fun _ _ => rfl⟩ : Below w.heap.size w (w.drewN m)).trans hb3⟩
  · obtain ⟨r, hrr⟩ : ∃ r, err zs = r := ⟨_, rfl⟩
    rw [hrr] at h1 he
    have hb : (r != 0) = true := by simp [he]
    have H1 := Lib.hid h1
    clear h1 hrr he hr
    go_enter Try.func4, Try.ntmps4
    go_wp2_with (first | (go_at_call 10; refine H1.out.mono ?_; rintro e w2 ⟨rfl, rfl⟩) | (go_at_call 8; refine (awake_hid _).out.mono ?_; rintro e w3 ⟨rfl, hb3⟩))
    go_ret
    exact ⟨rfl, hb3⟩

set_option maxRecDepth 100000 in
set_option maxHeartbeats 4000000 in
theorem once_ok (a b : Option Addr) (cap cap' : Nat) (zs cs : List Int) (w : World) (hl' : cs.length ≤ 20)
    (hc : IntsAt w a zs) (hc' : IntsAt w b cs) (hcap : cs.length ≤ cap') (hr : rightOf zs cs = 0) :
    Calls Try.prog 4 #[.slice a zs.length cap, .slice b cs.length cap'] w fun e w' => e = .returned (.bool true) ∧ Below w.heap.size w w' := by
  obtain ⟨h64, hg, hrg, hp, _⟩ := rightOf_ok hr
  have he : err zs = 0 := by
    unfold rightOf at hr
    split at hr
    · rename_i h1; exact absurd hr h1
    · rename_i h1; simpa using h1
  have hpk : picked zs cs = 0 := by rw [← hr, rightOf, if_neg (by rw [he]; simp)]
  have h1 := Wrong_all a cap zs w hc
  rw [he] at h1
  have h2 := Picked_any a b cap cap' zs cs w (by omega) (by omega) hc' hcap
  rw [hpk] at h2
  have H1 := Lib.hid h1
  have H2 := Lib.hid h2
  have HR := Lib.hid hr
  have HP := Lib.hid hp
  have hla := acts0_length zs cs cs.length
  clear h1 h2 hr hp hg hrg he hpk
  go_enter Try.func4, Try.ntmps4
  go_wp2_with (first | (go_at_call 10; refine H1.out.mono ?_; rintro e w2 ⟨rfl, rfl⟩) | (go_at_call 11; refine H2.out.mono ?_; rintro e w2 ⟨rfl, m, rfl⟩))
  obtain ⟨w1, hw1⟩ : ∃ w1, w.drewN m = w1 := ⟨_, rfl⟩
  have hb1 : Below w.heap.size w w1 := by rw [← hw1]; exact ⟨rfl, rfl, rfl, Nat.le_refl _, fun _ _ => rfl⟩
  rw [hw1]
  clear hw1
  refine (Assign_ok a b cap cap' zs cs w1 (by omega) (hc.below (Nat.le_refl _) hb1) (hc'.below (Nat.le_refl _) hb1) HR.out).mono ?_
  rintro e w2 ⟨v, rfl, hown, hb2⟩
  obtain ⟨p, cp, rfl, hp0, hpm⟩ := own_slice hown
  have hs1 := hb1.size
  have hbw2 : Below w.heap.size w w2 := hb1.trans (hb2.mono hs1)
  have hlen : (acts0 zs cs cs.length).length ≤ 20 := by omega
  have hc2 := hc'.below (Nat.le_refl _) hbw2
  have HO2 := Lib.hid hown
  have HB2 := Lib.hid hbw2
  have HP0 := Lib.hid hp0
  clear hb1 hb2 hown hbw2 hp0 hpm
  go_wp2_with fail
  go_loop [7, 8] (fun n k => ∃ i : Nat, i ≤ cs.length ∧ k = .int .i64 i ∧ n = .int .i64 (acts0 zs cs i).length) (fun _ k => cs.length - (intOf k).toNat)
  case atStart => exact ⟨0, Nat.zero_le _, rfl, rfl⟩
  case round =>
    obtain ⟨i, hi, rfl, rfl⟩ := hrel
    have hle := acts0_length zs cs i
    by_cases hlt : i < cs.length
    · obtain ⟨b', off, rfl, hbb, hcell⟩ := hc2 i hlt
      obtain ⟨x, hx⟩ : ∃ x, cs[i]?.getD 0 = x := ⟨_, rfl⟩
      have HM := Lib.hid (acts0_many zs cs HP.out i hlt)
      have HX := Lib.hid hx
      rw [hx] at hcell
      clear hx
      by_cases h0 : 0 ≤ x
      · go_wp2_with fail
        go_round
        case rel => exact ⟨i + 1, by omega, by go_num, by rw [HM.out, List.getD, HX.out, if_pos h0]; go_num⟩
        case measure => simp [intOf]; omega
      · go_wp2_with fail
        go_round
        case rel => exact ⟨i + 1, by omega, by go_num, by rw [HM.out, List.getD, HX.out, if_neg (by omega)]; go_num⟩
        case measure => simp [intOf]; omega
    · have hic : i = cs.length := by omega
      have HI := Lib.hid hic
      have hq : (acts0 zs cs i).length = (acts0 zs cs cs.length).length := by rw [HI.out]
      rw [hq]
      clear hq hic
      obtain ⟨acts, hacts⟩ : ∃ l, acts0 zs cs cs.length = l := ⟨_, rfl⟩
      rw [hacts] at hlen hla ⊢
      have hHP0 := HP0.out
      have hHO2 := HO2.out
      rw [hacts] at hHP0 hHO2
      have HP0 := Lib.hid hHP0
      have HO2 := Lib.hid hHO2
      have HL := Lib.hid hacts
      clear hHP0 hHO2 hacts
      have hself : ((acts.length : Int) != acts.length) = false := by simp
      go_wp2_with fail
      go_loopg [9] acts.length (fun gh s9 wr => ∃ i : Nat, i + gh = acts.length ∧ s9 = .int .i64 i ∧ Below w.heap.size w wr ∧ wr.ownsRow w1.heap.size 33 4 (.slice p acts.length cp) acts.length (cellsOf zs cs cs.length acts))
      case atStart => exact ⟨0, by omega, rfl, HB2.out, HO2.out⟩
      case round =>
        obtain ⟨i, hi, rfl, hb, hown⟩ := hrel
        have HN := Lib.hid hi
        have hi' : i ≤ acts.length := by omega
        have hsz := hb.size
        clear hi
        by_cases hlt : i < acts.length
        · obtain ⟨⟨kw, x, t⟩, hact⟩ : ∃ c, acts[i]? = some c := ⟨_, List.getElem?_eq_getElem hlt⟩
          have hmem : (kw, x, t) ∈ acts0 zs cs cs.length := by rw [HL.out]; exact List.mem_of_getElem? hact
          obtain ⟨j, hj1, hj2, hj3, ⟨hx0, hx1⟩, ⟨ht0, ht1⟩, hj6, hj7⟩ := act_facts HR.out hmem
          dsimp only at hj2 hj3 hx0 hx1 ht0 ht1 hj6 hj7
          subst hj2
          have hpg : ∃ g, p = some ⟨g, 0, none⟩ := by rcases HP0.out with h | h; omega; exact h
          obtain ⟨g, rfl⟩ := hpg
          have hall : ∀ (m : Nat) (c : Act0), acts[m]? = some c → ∀ q, q < 4 → ∀ v, (actC c.1 c.2.1 c.2.2 (spins zs cs c))[q]? = some v → (cellsOf zs cs cs.length acts)[m * 4 + q]? = some v := fun m c hc q hq v hv => by
            have hmlt := (List.getElem?_eq_some_iff.1 hc).1
            rw [cellsOf_at zs cs cs.length acts m c hc q hq, if_pos (by omega)]
            exact hv
          obtain ⟨sp, hspe⟩ : ∃ sp, spins zs cs (((j : Int), x, t) : Act0) = sp := ⟨_, rfl⟩
          have l0 := own_cell hown (hall i _ hact 0 (by omega) _ rfl)
          have l1 := own_cell hown (hall i _ hact 1 (by omega) _ rfl)
          have l2 := own_cell hown (hall i _ hact 2 (by omega) _ rfl)
          have l3 := own_cell hown (hall i _ hact 3 (by omega) _ rfl)
          simp only [Nat.add_zero, hspe] at l0 l1 l2 l3
          obtain ⟨b', off, rfl, hbb, hcell⟩ := (hc'.below (Nat.le_refl _) hb) j hj1
          rw [hj3] at hcell
          obtain ⟨a', off', rfl, haa, hcellw⟩ := (hc.below (Nat.le_refl _) hb) t.toNat (by omega)
          rw [hj6] at hcellw
          have hw0 := (along_of HR.out ⟨hx0, hx1⟩)
          rw [hj7] at hw0
          have hcE : ∀ A, Below w.heap.size w A → Calls Try.prog 14 #[.slice (some ⟨a', off', none⟩) zs.length cap, .int .i64 x] A fun e A' => e = .returned (.tuple #[.int .i64 t, .int .i64 0]) ∧ Below A.heap.size A A' := fun A hA => by
            have := Cend_any (some ⟨a', off', none⟩) cap zs x A (by omega) (hc.below (Nat.le_refl _) hA)
            rwa [hw0.1, hw0.2] at this
          have HAll := Lib.hid hall
          have HSp := Lib.hid hspe
          have HCE := Lib.hid hcE
          have HB := Lib.hid hb
          have HOwn := Lib.hid hown
          have HAct := Lib.hid hact
          have HMem := Lib.hid hmem
          clear hall hspe hcE hb hown hact hmem hj3 hj6 hj7 hw0
          go_wp2_with fail
          go_quiet (fail)
          go_wp2_with fail
          refine (HCE.out _ (below_drewN' (HB.out.alloc hsz _) _)).mono ?_
          rintro e w5 ⟨rfl, hb5⟩
          have hb5' := below_of_drewN hb5
          have hbx : Below wr.heap.size wr w5 := ((Below.refl _ wr).alloc (Nat.le_refl _) _).trans (hb5'.mono (by simp))
          obtain ⟨d0, d1, d2, d3⟩ := cells4 (w := wr) (w' := w5) (o := (.int .i64 j, .int .i64 x, .int .i64 t, .bool sp)) (t := 33) rfl (Mod.of_below (S := none') hb5') (fun h => h)
          dsimp only at d0 d1 d2 d3
          have hown5 := ownsRow_below HOwn.out hbx
          have hbw5 : Below w.heap.size w w5 := HB.out.trans (hbx.mono hsz)
          have HO5 := Lib.hid hown5
          have HB5 := Lib.hid hbw5
          have HD := Lib.hid (And.intro d0 (And.intro d1 (And.intro d2 d3)))
          clear hbx hown5 hbw5 hb5 hb5' d0 d1 d2 d3 l0 l1 l2 l3 hcell hcellw
          go_wp2_with fail
          obtain ⟨Bx, hBx⟩ : ∃ Bx, wr.heap.size = Bx := ⟨_, rfl⟩
          rw [hBx] at HD ⊢
          clear hBx hsz
          go_loopg [13, 14] acts.length (fun gh s13 s14 wq => ∃ k : Nat, k + gh = acts.length ∧ s14 = .int .i64 k ∧ s13 = .int .i64 (cntL zs cs t (acts.take k)) ∧ ∃ m, wq = w5.drewN m)
          case atStart => exact ⟨0, by omega, rfl, by simp [cntL], 0, rfl⟩
          case round =>
            obtain ⟨k, hk, rfl, rfl, hwq⟩ := hrel
            have hcl := cntL_le zs cs t (acts.take k)
            rw [List.length_take] at hcl
            have HK := Lib.hid hk
            have hk' : k ≤ acts.length := by omega
            clear hk
            by_cases hlk : k < acts.length
            · obtain ⟨⟨kw', x', t'⟩, hact'⟩ : ∃ c, acts[k]? = some c := ⟨_, List.getElem?_eq_getElem hlk⟩
              obtain ⟨sp', hspe'⟩ : ∃ b, spins zs cs ((kw', x', t') : Act0) = b := ⟨_, rfl⟩
              have hcells : ∀ q, q < 4 → ∀ v, (actC kw' x' t' sp')[q]? = some v → (wr : World).cell? ⟨g, k * 4 + q, none⟩ = some v := fun q hq v hv => by
                obtain ⟨m, rfl⟩ := hwq
                exact own_cell HO5.out (HAll.out k _ hact' q hq v (by rw [hspe']; exact hv))
              have m0 := hcells 0 (by omega) _ rfl
              have m1 := hcells 1 (by omega) _ rfl
              have m2 := hcells 2 (by omega) _ rfl
              have m3 := hcells 3 (by omega) _ rfl
              simp only [Nat.add_zero] at m0
              clear hcells
              have d0 : wr.cell? ⟨Bx, 0, none⟩ = some (.int .i64 j) := by obtain ⟨m, rfl⟩ := hwq; exact HD.out.1
              have d2 : wr.cell? ⟨Bx, 2, none⟩ = some (.int .i64 t) := by obtain ⟨m, rfl⟩ := hwq; exact HD.out.2.2.1
              have HW := Lib.hid hwq
              have HSp' := Lib.hid hspe'
              have HAct' := Lib.hid hact'
              have hne : k ≠ i → (kw' == (j : Int)) = false := fun h => by
                have h1 := HAct.out
                have h2 := HAct'.out
                rw [← HL.out] at h1 h2
                simp only [beq_eq_false_iff_ne]
                exact acts0_ne h1 h2 h
              have hns : t' = t → x' = t → sp' = false := fun h1 h2 => by
                rw [← HSp'.out]
                exact no_spin HR.out (by rw [HL.out]; exact List.mem_of_getElem? HAct'.out) (by show x' = t'; rw [h1, h2])
              have hcnt : cntL zs cs t (acts.take (k + 1)) = cntL zs cs t (acts.take k) + if (t' == t && !sp') = true then 1 else 0 := by
                rw [List.take_add_one, HAct'.out, ← HSp'.out]
                exact cntL_snoc zs cs t _ _
              have HCnt := Lib.hid hcnt
              obtain ⟨b2, hb2⟩ : ∃ b, ((k : Int) != (i : Int)) = b := ⟨_, rfl⟩
              have hne2 : b2 = true → (kw' == (j : Int)) = false := fun h => hne (by rw [h] at hb2; simp only [bne_iff_ne] at hb2; omega)
              have HNS := Lib.hid hns
              have HN2 := Lib.hid hne2
              clear hwq hspe' hact' hne hns hcnt hne2
              obtain ⟨b1, hb1⟩ : ∃ b, (t' == t) = b := ⟨_, rfl⟩
              obtain ⟨b3, hb3⟩ : ∃ b, (x' == t) = b := ⟨_, rfl⟩
              cases b1 with
              | false =>
                have HB1 := Lib.hid hb1
                cases b2 with
                | true =>
                  have hw2 := HN2.out rfl
                  go_wp2_with fail
                  go_quiet (fail)
                  go_wp2_with fail
                  go_quiet (fail)
                  go_wp2_with fail
                  go_quiet (fail)
                  go_wp2_with fail
                  go_roundg (gk - 1)
                  case measure => have := HK.out; omega
                  case rel =>
                    refine ⟨k + 1, by have := HK.out; omega, by go_num, by rw [HCnt.out, HB1.out]; simp, ?_⟩
                    obtain ⟨m, hm⟩ := HW.out
                    rw [hm]
                    simp only [World.drewN_drewN]
                    exact ⟨_, rfl⟩
                | false =>
                  go_wp2_with fail
                  go_quiet (fail)
                  go_wp2_with fail
                  go_quiet (fail)
                  go_wp2_with fail
                  go_quiet (fail)
                  go_wp2_with fail
                  go_roundg (gk - 1)
                  case measure => have := HK.out; omega
                  case rel =>
                    refine ⟨k + 1, by have := HK.out; omega, by go_num, by rw [HCnt.out, HB1.out]; simp, ?_⟩
                    obtain ⟨m, hm⟩ := HW.out
                    rw [hm]
                    simp only [World.drewN_drewN]
                    exact ⟨_, rfl⟩
              | true =>
                have HB1 := Lib.hid hb1
                cases sp' with
                | true =>
                  have hb3f : b3 = false := by
                    cases b3 with
                    | false => rfl
                    | true => exact absurd (HNS.out (eq_of_beq hb1) (eq_of_beq hb3)) (by simp)
                  subst hb3f
                  cases b2 with
                  | true =>
                    have hw2 := HN2.out rfl
                    go_wp2_with fail
                    go_quiet (fail)
                    go_wp2_with fail
                    go_quiet (fail)
                    go_wp2_with fail
                    go_quiet (fail)
                    go_wp2_with fail
                    go_roundg (gk - 1)
                    case measure => have := HK.out; omega
                    case rel =>
                      refine ⟨k + 1, by have := HK.out; omega, by go_num, by rw [HCnt.out, HB1.out]; simp, ?_⟩
                      obtain ⟨m, hm⟩ := HW.out
                      rw [hm]
                      simp only [World.drewN_drewN]
                      exact ⟨_, rfl⟩
                  | false =>
                    go_wp2_with fail
                    go_quiet (fail)
                    go_wp2_with fail
                    go_quiet (fail)
                    go_wp2_with fail
                    go_quiet (fail)
                    go_wp2_with fail
                    go_roundg (gk - 1)
                    case measure => have := HK.out; omega
                    case rel =>
                      refine ⟨k + 1, by have := HK.out; omega, by go_num, by rw [HCnt.out, HB1.out]; simp, ?_⟩
                      obtain ⟨m, hm⟩ := HW.out
                      rw [hm]
                      simp only [World.drewN_drewN]
                      exact ⟨_, rfl⟩
                | false =>
                  cases b2 with
                  | true =>
                    have hw2 := HN2.out rfl
                    cases b3 with
                    | true =>
                      go_wp2_with fail
                      go_quiet (fail)
                      go_wp2_with fail
                      go_quiet (fail)
                      go_wp2_with fail
                      go_quiet (fail)
                      go_wp2_with fail
                      go_roundg (gk - 1)
                      case measure => have := HK.out; omega
                      case rel =>
                        refine ⟨k + 1, by have := HK.out; omega, by go_num, by rw [HCnt.out, HB1.out]; go_num, ?_⟩
                        obtain ⟨m, hm⟩ := HW.out
                        rw [hm]
                        simp only [World.drewN_drewN]
                        exact ⟨_, rfl⟩
                    | false =>
                      go_wp2_with fail
                      go_quiet (fail)
                      go_wp2_with fail
                      go_quiet (fail)
                      go_wp2_with fail
                      go_quiet (fail)
                      go_wp2_with fail
                      go_roundg (gk - 1)
                      case measure => have := HK.out; omega
                      case rel =>
                        refine ⟨k + 1, by have := HK.out; omega, by go_num, by rw [HCnt.out, HB1.out]; go_num, ?_⟩
                        obtain ⟨m, hm⟩ := HW.out
                        rw [hm]
                        simp only [World.drewN_drewN]
                        exact ⟨_, rfl⟩
                  | false =>
                    cases b3 with
                    | true =>
                      go_wp2_with fail
                      go_quiet (fail)
                      go_wp2_with fail
                      go_quiet (fail)
                      go_wp2_with fail
                      go_quiet (fail)
                      go_wp2_with fail
                      go_roundg (gk - 1)
                      case measure => have := HK.out; omega
                      case rel =>
                        refine ⟨k + 1, by have := HK.out; omega, by go_num, by rw [HCnt.out, HB1.out]; go_num, ?_⟩
                        obtain ⟨m, hm⟩ := HW.out
                        rw [hm]
                        simp only [World.drewN_drewN]
                        exact ⟨_, rfl⟩
                    | false =>
                      go_wp2_with fail
                      go_quiet (fail)
                      go_wp2_with fail
                      go_quiet (fail)
                      go_wp2_with fail
                      go_quiet (fail)
                      go_wp2_with fail
                      go_roundg (gk - 1)
                      case measure => have := HK.out; omega
                      case rel =>
                        refine ⟨k + 1, by have := HK.out; omega, by go_num, by rw [HCnt.out, HB1.out]; go_num, ?_⟩
                        obtain ⟨m, hm⟩ := HW.out
                        rw [hm]
                        simp only [World.drewN_drewN]
                        exact ⟨_, rfl⟩
            · have hke : k = acts.length := by omega
              have h1 : cntL zs cs t (acts.take k) = 1 := by
                rw [List.take_of_length_le (by omega), ← HL.out]
                exact once HR.out HMem.out
              have d2 : wr.cell? ⟨Bx, 2, none⟩ = some (.int .i64 t) := by obtain ⟨m, rfl⟩ := hwq; exact HD.out.2.2.1
              have hbq : Below w.heap.size w wr := by obtain ⟨m, rfl⟩ := hwq; exact below_drewN' HB5.out m
              have hoq : wr.ownsRow w1.heap.size 33 4 (.slice (some ⟨g, 0, none⟩) acts.length cp) acts.length (cellsOf zs cs cs.length acts) := by obtain ⟨m, rfl⟩ := hwq; exact HO5.out
              have HBq := Lib.hid hbq
              have HOq := Lib.hid hoq
              rw [h1]
              clear hwq hbq hoq h1 hke hcl
              go_wp2_with fail
              go_roundg (acts.length - (i + 1))
              case measure => have := HN.out; omega
              case rel => exact ⟨i + 1, by omega, by go_num, HBq.out, HOq.out⟩
        · have HB := Lib.hid hb
          clear hb hown
          go_wp2_with (go_at_call 8; refine (awake_hid _).out.mono ?_; rintro e w5 ⟨rfl, hb5⟩)
          go_ret
          exact ⟨rfl, HB.out.trans (hb5.mono hsz)⟩
end Go.Proofs.Ytmbdolmkldbjcaa
