/-
  Walk: the law ChainAssigns.
-/
import Derived.Test.YtmbdolmkldbjcaaActs2
import Derived.Test.YtmbdolmkldbjcaaW10
import Derived.Deep.RegionHeld3
import Derived.Deep.DeepCutAuto
namespace Go.Proofs.Ytmbdolmkldbjcaa
open Go.RowKit

theorem awake_hid (w : World) : Hid (Calls Try.prog 8 #[] w fun e w' => e = .returned (.bool true) ∧ Below w.heap.size w w') := awake_any w

set_option maxRecDepth 100000 in
set_option maxHeartbeats 1000000 in
theorem assigns_big (a b : Option Addr) (cap cap' len len' : Nat) (w : World) (h : 80 < len ∨ 20 < len') :
    Calls Try.prog 3 #[.slice a len cap, .slice b len' cap'] w fun e w' => e = .returned (.bool true) ∧ Below w.heap.size w w' := by
  by_cases h1 : 80 < len
  · go_enter Try.func3, Try.ntmps3
    go_wp2_with (go_at_call 8; refine (awake_hid _).out.mono ?_; rintro e w1 ⟨rfl, hb1⟩)
    go_ret
    exact ⟨rfl, hb1⟩
  · have h2 : 20 < len' := by omega
    clear h
    go_enter Try.func3, Try.ntmps3
    go_wp2_with (go_at_call 8; refine (awake_hid _).out.mono ?_; rintro e w1 ⟨rfl, hb1⟩)
    go_ret
    exact ⟨rfl, hb1⟩

set_option maxRecDepth 100000 in
set_option maxHeartbeats 1000000 in
theorem assigns_bad (a b : Option Addr) (cap cap' : Nat) (zs cs : List Int) (w : World) (hl : zs.length ≤ 80) (hl' : cs.length ≤ 20)
    (hc : IntsAt w a zs) (hc' : IntsAt w b cs) (hcap : cs.length ≤ cap') (hr : rightOf zs cs ≠ 0) :
    Calls Try.prog 3 #[.slice a zs.length cap, .slice b cs.length cap'] w fun e w' => e = .returned (.bool true) ∧ Below w.heap.size w w' := by
  have h1 := Assign_bad a b cap cap' zs cs w (by omega) (by omega) hc hc' hr
  obtain ⟨r, hrr⟩ : ∃ r, rightOf zs cs = r := ⟨_, rfl⟩
  rw [hrr] at h1 hr
  have H1 := Lib.hid h1
  have hn1 : (80 : Int) < zs.length → False := by omega
  clear h1
  by_cases he : err zs = 0
  · have hp : picked zs cs = r := by rw [← hrr, rightOf, if_neg (by rw [he]; simp)]
    have hb : (r == 0) = false := by simp [hr]
    have hb' : (r != 0) = true := by simp [hr]
    have HE := Lib.hid he
    have HP := Lib.hid hp
    clear hrr hr he hp hn1
    go_enter Try.func3, Try.ntmps3
    go_wp2_with fail
    refine H1.out.mono ?_
    rintro e w1 ⟨rfl, hb1⟩
    have h2 := Wrong_any a cap zs w1 (by omega) (hc.below (Nat.le_refl _) hb1)
    rw [HE.out] at h2
    have H2 := Lib.hid h2
    clear h2
    go_wp2_with fail
    refine H2.out.mono ?_
    rintro e w2 ⟨rfl, rfl⟩
    have h3 := Picked_any a b cap cap' zs cs w1 (by omega) (by omega) (hc'.below (Nat.le_refl _) hb1) hcap
    rw [HP.out] at h3
    have H3 := Lib.hid h3
    clear h3
    go_wp2_with fail
    refine H3.out.mono ?_
    rintro e w2 ⟨rfl, m, rfl⟩
    go_wp2_with (go_at_call 8; refine (awake_hid _).out.mono ?_; rintro e w3 ⟨rfl, hb3⟩)
    go_ret
    exact ⟨rfl, hb1.trans (((Below.refl _ w1).trans (⟨rfl, rfl, rfl, Nat.le_refl _, fun _ _ => rfl⟩ : Below w.heap.size w1 (w1.drewN m))).trans (hb3.mono (by have := hb1.size; exact this)))⟩
  · have hp : err zs = r := by rw [← hrr, rightOf, if_pos he]
    have hb : (r == 0) = false := by simp [hr]
    have hb' : (r != 0) = true := by simp [hr]
    have HP := Lib.hid hp
    clear hrr hr he hp hn1
    go_enter Try.func3, Try.ntmps3
    go_wp2_with fail
    refine H1.out.mono ?_
    rintro e w1 ⟨rfl, hb1⟩
    have h2 := Wrong_any a cap zs w1 (by omega) (hc.below (Nat.le_refl _) hb1)
    rw [HP.out] at h2
    have H2 := Lib.hid h2
    clear h2
    go_wp2_with fail
    refine H2.out.mono ?_
    rintro e w2 ⟨rfl, rfl⟩
    go_wp2_with (go_at_call 8; refine (awake_hid _).out.mono ?_; rintro e w3 ⟨rfl, hb3⟩)
    go_ret
    exact ⟨rfl, hb1.trans (hb3.mono hb1.size)⟩

theorem own_slice {w : World} {B : Nat} {v : Value} {n : Nat} {xs : List Value} {t : TypeId} {size : Nat} (h : w.ownsRow B t size v n xs) :
    ∃ p cp, v = .slice p n cp ∧ (n = 0 ∨ ∃ g, p = some ⟨g, 0, none⟩) ∧ n ≤ maxLen := by
  rcases ownsRow_cases h with ⟨rfl, h0⟩ | ⟨g, cp, cur, rfl, _, hg, h1, h2, _, ht⟩
  · subst h0; exact ⟨none, 0, rfl, .inl rfl, Nat.zero_le _⟩
  · exact ⟨_, cp, rfl, .inr ⟨g, rfl⟩, Nat.le_trans h1 h2⟩
theorem own_cell {w : World} {B g : Nat} {n cp : Nat} {xs : List Value} {t : TypeId} {size j : Nat} {x : Value} (h : w.ownsRow B t size (.slice (some ⟨g, 0, none⟩) n cp) n xs) (hx : xs[j]? = some x) :
    w.cell? ⟨g, j, none⟩ = some x := by
  have := h.cells (g := g) rfl j x hx
  have ha : (⟨g, 0, none⟩ : Addr).add j = ⟨g, 0 + j, none⟩ := by unfold Addr.add; split <;> simp_all
  rwa [ha, Nat.zero_add] at this
theorem box_set {w : World} {B : Nat} {v0 v1 v2 v3 z0 z1 z2 z3 : Value} (h0 : w.cell? ⟨B, 0, none⟩ = some z0) (h1 : w.cell? ⟨B, 1, none⟩ = some z1) (h2 : w.cell? ⟨B, 2, none⟩ = some z2) (h3 : w.cell? ⟨B, 3, none⟩ = some z3) :
    ((((w.setCell ⟨B, 0, none⟩ v0).setCell ⟨B, 1, none⟩ v1).setCell ⟨B, 2, none⟩ v2).setCell ⟨B, 3, none⟩ v3).cell? ⟨B, 0, none⟩ = some v0 ∧
    ((((w.setCell ⟨B, 0, none⟩ v0).setCell ⟨B, 1, none⟩ v1).setCell ⟨B, 2, none⟩ v2).setCell ⟨B, 3, none⟩ v3).cell? ⟨B, 1, none⟩ = some v1 ∧
    ((((w.setCell ⟨B, 0, none⟩ v0).setCell ⟨B, 1, none⟩ v1).setCell ⟨B, 2, none⟩ v2).setCell ⟨B, 3, none⟩ v3).cell? ⟨B, 2, none⟩ = some v2 ∧
    ((((w.setCell ⟨B, 0, none⟩ v0).setCell ⟨B, 1, none⟩ v1).setCell ⟨B, 2, none⟩ v2).setCell ⟨B, 3, none⟩ v3).cell? ⟨B, 3, none⟩ = some v3 := by
  have e (w : World) (i j : Nat) (v : Value) (h : i ≠ j) : (w.setCell ⟨B, j, none⟩ v).cell? ⟨B, i, none⟩ = w.cell? ⟨B, i, none⟩ := World.cell?_setCell_other _ _ _ _ (by first | (simp; done) | (simp; omega))
  refine ⟨?_, ?_, ?_, ?_⟩
  · rw [e _ 0 3 _ (by omega), e _ 0 2 _ (by omega), e _ 0 1 _ (by omega)]; exact World.cell?_setCell_same' _ _ _ (by rw [h0]; rfl)
  · rw [e _ 1 3 _ (by omega), e _ 1 2 _ (by omega)]; exact World.cell?_setCell_same' _ _ _ (by rw [e _ 1 0 _ (by omega), h1]; rfl)
  · rw [e _ 2 3 _ (by omega)]; exact World.cell?_setCell_same' _ _ _ (by rw [e _ 2 1 _ (by omega), e _ 2 0 _ (by omega), h2]; rfl)
  · exact World.cell?_setCell_same' _ _ _ (by rw [e _ 3 2 _ (by omega), e _ 3 1 _ (by omega), e _ 3 0 _ (by omega), h3]; rfl)
theorem below_step {W A A' : World} (h1 : Below W.heap.size W A) (h2 : Below A.heap.size A A') : Below W.heap.size W A' := h1.trans (h2.mono h1.size)
theorem bcell {W w1 : World} (hb : Below W.heap.size W w1) : (∀ b o, b < W.heap.size → w1.cell? ⟨b, o, none⟩ = W.cell? ⟨b, o, none⟩) ∧ (∀ b o, b < W.heap.size → w1.frozen? ⟨b, o, none⟩ = W.frozen? ⟨b, o, none⟩) :=
  ⟨fun b o h => hb.cell (p := ⟨b, o, none⟩) h, fun b o h => hb.frozen (p := ⟨b, o, none⟩) h⟩

set_option maxRecDepth 100000 in
set_option maxHeartbeats 4000000 in
theorem assigns_ok (a b : Option Addr) (cap cap' : Nat) (zs cs : List Int) (w : World) (hl : zs.length ≤ 80) (hl' : cs.length ≤ 20)
    (hc : IntsAt w a zs) (hc' : IntsAt w b cs) (hcap : cs.length ≤ cap') (hr : rightOf zs cs = 0) :
    Calls Try.prog 3 #[.slice a zs.length cap, .slice b cs.length cap'] w fun e w' => e = .returned (.bool true) ∧ Below w.heap.size w w' := by
  obtain ⟨h64, hg, hrg, hp, _⟩ := rightOf_ok hr
  have h1 := Assign_ok a b cap cap' zs cs w (by omega) hc hc' hr
  have H1 := Lib.hid h1
  have he : err zs = 0 := by
    unfold rightOf at hr
    split at hr
    · rename_i h1; exact absurd hr h1
    · rename_i h1; simpa using h1
  have hpk : picked zs cs = 0 := by rw [← hr, rightOf, if_neg (by rw [he]; simp)]
  have HE := Lib.hid he
  have HPk := Lib.hid hpk
  have HR := Lib.hid hr
  have HG := Lib.hid hg
  have HRG := Lib.hid hrg
  have HP := Lib.hid hp
  have hla := acts0_length zs cs cs.length
  obtain ⟨acts, hacts⟩ : ∃ l, acts0 zs cs cs.length = l := ⟨_, rfl⟩
  have HA := Lib.hid hacts
  rw [hacts] at hla
  clear h1 hr hg hrg hp he hpk hacts
  go_enter Try.func3, Try.ntmps3
  go_wp2_with fail
  refine H1.out.mono ?_
  rintro e w1 ⟨v, rfl, hown, hb1⟩
  obtain ⟨p, cp, rfl, hp0, hpm⟩ := own_slice hown
  have hcw1 := hc.below (Nat.le_refl _) hb1
  have hcw1' := hc'.below (Nat.le_refl _) hb1
  have h2 := Wrong_any a cap zs w1 (by omega) hcw1
  rw [HE.out] at h2
  have H2 := Lib.hid h2
  rw [HA.out] at hown hp0 hpm ⊢
  have HOwn := Lib.hid hown
  have HP0 := Lib.hid hp0
  clear h2 hown hp0
  unfold maxLen at hpm
  go_wp2_with fail
  refine H2.out.mono ?_
  rintro e w2 ⟨rfl, rfl⟩
  have h3 := Picked_any a b cap cap' zs cs w1 (by omega) (by omega) hcw1' hcap
  rw [HPk.out] at h3
  have H3 := Lib.hid h3
  clear h3
  go_wp2_with fail
  refine H3.out.mono ?_
  rintro e w2 ⟨rfl, m, rfl⟩
  obtain ⟨w2, hw2⟩ : ∃ w2, w1.drewN m = w2 := ⟨_, rfl⟩
  have hb2 : Below w.heap.size w w2 := by rw [← hw2]; exact ⟨hb1.os, hb1.tape, hb1.output, hb1.size, hb1.block⟩
  have HO2 := Lib.hid (show w2.ownsRow w.heap.size 33 4 (.slice p acts.length cp) acts.length (cellsOf zs cs cs.length acts) by rw [← hw2]; exact HOwn.out)
  rw [hw2]
  clear hw2 hcw1 hcw1' hb1 HOwn
  go_wp2_with fail
  go_loopg [8, 9] cs.length (fun gh n k wr => ∃ i : Nat, i + gh = cs.length ∧ k = .int .i64 i ∧ n = .int .i64 (acts0 zs cs i).length ∧ Below w.heap.size w wr ∧
    wr.ownsRow w.heap.size 33 4 (.slice p acts.length cp) acts.length (cellsOf zs cs cs.length acts))
  case atStart => exact ⟨0, by omega, rfl, rfl, hb2, HO2.out⟩
  case round =>
    obtain ⟨i, hi, rfl, rfl, hb, hown⟩ := hrel
    have HN := Lib.hid hi
    have hi' : i ≤ cs.length := by omega
    have hsz := hb.size
    have HO := Lib.hid hown
    clear hi hown
    by_cases hlt : i < cs.length
    · obtain ⟨b', off, rfl, hbb, hcell⟩ := (hc'.below (Nat.le_refl _) hb) i hlt
      obtain ⟨x, hx⟩ : ∃ x, cs[i]?.getD 0 = x := ⟨_, rfl⟩
      have HX := Lib.hid hx
      rw [hx] at hcell
      clear hx
      have hok : OkI zs x := getD_ok HP.out hlt HX.out
      have HOk := Lib.hid hok
      rcases hok with hm | ⟨h0, h1⟩
      · have hx0 : x < 0 := by omega
        have HM := Lib.hid hm
        clear hm
        go_wp2_with fail
        go_roundg (gk - 1)
        case measure => have := HN.out; omega
        case rel =>
          have e1 : acts0 zs cs (i + 1) = acts0 zs cs i := by rw [acts0, List.getD, HX.out, if_pos HM.out]
          exact ⟨i + 1, by have := HN.out; omega, by go_num, by rw [e1], hb, HO.out⟩
      · obtain ⟨y, hy⟩ : ∃ y, endOf zs x = y := ⟨_, rfl⟩
        have HY := Lib.hid hy
        have hcE := End_any a cap zs x wr (by omega) (hc.below (Nat.le_refl _) hb) HG.out HOk.out (HRG.out _ HOk.out) (by omega)
        rw [hy] at hcE
        have HCE := Lib.hid hcE
        have HB := Lib.hid hb
        clear hcE hy hb
        go_wp2_with fail
        refine HCE.out.mono ?_
        rintro e w3 ⟨rfl, hb3⟩
        have hbw3 : Below w.heap.size w w3 := HB.out.trans (hb3.mono hsz)
        have ho3 := ownsRow_below HO.out hb3
        have hs3 := hb3.size
        obtain ⟨r, hrr⟩ : ∃ r, runsOf zs cs y = r := ⟨_, rfl⟩
        have hcR : ∀ A, Below w3.heap.size w3 A → Calls Try.prog 13 #[.slice a zs.length cap, .slice (some ⟨b', off, none⟩) cs.length cap', .int .i64 y] A fun e A' => e = .returned (.int .i64 r) ∧ Below A.heap.size A A' := fun A hA => by
          have hA' := hbw3.trans (hA.mono (by omega))
          have := Runs_any a (some ⟨b', off, none⟩) cap cap' zs cs y A (by omega) (by omega) (hc.below (Nat.le_refl _) hA') (hc'.below (Nat.le_refl _) hA') HG.out HRG.out HP.out
          rw [hrr] at this
          exact this
        have HCR := Lib.hid hcR
        have HRR := Lib.hid hrr
        have hcell3 : w3.cell? ⟨b', off + i, none⟩ = some (.int .i64 x) := (hb3.cell hbb).trans hcell
        have HB3 := Lib.hid hbw3
        have HO3 := Lib.hid ho3
        have hbb3 : b' < w3.heap.size := by omega
        clear hcR hrr hbw3 ho3 hb3 hcell
        go_upto_region 15 with fail
        go_cut [11] (fun s11 wx => ∃ B : Nat, s11 = .pointer (some ⟨B, 0, none⟩) ∧ (wx.cell? ⟨B, 0, none⟩ = some (.int .i64 i) ∧ wx.cell? ⟨B, 1, none⟩ = some (.int .i64 x) ∧ wx.cell? ⟨B, 2, none⟩ = some (.int .i64 y) ∧ wx.cell? ⟨B, 3, none⟩ = some (.bool (r != i))) ∧ Below w3.heap.size w3 wx)
        case first =>
          have hne3 := World.new_ne w3 _ hcell3
          go_region_held3 (fun w' => w'.cell? ⟨b', off + i, none⟩ = some (.int .i64 x)) (first | assumption | go_keep)
            (first | (go_at_call 13; with_reducible refine (HCR.out _ (by first | exact (Below.refl _ _).drew | exact ((Below.refl _ _).drew.alloc (Nat.le_refl _) _) | exact ((Below.refl _ _).alloc (Nat.le_refl _) _).drew)).mono ?_; rintro e wz ⟨rfl, hbz⟩; have hcz : wz.cell? ⟨b', off + i, none⟩ = some (.int .i64 x) := (hbz.cell (p := ⟨b', off + i, none⟩) (by simp; omega)).trans (by go_simp); have hnz := World.new_ne wz _ hcz; have hkz : Below w3.heap.size w3 wz := below_step (by first | exact (Below.refl _ _).drew | exact ((Below.refl _ _).drew.alloc (Nat.le_refl _) _) | exact ((Below.refl _ _).alloc (Nat.le_refl _) _).drew) hbz; obtain ⟨q1, q2⟩ := bcell hbz; have hz := hbz.size; simp at hz))
          · go_wp2_with fail
            go_meet
            refine ⟨wz.heap.size, rfl, ⟨?_, ?_, ?_, ?_⟩, hkz.alloc hkz.size _⟩ <;> exact (World.cell?_alloc_at _ _ _ _ rfl).trans rfl
          · go_wp2_with fail
            go_meet
            have hz0 : ∀ j, wz.cell? ⟨w3.heap.size, j, none⟩ = _ := fun j => q1 w3.heap.size j (by simp)
            refine ⟨w3.heap.size, rfl, box_set (z0 := .int .i64 0) (z1 := .int .i64 0) (z2 := .int .i64 0) (z3 := .bool false) ((hz0 0).trans (by go_simp)) ((hz0 1).trans (by go_simp)) ((hz0 2).trans (by go_simp)) ((hz0 3).trans (by go_simp)), ?_⟩
            exact (((hkz.setCell (p := ⟨w3.heap.size, 0, none⟩) (Nat.le_refl _) _).setCell (p := ⟨w3.heap.size, 1, none⟩) (Nat.le_refl _) _).setCell (p := ⟨w3.heap.size, 2, none⟩) (Nat.le_refl _) _).setCell (p := ⟨w3.heap.size, 3, none⟩) (Nat.le_refl _) _
        case rest =>
          obtain ⟨B, rfl, ⟨d0, d1, d2, d3⟩, hbx⟩ := hcut
          have hne : cs.getD i 0 ≠ -1 := by rw [List.getD, HX.out]; omega
          have hat := acts0_at zs cs i hlt hne
          have hsp := spins_runs HR.out hlt hne
          rw [List.getD, HX.out, HY.out, HRR.out] at hsp
          rw [HA.out] at hat
          have e1 : (acts0 zs cs (i + 1)).length = (acts0 zs cs i).length + 1 := by rw [acts0, if_neg hne, List.length_append]; rfl
          have hqlt : (acts0 zs cs i).length < acts.length := (List.getElem?_eq_some_iff.1 hat).1
          have E1 := Lib.hid e1
          obtain ⟨q, hq⟩ : ∃ q, (acts0 zs cs i).length = q := ⟨_, rfl⟩
          have HQ := Lib.hid hq
          rw [hq] at hat hqlt ⊢
          have hown := ownsRow_below HO3.out hbx
          have hpg : ∃ g, p = some ⟨g, 0, none⟩ := by rcases HP0.out with h | h; omega; exact h
          have hcl := cellsOf_at zs cs cs.length acts q _ hat
          obtain ⟨sp, hspe⟩ : ∃ sp, (r != (i : Int)) = sp := ⟨_, rfl⟩
          rw [hspe] at d3 hsp
          have hact4 : ∀ j, j < 4 → (cellsOf zs cs cs.length acts)[q * 4 + j]? = (actC i x y sp)[j]? := fun j hj => by
            rw [hcl j hj, if_pos (by omega), hsp, actOf, List.getD, HX.out, HY.out]
          obtain ⟨g, rfl⟩ := hpg
          have l0 := own_cell hown ((hact4 0 (by omega)).trans rfl)
          have l1 := own_cell hown ((hact4 1 (by omega)).trans rfl)
          have l2 := own_cell hown ((hact4 2 (by omega)).trans rfl)
          have l3 := own_cell hown ((hact4 3 (by omega)).trans rfl)
          simp only [Nat.add_zero] at l0
          have HO4 := Lib.hid hown
          have HB4 := Lib.hid (HB3.out.trans (hbx.mono (by have := HB3.out.size; exact this)))
          have hge : ¬ ((q : Int) ≥ acts.length) := by omega
          clear hne hat hsp e1 hq hown hcl hspe hact4 hbx
          go_wp2_with fail
          go_quiet (fail)
          go_wp2_with fail
          go_roundg (gk - 1)
          case measure => have := HN.out; omega
          case rel =>
            refine ⟨i + 1, by have := HN.out; omega, by go_num, by rw [E1.out, HQ.out]; go_num, ?_, HO4.out⟩
            exact HB4.out.trans ⟨rfl, rfl, rfl, Nat.le_refl _, fun _ _ => rfl⟩
    · have hic : i = cs.length := by omega
      have hq : (acts0 zs cs i).length = acts.length := by rw [hic, HA.out]
      have HB := Lib.hid hb
      have HZ := Lib.hid hq
      rw [hq]
      clear hq hb hic
      go_wp2_with (go_at_call 8; refine (awake_hid _).out.mono ?_; rintro e w5 ⟨rfl, hb5⟩)
      go_ret
      exact ⟨rfl, HB.out.trans (hb5.mono hsz)⟩
end Go.Proofs.Ytmbdolmkldbjcaa
