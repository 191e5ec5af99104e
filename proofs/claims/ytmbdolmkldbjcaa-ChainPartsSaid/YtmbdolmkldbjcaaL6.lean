/-
  Walk: the law ChainCloses.
-/
import Derived.Test.YtmbdolmkldbjcaaRing
import Derived.Test.YtmbdolmkldbjcaaL5
namespace Go.Proofs.Ytmbdolmkldbjcaa
open Go.RowKit

theorem cells_of_ints {w : World} {b off : Nat} {zs : List Int} (h : IntsAt w (some ⟨b, off, none⟩) zs) : ∀ j u, (vals zs)[j]? = some u → w.cell? ((⟨b, off, none⟩ : Addr).add j) = some u := by
  intro j u hu
  have hj : j < zs.length := by
    have := (List.getElem?_eq_some_iff.1 hu).1
    simpa [vals] using this
  obtain ⟨b', off', ha, _, hc⟩ := h j hj
  cases ha
  have ha : (⟨b, off, none⟩ : Addr).add j = ⟨b, off + j, none⟩ := by unfold Addr.add; split <;> simp_all
  rw [ha, hc]
  simp only [vals, List.getElem?_map, List.getElem?_eq_getElem hj, Option.map_some, Option.getD_some] at hu ⊢
  exact hu

theorem ints_set {w : World} {g k : Nat} {zs : List Int} {x : Int} (h : IntsAt w (some ⟨g, 0, none⟩) zs) (hk : k < zs.length) :
    IntsAt (w.setCell ⟨g, k, none⟩ (.int .i64 x)) (some ⟨g, 0, none⟩) (zs.set k x) := by
  intro j hj
  rw [List.length_set] at hj
  obtain ⟨b, off, ha, hb, hc⟩ := h j hj
  cases ha
  refine ⟨g, 0, rfl, by simpa [World.setCell] using hb, ?_⟩
  rw [Nat.zero_add] at *
  by_cases hjk : k = j
  · subst hjk
    rw [World.cell?_setCell_same' _ _ _ (by rw [hc]; rfl), List.getElem?_set_self hk]
    rfl
  · rw [World.cell?_setCell_other _ _ _ _ (by first | (simp; done) | (simp; omega)), hc, List.getElem?_set_ne hjk]

theorem own_pos {w : World} {B : Nat} {v : Value} {l : List Int} (h : w.ownsRow B 3 1 v l.length (vals l)) (h0 : 0 < l.length) (hB : B ≤ w.heap.size) :
    ∃ g cp, v = .slice (some ⟨g, 0, none⟩) l.length cp ∧ B ≤ g ∧ IntsAt w (some ⟨g, 0, none⟩) l ∧ (∀ o, w.frozen? ⟨g, o, none⟩ = false) := by
  obtain ⟨a, cap, hv, hat⟩ := ints_own h hB
  rcases ownsRow_cases h with ⟨_, h1⟩ | ⟨g, cp, cur, rfl, hg1, hg2, _⟩
  · omega
  · injection hv with ha _ _
    subst ha
    exact ⟨g, cp, rfl, hg1, hat, fun o => by simp [World.frozen?, hg2]⟩

set_option maxRecDepth 100000 in
set_option maxHeartbeats 1000000 in
theorem closes_out (a : Option Addr) (cap : Nat) (zs : List Int) (i q : Int) (w : World) (hc : IntsAt w a zs) (hcap : zs.length ≤ 9223372036854775807)
    (h : err zs ≠ 0 ∨ i < 0 ∨ zs.length ≤ i ∨ q < 0 ∨ zs.length ≤ q ∨ zs.getD i.toNat 0 ≠ -1) :
    Calls Try.prog 6 #[.slice a zs.length cap, .int .i64 i, .int .i64 q] w fun e w' => e = .returned (.bool true) ∧ Below w.heap.size w w' := by
  have h1 := Wrong_all a cap zs w hc
  by_cases he : err zs = 0
  · rw [he] at h1
    have H1 := Lib.hid h1
    clear h1
    by_cases c1 : i < 0
    · clear h
      go_enter Try.func6, Try.ntmps6
      go_wp2_with (first | (go_at_call 10; refine H1.out.mono ?_; rintro e w2 ⟨rfl, rfl⟩) | (go_at_call 8; refine (awake_hid _).out.mono ?_; rintro e w6 ⟨rfl, hb6⟩))
      go_ret
      exact ⟨rfl, hb6⟩
    · by_cases c2 : (zs.length : Int) ≤ i
      · clear h
        go_enter Try.func6, Try.ntmps6
        go_wp2_with (first | (go_at_call 10; refine H1.out.mono ?_; rintro e w2 ⟨rfl, rfl⟩) | (go_at_call 8; refine (awake_hid _).out.mono ?_; rintro e w6 ⟨rfl, hb6⟩))
        go_ret
        exact ⟨rfl, hb6⟩
      · by_cases c3 : q < 0
        · clear h
          go_enter Try.func6, Try.ntmps6
          go_wp2_with (first | (go_at_call 10; refine H1.out.mono ?_; rintro e w2 ⟨rfl, rfl⟩) | (go_at_call 8; refine (awake_hid _).out.mono ?_; rintro e w6 ⟨rfl, hb6⟩))
          go_ret
          exact ⟨rfl, hb6⟩
        · by_cases c4 : (zs.length : Int) ≤ q
          · clear h
            go_enter Try.func6, Try.ntmps6
            go_wp2_with (first | (go_at_call 10; refine H1.out.mono ?_; rintro e w2 ⟨rfl, rfl⟩) | (go_at_call 8; refine (awake_hid _).out.mono ?_; rintro e w6 ⟨rfl, hb6⟩))
            go_ret
            exact ⟨rfl, hb6⟩
          · have c5 : zs.getD i.toNat 0 ≠ -1 := by
              rcases h with h | h | h | h | h | h
              · exact absurd he h
              · exact absurd h c1
              · exact absurd h c2
              · exact absurd h c3
              · exact absurd h c4
              · exact h
            obtain ⟨b, off, rfl, _, hcell⟩ := hc i.toNat (by omega)
            obtain ⟨x, hx⟩ : ∃ x, zs[i.toNat]?.getD 0 = x := ⟨_, rfl⟩
            rw [List.getD, hx] at c5
            rw [hx] at hcell
            have hb : (x != -1) = true := by simp [c5]
            clear h hx c5
            go_enter Try.func6, Try.ntmps6
            go_wp2_with (first | (go_at_call 10; refine H1.out.mono ?_; rintro e w2 ⟨rfl, rfl⟩) | (go_at_call 8; refine (awake_hid _).out.mono ?_; rintro e w6 ⟨rfl, hb6⟩))
            go_ret
            exact ⟨rfl, hb6⟩
  · obtain ⟨r, hrr⟩ : ∃ r, err zs = r := ⟨_, rfl⟩
    rw [hrr] at h1 he
    have hb : (r != 0) = true := by simp [he]
    have H1 := Lib.hid h1
    clear h1 hrr he h
    go_enter Try.func6, Try.ntmps6
    go_wp2_with (first | (go_at_call 10; refine H1.out.mono ?_; rintro e w2 ⟨rfl, rfl⟩) | (go_at_call 8; refine (awake_hid _).out.mono ?_; rintro e w6 ⟨rfl, hb6⟩))
    go_ret
    exact ⟨rfl, hb6⟩

set_option maxRecDepth 100000 in
set_option maxHeartbeats 1000000 in
theorem closes_in (b off cap : Nat) (zs : List Int) (i q : Int) (w : World) (hc : IntsAt w (some ⟨b, off, none⟩) zs)
    (he : err zs = 0) (hi : 0 ≤ i ∧ i < zs.length) (hq : 0 ≤ q ∧ q < zs.length) (hz : zs.getD i.toNat 0 = -1) :
    Calls Try.prog 6 #[.slice (some ⟨b, off, none⟩) zs.length cap, .int .i64 i, .int .i64 q] w fun e w' => e = .returned (.bool true) ∧ Below w.heap.size w w' := by
  obtain ⟨h64, _, _⟩ := err_ok he
  obtain ⟨i0, hi0, hz0, hz1, hz2⟩ := info_parts Try.info3
  have h1 := Wrong_all (some ⟨b, off, none⟩) cap zs w hc
  rw [he] at h1
  have h2 := Closes_any (some ⟨b, off, none⟩) cap zs i q w (by omega) hc
  have hw1 : wrongOf zs [i, q] = 0 := wrongOf_fine he (by simp; exact ⟨hi, hq⟩)
  have hw2 : wrongOf zs [i, i] = 0 := wrongOf_fine he (by simp; exact hi)
  obtain ⟨r, hrr⟩ : ∃ r, decide (i ∈ chain zs q) = r := ⟨_, rfl⟩
  rw [hw1] at h2
  simp only [true_and, hrr] at h2
  have h3 : ∀ A, Below w.heap.size w A → Calls Try.prog 15 #[.slice (some ⟨b, off, none⟩) zs.length cap, .int .i64 i, .int .i64 i] A fun e A' => e = .returned (.tuple #[.bool true, .int .i64 0]) ∧ Below A.heap.size A A' := fun A hA => by
    have := Closes_any (some ⟨b, off, none⟩) cap zs i i A (by omega) (hc.below (Nat.le_refl _) hA)
    rw [hw2, decide_eq_true (And.intro rfl (self_chain hi))] at this
    exact this
  have hcell : w.cell? ⟨b, off + i.toNat, none⟩ = some (.int .i64 (-1)) := by
    obtain ⟨b', off', ha, _, hcc⟩ := hc i.toNat (by omega)
    cases ha
    rw [hcc, ← List.getD, hz]
  obtain ⟨hi1, hi2⟩ := hi
  obtain ⟨hq1, hq2⟩ := hq
  have hes := err_set he ⟨hi1, hi2⟩ ⟨hq1, hq2⟩
  have H1 := Lib.hid h1
  have H2 := Lib.hid h2
  have H3 := Lib.hid h3
  have HES := Lib.hid hes
  have HRR := Lib.hid hrr
  clear h1 h2 h3 hes hrr hw1 hw2 hz he
  cases r with
  | true =>
    have HES2 : Hid (err (zs.set i.toNat q) = 18) := by show err (zs.set i.toNat q) = 18; rw [HES.out, if_pos (of_decide_eq_true HRR.out)]
    go_enter Try.func6, Try.ntmps6
    go_wp2_with (first | (go_at_call 10; refine H1.out.mono ?_; rintro e w2 ⟨rfl, rfl⟩))
    refine H2.out.mono ?_
    rintro e w1 ⟨rfl, hb1⟩
    go_wp2_with fail
    refine (H3.out _ hb1).mono ?_
    rintro e w2 ⟨rfl, hb2⟩
    have hbw2 := hb1.trans (hb2.mono hb1.size)
    have hnews := cells_of_ints (hc.below (Nat.le_refl _) hbw2)
    have HNews := Lib.hid hnews
    have HBw2 := Lib.hid hbw2
    have hs2 := hbw2.size
    clear hnews hb1 hb2 hbw2
    go_wp2_with (at_builtin; refine wpList_append_own _ rfl _ _ 22 rfl w.heap.size 3 i0 (.int .i64 0) 1 8 Try.underlying22 hi0 hz0 hz1 hz2 rfl (by decide) _ _ _ rfl (World.ownsRow_nil w2 w.heap.size 3 1) ⟨b, off, none⟩ zs.length cap (vals zs) rfl (by simp [vals]) HNews.out (by intro u hu; simp [vals] at hu; obtain ⟨x, _, rfl⟩ := hu; rfl) (by unfold maxLen; omega) (by omega) hs2 ?_; intro v' w3 hown hgrow _; simp only [Nat.zero_add, List.nil_append] at hown; obtain ⟨g, cp, rfl, hgB, hat, hfz⟩ := own_pos hown (by omega) (by have := hgrow.size; omega); obtain ⟨b3, off3, hab3, hbb3, hcell3⟩ := hat i.toNat (by omega); cases hab3; have hfr3 := hfz i.toNat; rw [Nat.zero_add] at hcell3; have hb3 : Below w.heap.size w w3 := HBw2.out.grown hgrow hs2 (fun k hk => by cases hk); have hchk := Check_any (some ⟨g, 0, none⟩) cp (zs.set i.toNat q) (w3.setCell ⟨g, i.toNat, none⟩ (.int .i64 q)) (by rw [List.length_set]; omega) (ints_set hat (by omega)); rw [List.length_set, HES2.out] at hchk; have HChk := Lib.hid hchk; have HB3 := Lib.hid hb3; clear hfz hown hgrow hat hb3 hchk)
    refine HChk.out.mono ?_
    rintro e w4 ⟨rfl, rfl⟩
    have hb5 : Below w.heap.size w (w3.setCell ⟨g, i.toNat, none⟩ (.int .i64 q)) := HB3.out.setCell (p := ⟨g, i.toNat, none⟩) hgB _
    have HB5 := Lib.hid hb5
    have hs5 := hb5.size
    clear hb5
    go_wp2_with (go_at_call 8; refine (awake_hid _).out.mono ?_; rintro e w6 ⟨rfl, hb6⟩)
    go_ret
    exact ⟨rfl, HB5.out.trans (hb6.mono hs5)⟩
  | false =>
    have HES2 : Hid (err (zs.set i.toNat q) = 0) := by show err (zs.set i.toNat q) = 0; rw [HES.out, if_neg (of_decide_eq_false HRR.out)]
    go_enter Try.func6, Try.ntmps6
    go_wp2_with (first | (go_at_call 10; refine H1.out.mono ?_; rintro e w2 ⟨rfl, rfl⟩))
    refine H2.out.mono ?_
    rintro e w1 ⟨rfl, hb1⟩
    go_wp2_with fail
    refine (H3.out _ hb1).mono ?_
    rintro e w2 ⟨rfl, hb2⟩
    have hbw2 := hb1.trans (hb2.mono hb1.size)
    have hnews := cells_of_ints (hc.below (Nat.le_refl _) hbw2)
    have HNews := Lib.hid hnews
    have HBw2 := Lib.hid hbw2
    have hs2 := hbw2.size
    clear hnews hb1 hb2 hbw2
    go_wp2_with (at_builtin; refine wpList_append_own _ rfl _ _ 22 rfl w.heap.size 3 i0 (.int .i64 0) 1 8 Try.underlying22 hi0 hz0 hz1 hz2 rfl (by decide) _ _ _ rfl (World.ownsRow_nil w2 w.heap.size 3 1) ⟨b, off, none⟩ zs.length cap (vals zs) rfl (by simp [vals]) HNews.out (by intro u hu; simp [vals] at hu; obtain ⟨x, _, rfl⟩ := hu; rfl) (by unfold maxLen; omega) (by omega) hs2 ?_; intro v' w3 hown hgrow _; simp only [Nat.zero_add, List.nil_append] at hown; obtain ⟨g, cp, rfl, hgB, hat, hfz⟩ := own_pos hown (by omega) (by have := hgrow.size; omega); obtain ⟨b3, off3, hab3, hbb3, hcell3⟩ := hat i.toNat (by omega); cases hab3; have hfr3 := hfz i.toNat; rw [Nat.zero_add] at hcell3; have hb3 : Below w.heap.size w w3 := HBw2.out.grown hgrow hs2 (fun k hk => by cases hk); have hchk := Check_any (some ⟨g, 0, none⟩) cp (zs.set i.toNat q) (w3.setCell ⟨g, i.toNat, none⟩ (.int .i64 q)) (by rw [List.length_set]; omega) (ints_set hat (by omega)); rw [List.length_set, HES2.out] at hchk; have HChk := Lib.hid hchk; have HB3 := Lib.hid hb3; clear hfz hown hgrow hat hb3 hchk)
    refine HChk.out.mono ?_
    rintro e w4 ⟨rfl, rfl⟩
    have hb5 : Below w.heap.size w (w3.setCell ⟨g, i.toNat, none⟩ (.int .i64 q)) := HB3.out.setCell (p := ⟨g, i.toNat, none⟩) hgB _
    have HB5 := Lib.hid hb5
    have hs5 := hb5.size
    clear hb5
    go_wp2_with (go_at_call 8; refine (awake_hid _).out.mono ?_; rintro e w6 ⟨rfl, hb6⟩)
    go_ret
    exact ⟨rfl, HB5.out.trans (hb6.mono hs5)⟩
end Go.Proofs.Ytmbdolmkldbjcaa
