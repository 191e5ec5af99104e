/-
  Walk: the law ChainChecks.
-/
import Derived.Test.YtmbdolmkldbjcaaW11
namespace Go.Proofs.Ytmbdolmkldbjcaa
open Go.RowKit

theorem wrongOf_err {zs ls : List Int} (h : err zs ≠ 0) : wrongOf zs ls = err zs := if_pos h
theorem wrongOf_bad {zs ls : List Int} (h : err zs = 0) (hb : ∃ j, j < ls.length ∧ ¬ (0 ≤ ls.getD j 0 ∧ ls.getD j 0 < zs.length)) : wrongOf zs ls = 10 := by
  rw [wrongOf, if_neg (by rw [h]; simp), if_pos hb]
theorem wrongOf_fine {zs ls : List Int} (h : err zs = 0) (hb : ∀ x ∈ ls, 0 ≤ x ∧ x < zs.length) : wrongOf zs ls = 0 := by
  rw [wrongOf, if_neg (by rw [h]; simp), if_neg]
  rintro ⟨j, hj, hn⟩
  refine hn (hb _ ?_)
  rw [List.getD, List.getElem?_eq_getElem hj]
  exact List.getElem_mem _
theorem There_bool {a : Option Addr} {len cap : Nat} {i : Int} {w : World} {r : Bool} (hl : len ≤ 17592186044416) (hr : (decide (0 ≤ i) && decide (i < (len : Int))) = r) :
    Calls Try.prog 17 #[.slice a len cap, .int .i64 i] w fun e w' => e = .returned (.bool r) ∧ w = w' :=
  (There_any a len cap i w hl).mono fun _ _ ⟨he, hw⟩ => ⟨he.trans (ret_bool hr), hw⟩

set_option maxRecDepth 100000 in
set_option maxHeartbeats 1000000 in
theorem checks_any (a : Option Addr) (cap : Nat) (zs : List Int) (i q : Int) (w : World) (hc : IntsAt w a zs) :
    Calls Try.prog 5 #[.slice a zs.length cap, .int .i64 i, .int .i64 q] w fun e w' => e = .returned (.bool true) ∧ Below w.heap.size w w' := by
  by_cases hl : 80 < zs.length
  · go_enter Try.func5, Try.ntmps5
    go_wp2_with (go_at_call 8; refine (awake_hid _).out.mono ?_; rintro e w1 ⟨rfl, hb1⟩)
    go_ret
    exact ⟨rfl, hb1⟩
  have h1 := Wrong_all a cap zs w hc
  have h2 := Closes_any a cap zs i q w (by omega) hc
  have h3 : ∀ A, Below w.heap.size w A → Calls Try.prog 16 #[.slice a zs.length cap] A fun e w' => e = .returned (.int .i64 (err zs)) ∧ A = w' := fun A hA => Check_any a cap zs A (by omega) (hc.below (Nat.le_refl _) hA)
  by_cases he : err zs = 0
  · rw [he] at h1 h3
    by_cases hi : 0 ≤ i ∧ i < zs.length
    · by_cases hq : 0 ≤ q ∧ q < zs.length
      · obtain ⟨h64, hg, hr⟩ := err_ok he
        have hw : wrongOf zs [i, q] = 0 := wrongOf_fine he (by simp; exact ⟨hi, hq⟩)
        have hrq : Rings zs q = false := by
          have := hr q.toNat (by omega)
          rwa [Int.toNat_of_nonneg hq.1] at this
        have h4 : ∀ A, Below w.heap.size w A → Calls Try.prog 19 #[.slice a zs.length cap, .int .i64 q] A fun e w' => ∃ v, e = .returned v ∧ w'.ownsRow A.heap.size 3 1 v (chain zs q).length (vals (chain zs q)) ∧ Below A.heap.size A w' :=
          fun A hA => Chain_any a cap zs q A h64 (hc.below (Nat.le_refl _) hA) hg (.inr hq) hrq
        have hcl : (chain zs q).length ≤ 64 := Nat.le_trans (chainL_length _ _ _) h64
        obtain ⟨r, hrr⟩ : ∃ r, decide (i ∈ chain zs q) = r := ⟨_, rfl⟩
        rw [hw] at h2
        simp only [true_and, hrr] at h2
        have t1 : (decide (0 ≤ i) && decide (i < (zs.length : Int))) = true := by simp [hi]
        have t2 : (decide (0 ≤ q) && decide (q < (zs.length : Int))) = true := by simp [hq]
        have T1 := Lib.hid t1
        have T2 := Lib.hid t2
        have hbb : (r == r) = true := by simp
        have H1 := Lib.hid h1
        have H2 := Lib.hid h2
        have H3 := Lib.hid h3
        have H4 := Lib.hid h4
        have HRR := Lib.hid hrr
        clear h1 h2 h3 h4 hw he hg hr hrq hrr t1 t2
        go_enter Try.func5, Try.ntmps5
        go_wp2_with (first | (go_at_call 10; refine H1.out.mono ?_; rintro e w2 ⟨rfl, rfl⟩) | (go_at_call 15; refine H2.out.mono ?_; rintro e w3 ⟨rfl, hb3⟩) | (go_at_call 16; refine (H3.out _ hb3).mono ?_; rintro e w4 ⟨rfl, rfl⟩))
        refine (There_bool (by omega) T1.out).mono ?_
        rintro e w4 ⟨rfl, rfl⟩
        go_wp2_with fail
        refine (There_bool (by omega) T2.out).mono ?_
        rintro e w4 ⟨rfl, rfl⟩
        go_wp2_with fail
        refine (H4.out _ hb3).mono ?_
        rintro e w4 ⟨v, rfl, hown, hb4⟩
        obtain ⟨a', cap', rfl, hat⟩ := ints_own hown hb4.size
        have hIn := (In_any a' cap' (chain zs q) i w4 (by omega) hat)
        rw [HRR.out] at hIn
        have HIn := Lib.hid hIn
        clear hIn hat hown
        go_wp2_with (first | (go_at_call 18; refine HIn.out.mono ?_; rintro e w5 ⟨rfl, rfl⟩) | (go_at_call 8; refine (awake_hid _).out.mono ?_; rintro e w6 ⟨rfl, hb6⟩))
        go_ret
        have hs3 := hb3.size
        have hs4 := hb4.size
        exact ⟨rfl, (hb3.trans (hb4.mono hs3)).trans (hb6.mono (by omega))⟩
      · have hw : wrongOf zs [i, q] = 10 := wrongOf_bad he ⟨1, by simp, by simpa using hq⟩
        have t1 : (decide (0 ≤ i) && decide (i < (zs.length : Int))) = true := by simp [hi]
        have t2 : (decide (0 ≤ q) && decide (q < (zs.length : Int))) = false := by simp; omega
        have T1 := Lib.hid t1
        have T2 := Lib.hid t2
        rw [hw] at h2
        rw [decide_eq_false (fun h => absurd h.1 (by decide))] at h2
        have H1 := Lib.hid h1
        have H2 := Lib.hid h2
        have H3 := Lib.hid h3
        clear h1 h2 h3 hw he hi hq t1 t2
        go_enter Try.func5, Try.ntmps5
        go_wp2_with (first | (go_at_call 10; refine H1.out.mono ?_; rintro e w2 ⟨rfl, rfl⟩) | (go_at_call 15; refine H2.out.mono ?_; rintro e w3 ⟨rfl, hb3⟩) | (go_at_call 16; refine (H3.out _ hb3).mono ?_; rintro e w4 ⟨rfl, rfl⟩))
        refine (There_bool (by omega) T1.out).mono ?_
        rintro e w4 ⟨rfl, rfl⟩
        go_wp2_with fail
        refine (There_bool (by omega) T2.out).mono ?_
        rintro e w4 ⟨rfl, rfl⟩
        go_wp2_with (go_at_call 8; refine (awake_hid _).out.mono ?_; rintro e w6 ⟨rfl, hb6⟩)
        go_ret
        exact ⟨rfl, hb3.trans (hb6.mono hb3.size)⟩
    · have hw : wrongOf zs [i, q] = 10 := wrongOf_bad he ⟨0, by simp, by simpa using hi⟩
      have t1 : (decide (0 ≤ i) && decide (i < (zs.length : Int))) = false := by simp; omega
      have T1 := Lib.hid t1
      rw [hw] at h2
      rw [decide_eq_false (fun h => absurd h.1 (by decide))] at h2
      have H1 := Lib.hid h1
      have H2 := Lib.hid h2
      have H3 := Lib.hid h3
      clear h1 h2 h3 hw he hi t1
      go_enter Try.func5, Try.ntmps5
      go_wp2_with (first | (go_at_call 10; refine H1.out.mono ?_; rintro e w2 ⟨rfl, rfl⟩) | (go_at_call 15; refine H2.out.mono ?_; rintro e w3 ⟨rfl, hb3⟩) | (go_at_call 16; refine (H3.out _ hb3).mono ?_; rintro e w4 ⟨rfl, rfl⟩))
      refine (There_bool (by omega) T1.out).mono ?_
      rintro e w4 ⟨rfl, rfl⟩
      go_wp2_with (go_at_call 8; refine (awake_hid _).out.mono ?_; rintro e w6 ⟨rfl, hb6⟩)
      go_ret
      exact ⟨rfl, hb3.trans (hb6.mono hb3.size)⟩
  · rw [wrongOf_err he] at h2
    rw [decide_eq_false (fun h => he h.1)] at h2
    obtain ⟨r, hrr⟩ : ∃ r, err zs = r := ⟨_, rfl⟩
    rw [hrr] at h1 h2 h3 he
    have hb : (r != 0) = true := by simp [he]
    have hbs : (r != r) = false := by simp
    have hbs' : (r == r) = true := by simp
    have H1 := Lib.hid h1
    have H2 := Lib.hid h2
    have H3 := Lib.hid h3
    clear h1 h2 h3 hrr he
    go_enter Try.func5, Try.ntmps5
    go_wp2_with (first | (go_at_call 10; refine H1.out.mono ?_; rintro e w2 ⟨rfl, rfl⟩) | (go_at_call 15; refine H2.out.mono ?_; rintro e w3 ⟨rfl, hb3⟩) | (go_at_call 16; refine (H3.out _ hb3).mono ?_; rintro e w4 ⟨rfl, rfl⟩) | (go_at_call 8; refine (awake_hid _).out.mono ?_; rintro e w6 ⟨rfl, hb6⟩))
    go_ret
    exact ⟨rfl, hb3.trans (hb6.mono hb3.size)⟩
end Go.Proofs.Ytmbdolmkldbjcaa
