/-
  Walks: chain.wrong, the reference's There, In, Wrong.
-/
import Derived.Test.YtmbdolmkldbjcaaW1
import Derived.Deep.QuietTactic
import Derived.BigQuiet
namespace Go.Proofs.Ytmbdolmkldbjcaa
open Go.RowKit

def wrongOf (zs ls : List Int) : Int :=
  if err zs ≠ 0 then err zs else if ∃ j, j < ls.length ∧ ¬ (0 ≤ ls.getD j 0 ∧ ls.getD j 0 < zs.length) then 10 else 0

set_option maxHeartbeats 800000 in
theorem wrong_any (a b : Option Addr) (cap cap' : Nat) (zs ls : List Int) (w : World) (hl : zs.length ≤ 17592186044416) (hl' : ls.length ≤ 17592186044416)
    (hc : IntsAt w a zs) (hc' : IntsAt w b ls) :
    Calls Try.prog 25 #[.slice a zs.length cap, .slice b ls.length cap'] w fun e w' => e = .returned (.int .i64 (wrongOf zs ls)) ∧ w = w' := by
  obtain ⟨r, hr⟩ : ∃ r, err zs = r := ⟨_, rfl⟩
  have HS := Lib.hid hr
  clear hr
  have hcall := Check_any a cap zs w hl hc
  rw [HS.out] at hcall
  have HC := Lib.hid hcall
  clear hcall
  by_cases h0 : r = 0
  · subst h0
    go_enter Try.func25, Try.ntmps25
    go_wp2_with (go_at_call 16; refine HC.out.mono ?_; rintro e w' ⟨rfl, rfl⟩)
    go_loop [15] (fun k => ∃ n : Nat, n ≤ ls.length ∧ k = .int .i64 n ∧ ∀ j, j < n → 0 ≤ ls.getD j 0 ∧ ls.getD j 0 < zs.length) (fun k => ls.length - (intOf k).toNat)
    case atStart => exact ⟨0, Nat.zero_le _, rfl, by omega⟩
    case round =>
      obtain ⟨n, hn, rfl, hall⟩ := hrel
      have HR := Lib.hid hall
      clear hall
      by_cases hlt : n < ls.length
      · obtain ⟨b', off, rfl, _, hcell⟩ := hc' n hlt
        obtain ⟨x, hx⟩ : ∃ x, ls[n]?.getD 0 = x := ⟨_, rfl⟩
        have HX := Lib.hid hx
        rw [hx] at hcell
        clear hx
        by_cases hok : 0 ≤ x ∧ x < zs.length
        · obtain ⟨h0, h1⟩ := hok
          go_wp2_with (go_at_call 26; refine (thread_yes _ _ _ _ _ (by omega) h0 h1).mono ?_; rintro e w' ⟨rfl, rfl⟩)
          go_round
          case rel => exact ⟨n + 1, by omega, by go_num, fun j hj => by
            rcases Nat.lt_or_ge j n with h | h
            · exact HR.out j h
            · obtain rfl : j = n := by omega
              rw [List.getD, HX.out]; exact ⟨h0, h1⟩⟩
          case measure => simp [intOf]; omega
        · have HE := Lib.hid hok
          clear hok
          go_wp2_with (go_at_call 26; refine (thread_no _ _ _ _ _ (by omega) HE.out).mono ?_; rintro e w' ⟨rfl, rfl⟩)
          go_ret
          exact ⟨ret_int (by rw [wrongOf, if_neg (by rw [HS.out]; simp), if_pos ⟨n, hlt, by rw [List.getD, HX.out]; exact HE.out⟩]), rfl⟩
      · obtain rfl : n = ls.length := by omega
        go_wp2
        go_ret
        exact ⟨ret_int (by rw [wrongOf, if_neg (by rw [HS.out]; simp), if_neg (fun ⟨j, h1, h2⟩ => h2 (HR.out j h1))]), rfl⟩
  · have hb : (r != 0) = true := by simp [h0]
    have H0 := Lib.hid h0
    clear h0
    go_enter Try.func25, Try.ntmps25
    go_wp2_with (go_at_call 16; refine HC.out.mono ?_; rintro e w' ⟨rfl, rfl⟩)
    go_ret
    exact ⟨ret_int (by rw [wrongOf, HS.out, if_pos H0.out]), rfl⟩

set_option maxHeartbeats 400000 in
theorem There_any (a : Option Addr) (len cap : Nat) (i : Int) (w : World) (hl : len ≤ 17592186044416) :
    Calls Try.prog 17 #[.slice a len cap, .int .i64 i] w fun e w' => e = .returned (.bool (decide (0 ≤ i) && decide (i < len))) ∧ w = w' := by
  by_cases h1 : 0 ≤ i
  · by_cases h2 : i < len
    · go_enter Try.func17, Try.ntmps17
      go_wp2
      go_ret
      exact ⟨by simp [h1, h2], rfl⟩
    · go_enter Try.func17, Try.ntmps17
      go_wp2
      go_ret
      exact ⟨by simp [h1, h2], rfl⟩
  · go_enter Try.func17, Try.ntmps17
    go_wp2
    go_ret
    exact ⟨by simp; omega, rfl⟩

set_option maxHeartbeats 400000 in
theorem In_any (a : Option Addr) (cap : Nat) (zs : List Int) (x : Int) (w : World) (hl : zs.length ≤ 17592186044416) (hc : IntsAt w a zs) :
    Calls Try.prog 18 #[.slice a zs.length cap, .int .i64 x] w fun e w' => e = .returned (.bool (decide (x ∈ zs))) ∧ w = w' := by
  go_enter Try.func18, Try.ntmps18
  go_wp2
  go_loop [5] (fun k => ∃ n : Nat, n ≤ zs.length ∧ k = .int .i64 n ∧ ∀ j, j < n → zs.getD j 0 ≠ x) (fun k => zs.length - (intOf k).toNat)
  case atStart => exact ⟨0, Nat.zero_le _, rfl, by omega⟩
  case round =>
    obtain ⟨n, hn, rfl, hall⟩ := hrel
    have HR := Lib.hid hall
    clear hall
    by_cases hlt : n < zs.length
    · obtain ⟨b', off, rfl, _, hcell⟩ := hc n hlt
      obtain ⟨y, hy⟩ : ∃ y, zs[n]?.getD 0 = y := ⟨_, rfl⟩
      have HY := Lib.hid hy
      rw [hy] at hcell
      clear hy
      by_cases he : y = x
      · have hb : (y == x) = true := by simp [he]
        have HE := Lib.hid he
        clear he
        go_wp2
        go_ret
        exact ⟨ret_bool (by
          symm; rw [decide_eq_true_eq, List.mem_iff_getElem]
          refine ⟨n, hlt, ?_⟩
          have := HY.out
          rw [List.getElem?_eq_getElem hlt] at this
          exact this.trans HE.out), rfl⟩
      · have hb : (y == x) = false := by simp [he]
        have HE := Lib.hid he
        clear he
        go_wp2
        go_round
        case rel => exact ⟨n + 1, by omega, by go_num, fun j hj => by
          rcases Nat.lt_or_ge j n with h | h
          · exact HR.out j h
          · obtain rfl : j = n := by omega
            rw [List.getD, HY.out]; exact HE.out⟩
        case measure => simp [intOf]; omega
    · obtain rfl : n = zs.length := by omega
      go_wp2
      go_ret
      exact ⟨ret_bool (by
        symm; rw [decide_eq_false_iff_not, List.mem_iff_getElem]
        rintro ⟨j, hj, h⟩
        exact HR.out j hj (by rw [List.getD, List.getElem?_eq_getElem hj]; exact h)), rfl⟩
end Go.Proofs.Ytmbdolmkldbjcaa
