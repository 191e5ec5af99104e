/-
  Walks: chain.thread, chain.rings, chain.Check.
-/
import Derived.Test.YtmbdolmkldbjcaaProg
import Derived.Test.YtmbdolmkldbjcaaPlain
import Derived.WalkKit
import Derived.LoopTactic
import Derived.IntWalk
import Derived.Lib.Hide
import Derived.ProofKit
namespace Go.Proofs.Ytmbdolmkldbjcaa
open Go.RowKit

/-- the cells of a slice of ints -/
def IntsAt (w : World) (a : Option Addr) (zs : List Int) : Prop :=
  ∀ k, k < zs.length → ∃ b off, a = some ⟨b, off, none⟩ ∧ b < w.heap.size ∧ w.cell? ⟨b, off + k, none⟩ = some (.int .i64 (zs[k]?.getD 0))

theorem ret_bool {a b : Bool} (h : a = b) : Ending.returned (.bool a) = .returned (.bool b) := by rw [h]
theorem ret_int {k : IntKind} {a b : Int} (h : a = b) : Ending.returned (.int k a) = .returned (.int k b) := by rw [h]

set_option maxHeartbeats 400000 in
theorem thread_any (a : Option Addr) (len cap : Nat) (i : Int) (w : World) (hl : len ≤ 17592186044416) :
    Calls Try.prog 26 #[.slice a len cap, .int .i64 i] w fun e w' => e = .returned (.bool (decide (0 ≤ i) && decide (i < len))) ∧ w = w' := by
  by_cases h1 : 0 ≤ i
  · by_cases h2 : i < len
    · go_enter Try.func26, Try.ntmps26
      go_wp2
      go_ret
      exact ⟨by simp [h1, h2], rfl⟩
    · go_enter Try.func26, Try.ntmps26
      go_wp2
      go_ret
      exact ⟨by simp [h1, h2], rfl⟩
  · go_enter Try.func26, Try.ntmps26
    go_wp2
    go_ret
    exact ⟨by simp; omega, rfl⟩

theorem thread_yes (a : Option Addr) (len cap : Nat) (i : Int) (w : World) (hl : len ≤ 17592186044416) (h0 : 0 ≤ i) (h1 : i < len) :
    Calls Try.prog 26 #[.slice a len cap, .int .i64 i] w fun e w' => e = .returned (.bool true) ∧ w = w' :=
  (thread_any a len cap i w hl).mono fun _ _ ⟨he, hw⟩ => ⟨he.trans (ret_bool (by simp [h0, h1])), hw⟩
theorem thread_no (a : Option Addr) (len cap : Nat) (i : Int) (w : World) (hl : len ≤ 17592186044416) (h : ¬ (0 ≤ i ∧ i < len)) :
    Calls Try.prog 26 #[.slice a len cap, .int .i64 i] w fun e w' => e = .returned (.bool false) ∧ w = w' :=
  (thread_any a len cap i w hl).mono fun _ _ ⟨he, hw⟩ => ⟨he.trans (ret_bool (by simp; omega)), hw⟩

set_option maxHeartbeats 400000 in
theorem rings_any (a : Option Addr) (cap : Nat) (zs : List Int) (i : Int) (w : World) (hl : zs.length ≤ 17592186044416)
    (hg : Good zs) (hi : OkI zs i) (hc : IntsAt w a zs) :
    Calls Try.prog 27 #[.slice a zs.length cap, .int .i64 i] w fun e w' => e = .returned (.bool (Rings zs i)) ∧ w = w' := by
  have HG := Lib.hid hg
  clear hg
  go_enter Try.func27, Try.ntmps27
  go_wp2
  go_loop [1, 7] (fun i' k => ∃ n : Nat, n ≤ zs.length ∧ k = .int .i64 n ∧ i' = .int .i64 (nxts zs n i)) (fun _ k => zs.length - (intOf k).toNat)
  case atStart => exact ⟨0, Nat.zero_le _, rfl, rfl⟩
  case round =>
    obtain ⟨n, hn, rfl, rfl⟩ := hrel
    have hok := hi.nxts HG.out n
    have hsx : nxts zs (n + 1) i = nxt zs (nxts zs n i) := rfl
    obtain ⟨j, hj⟩ : ∃ j, nxts zs n i = j := ⟨_, rfl⟩
    rw [hj] at hok hsx
    have HJ := Lib.hid hj
    have HX := Lib.hid hsx
    rw [hj]
    clear hj hsx
    by_cases hlt : n < zs.length
    · rcases hok with hm | ⟨h0, h1⟩
      · have hb : (j != -1) = false := by simp [hm]
        have HM := Lib.hid hm
        clear hm
        go_wp2
        go_round
        case rel => exact ⟨n + 1, by omega, by go_num, by rw [HX.out, HM.out]; rfl⟩
        case measure => simp [intOf]; omega
      · have hb : (j != -1) = true := by simp; omega
        obtain ⟨b, off, rfl, _, hcell⟩ := hc j.toNat (by omega)
        go_wp2
        go_round
        case rel => exact ⟨n + 1, by omega, by go_num, by rw [HX.out, nxt, if_neg (by omega)]; simp [List.getD, List.getElem?_eq_getElem (show j.toNat < zs.length by omega)]⟩
        case measure => simp [intOf]; omega
    · have he : n = zs.length := by omega
      go_wp2
      go_ret
      exact ⟨ret_bool (by rw [Rings, ← he, HJ.out]), rfl⟩

set_option maxHeartbeats 800000 in
theorem Check_any (a : Option Addr) (cap : Nat) (zs : List Int) (w : World) (hl : zs.length ≤ 17592186044416) (hc : IntsAt w a zs) :
    Calls Try.prog 16 #[.slice a zs.length cap] w fun e w' => e = .returned (.int .i64 (err zs)) ∧ w = w' := by
  by_cases h64 : 64 < zs.length
  · go_enter Try.func16, Try.ntmps16
    go_wp2
    go_ret
    exact ⟨ret_int (by rw [err, if_pos h64]), rfl⟩
  go_enter Try.func16, Try.ntmps16
  go_wp2
  go_loop [11] (fun k => ∃ n : Nat, n ≤ zs.length ∧ k = .int .i64 n ∧ ∀ j, j < n → OkI zs (zs.getD j 0)) (fun k => zs.length - (intOf k).toNat)
  case atStart => exact ⟨0, Nat.zero_le _, rfl, by omega⟩
  case round =>
    obtain ⟨n, hn, rfl, hall⟩ := hrel
    have HA := Lib.hid hall
    clear hall
    by_cases hlt : n < zs.length
    · obtain ⟨b, off, rfl, _, hcell⟩ := hc n hlt
      obtain ⟨x, hx⟩ : ∃ x, zs[n]?.getD 0 = x := ⟨_, rfl⟩
      have HX := Lib.hid hx
      rw [hx] at hcell
      clear hx
      by_cases hok : OkI zs x
      · have HE := Lib.hid hok
        rcases hok with hm | ⟨h0, h1⟩
        · have hb : (x != -1) = false := by simp [hm]
          clear hm
          go_wp2
          go_round
          case rel => exact ⟨n + 1, by omega, by go_num, fun j hj => by
            rcases Nat.lt_or_ge j n with h | h
            · exact HA.out j h
            · obtain rfl : j = n := by omega
              rw [List.getD, HX.out]; exact HE.out⟩
          case measure => simp [intOf]; omega
        · have hb : (x != -1) = true := by simp; omega
          go_wp2_with (go_at_call 26; refine (thread_yes _ _ _ _ _ (by omega) h0 h1).mono ?_; rintro e w' ⟨rfl, rfl⟩)
          go_round
          case rel => exact ⟨n + 1, by omega, by go_num, fun j hj => by
            rcases Nat.lt_or_ge j n with h | h
            · exact HA.out j h
            · obtain rfl : j = n := by omega
              rw [List.getD, HX.out]; exact HE.out⟩
          case measure => simp [intOf]; omega
      · have HE := Lib.hid hok
        have hb : (x != -1) = true := by simp; exact fun h => hok (.inl h)
        have hno : ¬ (0 ≤ x ∧ x < zs.length) := fun h => hok (.inr h)
        clear hok
        have HN := Lib.hid hno
        clear hno
        go_wp2_with (go_at_call 26; refine (thread_no _ _ _ _ _ (by omega) HN.out).mono ?_; rintro e w' ⟨rfl, rfl⟩)
        go_ret
        exact ⟨ret_int (by rw [err, if_neg h64, if_pos ⟨n, hlt, by rw [List.getD, HX.out]; exact HE.out⟩]), rfl⟩
    · obtain rfl : n = zs.length := by omega
      have hg : Good zs := HA.out
      have HG := Lib.hid hg
      clear hg
      go_wp2
      go_loop [26] (fun k => ∃ n : Nat, n ≤ zs.length ∧ k = .int .i64 n ∧ ∀ j : Nat, j < n → Rings zs j = false) (fun k => zs.length - (intOf k).toNat)
      case atStart => exact ⟨0, Nat.zero_le _, rfl, by omega⟩
      case round =>
        obtain ⟨n, hn, rfl, hall⟩ := hrel
        have HR := Lib.hid hall
        clear hall
        by_cases hlt : n < zs.length
        · obtain ⟨r, hr⟩ : ∃ r, Rings zs n = r := ⟨_, rfl⟩
          have HS := Lib.hid hr
          clear hr
          have hcall := rings_any a cap zs n w hl HG.out (.inr ⟨by omega, by omega⟩) hc
          rw [HS.out] at hcall
          have HC := Lib.hid hcall
          clear hcall
          cases r with
          | true =>
            go_wp2_with (go_at_call 27; refine HC.out.mono ?_; rintro e w' ⟨rfl, rfl⟩)
            go_ret
            exact ⟨ret_int (by rw [err, if_neg h64, if_neg (fun ⟨j, h1, h2⟩ => h2 (HG.out j h1)), if_pos ⟨n, hlt, HS.out⟩]), rfl⟩
          | false =>
            go_wp2_with (go_at_call 27; refine HC.out.mono ?_; rintro e w' ⟨rfl, rfl⟩)
            go_round
            case rel => exact ⟨n + 1, by omega, by go_num, fun j hj => by
              rcases Nat.lt_or_ge j n with h | h
              · exact HR.out j h
              · obtain rfl : j = n := by omega
                exact HS.out⟩
            case measure => simp [intOf]; omega
        · obtain rfl : n = zs.length := by omega
          go_wp2
          go_ret
          exact ⟨ret_int (by rw [err, if_neg h64, if_neg (fun ⟨j, h1, h2⟩ => h2 (HG.out j h1)), if_neg (fun ⟨j, h1, h2⟩ => by rw [HR.out j h1] at h2; cases h2)]), rfl⟩

theorem err_ok {zs : List Int} (h : err zs = 0) : zs.length ≤ 64 ∧ Good zs ∧ ∀ j : Nat, j < zs.length → Rings zs j = false := by
  unfold err at h
  split at h
  · cases h
  split at h
  · cases h
  split at h
  · cases h
  rename_i h1 h2 h3
  refine ⟨by omega, fun j hj => Classical.byContradiction fun hn => h2 ⟨j, hj, hn⟩, fun j hj => ?_⟩
  cases hr : Rings zs j with
  | false => rfl
  | true => exact absurd ⟨j, hj, hr⟩ h3
theorem err_cases (zs : List Int) : err zs = 0 ∨ err zs = 10 ∨ err zs = 13 ∨ err zs = 18 := by
  unfold err
  repeat' split
  all_goals simp
end Go.Proofs.Ytmbdolmkldbjcaa
