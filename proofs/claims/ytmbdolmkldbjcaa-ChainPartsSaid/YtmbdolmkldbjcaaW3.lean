/-
  Walks: the reference's Wrong, Chain, End.
-/
import Derived.Test.YtmbdolmkldbjcaaW2
namespace Go.Proofs.Ytmbdolmkldbjcaa
open Go.RowKit

theorem IntsAt.below {w w' : World} {B : Nat} {a : Option Addr} {zs : List Int} (h : IntsAt w a zs) (hB : w.heap.size ≤ B) (hb : Below B w w') : IntsAt w' a zs := by
  intro k hk
  obtain ⟨b, off, ha, h1, h2⟩ := h k hk
  exact ⟨b, off, ha, Nat.lt_of_lt_of_le h1 hb.size, (hb.cell (by show b < B; omega)).trans h2⟩

theorem ringF {zs : List Int} {i : Int} (h : Rings zs i = false) : nxts zs zs.length i = -1 := by
  simpa [Rings] using h

set_option maxHeartbeats 1600000 in
theorem Wrong_any (a : Option Addr) (cap : Nat) (zs : List Int) (w : World) (hl : zs.length ≤ 17592186044416) (hc : IntsAt w a zs) :
    Calls Try.prog 10 #[.slice a zs.length cap] w fun e w' => e = .returned (.int .i64 (err zs)) ∧ w = w' := by
  by_cases h64 : 64 < zs.length
  · go_enter Try.func10, Try.ntmps10
    go_wp2
    go_ret
    exact ⟨ret_int (by rw [err, if_pos h64]), rfl⟩
  go_enter Try.func10, Try.ntmps10
  go_wp2
  go_loop [3] (fun k => ∃ n : Nat, n ≤ zs.length ∧ k = .int .i64 n ∧ ∀ j, j < n → OkI zs (zs.getD j 0)) (fun k => zs.length - (intOf k).toNat)
  case atStart => exact ⟨0, Nat.zero_le _, rfl, by omega⟩
  case round =>
    obtain ⟨n, hn, rfl, hall⟩ := hrel
    have HA := Lib.hid hall
    clear hall
    by_cases hlt : n < zs.length
    · obtain ⟨b, off, rfl, _, hcell⟩ := hc n hlt
      obtain ⟨x, hx⟩ : ∃ x, zs[n]?.getD 0 = x := ⟨_, rfl⟩
      have HX := Lib.hid hx
      rw [hx] at hcell
      clear hx
      by_cases hok : OkI zs x
      · have HE := Lib.hid hok
        have h0 : -1 ≤ x := by rcases hok with h | h <;> omega
        have h1 : x < zs.length := by rcases hok with h | h <;> omega
        clear hok
        go_wp2
        go_round
        case rel => exact ⟨n + 1, by omega, by go_num, fun j hj => by
          rcases Nat.lt_or_ge j n with h | h
          · exact HA.out j h
          · obtain rfl : j = n := by omega
            rw [List.getD, HX.out]; exact HE.out⟩
        case measure => simp [intOf]; omega
      · have HE := Lib.hid hok
        by_cases h0 : x < -1
        · clear hok
          go_wp2
          go_ret
          exact ⟨ret_int (by rw [err, if_neg h64, if_pos ⟨n, hlt, by rw [List.getD, HX.out]; exact HE.out⟩]), rfl⟩
        · have h1 : ¬ x < zs.length := fun h => hok (by unfold OkI; omega)
          clear hok
          go_wp2
          go_ret
          exact ⟨ret_int (by rw [err, if_neg h64, if_pos ⟨n, hlt, by rw [List.getD, HX.out]; exact HE.out⟩]), rfl⟩
    · obtain rfl : n = zs.length := by omega
      have hg : Good zs := HA.out
      have HG := Lib.hid hg
      clear hg
      go_wp2
      go_loop [4, 5, 6] (fun k _ _ => ∃ n : Nat, n ≤ zs.length ∧ k = .int .i64 n ∧ ∀ j : Nat, j < n → Rings zs j = false) (fun k _ _ => zs.length - (intOf k).toNat)
      case atStart => exact ⟨0, Nat.zero_le _, rfl, by omega⟩
      case round =>
        obtain ⟨n, hn, rfl, hall⟩ := hrel
        have HR := Lib.hid hall
        clear hall
        by_cases hlt : n < zs.length
        · go_wp2
          go_loop [5, 6] (fun j k => ∃ m : Nat, m ≤ zs.length + 1 ∧ k = .int .i64 m ∧ j = .int .i64 (nxts zs m n)) (fun _ k => zs.length + 1 - (intOf k).toNat)
          case atStart => exact ⟨0, Nat.zero_le _, rfl, rfl⟩
          case round =>
            obtain ⟨m, hm, rfl, rfl⟩ := hrel
            have hok := OkI.nxts HG.out (i := n) (.inr ⟨by omega, by omega⟩) m
            obtain ⟨j, hj⟩ : ∃ j, nxts zs m n = j := ⟨_, rfl⟩
            have HJ := Lib.hid hj
            rw [hj] at hok
            rw [hj]
            clear hj
            by_cases hlt2 : m ≤ zs.length
            · rcases hok with hm | ⟨h0, h1⟩
              · have h0 : ¬ 0 ≤ j := by omega
                have hr : Rings zs n = false := by
                  have := HJ.out
                  rw [hm] at this
                  simp [Rings, nxts_stays this hlt2]
                have HZ := Lib.hid hr
                clear hr hm
                go_wp2
                go_round
                case rel => exact ⟨n + 1, by omega, by go_num, fun j hj => by
                  rcases Nat.lt_or_ge j n with h | h
                  · exact HR.out j h
                  · obtain rfl : j = n := by omega
                    exact HZ.out⟩
                case measure => simp [intOf]; omega
              · obtain ⟨b, off, rfl, _, hcell⟩ := hc j.toNat (by omega)
                go_wp2
                go_round
                case rel => exact ⟨m + 1, by omega, by go_num, by rw [nxts, HJ.out, nxt, if_neg (by omega)]; simp [List.getD, List.getElem?_eq_getElem (show j.toNat < zs.length by omega)]⟩
                case measure => simp [intOf]; omega
            · obtain rfl : m = zs.length + 1 := by omega
              rcases hok with hm | ⟨h0, h1⟩
              · have h0 : ¬ 0 ≤ j := by omega
                have hr : Rings zs n = false := by
                  refine Classical.byContradiction fun hne => ?_
                  have h1 : nxts zs zs.length n ≠ -1 := by simpa [Rings] using hne
                  exact ring_of_long HG.out (.inr ⟨by omega, by omega⟩) h1 (zs.length + 1) (HJ.out.trans hm)
                have HZ := Lib.hid hr
                clear hr hm
                go_wp2
                go_round
                case rel => exact ⟨n + 1, by omega, by go_num, fun j hj => by
                  rcases Nat.lt_or_ge j n with h | h
                  · exact HR.out j h
                  · obtain rfl : j = n := by omega
                    exact HZ.out⟩
                case measure => simp [intOf]; omega
              · have hr : Rings zs n = true := by
                  have : nxts zs zs.length n ≠ -1 := fun h => by
                    have h2 := nxts_stays h (Nat.le_succ zs.length)
                    rw [HJ.out] at h2
                    omega
                  simp [Rings, this]
                have HZ := Lib.hid hr
                clear hr
                go_wp2
                go_ret
                exact ⟨ret_int (by rw [err, if_neg h64, if_neg (fun ⟨j, h1, h2⟩ => h2 (HG.out j h1)), if_pos ⟨n, hlt, HZ.out⟩]), rfl⟩
        · obtain rfl : n = zs.length := by omega
          go_wp2
          go_ret
          exact ⟨ret_int (by rw [err, if_neg h64, if_neg (fun ⟨j, h1, h2⟩ => h2 (HG.out j h1)), if_neg (fun ⟨j, h1, h2⟩ => by rw [HR.out j h1] at h2; cases h2)]), rfl⟩
end Go.Proofs.Ytmbdolmkldbjcaa
