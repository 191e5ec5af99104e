/-
  Walks: the reference's Picked, Runs.
-/
import Derived.Test.YtmbdolmkldbjcaaW4
import Derived.Deep.QuietTactic
import Derived.BigQuiet
namespace Go.Proofs.Ytmbdolmkldbjcaa
open Go.RowKit

/-- what is wrong with threads that are chosen -/
def picked (zs cs : List Int) : Int :=
  if ∃ j, j < cs.length ∧ ¬ OkI zs (cs.getD j 0) then 10
  else if ∃ j, j < cs.length ∧ 0 ≤ cs.getD j 0 ∧ cs.getD j 0 ∈ cs.take j then 15 else 0

theorem IntsAt.take {w : World} {a : Option Addr} {zs : List Int} (h : IntsAt w a zs) (n : Nat) : IntsAt w a (zs.take n) := by
  intro k hk
  simp at hk
  obtain ⟨b, off, ha, h1, h2⟩ := h k (by omega)
  exact ⟨b, off, ha, h1, by rw [h2, List.getElem?_take_of_lt (by omega)]⟩

theorem IntsAt.drewN {w : World} {a : Option Addr} {zs : List Int} (h : IntsAt w a zs) (n : Nat) : IntsAt (w.drewN n) a zs := by
  intro k hk
  obtain ⟨b, off, ha, h1, h2⟩ := h k hk
  exact ⟨b, off, ha, h1, h2⟩

theorem In_bool {a : Option Addr} {cap n : Nat} {zs : List Int} {x : Int} {w : World} {r : Bool} (hn : zs.length = n) (hl : n ≤ 17592186044416) (hc : IntsAt w a zs) (hr : decide (x ∈ zs) = r) :
    Calls Try.prog 18 #[.slice a n cap, .int .i64 x] w fun e w' => e = .returned (.bool r) ∧ w' = w := by
  subst hn
  exact (In_any a cap zs x w hl hc).mono fun _ _ ⟨he, hw⟩ => ⟨he.trans (ret_bool hr), hw.symm⟩

set_option maxHeartbeats 1600000 in
theorem Picked_any (a b : Option Addr) (cap cap' : Nat) (zs cs : List Int) (w : World) (hl : zs.length ≤ 17592186044416) (hl' : cs.length ≤ 17592186044416)
    (hc' : IntsAt w b cs) (hcap : cs.length ≤ cap') :
    Calls Try.prog 11 #[.slice a zs.length cap, .slice b cs.length cap'] w fun e w' => e = .returned (.int .i64 (picked zs cs)) ∧ ∃ n, w' = w.drewN n := by
  go_enter Try.func11, Try.ntmps11
  go_wp2
  go_loop [5] (fun k => ∃ n : Nat, n ≤ cs.length ∧ k = .int .i64 n ∧ ∀ j, j < n → OkI zs (cs.getD j 0)) (fun k => cs.length - (intOf k).toNat)
  case atStart => exact ⟨0, Nat.zero_le _, rfl, by omega⟩
  case round =>
    obtain ⟨n, hn, rfl, hall⟩ := hrel
    have HA := Lib.hid hall
    clear hall
    by_cases hlt : n < cs.length
    · obtain ⟨b, off, rfl, _, hcell⟩ := hc' n hlt
      obtain ⟨x, hx⟩ : ∃ x, cs[n]?.getD 0 = x := ⟨_, rfl⟩
      have HX := Lib.hid hx
      rw [hx] at hcell
      clear hx
      by_cases hok : OkI zs x
      · have HE := Lib.hid hok
        have h0 : -1 ≤ x := by rcases hok with h | h <;> omega
        have h1 : x < zs.length := by rcases hok with h | h <;> omega
        clear hok
        go_wp2
        go_round
        case rel => exact ⟨n + 1, by omega, by go_num, fun j hj => by
          rcases Nat.lt_or_ge j n with h | h
          · exact HA.out j h
          · obtain rfl : j = n := by omega
            rw [List.getD, HX.out]; exact HE.out⟩
        case measure => simp [intOf]; omega
      · have HE := Lib.hid hok
        by_cases h0 : x < -1
        · clear hok
          go_wp2
          go_ret
          exact ⟨ret_int (by rw [picked, if_pos ⟨n, hlt, by rw [List.getD, HX.out]; exact HE.out⟩]), 0, rfl⟩
        · have h1 : ¬ x < zs.length := fun h => hok (by unfold OkI; omega)
          clear hok
          go_wp2
          go_ret
          exact ⟨ret_int (by rw [picked, if_pos ⟨n, hlt, by rw [List.getD, HX.out]; exact HE.out⟩]), 0, rfl⟩
    · obtain rfl : n = cs.length := by omega
      go_wp2
      have HP := Lib.hid (show ∀ j, j < cs.length → OkI zs (cs.getD j 0) from HA.out)
      go_loopg [6] cs.length (fun g k wr => ∃ n : Nat, n + g = cs.length ∧ k = .int .i64 n ∧ (∀ j : Nat, j < n → ¬ (0 ≤ cs.getD j 0 ∧ cs.getD j 0 ∈ cs.take j)) ∧ ∃ m, wr = w.drewN m)
      case atStart => exact ⟨0, by omega, rfl, by omega, 0, rfl⟩
      case round =>
        obtain ⟨n, hn, rfl, hall, hwr⟩ := hrel
        have HR := Lib.hid hall
        have HN := Lib.hid hn
        have hn' : n ≤ cs.length := by omega
        have hc2 : IntsAt wr b cs := by obtain ⟨m, rfl⟩ := hwr; exact hc'.drewN m
        have HW := Lib.hid hwr
        clear hall hn hwr hc'
        by_cases hlt : n < cs.length
        · obtain ⟨b, off, rfl, _, hcell⟩ := hc2 n hlt
          obtain ⟨x, hx⟩ : ∃ x, cs[n]?.getD 0 = x := ⟨_, rfl⟩
          have HX := Lib.hid hx
          rw [hx] at hcell
          clear hx
          have hnc : n ≤ cap' := by omega
          by_cases h0 : 0 ≤ x
          · obtain ⟨r, hr⟩ : ∃ r, decide (x ∈ cs.take n) = r := ⟨_, rfl⟩
            have HB := Lib.hid hr
            clear hr
            go_wp2_with fail
            go_quiet ((go_at_call 18; exact Calls.quiet_of_same (In_bool (by simp; omega) (by omega) ((hc2.take n).drewN _) HB.out)))
            cases r with
            | true =>
              go_wp2
              go_ret
              refine ⟨ret_int ?_, by obtain ⟨m, hm⟩ := HW.out; exact ⟨m + nq, by rw [hm, World.drewN_drewN]⟩⟩
              rw [picked, if_neg (fun ⟨j, h1, h2⟩ => h2 (HP.out j h1)), if_pos ⟨n, hlt, by rw [List.getD, HX.out]; exact ⟨h0, of_decide_eq_true HB.out⟩⟩]
            | false =>
              go_wp2
              go_roundg (gk - 1)
              case measure => have := HN.out; omega
              case rel =>
                refine ⟨n + 1, by have := HN.out; omega, by go_num, fun j hj => ?_, by obtain ⟨m, hm⟩ := HW.out; exact ⟨m + nq, by rw [hm, World.drewN_drewN]⟩⟩
                rcases Nat.lt_or_ge j n with h | h
                · exact HR.out j h
                · obtain rfl : j = n := by omega
                  rw [List.getD, HX.out]; exact fun ⟨_, h⟩ => of_decide_eq_false HB.out h
          · have hd : decide (0 ≤ x) = false := by simpa using h0
            go_wp2_with fail
            go_quiet (fail)
            go_wp2
            go_roundg (gk - 1)
            case measure => have := HN.out; omega
            case rel =>
              refine ⟨n + 1, by have := HN.out; omega, by go_num, fun j hj => ?_, by obtain ⟨m, hm⟩ := HW.out; exact ⟨m + nq, by rw [hm, World.drewN_drewN]⟩⟩
              rcases Nat.lt_or_ge j n with h | h
              · exact HR.out j h
              · obtain rfl : j = n := by omega
                rw [List.getD, HX.out]; exact fun ⟨h, _⟩ => by omega
        · have HE := Lib.hid (show n = cs.length by omega)
          go_wp2
          go_ret
          refine ⟨ret_int ?_, HW.out⟩
          rw [picked, if_neg (fun ⟨j, h1, h2⟩ => h2 (HP.out j h1)), if_neg (fun ⟨j, h1, h2⟩ => HR.out j (by have := HE.out; omega) h2)]

/-- which worker runs a thread -/
def runsOf (zs cs : List Int) (t : Int) : Int :=
  match (List.range cs.length).find? (fun k => cs.getD k 0 == t) with
  | some k => k
  | none => match (List.range cs.length).find? (fun k => decide (0 ≤ cs.getD k 0) && endOf zs (cs.getD k 0) == t) with
    | some k => k
    | none => -1

theorem find_first {n k : Nat} {p : Nat → Bool} (hk : k < n) (h1 : ∀ j, j < k → p j = false) (h2 : p k = true) : (List.range n).find? p = some k := by
  rw [List.find?_range_eq_some]
  exact ⟨h2, by simpa using hk, fun j hj => by simp [h1 j hj]⟩
theorem find_none {n : Nat} {p : Nat → Bool} (h1 : ∀ j, j < n → p j = false) : (List.range n).find? p = none := by
  rw [List.find?_eq_none]
  intro x hx
  simp at hx
  simp [h1 x hx]

theorem getD_ok {zs cs : List Int} {n : Nat} {x : Int} (h : ∀ j, j < cs.length → OkI zs (cs.getD j 0)) (hn : n < cs.length) (hx : cs[n]?.getD 0 = x) : OkI zs x := by
  have := h n hn
  rwa [List.getD, hx] at this

set_option maxHeartbeats 1600000 in
theorem Runs_any (a b : Option Addr) (cap cap' : Nat) (zs cs : List Int) (t : Int) (w : World) (hl : zs.length ≤ 64) (hl' : cs.length ≤ 1000)
    (hc : IntsAt w a zs) (hc' : IntsAt w b cs) (hg : Good zs) (hr : ∀ i, OkI zs i → Rings zs i = false) (hp : ∀ j, j < cs.length → OkI zs (cs.getD j 0)) :
    Calls Try.prog 13 #[.slice a zs.length cap, .slice b cs.length cap', .int .i64 t] w fun e w' => e = .returned (.int .i64 (runsOf zs cs t)) ∧ Below w.heap.size w w' := by
  have HG := Lib.hid hg
  have HR := Lib.hid hr
  have HP := Lib.hid hp
  clear hg hr hp
  go_enter Try.func13, Try.ntmps13
  go_wp2
  go_loop [7] (fun k => ∃ n : Nat, n ≤ cs.length ∧ k = .int .i64 n ∧ ∀ j, j < n → (cs.getD j 0 == t) = false) (fun k => cs.length - (intOf k).toNat)
  case atStart => exact ⟨0, Nat.zero_le _, rfl, by omega⟩
  case round =>
    obtain ⟨n, hn, rfl, hall⟩ := hrel
    have HA := Lib.hid hall
    clear hall
    by_cases hlt : n < cs.length
    · obtain ⟨b', off, rfl, _, hcell⟩ := hc' n hlt
      obtain ⟨x, hx⟩ : ∃ x, cs[n]?.getD 0 = x := ⟨_, rfl⟩
      have HX := Lib.hid hx
      rw [hx] at hcell
      clear hx
      obtain ⟨r, hr⟩ : ∃ r, (x == t) = r := ⟨_, rfl⟩
      have HT := Lib.hid hr
      cases r with
      | true =>
        go_wp2
        go_ret
        exact ⟨ret_int (by rw [runsOf, find_first hlt HA.out (by rw [List.getD, HX.out]; exact HT.out)]), Below.refl _ _⟩
      | false =>
        go_wp2
        go_round
        case rel => exact ⟨n + 1, by omega, by go_num, fun j hj => by
          rcases Nat.lt_or_ge j n with h | h
          · exact HA.out j h
          · obtain rfl : j = n := by omega
            rw [List.getD, HX.out]; exact HT.out⟩
        case measure => simp [intOf]; omega
    · have hE : ∀ j, j < cs.length → (cs.getD j 0 == t) = false := fun j hj => HA.out j (by omega)
      have HE := Lib.hid hE
      clear hE
      go_wp2
      go_loopg [8] cs.length (fun g k wr => ∃ n : Nat, n + g = cs.length ∧ k = .int .i64 n ∧ (∀ j : Nat, j < n → (decide (0 ≤ cs.getD j 0) && endOf zs (cs.getD j 0) == t) = false) ∧ Below w.heap.size w wr)
      case atStart => exact ⟨0, by omega, rfl, by omega, Below.refl _ _⟩
      case round =>
        obtain ⟨n, hn, rfl, hall, hb⟩ := hrel
        have HA := Lib.hid hall
        have HN := Lib.hid hn
        have hn' : n ≤ cs.length := by omega
        have hc2 := hc.below (Nat.le_refl _) hb
        have hc3 := hc'.below (Nat.le_refl _) hb
        have hsz := hb.size
        clear hall hn
        by_cases hlt : n < cs.length
        · obtain ⟨b', off, rfl, _, hcell⟩ := hc3 n hlt
          obtain ⟨x, hx⟩ : ∃ x, cs[n]?.getD 0 = x := ⟨_, rfl⟩
          have HX := Lib.hid hx
          rw [hx] at hcell
          clear hx
          have hok : OkI zs x := getD_ok HP.out hlt HX.out
          have HO := Lib.hid hok
          clear hok
          by_cases h0 : 0 ≤ x
          · obtain ⟨y, hy⟩ : ∃ y, endOf zs x = y := ⟨_, rfl⟩
            have HY := Lib.hid hy
            have hcall := End_any a cap zs x wr hl hc2 HG.out HO.out (HR.out x HO.out) (by omega)
            rw [hy] at hcall
            have HC := Lib.hid hcall
            clear hy hcall
            obtain ⟨r, hr⟩ : ∃ r, (y == t) = r := ⟨_, rfl⟩
            have HT := Lib.hid hr
            cases r with
            | true =>
              go_wp2_with (go_at_call 12; refine HC.out.mono ?_; rintro e w1 ⟨rfl, hb1⟩)
              go_ret
              refine ⟨ret_int ?_, hb.trans (hb1.mono hsz)⟩
              rw [runsOf, find_none HE.out, find_first hlt HA.out (by rw [List.getD, HX.out, HY.out, HT.out]; simpa using h0)]
            | false =>
              go_wp2_with (go_at_call 12; refine HC.out.mono ?_; rintro e w1 ⟨rfl, hb1⟩)
              go_roundg (gk - 1)
              case measure => have := HN.out; omega
              case rel =>
                refine ⟨n + 1, by have := HN.out; omega, by go_num, fun j hj => ?_, hb.trans (hb1.mono hsz)⟩
                rcases Nat.lt_or_ge j n with h | h
                · exact HA.out j h
                · obtain rfl : j = n := by omega
                  rw [List.getD, HX.out, HY.out, HT.out, Bool.and_false]
          · have hd : decide (0 ≤ x) = false := by simpa using h0
            have HD := Lib.hid hd
            go_wp2
            go_roundg (gk - 1)
            case measure => have := HN.out; omega
            case rel =>
              refine ⟨n + 1, by have := HN.out; omega, by go_num, fun j hj => ?_, hb⟩
              rcases Nat.lt_or_ge j n with h | h
              · exact HA.out j h
              · obtain rfl : j = n := by omega
                rw [List.getD, HX.out, HD.out, Bool.false_and]
        · have HZ := Lib.hid (show n = cs.length by omega)
          go_wp2
          go_ret
          refine ⟨ret_int ?_, hb⟩
          rw [runsOf, find_none HE.out, find_none (fun j hj => HA.out j (by have := HZ.out; omega))]
end Go.Proofs.Ytmbdolmkldbjcaa
