/-
  Walks: (set[int]).add, chain.right.
-/
import Derived.Test.YtmbdolmkldbjcaaW7
import Derived.Test.YtmbdolmkldbjcaaMapI
namespace Go.Proofs.Ytmbdolmkldbjcaa
open Go.RowKit

def unit : Value := .agg #[]

theorem zero53 (w : World) : (zeroValue 53).run Try.prog w = .ok (.agg #[]) w := by kernel_rfl

set_option maxHeartbeats 400000 in
theorem add_any (bm n : Nat) (f : Int → Option Value) (x : Int) (w : World) (h : mapI w Try.prog 3 bm n f) (hx : (Lit.int .i64 x).wf = true) (hn : n < maxLen)
    (hu : ∀ v, f x = some v → v = .agg #[]) :
    Calls Try.prog 28 #[.map (some bm), .int .i64 x] w fun e w' => e = .returned (.bool (!(f x).isSome)) ∧ mapI w' Try.prog 3 bm (n + 1) (put f x (some (.agg #[]))) ∧ Mod (fun j => j = bm) w w' := by
  have hl := h.look_ok (t := 51) (e := 53) Try.underlying3 Try.underlying51 (zero53 w) hx
  have hv : (f x).getD (.agg #[]) = .agg #[] := by
    cases hf : f x with
    | none => rfl
    | some v => simp [hu v hf]
  rw [hv] at hl
  obtain ⟨w', hrun, hm, hmod⟩ := (h.mod ((Mod.refl (fun _ => False) w).alloc (.cells #[] 53)) (fun h => h)).update (t := 51) (e := 53) Try.underlying3 Try.underlying51 hn hx (.agg #[])
  obtain ⟨r, hr⟩ : ∃ r, (f x).isSome = r := ⟨_, rfl⟩
  rw [hr] at hl
  have HM := Lib.hid hm
  have HMod := Lib.hid hmod
  have HR := Lib.hid hr
  clear hm hmod h hn hu hr hv
  go_enter Try.func28, Try.ntmps28
  go_wp2
  go_ret
  exact ⟨ret_bool (by rw [HR.out]), HM.out, ((Mod.refl _ w).alloc _).trans HMod.out fun _ h _ => h⟩

/-- what is wrong with threads whose servers are chosen -/
def rightOf (zs cs : List Int) : Int := if err zs ≠ 0 then err zs else picked zs cs

/-- those of a list's first numbers that are threads -/
def seenF (cs : List Int) (n : Nat) : Int → Option Value := fun y => if 0 ≤ y ∧ y ∈ cs.take n then some (.agg #[]) else none

theorem wf_ok {zs : List Int} {x : Int} (h : OkI zs x) (hl : zs.length ≤ 17592186044416) : (Lit.int .i64 x).wf = true := by
  have : -1 ≤ x ∧ x < 17592186044416 := by rcases h with h | h <;> omega
  simp [Lit.wf, IntKind.min, IntKind.max, IntKind.signed, IntKind.bits]
  omega

theorem take_snoc' {cs : List Int} {n : Nat} {x : Int} (hn : n < cs.length) (hx : cs[n]?.getD 0 = x) : cs.take (n + 1) = cs.take n ++ [x] := by
  rw [List.take_add_one, List.getElem?_eq_getElem hn] at *
  simp at hx
  simp [hx]

set_option maxHeartbeats 1600000 in
theorem right_any (a b : Option Addr) (cap cap' : Nat) (zs cs : List Int) (w : World) (hl : zs.length ≤ 17592186044416) (hl' : cs.length ≤ 17592186044416)
    (hc : IntsAt w a zs) (hc' : IntsAt w b cs) :
    Calls Try.prog 23 #[.slice a zs.length cap, .slice b cs.length cap'] w fun e w' => e = .returned (.int .i64 (rightOf zs cs)) ∧ Below w.heap.size w w' := by
  obtain ⟨r, hr⟩ : ∃ r, err zs = r := ⟨_, rfl⟩
  have HS := Lib.hid hr
  clear hr
  have hcall := Check_any a cap zs w hl hc
  rw [HS.out] at hcall
  have HC := Lib.hid hcall
  clear hcall
  by_cases h0 : r = 0
  · subst h0
    have HP : Hid (rightOf zs cs = picked zs cs) := Lib.hid (by rw [rightOf, if_neg (by rw [HS.out]; simp)])
    have hmm := @run_makeMap Try.prog
    go_enter Try.func23, Try.ntmps23
    go_wp2_with (go_at_call 16; refine HC.out.mono ?_; rintro e w' ⟨rfl, rfl⟩)
    go_loop [18] (fun k => ∃ n : Nat, n ≤ cs.length ∧ k = .int .i64 n ∧ ∀ j, j < n → OkI zs (cs.getD j 0)) (fun k => cs.length - (intOf k).toNat)
    case atStart => exact ⟨0, Nat.zero_le _, rfl, by omega⟩
    case round =>
      obtain ⟨n, hn, rfl, hall⟩ := hrel
      have HA := Lib.hid hall
      clear hall
      by_cases hlt : n < cs.length
      · obtain ⟨b', off, rfl, _, hcell⟩ := hc' n hlt
        obtain ⟨x, hx⟩ : ∃ x, cs[n]?.getD 0 = x := ⟨_, rfl⟩
        have HX := Lib.hid hx
        rw [hx] at hcell
        clear hx
        by_cases hok : OkI zs x
        · have HE := Lib.hid hok
          rcases hok with hm | ⟨h0, h1⟩
          · have hb : (x != -1) = false := by simp [hm]
            clear hm
            go_wp2
            go_round
            case rel => exact ⟨n + 1, by omega, by go_num, fun j hj => by
              rcases Nat.lt_or_ge j n with h | h
              · exact HA.out j h
              · obtain rfl : j = n := by omega
                rw [List.getD, HX.out]; exact HE.out⟩
            case measure => simp [intOf]; omega
          · have hb : (x != -1) = true := by simp; omega
            go_wp2_with (go_at_call 26; refine (thread_yes _ _ _ _ _ (by omega) h0 h1).mono ?_; rintro e w' ⟨rfl, rfl⟩)
            go_round
            case rel => exact ⟨n + 1, by omega, by go_num, fun j hj => by
              rcases Nat.lt_or_ge j n with h | h
              · exact HA.out j h
              · obtain rfl : j = n := by omega
                rw [List.getD, HX.out]; exact HE.out⟩
            case measure => simp [intOf]; omega
        · have HE := Lib.hid hok
          have hb : (x != -1) = true := by simp; exact fun h => hok (.inl h)
          have hno : ¬ (0 ≤ x ∧ x < zs.length) := fun h => hok (.inr h)
          clear hok
          have HN := Lib.hid hno
          clear hno
          go_wp2_with (go_at_call 26; refine (thread_no _ _ _ _ _ (by omega) HN.out).mono ?_; rintro e w' ⟨rfl, rfl⟩)
          go_ret
          exact ⟨ret_int (by rw [HP.out, picked, if_pos ⟨n, hlt, by rw [List.getD, HX.out]; exact HE.out⟩]), Below.refl _ _⟩
      · have HK := Lib.hid (show ∀ j, j < cs.length → OkI zs (cs.getD j 0) from fun j hj => HA.out j (by omega))
        have hmade := mapI_made w Try.prog 3
        have hmod0 : Mod none' w (w.alloc (.map #[] 0)) := (Mod.refl _ w).alloc _
        have HM0 := Lib.hid hmade
        have HD0 := Lib.hid hmod0
        clear hmade hmod0
        go_wp2
        go_loopg [34] cs.length (fun g k wr => ∃ n : Nat, n + g = cs.length ∧ k = .int .i64 n ∧ (∀ j : Nat, j < n → ¬ (0 ≤ cs.getD j 0 ∧ cs.getD j 0 ∈ cs.take j)) ∧ mapI wr Try.prog 3 w.heap.size n (seenF cs n) ∧ Mod none' w wr)
        case atStart => exact ⟨0, by omega, rfl, by omega, by
          have h : seenF cs 0 = fun _ => none := by funext y; simp [seenF]
          rw [h]; exact HM0.out, HD0.out⟩
        case round =>
          obtain ⟨n, hn, rfl, hall, hmap, hmod⟩ := hrel
          have HR := Lib.hid hall
          have HN := Lib.hid hn
          have hn' : n ≤ cs.length := by omega
          have hc2 := hc'.mod hmod (fun _ _ h => h)
          have HMod := Lib.hid hmod
          have HMap := Lib.hid hmap
          clear hall hn hmod hmap HA
          by_cases hlt : n < cs.length
          · obtain ⟨b', off, rfl, _, hcell⟩ := hc2 n hlt
            obtain ⟨x, hx⟩ : ∃ x, cs[n]?.getD 0 = x := ⟨_, rfl⟩
            have HX := Lib.hid hx
            rw [hx] at hcell
            clear hx
            have hok : OkI zs x := getD_ok HK.out hlt HX.out
            have HW := Lib.hid (wf_ok hok hl)
            rcases hok with hm | ⟨h0, h1⟩
            · have hb : (x != -1) = false := by simp [hm]
              have HE := Lib.hid hm
              clear hm
              go_wp2
              go_roundg (gk - 1)
              case measure => have := HN.out; omega
              case rel =>
                refine ⟨n + 1, by have := HN.out; omega, by go_num, fun j hj => ?_, ?_, HMod.out⟩
                · rcases Nat.lt_or_ge j n with h | h
                  · exact HR.out j h
                  · obtain rfl : j = n := by omega
                    rw [List.getD, HX.out, HE.out]; omega
                · have h : seenF cs (n + 1) = seenF cs n := by
                    funext y
                    rw [seenF, seenF, take_snoc' hlt HX.out]
                    have : (0 ≤ y ∧ y ∈ cs.take n ++ [x]) ↔ (0 ≤ y ∧ y ∈ cs.take n) := by
                      rw [List.mem_append, List.mem_singleton]
                      have := HE.out
                      constructor
                      · rintro ⟨h1, h2 | h2⟩
                        · exact ⟨h1, h2⟩
                        · omega
                      · exact fun ⟨h1, h2⟩ => ⟨h1, .inl h2⟩
                    simp only [this]
                  rw [h]; exact HMap.out.mono (Nat.le_succ n)
            · have hb : (x != -1) = true := by simp; omega
              obtain ⟨r, hr⟩ : ∃ r, (seenF cs n x).isSome = r := ⟨_, rfl⟩
              have hrx : r = decide (x ∈ cs.take n) := by rw [← hr, seenF]; by_cases hx : x ∈ cs.take n <;> simp [hx, h0]
              have hcall := add_any w.heap.size n (seenF cs n) x wr HMap.out HW.out (by unfold maxLen; omega) (fun v hv => by unfold seenF at hv; split at hv <;> simp_all)
              rw [hr] at hcall
              have HC := Lib.hid hcall
              have HRX := Lib.hid hrx
              clear hcall hr hrx
              cases r with
              | true =>
                go_wp2_with (go_at_call 28; refine HC.out.mono ?_; rintro e w1 ⟨rfl, hm1, hd1⟩)
                go_ret
                refine ⟨ret_int ?_, ?_⟩
                · rw [HP.out, picked, if_neg (fun ⟨j, h1, h2⟩ => h2 (HK.out j h1)), if_pos ⟨n, hlt, by rw [List.getD, HX.out]; exact ⟨h0, of_decide_eq_true HRX.out.symm⟩⟩]
                · exact (HMod.out.trans hd1 (fun i hi h => by omega)).to_below
              | false =>
                go_wp2_with (go_at_call 28; refine HC.out.mono ?_; rintro e w1 ⟨rfl, hm1, hd1⟩)
                go_roundg (gk - 1)
                case measure => have := HN.out; omega
                case rel =>
                  refine ⟨n + 1, by have := HN.out; omega, by go_num, fun j hj => ?_, ?_, HMod.out.trans hd1 (fun i hi h => by omega)⟩
                  · rcases Nat.lt_or_ge j n with h | h
                    · exact HR.out j h
                    · obtain rfl : j = n := by omega
                      rw [List.getD, HX.out]; exact fun ⟨_, h⟩ => of_decide_eq_false HRX.out.symm h
                  · have h : seenF cs (n + 1) = put (seenF cs n) x (some (.agg #[])) := by
                      funext y
                      rw [seenF, take_snoc' hlt HX.out]
                      by_cases hy : y = x
                      · subst hy; rw [put_same]; simp [h0]
                      · rw [put_other _ hy, seenF]; simp [hy]
                    rw [h]; exact hm1
          · have HE := Lib.hid (show n = cs.length by omega)
            go_wp2
            go_ret
            refine ⟨ret_int ?_, HMod.out.to_below⟩
            rw [HP.out, picked, if_neg (fun ⟨j, h1, h2⟩ => h2 (HK.out j h1)), if_neg (fun ⟨j, h1, h2⟩ => HR.out j (by have := HE.out; omega) h2)]
  · have hb : (r != 0) = true := by simp [h0]
    have H0 := Lib.hid h0
    clear h0
    go_enter Try.func23, Try.ntmps23
    go_wp2_with (go_at_call 16; refine HC.out.mono ?_; rintro e w' ⟨rfl, rfl⟩)
    go_ret
    exact ⟨ret_int (by rw [rightOf, HS.out, if_pos H0.out]), Below.refl _ _⟩
end Go.Proofs.Ytmbdolmkldbjcaa
