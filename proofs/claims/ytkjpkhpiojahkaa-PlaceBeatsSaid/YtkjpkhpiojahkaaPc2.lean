/-
  Place: where a server runs, and what is wrong with workers, by the document's answer and by the code.
-/
import Derived.Test.YtkjpkhpiojahkaaPl0
import Derived.Test.YtkjpkhpiojahkaaPc1
namespace Go.Proofs.Ytkjpkhpiojahkaa
set_option linter.unusedVariables false
open Go.RowKit Hp
attribute [local go_sem] Oper.semAt_some

set_option maxRecDepth 100000 in
set_option maxHeartbeats 4000000 in
theorem pat_ok (a : Option Addr) (c : Nat) (zs : List Int) (id : Int) (w : World) (h : IntsAt w a zs) (hl : zs.length < 1000000) :
    Calls Try.prog 62 #[.slice a zs.length c, .int .i64 id] w fun e w' => e = .returned (.int .i64 (atI zs id)) ∧ Below w.heap.size w w' := by
  obtain ⟨n, hn⟩ : ∃ n, zs.length = n := ⟨_, rfl⟩
  rw [hn] at hl ⊢
  have HC := Lib.hid h
  have HN := Lib.hid hn
  clear h hn
  go_enter Try.func62, Try.ntmps62
  go_wp2_with fail
  go_loopg [5] n (fun gh s5 wr => ∃ i : Nat, i + gh = n ∧ s5 = .int .i64 (i : Int) ∧ Below w.heap.size w wr ∧ ∀ j, j < i → zs[j]? ≠ some id)
  case atStart => exact ⟨0, by omega, rfl, Below.refl _ _, fun j hj => by omega⟩
  case round =>
    obtain ⟨i, hi, rfl, hb, hne⟩ := hrel
    have HB := Lib.hid hb
    have HNe := Lib.hid hne
    by_cases hlt : i < n
    · have hltI : (i : Int) < (n : Int) := by omega
      have hi0 : (0 : Int) ≤ (i : Int) := by omega
      obtain ⟨b, off, rfl, hbl, hc⟩ := HC.out.row (by rw [HN.out]; omega)
      obtain ⟨x, hx⟩ : ∃ x, zs[i]? = some x := ⟨_, List.getElem?_eq_getElem (by rw [HN.out]; exact hlt)⟩
      have q0 : wr.cell? ⟨b, off + i, none⟩ = some (.int .i64 x) := by
        have := hc i (by rw [HN.out]; exact hlt)
        rw [hx] at this
        exact (hb.cell (by exact hbl)).trans this
      have HX := Lib.hid hx
      clear hb hne hbl hc hx
      by_cases hxi : x = id
      · subst hxi
        have z : (x == x) = true := by simp
        have HAt := Lib.hid (atI_found HX.out HNe.out)
        go_wp2_with fail
        rw [HAt.out]
        go_ret
        exact ⟨rfl, HB.out⟩
      · have z : (x == id) = false := by simpa using hxi
        have HXi := Lib.hid hxi
        clear hxi
        go_wp2_with fail
        go_roundg (n - (i + 1))
        case measure => omega
        case rel => exact ⟨i + 1, by omega, by go_num, HB.out, fun j hj => by
          by_cases hji : j = i
          · rw [hji, HX.out]
            exact fun h => HXi.out (Option.some.inj h)
          · exact HNe.out j (by omega)⟩
    · have hin : i = n := by omega
      subst hin
      have HAt := Lib.hid (atI_none (r := zs) (id := id) (by rw [HN.out]; exact hne))
      clear hb hne
      go_wp2_with fail
      rw [HAt.out]
      go_ret
      exact ⟨rfl, HB.out⟩
set_option maxRecDepth 100000 in
set_option maxHeartbeats 4000000 in
theorem pworkers_ref (a : Option Addr) (c : Nat) (zs : List Int) (w : World) (h : IntsAt w a zs) (hl : zs.length < 1000000) :
    Calls Try.prog 64 #[.slice a zs.length c] w fun e w' => e = .returned (.int .i64 (workE zs)) ∧ Below w.heap.size w w' := by
  obtain ⟨n, hn⟩ : ∃ n, zs.length = n := ⟨_, rfl⟩
  rw [hn] at hl ⊢
  have HC := Lib.hid h
  have HN := Lib.hid hn
  clear h hn
  by_cases h1 : n < 1
  · have g1 : decide ((n : Int) < 1) = true := by simp; omega
    have e : workE zs = 1 := by unfold workE; rw [if_pos (.inl (by rw [HN.out]; exact h1))]
    rw [e]
    clear e
    go_enter Try.func64, Try.ntmps64
    go_wp2_with fail
    go_ret
    exact ⟨rfl, Below.refl _ _⟩
  · have g1 : decide ((n : Int) < 1) = false := by simp; omega
    by_cases h2 : 16 < n
    · have g2 : decide ((16 : Int) < (n : Int)) = true := by simp; omega
      have e : workE zs = 1 := by unfold workE; rw [if_pos (.inr (by rw [HN.out]; exact h2))]
      rw [e]
      clear e
      go_enter Try.func64, Try.ntmps64
      go_wp2_with fail
      go_ret
      exact ⟨rfl, Below.refl _ _⟩
    · have g2 : decide ((16 : Int) < (n : Int)) = false := by simp; omega
      have e0 : workE zs = if lowB zs = true then 1 else if dupB zs = true then 15 else 0 := by unfold workE; rw [if_neg (by rw [HN.out]; omega)]
      have HE := Lib.hid e0
      clear e0
      go_enter Try.func64, Try.ntmps64
      go_wp2_with fail
      go_loopg [3] n (fun gh s3 wr => ∃ i : Nat, i + gh = n ∧ s3 = .int .i64 (i : Int) ∧ Below w.heap.size w wr ∧ ∀ j, j < i → -1 ≤ zs[j]?.getD 0)
      case atStart => exact ⟨0, by omega, rfl, Below.refl _ _, fun j hj => by omega⟩
      case round =>
        obtain ⟨i, hi, rfl, hb, hne⟩ := hrel
        have HB := Lib.hid hb
        have HNe := Lib.hid hne
        by_cases hlt : i < n
        · have hltI : (i : Int) < (n : Int) := by omega
          have hi0 : (0 : Int) ≤ (i : Int) := by omega
          obtain ⟨b, off, rfl, hbl, hc⟩ := HC.out.row (by rw [HN.out]; omega)
          obtain ⟨x, hx⟩ : ∃ x, zs[i]?.getD 0 = x := ⟨_, rfl⟩
          have q0 : wr.cell? ⟨b, off + i, none⟩ = some (.int .i64 x) := by
            have := hc i (by rw [HN.out]; exact hlt)
            rw [hx] at this
            exact (hb.cell (by exact hbl)).trans this
          have HX := Lib.hid hx
          clear hb hne hbl hc hx
          by_cases hxi : x < -1
          · have e : workE zs = 1 := by
              rw [HE.out, if_pos (lowB_true (x := x) ?_ hxi)]
              have := HX.out
              rw [List.getElem?_eq_getElem (by rw [HN.out]; exact hlt)] at this
              exact this ▸ List.getElem_mem _
            have HE1 := Lib.hid e
            clear e
            go_wp2_with fail
            rw [HE1.out]
            go_ret
            exact ⟨rfl, HB.out⟩
          · have z : decide (x < -1) = false := by simpa using hxi
            have HXi := Lib.hid hxi
            clear hxi
            go_wp2_with fail
            go_roundg (n - (i + 1))
            case measure => omega
            case rel => exact ⟨i + 1, by omega, by go_num, HB.out, fun j hj => by
              by_cases hji : j = i
              · rw [hji, HX.out]
                have := HXi.out
                omega
              · exact HNe.out j (by omega)⟩
        · have hin : i = n := by omega
          subst hin
          have hlow : lowB zs = false := lowB_false fun x hx => by
            obtain ⟨j, hj, e⟩ := List.mem_iff_getElem.1 hx
            have := hne j (by rw [← HN.out]; exact hj)
            rw [List.getElem?_eq_getElem hj, e] at this
            exact this
          have HLow := Lib.hid hlow
          have HLo := Lib.hid hne
          clear hb hne hlow
          go_wp2_with fail
          go_loopg [4] i (fun gh s4 wz => ∃ k : Nat, k + gh = i ∧ s4 = .int .i64 (k : Int) ∧ Below w.heap.size w wz ∧ ∀ j, j < k → dupAt zs j = false)
          case atStart => exact ⟨0, by omega, rfl, HB.out, fun j hj => by omega⟩
          case round =>
            obtain ⟨k, hk, rfl, hb, hdu⟩ := hrel
            have HB2 := Lib.hid hb
            have HDu := Lib.hid hdu
            by_cases hlt2 : k < i
            · have hltK : (k : Int) < (i : Int) := by omega
              have hk0 : (0 : Int) ≤ (k : Int) := by omega
              clear hb hdu
              go_wp2_with fail
              go_loopg [5] k (fun gh s5 wv => ∃ k2 : Nat, k2 + gh = k ∧ s5 = .int .i64 (k2 : Int) ∧ Below w.heap.size w wv ∧ ∀ j, j < k2 → ¬ (0 ≤ zs[k]?.getD 0 ∧ zs[k]?.getD 0 = zs[j]?.getD 0))
              case atStart => exact ⟨0, by omega, rfl, HB2.out, fun j hj => by omega⟩
              case round =>
                obtain ⟨k2, hk2, rfl, hb, hno⟩ := hrel
                have HB3 := Lib.hid hb
                have HNo := Lib.hid hno
                by_cases hlt3 : k2 < k
                · have hltK2 : (k2 : Int) < (k : Int) := by omega
                  have hk20 : (0 : Int) ≤ (k2 : Int) := by omega
                  have hltK3 : (k2 : Int) < (i : Int) := by omega
                  obtain ⟨b, off, rfl, hbl, hc⟩ := HC.out.row (by rw [HN.out]; omega)
                  obtain ⟨x, hx⟩ : ∃ x, zs[k]?.getD 0 = x := ⟨_, rfl⟩
                  obtain ⟨y, hy⟩ : ∃ x, zs[k2]?.getD 0 = x := ⟨_, rfl⟩
                  have q0 : wr.cell? ⟨b, off + k, none⟩ = some (.int .i64 x) := by rw [← hx]; exact (hb.cell (by exact hbl)).trans (hc k (by rw [HN.out]; exact hlt2))
                  have q1 : wr.cell? ⟨b, off + k2, none⟩ = some (.int .i64 y) := by rw [← hy]; exact (hb.cell (by exact hbl)).trans (hc k2 (by rw [HN.out]; omega))
                  have HX := Lib.hid hx
                  have HY := Lib.hid hy
                  clear hb hno hbl hc hx hy
                  by_cases c1 : 0 ≤ x
                  · by_cases c2 : x = y
                    · have e : workE zs = 15 := by
                        have hd : dupB zs = true := dupB_true (i := k) (by rw [HN.out]; exact hlt2) (dupAt_of (by rw [HN.out]; exact hlt2) hlt3 (by rw [HX.out]; omega) (by rw [HX.out, HY.out]; exact c2))
                        rw [HE.out, HLow.out, hd]; simp
                      have HE1 := Lib.hid e
                      have z : (x == y) = true := by simpa using c2
                      clear e c2
                      go_wp2_with fail
                      have q0_d := drewC q0
                      have q1_d := drewC q1
                      refine wp_region_loose (fun A => A = wr.drew) (by kernel_rfl) (by kernel_rfl) rfl ?_
                      repeat (first
                        | (refine loose_skip (by rfl) ?_; simp only [Act.put, List.setIfInBounds_toArray, List.set_cons_zero, List.set_cons_succ])
                        | (refine loose_val (v := ?_) (by rfl) ?_ ?_; rotate_left; (focus (intro A' hA'; subst hA'; go_simp; first | done | with_reducible rfl)); simp only [Act.put, List.setIfInBounds_toArray, List.set_cons_zero, List.set_cons_succ]))
                      refine loose_nil ?_
                      intro A3 hA3
                      subst hA3
                      go_wp2_with fail
                      rw [HE1.out]
                      go_ret
                      exact ⟨rfl, HB3.out.drew⟩
                    · have z : (x == y) = false := by simpa using c2
                      have HC2 := Lib.hid c2
                      clear c2
                      go_wp2_with fail
                      have q0_d := drewC q0
                      have q1_d := drewC q1
                      refine wp_region_loose (fun A => A = wr.drew) (by kernel_rfl) (by kernel_rfl) rfl ?_
                      repeat (first
                        | (refine loose_skip (by rfl) ?_; simp only [Act.put, List.setIfInBounds_toArray, List.set_cons_zero, List.set_cons_succ])
                        | (refine loose_val (v := ?_) (by rfl) ?_ ?_; rotate_left; (focus (intro A' hA'; subst hA'; go_simp; first | done | with_reducible rfl)); simp only [Act.put, List.setIfInBounds_toArray, List.set_cons_zero, List.set_cons_succ]))
                      refine loose_nil ?_
                      intro A3 hA3
                      subst hA3
                      go_wp2_with fail
                      go_roundg (k - (k2 + 1))
                      case measure => omega
                      case rel => exact ⟨k2 + 1, by omega, by go_num, HB3.out.drew, fun j hj => by
                        by_cases hji : j = k2
                        · rw [hji, HX.out, HY.out]
                          exact fun h => HC2.out h.2
                        · exact HNo.out j (by omega)⟩
                  · have z : decide (0 ≤ x) = false := by simpa using c1
                    have HC1 := Lib.hid c1
                    clear c1
                    go_wp2_with fail
                    have q0_d := drewC q0
                    have q1_d := drewC q1
                    refine wp_region_loose (fun A => A = wr.drew) (by kernel_rfl) (by kernel_rfl) rfl ?_
                    repeat (first
                      | (refine loose_skip (by rfl) ?_; simp only [Act.put, List.setIfInBounds_toArray, List.set_cons_zero, List.set_cons_succ])
                      | (refine loose_val (v := ?_) (by rfl) ?_ ?_; rotate_left; (focus (intro A' hA'; subst hA'; go_simp; first | done | with_reducible rfl)); simp only [Act.put, List.setIfInBounds_toArray, List.set_cons_zero, List.set_cons_succ]))
                    refine loose_nil ?_
                    intro A3 hA3
                    subst hA3
                    go_wp2_with fail
                    go_roundg (k - (k2 + 1))
                    case measure => omega
                    case rel => exact ⟨k2 + 1, by omega, by go_num, HB3.out.drew, fun j hj => by
                      rw [HX.out]
                      intro h; have := HC1.out; omega⟩
                · have hkk : k2 = k := by omega
                  subst hkk
                  have hdk : dupAt zs k2 = false := dupAt_not fun h0 j hj h1 => hno j hj ⟨by have := HLo.out k2 hlt2; omega, h1⟩
                  have HDk := Lib.hid hdk
                  clear hb hno hdk
                  go_wp2_with fail
                  go_roundg (i - (k2 + 1))
                  case measure => omega
                  case rel => exact ⟨k2 + 1, by omega, by go_num, HB3.out, fun j hj => by
                    by_cases hji : j = k2
                    · rw [hji]; exact HDk.out
                    · exact HDu.out j (by omega)⟩
            · have hki : k = i := by omega
              subst hki
              have hd : dupB zs = false := dupB_false (by rw [HN.out]; exact hdu)
              have e : workE zs = 0 := by rw [HE.out, HLow.out, hd]; simp
              have HE0 := Lib.hid e
              clear hb hdu hd e
              go_wp2_with fail
              rw [HE0.out]
              go_ret
              exact ⟨rfl, HB2.out⟩
set_option maxRecDepth 100000 in
set_option maxHeartbeats 4000000 in
theorem pmin_ok (a : Option Addr) (c : Nat) (zs : List Int) (w : World) (h : IntsAt w a zs) (h0 : 0 < zs.length) (hl : zs.length < 1000000) :
    Calls Try.prog 156 #[.slice a zs.length c] w fun e w' => ∃ m, e = .returned (.int .i64 m) ∧ Below w.heap.size w w' ∧ decide (m < -1) = lowB zs := by
  obtain ⟨n, hn⟩ : ∃ n, zs.length = n := ⟨_, rfl⟩
  rw [hn] at h0 hl ⊢
  have HC := Lib.hid h
  have HN := Lib.hid hn
  clear h hn
  have g1 : decide ((n : Int) < 1) = false := by simp; omega
  obtain ⟨b, off, rfl, hbl, hc⟩ := HC.out.row (by rw [HN.out]; omega)
  have hcell : ∀ A, Below w.heap.size w A → ∀ j x, zs[j]? = some x → A.cell? ⟨b, off + j, none⟩ = some (.int .i64 x) := fun A hA j x hx => by
    have := hc j (List.getElem?_eq_some_iff.1 hx).1
    rw [hx] at this
    exact (hA.cell (by exact hbl)).trans this
  have HCell := Lib.hid hcell
  obtain ⟨x0, hx0⟩ : ∃ x, zs[0]? = some x := ⟨_, List.getElem?_eq_getElem (by rw [HN.out]; exact h0)⟩
  have q0 : w.cell? ⟨b, off, none⟩ = some (.int .i64 x0) := hcell w (Below.refl _ _) 0 x0 hx0
  have h0I : (0 : Int) < (n : Int) := by omega
  have HX0 := Lib.hid hx0
  clear hbl hc hcell hx0
  go_enter Try.func156, Try.ntmps156
  go_wp2_with fail
  go_loopg [3, 4] (n - 1) (fun gh s3 s4 wr => ∃ (i : Nat) (m : Int), i + gh = n ∧ 1 ≤ i ∧ s3 = .int .i64 m ∧ s4 = .int .i64 (i : Int) ∧ Below w.heap.size w wr ∧ (∀ j, j < i → m ≤ zs[j]?.getD 0) ∧ ∃ j, j < i ∧ zs[j]? = some m)
  case atStart => exact ⟨1, x0, by omega, by omega, rfl, rfl, Below.refl _ _, fun j hj => by
    have : j = 0 := by omega
    rw [this, HX0.out]
    exact Int.le_refl _, 0, by omega, HX0.out⟩
  case round =>
    obtain ⟨i, m, hi, hi1, rfl, rfl, hb, hle, hm⟩ := hrel
    have HB := Lib.hid hb
    have HLe := Lib.hid hle
    have HM := Lib.hid hm
    by_cases hlt : i < n
    · have hltI : (i : Int) < (n : Int) := by omega
      have hi0 : (0 : Int) ≤ (i : Int) := by omega
      obtain ⟨x, hx⟩ : ∃ x, zs[i]? = some x := ⟨_, List.getElem?_eq_getElem (by rw [HN.out]; exact hlt)⟩
      have q1 := HCell.out wr hb i x hx
      have HX := Lib.hid hx
      clear hb hle hm hx
      go_wp2_with fail
      all_goals
        go_roundg (n - (i + 1))
        case measure => omega
        case rel =>
          refine ⟨i + 1, _, by omega, by omega, rfl, by go_num, HB.out, fun j hj => ?_, ?_⟩
          · by_cases hji : j = i
            · rw [hji, HX.out]
              simp only [Option.getD_some]
              omega
            · have := HLe.out j (by omega)
              omega
          · first
              | exact ⟨i, by omega, HX.out⟩
              | (obtain ⟨j, h1, h2⟩ := HM.out; exact ⟨j, by omega, h2⟩)
    · have hin : i = n := by omega
      subst hin
      have hfin : decide (m < -1) = lowB zs := by
        by_cases hmm : m < -1
        · obtain ⟨j, _, h2⟩ := hm
          rw [decide_eq_true hmm, lowB_true (List.mem_of_getElem? h2) hmm]
        · rw [decide_eq_false hmm]
          exact (lowB_false fun x hx => by
            obtain ⟨j, hj, e⟩ := List.mem_iff_getElem.1 hx
            have := hle j (by rw [← HN.out]; exact hj)
            rw [List.getElem?_eq_getElem hj, e] at this
            simp only [Option.getD_some] at this
            omega).symm
      have HFin := Lib.hid hfin
      clear hb hle hm hfin
      go_wp2_with fail
      go_ret
      exact ⟨m, rfl, HB.out, HFin.out⟩
set_option maxRecDepth 100000 in
set_option maxHeartbeats 4000000 in
theorem pworkers_ok (a : Option Addr) (c : Nat) (zs : List Int) (w : World) (h : IntsAt w a zs) (hl : zs.length < 1000000) (hwf : ∀ x ∈ zs, (Lit.int .i64 x).wf = true) :
    Calls Try.prog 119 #[.slice a zs.length c] w fun e w' => e = .returned (.int .i64 (workE zs)) ∧ Below w.heap.size w w' := by
  obtain ⟨n, hn⟩ : ∃ n, zs.length = n := ⟨_, rfl⟩
  rw [hn] at hl ⊢
  have HC := Lib.hid h
  have HN := Lib.hid hn
  have HWf := Lib.hid hwf
  by_cases h1 : n < 1
  · have g1 : decide ((n : Int) < 1) = true := by simp; omega
    have e : workE zs = 1 := by unfold workE; rw [if_pos (.inl (by rw [HN.out]; exact h1))]
    rw [e]
    clear e h hn hwf
    go_enter Try.func119, Try.ntmps119
    go_wp2_with fail
    go_ret
    exact ⟨rfl, Below.refl _ _⟩
  · have g1 : decide ((n : Int) < 1) = false := by simp; omega
    by_cases h2 : 16 < n
    · have g2 : decide ((16 : Int) < (n : Int)) = true := by simp; omega
      have e : workE zs = 1 := by unfold workE; rw [if_pos (.inr (by rw [HN.out]; exact h2))]
      rw [e]
      clear e h hn hwf
      go_enter Try.func119, Try.ntmps119
      go_wp2_with fail
      go_ret
      exact ⟨rfl, Below.refl _ _⟩
    · have g2 : decide ((16 : Int) < (n : Int)) = false := by simp; omega
      have e0 : workE zs = if lowB zs = true then 1 else if dupB zs = true then 15 else 0 := by unfold workE; rw [if_neg (by rw [HN.out]; omega)]
      have HE := Lib.hid e0
      have hmi := pmin_ok a c zs w h (by omega) (by omega)
      rw [hn] at hmi
      have HMi := Lib.hid hmi
      clear h hn hmi hwf e0
      have hmm := @run_makeMap Try.prog
      go_enter Try.func119, Try.ntmps119
      go_wp2_with fail
      refine HMi.out.mono ?_
      rintro e w1 ⟨m, rfl, hb1, hm⟩
      cases hlow : lowB zs with
      | true =>
        rw [hlow] at hm
        have e1 : workE zs = 1 := by rw [HE.out, hlow]; rfl
        have HE1 := Lib.hid e1
        have HB1 := Lib.hid hb1
        clear e1 hlow hb1
        go_wp2_with fail
        rw [HE1.out]
        go_ret
        exact ⟨rfl, HB1.out⟩
      | false =>
        rw [hlow] at hm
        have e1 : workE zs = if dupB zs = true then 15 else 0 := by rw [HE.out, hlow]; rfl
        have HE1 := Lib.hid e1
        have HB1 := Lib.hid hb1
        obtain ⟨mb, hmb⟩ : ∃ b, w1.heap.size = b := ⟨_, rfl⟩
        obtain ⟨w2, hw2⟩ : ∃ x, w1.alloc (.map #[] 0) = x := ⟨_, rfl⟩
        have hmp := mapT_made w1 Try.prog 3
        rw [hw2, hmb] at hmp
        have hb2 : Below w.heap.size w w2 := by rw [← hw2]; exact hb1.alloc hb1.size _
        have hge : w.heap.size ≤ mb := by rw [← hmb]; exact hb1.size
        have HMp := Lib.hid hmp
        have HB2 := Lib.hid hb2
        clear e1 hlow hb1 hmp hb2
        go_wp2_with fail
        clear hw2 hmb
        go_loopg [22] n (fun gh s22 wr => ∃ (i k : Nat), i + gh = n ∧ s22 = .int .i64 (i : Int) ∧ Below w.heap.size w wr ∧ mapT wr Try.prog 3 mb k (cntF zs i) ∧ k ≤ i ∧ ∀ j, j < i → dupAt zs j = false)
        case atStart => exact ⟨0, 0, by omega, rfl, HB2.out, by rw [cntF_zero]; exact HMp.out, Nat.le_refl _, fun j hj => by omega⟩
        case round =>
          obtain ⟨i, k, hi, rfl, hb, hmp, hki, hdu⟩ := hrel
          by_cases hlt : i < n
          · have hltI : (i : Int) < (n : Int) := by omega
            have hi0 : (0 : Int) ≤ (i : Int) := by omega
            obtain ⟨b, off, rfl, hbl, hc⟩ := HC.out.row (by rw [HN.out]; omega)
            obtain ⟨x, hx⟩ : ∃ x, zs[i]? = some x := ⟨_, List.getElem?_eq_getElem (by rw [HN.out]; exact hlt)⟩
            have q0 : wr.cell? ⟨b, off + i, none⟩ = some (.int .i64 x) := by
              have := hc i (by rw [HN.out]; exact hlt)
              rw [hx] at this
              exact (hb.cell (by exact hbl)).trans this
            have hxw := HWf.out x (List.mem_of_getElem? hx)
            obtain ⟨cc, hcc⟩ : ∃ cc, (cntF zs i x).getD 0 = cc := ⟨_, rfl⟩
            have hcci : cc ≤ i := by rw [← hcc]; exact cntF_le zs i x
            have hlk : (Instr.lookup 182 (.map (some mb)) (.int .i64 x) false).run Try.prog wr = .ok (.int .i64 (cc : Int)) wr := by
              have := hmp.toI.lookup (t := 182) (e := 3) Try.underlying3 Try.underlying182 (zero3 wr) hxw
              rw [lift_getD, hcc] at this
              exact this
            obtain ⟨W2, hrun0, hmap2, hm2⟩ := hmp.update (t := 182) (e := 3) Try.underlying3 Try.underlying182 (by unfold maxLen; omega) hxw (cc + 1)
            have hrun : (Instr.mapUpdate 182 (.map (some mb)) (.int .i64 x) (.int .i64 ((cc : Int) + 1))).run Try.prog wr = .ok () W2 := hrun0
            have hstep := cntF_step hx
            rw [hcc] at hstep
            rw [hstep] at hmap2
            have hwr : IntKind.i64.wrap ((cc : Int) + 1) = (cc : Int) + 1 := IntWalk.i64_in _ (by omega)
            have hlk2 : ∀ A : World, A.heap = W2.heap → (Instr.lookup 182 (.map (some mb)) (.int .i64 x) false).run Try.prog A = .ok (.int .i64 ((cc : Int) + 1)) A := fun A hA => by
              have hmA : mapT A Try.prog 3 mb _ (cntF zs (i + 1)) := hmap2.of_same (by rw [hA])
              have := hmA.toI.lookup (t := 182) (e := 3) Try.underlying3 Try.underlying182 (zero3 A) hxw
              rw [lift_getD, ← hstep, putN_same] at this
              exact this
            have hl2 := hlk2 W2 rfl
            have hl3 := hlk2 W2.drew rfl
            have hb2 : Below w.heap.size w W2 := below_mod hb hm2 (fun j hj => by omega)
            have q1 : W2.cell? ⟨b, off + i, none⟩ = some (.int .i64 x) := by
              have := hc i (by rw [HN.out]; exact hlt)
              rw [hx] at this
              exact (hb2.cell (by exact hbl)).trans this
            have HB2' := Lib.hid hb2
            have HMap2 := Lib.hid hmap2
            have HDu := Lib.hid hdu
            have hk2 : (if (cntF zs i x).isSome = true then k else k + 1) ≤ i + 1 := by split <;> omega
            have HK2 := Lib.hid hk2
            have hdj : (x ≠ -1 ∧ 0 < cc) ↔ dupAt zs i = true := by
              constructor
              · rintro ⟨h1, h2⟩
                exact (cntF_dup hx h1).1 (by rw [hcc]; omega)
              · intro h3
                have h4 : x ≠ -1 := by
                  intro e
                  unfold dupAt at h3
                  rw [hx, Option.getD_some, e] at h3
                  simp at h3
                have := (cntF_dup hx h4).2 h3
                rw [hcc] at this
                exact ⟨h4, by omega⟩
            have HDj := Lib.hid hdj
            clear hb hmp hdu hbl hc hx hcc hrun0 hmap2 hm2 hstep hlk2 hb2 hk2 hdj
            by_cases c1 : x = -1
            · have z : (x != -1) = false := by simpa using c1
              have hd : dupAt zs i = false := by
                rw [← Bool.not_eq_true]
                intro h
                exact (HDj.out.2 h).1 c1
              have HD := Lib.hid hd
              clear c1 hd
              go_wp2_with fail
              go_roundg (n - (i + 1))
              case measure => omega
              case rel => exact ⟨i + 1, _, by omega, by go_num, HB2'.out, HMap2.out, HK2.out, fun j hj => by
                by_cases hji : j = i
                · rw [hji]; exact HD.out
                · exact HDu.out j (by omega)⟩
            · have z : (x != -1) = true := by simpa using c1
              by_cases c2 : 0 < cc
              · have g3 : (1 : Int) < (cc : Int) + 1 := by omega
                have g4 : (0 : Int) < (cc : Int) := by omega
                have e15 : workE zs = 15 := by rw [HE1.out, dupB_true (by rw [HN.out]; exact hlt) (HDj.out.1 ⟨c1, c2⟩)]; rfl
                have HE15 := Lib.hid e15
                clear c1 e15
                go_wp2_with fail
                rw [HE15.out]
                go_ret
                exact ⟨rfl, HB2'.out⟩
              · have g3 : ¬ (1 : Int) < (cc : Int) + 1 := by omega
                have g4 : ¬ (0 : Int) < (cc : Int) := by omega
                have g5 : decide ((1 : Int) < (cc : Int) + 1) = false := by simp; omega
                have hd : dupAt zs i = false := by
                  rw [← Bool.not_eq_true]
                  intro h
                  exact c2 (HDj.out.2 h).2
                have HD := Lib.hid hd
                clear c1 hd
                go_wp2_with fail
                go_roundg (n - (i + 1))
                case measure => omega
                case rel => exact ⟨i + 1, _, by omega, by go_num, HB2'.out, HMap2.out, HK2.out, fun j hj => by
                  by_cases hji : j = i
                  · rw [hji]; exact HD.out
                  · exact HDu.out j (by omega)⟩
          · have hin : i = n := by omega
            subst hin
            have hd : dupB zs = false := dupB_false (by rw [HN.out]; exact hdu)
            have e0 : workE zs = 0 := by rw [HE1.out, hd]; rfl
            have HE0 := Lib.hid e0
            have HB3 := Lib.hid hb
            clear hb hmp hdu hd e0
            go_wp2_with fail
            rw [HE0.out]
            go_ret
            exact ⟨rfl, HB3.out⟩
end Go.Proofs.Ytkjpkhpiojahkaa
