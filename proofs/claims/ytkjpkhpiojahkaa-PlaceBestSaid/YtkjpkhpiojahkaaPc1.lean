/-
  Place: two lists that are the same; which are few; where a server runs.
-/
import Derived.Test.YtkjpkhpiojahkaaRed
import Derived.Test.YtkjpkhpiojahkaaAid
namespace Go.Proofs.Ytkjpkhpiojahkaa
set_option linter.unusedVariables false
open Go.RowKit Hp
attribute [local go_sem] Oper.semAt_some
set_option maxRecDepth 100000 in
set_option maxHeartbeats 4000000 in
theorem pkeys_ok (a b : Option Addr) (c d : Nat) (ks ms : List (Int × Int)) (w : World) (h1 : Ke.KeysAt w a ks) (h2 : Ke.KeysAt w b ms) (hl : ks.length < 10000000) (hl2 : ms.length < 10000000) :
    Calls Try.prog 71 #[.slice a ks.length c, .slice b ms.length d] w fun e w' => e = .returned (.bool (decide (ks = ms))) ∧ Below w.heap.size w w' := by
  obtain ⟨n, hn⟩ : ∃ n, ks.length = n := ⟨_, rfl⟩
  obtain ⟨m, hm⟩ : ∃ m, ms.length = m := ⟨_, rfl⟩
  rw [hn] at hl ⊢
  rw [hm] at hl2 ⊢
  have HN := Lib.hid hn
  have HM := Lib.hid hm
  by_cases hnm : n = m
  · subst hnm
    have H1 := Lib.hid (fun h0 => keysAt_get h1 (n := n) h0 hn)
    have H2 := Lib.hid (fun h0 => keysAt_get h2 (n := n) h0 hm)
    clear h1 h2 hn hm
    go_enter Try.func71, Try.ntmps71
    go_wp2_with fail
    go_loopg [5] n (fun gh s5 wr => ∃ i : Nat, i + gh = n ∧ s5 = .int .i64 (i : Int) ∧ Below w.heap.size w wr ∧ ∀ j, j < i → ks[j]?.getD (0, 0) = ms[j]?.getD (0, 0))
    case atStart => exact ⟨0, by omega, rfl, Below.refl _ _, fun j hj => by omega⟩
    case round =>
      obtain ⟨i, hi, rfl, hb, heq⟩ := hrel
      have HB := Lib.hid hb
      have HEq := Lib.hid heq
      clear heq
      by_cases hlt : i < n
      · have hltI : (i : Int) < (n : Int) := by omega
        have hi0 : (0 : Int) ≤ (i : Int) := by omega
        obtain ⟨b1, off1, rfl, hb1, hc1⟩ := H1.out (by omega)
        obtain ⟨b2, off2, rfl, hb2, hc2⟩ := H2.out (by omega)
        obtain ⟨x, hx⟩ : ∃ x, ks[i]?.getD (0, 0) = x := ⟨_, rfl⟩
        obtain ⟨y, hy⟩ : ∃ y, ms[i]?.getD (0, 0) = y := ⟨_, rfl⟩
        have q0 : wr.cell? ⟨b1, off1 + i * 2, none⟩ = some (.int .i64 x.1) := by rw [← hx]; exact (hb.cell (by exact hb1)).trans (hc1 i hlt).1
        have q1 : wr.cell? ⟨b1, off1 + i * 2 + 1, none⟩ = some (.int .i64 x.2) := by rw [← hx]; exact (hb.cell (by exact hb1)).trans (hc1 i hlt).2
        have r0 : wr.cell? ⟨b2, off2 + i * 2, none⟩ = some (.int .i64 y.1) := by rw [← hy]; exact (hb.cell (by exact hb2)).trans (hc2 i hlt).1
        have r1 : wr.cell? ⟨b2, off2 + i * 2 + 1, none⟩ = some (.int .i64 y.2) := by rw [← hy]; exact (hb.cell (by exact hb2)).trans (hc2 i hlt).2
        have HX := Lib.hid hx
        have HY := Lib.hid hy
        clear hb hx hy hc1 hc2
        by_cases hxy : x = y
        · have hq : ∀ w, (binOp BinOp.neq 24 (.agg #[.int .i64 x.1, .int .i64 x.2]) (.agg #[.int .i64 y.1, .int .i64 y.2])).run Try.prog w = .ok (.bool false) w := fun w => by
            rw [neq32, hxy]; simp
          have HXY := Lib.hid hxy
          clear hxy
          go_wp2_with fail
          go_region
          all_goals go_wp2_with fail
          all_goals
            go_roundg (n - (i + 1))
            case measure => omega
            case rel =>
              refine ⟨i + 1, by omega, by go_num, HB.out.trans (Below.drew (Below.refl _ _) |>.mono HB.out.size), fun j hj => ?_⟩
              by_cases hji : j = i
              · rw [hji, HX.out, HY.out, HXY.out]
              · exact HEq.out j (by omega)
        · have hq : ∀ w, (binOp BinOp.neq 24 (.agg #[.int .i64 x.1, .int .i64 x.2]) (.agg #[.int .i64 y.1, .int .i64 y.2])).run Try.prog w = .ok (.bool true) w := fun w => by
            rw [neq32, decide_eq_false (fun h => hxy (Prod.ext h.1 h.2))]; rfl
          have hne : ¬ ks = ms := fun e => hxy (by rw [← HX.out, ← HY.out, e])
          have HNe := Lib.hid hne
          clear hxy hne
          go_wp2_with fail
          go_region
          all_goals go_wp2_with fail
          all_goals
            rw [decide_eq_false HNe.out]
            go_ret
            exact ⟨rfl, HB.out.trans (Below.drew (Below.refl _ _) |>.mono HB.out.size)⟩
      · have hin : i = n := by omega
        subst hin
        have hee : ks = ms := by
          refine List.ext_getElem? fun j => ?_
          by_cases hj : j < i
          · have h := HEq.out j hj
            rw [List.getElem?_eq_getElem (by rw [HN.out]; exact hj), List.getElem?_eq_getElem (by rw [HM.out]; exact hj)] at h ⊢
            simpa using h
          · rw [List.getElem?_eq_none (by rw [HN.out]; omega), List.getElem?_eq_none (by rw [HM.out]; omega)]
        have HEe := Lib.hid hee
        clear hee hb
        go_wp2_with fail
        rw [decide_eq_true HEe.out]
        go_ret
        exact ⟨rfl, HB.out⟩
  · have hx : ¬ (n : Int) = (m : Int) := by omega
    have hne : ¬ ks = ms := fun e => hnm (by rw [← hn, ← hm, e])
    have HNe := Lib.hid hne
    clear h1 h2 hn hm hne
    go_enter Try.func71, Try.ntmps71
    go_wp2_with fail
    rw [decide_eq_false HNe.out]
    go_ret
    exact ⟨rfl, Below.refl _ _⟩
set_option maxRecDepth 100000 in
set_option maxHeartbeats 4000000 in
theorem pints_ok (a b : Option Addr) (c d : Nat) (ks ms : List Int) (w : World) (h1 : IntsAt w a ks) (h2 : IntsAt w b ms) (hl : ks.length < 10000000) (hl2 : ms.length < 10000000) :
    Calls Try.prog 61 #[.slice a ks.length c, .slice b ms.length d] w fun e w' => e = .returned (.bool (decide (ks = ms))) ∧ Below w.heap.size w w' := by
  obtain ⟨n, hn⟩ : ∃ n, ks.length = n := ⟨_, rfl⟩
  obtain ⟨m, hm⟩ : ∃ m, ms.length = m := ⟨_, rfl⟩
  rw [hn] at hl ⊢
  rw [hm] at hl2 ⊢
  have HN := Lib.hid hn
  have HM := Lib.hid hm
  by_cases hnm : n = m
  · subst hnm
    have H1 := Lib.hid (fun (h0 : 0 < n) => h1.row (by omega))
    have H2 := Lib.hid (fun (h0 : 0 < n) => h2.row (by omega))
    clear h1 h2 hn hm
    go_enter Try.func61, Try.ntmps61
    go_wp2_with fail
    go_loopg [5] n (fun gh s5 wr => ∃ i : Nat, i + gh = n ∧ s5 = .int .i64 (i : Int) ∧ Below w.heap.size w wr ∧ ∀ j, j < i → ks[j]?.getD 0 = ms[j]?.getD 0)
    case atStart => exact ⟨0, by omega, rfl, Below.refl _ _, fun j hj => by omega⟩
    case round =>
      obtain ⟨i, hi, rfl, hb, heq⟩ := hrel
      have HB := Lib.hid hb
      have HEq := Lib.hid heq
      clear heq
      by_cases hlt : i < n
      · have hltI : (i : Int) < (n : Int) := by omega
        have hi0 : (0 : Int) ≤ (i : Int) := by omega
        obtain ⟨b1, off1, rfl, hb1, hc1⟩ := H1.out (by omega)
        obtain ⟨b2, off2, rfl, hb2, hc2⟩ := H2.out (by omega)
        obtain ⟨x, hx⟩ : ∃ x, ks[i]?.getD 0 = x := ⟨_, rfl⟩
        obtain ⟨y, hy⟩ : ∃ y, ms[i]?.getD 0 = y := ⟨_, rfl⟩
        have q0 : wr.cell? ⟨b1, off1 + i, none⟩ = some (.int .i64 x) := by rw [← hx]; exact (hb.cell (by exact hb1)).trans (hc1 i (by rw [HN.out]; exact hlt))
        have r0 : wr.cell? ⟨b2, off2 + i, none⟩ = some (.int .i64 y) := by rw [← hy]; exact (hb.cell (by exact hb2)).trans (hc2 i (by rw [HM.out]; exact hlt))
        have HX := Lib.hid hx
        have HY := Lib.hid hy
        clear hb hx hy hc1 hc2
        by_cases hxy : x = y
        · have hq : (x != y) = false := by simp [hxy]
          have HXY := Lib.hid hxy
          clear hxy
          go_wp2_with fail
          go_region
          all_goals go_wp2_with fail
          all_goals
            go_roundg (n - (i + 1))
            case measure => omega
            case rel =>
              refine ⟨i + 1, by omega, by go_num, HB.out.trans (Below.drew (Below.refl _ _) |>.mono HB.out.size), fun j hj => ?_⟩
              by_cases hji : j = i
              · rw [hji, HX.out, HY.out, HXY.out]
              · exact HEq.out j (by omega)
        · have hq : (x != y) = true := by simp [hxy]
          have hne : ¬ ks = ms := fun e => hxy (by rw [← HX.out, ← HY.out, e])
          have HNe := Lib.hid hne
          clear hxy hne
          go_wp2_with fail
          go_region
          all_goals go_wp2_with fail
          all_goals
            rw [decide_eq_false HNe.out]
            go_ret
            exact ⟨rfl, HB.out.trans (Below.drew (Below.refl _ _) |>.mono HB.out.size)⟩
      · have hin : i = n := by omega
        subst hin
        have hee : ks = ms := by
          refine List.ext_getElem? fun j => ?_
          by_cases hj : j < i
          · have h := HEq.out j hj
            rw [List.getElem?_eq_getElem (by rw [HN.out]; exact hj), List.getElem?_eq_getElem (by rw [HM.out]; exact hj)] at h ⊢
            simpa using h
          · rw [List.getElem?_eq_none (by rw [HN.out]; omega), List.getElem?_eq_none (by rw [HM.out]; omega)]
        have HEe := Lib.hid hee
        clear hee hb
        go_wp2_with fail
        rw [decide_eq_true HEe.out]
        go_ret
        exact ⟨rfl, HB.out⟩
  · have hx : ¬ (n : Int) = (m : Int) := by omega
    have hne : ¬ ks = ms := fun e => hnm (by rw [← hn, ← hm, e])
    have HNe := Lib.hid hne
    clear h1 h2 hn hm hne
    go_enter Try.func61, Try.ntmps61
    go_wp2_with fail
    rw [decide_eq_false HNe.out]
    go_ret
    exact ⟨rfl, Below.refl _ _⟩
theorem pfew_any {a a' : Option Addr} (n cap m cap' : Nat) (w : World) : Calls Try.prog 57 #[.slice a n cap, .slice a' m cap'] w fun e w' => e = .returned (.bool (decide ((n : Int) ≤ 30 ∧ (m : Int) ≤ 80))) ∧ w = w' := by
  by_cases h : (n : Int) ≤ 30
  · by_cases h2 : (m : Int) ≤ 80
    · rw [decide_eq_true ⟨h, h2⟩]
      go_enter Try.func57, Try.ntmps57
      go_wp2_with fail
      go_ret
      exact ⟨rfl, rfl⟩
    · rw [decide_eq_false (fun hh => h2 hh.2)]
      have g : decide ((m : Int) ≤ 80) = false := by simpa using h2
      go_enter Try.func57, Try.ntmps57
      go_wp2_with fail
      go_ret
      exact ⟨rfl, rfl⟩
  · rw [decide_eq_false (fun hh => h hh.1)]
    have g : decide ((n : Int) ≤ 30) = false := by simpa using h
    go_enter Try.func57, Try.ntmps57
    go_wp2_with fail
    go_ret
    exact ⟨rfl, rfl⟩
theorem lift_getD (f : Int → Option Nat) (x : Int) : (lift f x).getD (.int .i64 0) = .int .i64 (((f x).getD 0 : Nat) : Int) := by
  unfold lift
  cases f x <;> rfl
end Go.Proofs.Ytkjpkhpiojahkaa
