/-
  Walk: PlaceBest.
-/
import Derived.Test.YtkjpkhpiojahkaaPl6
namespace Go.Proofs.Ytkjpkhpiojahkaa
set_option linter.unusedVariables false
open Go.RowKit Hp
attribute [local go_sem] Oper.semAt_some
theorem count_take {l : List Int} {i : Nat} {y x : Int} (h : l[i]? = some y) : (l.take (i + 1)).count x = if y = x then (l.take i).count x + 1 else (l.take i).count x := by
  rw [List.take_add_one, h, List.count_append]
  by_cases hy : y = x
  · rw [if_pos hy]; simp [hy]
  · rw [if_neg hy]; simp [hy]
theorem countP_take {l : List Int} {i : Nat} {y : Int} (h : l[i]? = some y) : (l.take (i + 1)).countP (fun x => x != -1) = if y = -1 then (l.take i).countP (fun x => x != -1) else (l.take i).countP (fun x => x != -1) + 1 := by
  rw [List.take_add_one, h, List.countP_append]
  by_cases hy : y = -1
  · rw [if_pos hy]; simp [hy]
  · rw [if_neg hy]; simp [hy]
theorem mem_take {l : List Int} {i : Nat} {y x : Int} (h : l[i]? = some y) : decide (x ∈ l.take (i + 1)) = (decide (x ∈ l.take i) || decide (y = x)) := by
  rw [List.take_add_one, h, Bool.eq_iff_iff, Bool.or_eq_true, decide_eq_true_eq, decide_eq_true_eq, decide_eq_true_eq, List.mem_append]
  show _ ∨ x ∈ [y] ↔ _
  rw [List.mem_singleton]
  constructor
  · rintro (h | h)
    · exact .inl h
    · exact .inr h.symm
  · rintro (h | h)
    · exact .inl h
    · exact .inr h.symm
section
variable {r : List Int} {ks : List (Int × Int)} {S : List (It Int)} {a : List Int}
theorem Fine.once (h : Fine r ks S a) {x : Int} (hx : x ∈ a) (hne : x ≠ -1) : a.count x = 1 ∧ x ∈ ks.map (·.2) :=
  ⟨h.p.laid.count hx hne, h.g.id.1 (bestI_sub ((h.p.laid.mem x hx).resolve_left hne))⟩
theorem Fine.many (h : Fine r ks S a) : a.countP (fun x => x != -1) = min ks.length r.length := by
  rw [h.p.count h.g.best_nodup h.g.best_pos, bestI_length, h.g.len, Nat.min_comm]
theorem atI_pos {l : List Int} {x : Int} : (0 : Int) ≤ atI l x ↔ x ∈ l := by
  unfold atI
  split
  · constructor
    · intro _; assumption
    · intro _; omega
  · constructor
    · intro h; omega
    · intro h; contradiction
theorem Fine.stay (h : Fine r ks S a) {k : Int × Int} (hk : k ∈ ks) (h1 : (0 : Int) ≤ atI a k.2) (h2 : (0 : Int) ≤ atI r k.2) : atI a k.2 = atI r k.2 :=
  h.p.at h.g.best_pos (atI_pos.1 h1) (atI_pos.1 h2) (h.g.puts.1 k hk).1
theorem Fine.first (h : Fine r ks S a) {k m : Int × Int} (hk : k ∈ ks) (hm : m ∈ ks) (h1 : ¬ (0 : Int) ≤ atI a k.2) (h2 : (0 : Int) ≤ atI a m.2) : bef k m = false :=
  h.p.first h.g (x := (k.2, k.1)) (y := (m.2, m.1)) (h.g.mem.2 hk) (h.g.mem.2 hm) (fun hh => h1 (atI_pos.2 hh)) (atI_pos.1 h2)
end
set_option maxRecDepth 100000 in
set_option maxHeartbeats 16000000 in
theorem pbest_ok (ra ka : Option Addr) (rc kc : Nat) (r : List Int) (ks : List (Int × Int)) (w : World) (hr : IntsAt w ra r) (hrw : ∀ x ∈ r, (Lit.int .i64 x).wf = true) (hk : Ke.KeysAt w ka ks) (hkw : ∀ k ∈ ks, (Lit.int .i64 k.2).wf = true) (hcap : ks.length ≤ kc) (hcm : kc ≤ 9223372036854775807) :
    Calls Try.prog 12 #[.slice ra r.length rc, .slice ka ks.length kc] w fun e w' => e = .returned (.bool true) ∧ Below w.heap.size w w' := by
  have HAw := Lib.hid (fun (A : World) (hA : Below w.heap.size w A) => (pawake_ok A).mono fun e w' ⟨h1, h2⟩ => (⟨h1, hA.trans (h2.mono hA.size)⟩ : e = Ending.returned (.bool true) ∧ Below w.heap.size w w'))
  have HFw := Lib.hid (pfew_any (a := ra) (a' := ka) r.length rc ks.length kc w)
  by_cases hf : ((r.length : Int) ≤ 30 ∧ (ks.length : Int) ≤ 80)
  · rw [decide_eq_true hf] at HFw
    have HWr := Lib.hid (wrong_ok (rc := rc) (cap := kc) (On.emp w) (fun A hA => hr.below (Nat.le_refl _) hA.to_below) (by omega) (fun A hA => keysAt_below hk hA.to_below) (by omega))
    obtain ⟨E, hE⟩ : ∃ x, bothE r ks = x := ⟨_, rfl⟩
    by_cases hE0 : E = 0
    · subst hE0
      have hfi := both_fine hE
      have HFi0 := Lib.hid hfi
      obtain ⟨S, hS⟩ : ∃ x, putAll [] ks = x := ⟨_, rfl⟩
      obtain ⟨a, ha⟩ : ∃ x, placeL r S = x := ⟨_, rfl⟩
      rw [hS, ha] at hfi
      have HP1 := Lib.hid (fun (A : World) (R : Ast) (hA : On w A R) => place_fine (rc := rc) (cap := kc) hS ha hE hA (fun A hA => hr.below (Nat.le_refl _) hA.to_below) hrw (fun A hA => keysAt_below hk hA.to_below) hkw hcap hcm)
      have hagain : placeL a S = a := place_again hfi.p
      have HP2 := Lib.hid (fun (A : World) (R : Ast) (va : Option Addr) (vc : Nat) (hA : On w A (sep (intsA (.slice va a.length vc) a) R)) => place_fine (rc := vc) (cap := kc) hS hagain (both_mk hfi.wa hfi.s) hA (fun A hA => by
          obtain ⟨_, _, he, hi⟩ := hA.ints_read
          cases he
          exact hi) (hfi.wf hkw) (fun A hA => keysAt_below hk hA.to_below) hkw hcap hcm)
      have hal : a.length = r.length := hfi.p.len
      have HPi := Lib.hid (fun (A : World) (va vb : Option Addr) (vc vd : Nat) (h1 : IntsAt A va a) (h2 : IntsAt A vb a) => pints_ok va vb vc vd a a A h1 h2 (by omega) (by omega))
      have HAt := Lib.hid (fun (A : World) (va : Option Addr) (vc : Nat) (id : Int) (h1 : IntsAt A va a) => pat_ok va vc a id A h1 (by omega))
      have HAr := Lib.hid (fun (A : World) (id : Int) (hA : Below w.heap.size w A) => pat_ok ra rc r id A (hr.below (Nat.le_refl _) hA) (by omega))
      have HIr := Lib.hid (fun (A : World) (hA : Below w.heap.size w A) => keysAt_below hk hA)
      obtain ⟨n, hn⟩ : ∃ x, r.length = x := ⟨_, rfl⟩
      obtain ⟨m, hm⟩ : ∃ x, ks.length = x := ⟨_, rfl⟩
      have hal2 : a.length = n := by rw [hal, hn]
      rw [hE] at HWr
      rw [hal] at HP2
      rw [hn, hm] at HFw HWr HP1 HP2 hf ⊢
      rw [hal2] at HPi HAt
      rw [hn] at HAr
      have hmn : ((m : Int) ≤ 80) := hf.2
      have hnn : ((n : Int) ≤ 30) := hf.1
      have HFi := Lib.hid hfi
      have HNl := Lib.hid hal2
      have HMl := Lib.hid hm
      clear hr hrw hk hkw hE hfi hS ha hal hn hm hf hagain hal2 HFi0
      go_enter Try.func12, Try.ntmps12
      go_wp2_with fail
      refine HFw.out.mono ?_
      rintro e w0 ⟨rfl, rfl⟩
      go_wp2_with fail
      refine HWr.out.mono ?_
      rintro e w1 ⟨v, rfl, h1⟩
      have HC1 := Lib.hid (HP1.out w1 _ h1)
      clear h1
      go_wp2_with fail
      refine HC1.out.mono ?_
      rintro e w2 ⟨va, vc, rfl, h2⟩
      have HC2 := Lib.hid (HP2.out w2 _ va vc h2)
      clear h2
      go_wp2_with fail
      refine HC2.out.mono ?_
      rintro e w3 ⟨vb, vd, rfl, h3⟩
      obtain ⟨_, _, he, hi1⟩ := h3.ints_read
      rw [HNl.out] at he
      cases he
      obtain ⟨_, _, he, hi2⟩ := h3.sw0.ints_read
      rw [HNl.out] at he
      cases he
      have hpi := HPi.out w3 va vb vc vd hi2 hi1
      simp only [decide_true] at hpi
      have HC3 := Lib.hid hpi
      have H3 := Lib.hid h3.out1
      clear h3 hi1 hi2 hpi
      go_wp2_with fail
      refine HC3.out.mono ?_
      rintro e w4 ⟨rfl, hb4⟩
      have H4 := Lib.hid (H3.out.below hb4)
      clear hb4
      have H5 := Lib.hid (H4.out.sw0).out1
      clear H4
      go_wp2_with fail
      go_loopg [11, 12] n (fun gh s11 s12 wr => ∃ i : Nat, i + gh = n ∧ s11 = .int .i64 ((a.take i).countP (fun x => x != -1) : Int) ∧ s12 = .int .i64 (i : Int) ∧ On w wr (sep (intsA (.slice va n vc) a) emp))
      case atStart => exact ⟨0, by omega, rfl, rfl, H5.out⟩
      case round =>
        obtain ⟨i, hi, rfl, rfl, hon⟩ := hrel
        obtain ⟨c, hc0⟩ : ∃ c, (a.take i).countP (fun x => x != -1) = c := ⟨_, rfl⟩
        have hcl : c ≤ i := by
          rw [← hc0]
          refine Nat.le_trans List.countP_le_length ?_
          rw [List.length_take]
          omega
        rw [hc0]
        by_cases hlt : i < n
        · have hltI : (i : Int) < (n : Int) := by omega
          have hi0 : (0 : Int) ≤ (i : Int) := by omega
          obtain ⟨x, hx⟩ : ∃ x, a[i]? = some x := ⟨_, List.getElem?_eq_getElem (by rw [HNl.out]; exact hlt)⟩
          have hct := countP_take hx
          rw [hc0] at hct
          have HRd := Lib.hid (fun (A : World) (k : Nat) (y : Int) (hA : On w A (sep (intsA (.slice va n vc) a) emp)) (hy : a[k]? = some y) => by
            obtain ⟨_, _, he, h⟩ := hA.ints_read
            rw [HNl.out] at he
            cases he
            obtain ⟨ab, aof, ha, _, hc⟩ := h.row (by have := HNl.out; have := (List.getElem?_eq_some_iff.1 hy).1; omega)
            have := hc k (List.getElem?_eq_some_iff.1 hy).1
            rw [hy] at this
            exact (⟨ab, aof, ha, this⟩ : ∃ ab aof, va = some ⟨ab, aof, none⟩ ∧ A.cell? ⟨ab, aof + k, none⟩ = some (.int .i64 y)))
          obtain ⟨ab, aof, rfl, q0⟩ := HRd.out wr i x hon hx
          have HRd2 := Lib.hid (fun (A : World) (k : Nat) (y : Int) (hA : On w A (sep (intsA (.slice (some ⟨ab, aof, none⟩) n vc) a) emp)) (hy : a[k]? = some y) => by
            obtain ⟨_, _, he, h⟩ := HRd.out A k y hA hy
            cases he
            exact h)
          have HOn := Lib.hid hon
          have HX := Lib.hid hx
          by_cases hx1 : x = -1
          · subst hx1
            rw [if_pos rfl] at hct
            have HCt := Lib.hid hct
            clear hon hx hct hc0 HRd
            go_wp2_with fail
            go_roundg (n - (i + 1))
            case measure => omega
            case rel => exact ⟨i + 1, by omega, by rw [HCt.out], by go_num, HOn.out⟩
          · rw [if_neg hx1] at hct
            have HCt := Lib.hid hct
            obtain ⟨ho1, ho2⟩ := HFi.out.once (List.mem_of_getElem? hx) hx1
            have HO1 := Lib.hid ho1
            have HO2 := Lib.hid ho2
            have z1 : (x == -1) = false := by simpa using hx1
            clear hon hx hct hc0 HRd ho1 ho2
            go_wp2_with fail
            obtain ⟨w5, hw5⟩ : ∃ x, x = wr := ⟨_, rfl⟩
            subst hw5
            go_loopg [13, 15] n (fun gh s13 s15 wr => ∃ k : Nat, k + gh = n ∧ s13 = .int .i64 ((a.take k).count x : Int) ∧ s15 = .int .i64 (k : Int) ∧ On w wr (sep (intsA (.slice (some ⟨ab, aof, none⟩) n vc) a) emp))
            case atStart => exact ⟨0, by omega, rfl, rfl, HOn.out⟩
            case round =>
              obtain ⟨k, hk, rfl, rfl, hon⟩ := hrel
              obtain ⟨d, hd0⟩ : ∃ c, (a.take k).count x = c := ⟨_, rfl⟩
              have hdl : d ≤ k := by
                rw [← hd0]
                refine Nat.le_trans List.count_le_length ?_
                rw [List.length_take]
                omega
              rw [hd0]
              by_cases hlk : k < n
              · have hlkI : (k : Int) < (n : Int) := by omega
                have hk0 : (0 : Int) ≤ (k : Int) := by omega
                obtain ⟨y, hy⟩ : ∃ x, a[k]? = some x := ⟨_, List.getElem?_eq_getElem (by rw [HNl.out]; exact hlk)⟩
                have hdt := count_take (x := x) hy
                rw [hd0] at hdt
                have p0 := HRd2.out wr k y hon hy
                have p1 := HRd2.out wr i x hon HX.out
                have HOnd := Lib.hid (hon.below (Below.refl _ wr).drew)
                by_cases hyx : y = x
                · rw [if_pos hyx] at hdt
                  subst hyx
                  have HDt := Lib.hid hdt
                  clear hon hy hdt hd0
                  go_wp2_with fail
                  have p0_d := drewC p0
                  have p1_d := drewC p1
                  refine wp_region_loose (fun A => A = wr.drew) (by kernel_rfl) (by kernel_rfl) rfl ?_
                  repeat (first
                    | (refine loose_skip (by rfl) ?_; simp only [Act.put, List.setIfInBounds_toArray, List.set_cons_zero, List.set_cons_succ])
                    | (refine loose_val (v := ?_) (by rfl) ?_ ?_; rotate_left; (focus (intro A' hA'; subst hA'; go_simp; first | done | with_reducible rfl)); simp only [Act.put, List.setIfInBounds_toArray, List.set_cons_zero, List.set_cons_succ]))
                  refine loose_nil ?_
                  intro A3 hA3
                  subst hA3
                  go_wp2_with fail
                  go_roundg (n - (k + 1))
                  case measure => omega
                  case rel => exact ⟨k + 1, by omega, by rw [HDt.out]; go_num, by go_num, HOnd.out⟩
                · rw [if_neg hyx] at hdt
                  have z2 : (y == x) = false := by simpa using hyx
                  have HDt := Lib.hid hdt
                  clear hon hy hdt hd0
                  go_wp2_with fail
                  have p0_d := drewC p0
                  have p1_d := drewC p1
                  refine wp_region_loose (fun A => A = wr.drew) (by kernel_rfl) (by kernel_rfl) rfl ?_
                  repeat (first
                    | (refine loose_skip (by rfl) ?_; simp only [Act.put, List.setIfInBounds_toArray, List.set_cons_zero, List.set_cons_succ])
                    | (refine loose_val (v := ?_) (by rfl) ?_ ?_; rotate_left; (focus (intro A' hA'; subst hA'; go_simp; first | done | with_reducible rfl)); simp only [Act.put, List.setIfInBounds_toArray, List.set_cons_zero, List.set_cons_succ]))
                  refine loose_nil ?_
                  intro A3 hA3
                  subst hA3
                  go_wp2_with fail
                  go_roundg (n - (k + 1))
                  case measure => omega
                  case rel => exact ⟨k + 1, by omega, by rw [HDt.out], by go_num, HOnd.out⟩
              · have hkn : k = n := by omega
                rw [List.take_of_length_le (by rw [HNl.out]; omega), HO1.out] at hd0
                subst hd0
                have H6 := Lib.hid hon
                clear hon
                go_wp2_with fail
                obtain ⟨w6, hw6⟩ : ∃ x, x = wr := ⟨_, rfl⟩
                subst hw6
                go_loopg [14, 16] m (fun gh s14 s16 wr => ∃ k : Nat, k + gh = m ∧ s14 = .bool (decide (x ∈ (ks.map (·.2)).take k)) ∧ s16 = .int .i64 (k : Int) ∧ On w wr (sep (intsA (.slice (some ⟨ab, aof, none⟩) n vc) a) emp))
                case atStart => exact ⟨0, by omega, rfl, rfl, H6.out⟩
                case round =>
                  obtain ⟨k, hk, rfl, rfl, hon⟩ := hrel
                  by_cases hlk : k < m
                  · have hlkI : (k : Int) < (m : Int) := by omega
                    have hk0 : (0 : Int) ≤ (k : Int) := by omega
                    obtain ⟨y, hy⟩ : ∃ x, ks[k]? = some x := ⟨_, List.getElem?_eq_getElem (by rw [HMl.out]; exact hlk)⟩
                    have hym : (ks.map (·.2))[k]? = some y.2 := by rw [List.getElem?_map, hy]; rfl
                    have hdt := mem_take (x := x) hym
                    obtain ⟨kb, kof, rfl, hbl, hc⟩ := keysAt_get (HIr.out wr hon.to_below) (n := m) (by omega) HMl.out
                    obtain ⟨_, hc1⟩ := hc k hlk
                    rw [hy, Option.getD_some] at hc1
                    have p0 : wr.cell? ⟨kb, kof + k * 2 + 1, none⟩ = some (.int .i64 y.2) := hc1
                    have p1 := HRd2.out wr i x hon HX.out
                    have HOnd := Lib.hid (hon.below (Below.refl _ wr).drew)
                    cases hB : decide (x ∈ (ks.map (·.2)).take k) with
                    | true =>
                      rw [hB, Bool.true_or] at hdt
                      have HDt := Lib.hid hdt
                      clear hon hy hym hdt hB hbl hc hc1
                      go_wp2_with fail
                      have p0_d := drewC p0
                      have p1_d := drewC p1
                      refine wp_region_loose (fun A => A = wr.drew) (by kernel_rfl) (by kernel_rfl) rfl ?_
                      repeat (first
                        | (refine loose_skip (by rfl) ?_; simp only [Act.put, List.setIfInBounds_toArray, List.set_cons_zero, List.set_cons_succ])
                        | (refine loose_val (v := ?_) (by rfl) ?_ ?_; rotate_left; (focus (intro A' hA'; subst hA'; go_simp; first | done | with_reducible rfl)); simp only [Act.put, List.setIfInBounds_toArray, List.set_cons_zero, List.set_cons_succ]))
                      refine loose_nil ?_
                      intro A3 hA3
                      subst hA3
                      go_wp2_with fail
                      go_roundg (m - (k + 1))
                      case measure => omega
                      case rel => exact ⟨k + 1, by omega, by rw [HDt.out], by go_num, HOnd.out⟩
                    | false =>
                      rw [hB, Bool.false_or] at hdt
                      by_cases hyx : y.2 = x
                      · rw [decide_eq_true hyx] at hdt
                        subst hyx
                        have HDt := Lib.hid hdt
                        clear hon hy hym hdt hB hbl hc hc1
                        go_wp2_with fail
                        have p0_d := drewC p0
                        have p1_d := drewC p1
                        refine wp_region_loose (fun A => A = wr.drew) (by kernel_rfl) (by kernel_rfl) rfl ?_
                        repeat (first
                          | (refine loose_skip (by rfl) ?_; simp only [Act.put, List.setIfInBounds_toArray, List.set_cons_zero, List.set_cons_succ])
                          | (refine loose_val (v := ?_) (by rfl) ?_ ?_; rotate_left; (focus (intro A' hA'; subst hA'; go_simp; first | done | with_reducible rfl)); simp only [Act.put, List.setIfInBounds_toArray, List.set_cons_zero, List.set_cons_succ]))
                        refine loose_nil ?_
                        intro A3 hA3
                        subst hA3
                        go_wp2_with fail
                        go_roundg (m - (k + 1))
                        case measure => omega
                        case rel => exact ⟨k + 1, by omega, by rw [HDt.out], by go_num, HOnd.out⟩
                      · rw [decide_eq_false hyx] at hdt
                        have z2 : (y.2 == x) = false := by simpa using hyx
                        have HDt := Lib.hid hdt
                        clear hon hy hym hdt hB hbl hc hc1
                        go_wp2_with fail
                        have p0_d := drewC p0
                        have p1_d := drewC p1
                        refine wp_region_loose (fun A => A = wr.drew) (by kernel_rfl) (by kernel_rfl) rfl ?_
                        repeat (first
                          | (refine loose_skip (by rfl) ?_; simp only [Act.put, List.setIfInBounds_toArray, List.set_cons_zero, List.set_cons_succ])
                          | (refine loose_val (v := ?_) (by rfl) ?_ ?_; rotate_left; (focus (intro A' hA'; subst hA'; go_simp; first | done | with_reducible rfl)); simp only [Act.put, List.setIfInBounds_toArray, List.set_cons_zero, List.set_cons_succ]))
                        refine loose_nil ?_
                        intro A3 hA3
                        subst hA3
                        go_wp2_with fail
                        go_roundg (m - (k + 1))
                        case measure => omega
                        case rel => exact ⟨k + 1, by omega, by rw [HDt.out], by go_num, HOnd.out⟩
                  · have hkn : k = m := by omega
                    have hB : decide (x ∈ (ks.map (·.2)).take k) = true := by
                      rw [List.take_of_length_le (by rw [List.length_map, HMl.out]; omega), decide_eq_true HO2.out]
                    rw [hB]
                    have H7 := Lib.hid hon
                    subst hkn
                    clear hon hB
                    go_wp2_with fail
                    go_roundg (n - (i + 1))
                    case measure => omega
                    case rel => exact ⟨i + 1, by omega, by rw [HCt.out]; go_num, by go_num, H7.out⟩
        · have hin : i = n := by omega
          rw [List.take_of_length_le (by rw [HNl.out]; omega), HFi.out.many, HMl.out] at hc0
          have H6 := Lib.hid hon
          have hmin : min m n = c := by rw [← hc0, ← HFi.out.p.len, HNl.out]
          clear hon hc0
          subst hin
          obtain ⟨w7, hw7⟩ : ∃ x, x = wr := ⟨_, rfl⟩
          subst hw7
          have HAt1 := Lib.hid (fun (A : World) (id : Int) (hA : On w A (sep (intsA (.slice va i vc) a) emp)) => by
            obtain ⟨_, _, he, h⟩ := hA.ints_read
            rw [HNl.out] at he
            cases he
            exact HAt.out A va vc id h)
          by_cases hmi : m ≤ i
          · have zc : ((c : Int) != (m : Int)) = false := by simp; omega
            have hmI : ¬ (i : Int) < (m : Int) := by omega
            have hmI2 : (m : Int) ≤ (i : Int) := by omega
            clear hmin
            go_wp2_with fail
            go_loopg [17] m (fun gh s17 wr => ∃ k : Nat, k + gh = m ∧ s17 = .int .i64 (k : Int) ∧ On w wr (sep (intsA (.slice va i vc) a) emp))
            case atStart => exact ⟨0, by omega, rfl, H6.out⟩
            case round =>
              obtain ⟨k, hk, rfl, hon⟩ := hrel
              by_cases hlk : k < m
              · have hlkI : (k : Int) < (m : Int) := by omega
                have hk0 : (0 : Int) ≤ (k : Int) := by omega
                obtain ⟨y, hy⟩ : ∃ x, ks[k]? = some x := ⟨_, List.getElem?_eq_getElem (by rw [HMl.out]; exact hlk)⟩
                obtain ⟨kb, kof, rfl, hbl, hc⟩ := keysAt_get (HIr.out wr hon.to_below) (n := m) (by omega) HMl.out
                have HKc := Lib.hid (fun (A : World) (hA : Below w.heap.size w A) (l : Nat) (z : Int × Int) (hl : l < m) (hz : ks[l]? = some z) => by
                  obtain ⟨_, _, he, _, hc⟩ := keysAt_get (HIr.out A hA) (n := m) (by omega) HMl.out
                  cases he
                  obtain ⟨c0, c1⟩ := hc l hl
                  rw [hz, Option.getD_some] at c0 c1
                  exact (⟨c0, c1⟩ : A.cell? ⟨kb, kof + l * 2, none⟩ = some (.int .i64 z.1) ∧ A.cell? ⟨kb, kof + l * 2 + 1, none⟩ = some (.int .i64 z.2)))
                obtain ⟨p0, p1⟩ := HKc.out wr hon.to_below k y hlk hy
                have hat := HAt1.out wr y.2 hon
                have hst := fun h1 h2 => HFi.out.stay (List.mem_of_getElem? hy) h1 h2
                have hfs := fun (z : Int × Int) (hz : z ∈ ks) h1 h2 => HFi.out.first (List.mem_of_getElem? hy) hz h1 h2
                obtain ⟨u, hu⟩ : ∃ u, atI a y.2 = u := ⟨_, rfl⟩
                obtain ⟨v, hv⟩ : ∃ u, atI r y.2 = u := ⟨_, rfl⟩
                rw [hu] at hat hst hfs
                rw [hv] at hst
                have HC1 := Lib.hid hat
                have HSt := Lib.hid hst
                have HFs := Lib.hid hfs
                have HV := Lib.hid hv
                have HY := Lib.hid hy
                have HOn := Lib.hid hon
                clear hon hbl hc hat hst hu hv hfs hy
                go_wp2_with fail
                refine HC1.out.mono ?_
                rintro e x1 ⟨rfl, hb1⟩
                have h1 := HOn.out.below hb1
                obtain ⟨p2, p3⟩ := HKc.out x1 h1.to_below k y hlk HY.out
                have hr := HAr.out x1 y.2 h1.to_below
                rw [HV.out] at hr
                have HC2 := Lib.hid hr
                have H1 := Lib.hid h1
                clear hb1 h1 hr p0 p1
                go_wp2_with fail
                refine HC2.out.mono ?_
                rintro e x2 ⟨rfl, hb2⟩
                have H2 := Lib.hid (H1.out.below hb2)
                clear hb2 p2 p3
                by_cases hu0 : (0 : Int) ≤ u
                · have hu1 : ¬ u < 0 := by omega
                  by_cases hv0 : (0 : Int) ≤ v
                  · obtain rfl := HSt.out hu0 hv0
                    have zu : (u != u) = false := by simp
                    go_wp2_with fail
                    go_loopg [20] m (fun gh s20 wr => ∃ l : Nat, l + gh = m ∧ s20 = .int .i64 (l : Int) ∧ On w wr (sep (intsA (.slice va i vc) a) emp))
                    case atStart => exact ⟨0, by omega, rfl, H2.out⟩
                    case round =>
                      obtain ⟨l, hl, rfl, hon⟩ := hrel
                      have H3' := Lib.hid hon
                      clear hon
                      by_cases hll : l < m
                      · have hllI : (l : Int) < (m : Int) := by omega
                        go_wp2_with fail
                        go_roundg (m - (k + 1))
                        case measure => omega
                        case rel => exact ⟨k + 1, by omega, by go_num, H3'.out⟩
                      · have hllI : ¬ (l : Int) < (m : Int) := by omega
                        go_wp2_with fail
                        go_roundg (m - (k + 1))
                        case measure => omega
                        case rel => exact ⟨k + 1, by omega, by go_num, H3'.out⟩
                  · go_wp2_with fail
                    go_loopg [20] m (fun gh s20 wr => ∃ l : Nat, l + gh = m ∧ s20 = .int .i64 (l : Int) ∧ On w wr (sep (intsA (.slice va i vc) a) emp))
                    case atStart => exact ⟨0, by omega, rfl, H2.out⟩
                    case round =>
                      obtain ⟨l, hl, rfl, hon⟩ := hrel
                      have H3' := Lib.hid hon
                      clear hon
                      by_cases hll : l < m
                      · have hllI : (l : Int) < (m : Int) := by omega
                        go_wp2_with fail
                        go_roundg (m - (k + 1))
                        case measure => omega
                        case rel => exact ⟨k + 1, by omega, by go_num, H3'.out⟩
                      · have hllI : ¬ (l : Int) < (m : Int) := by omega
                        go_wp2_with fail
                        go_roundg (m - (k + 1))
                        case measure => omega
                        case rel => exact ⟨k + 1, by omega, by go_num, H3'.out⟩
                · have hu1 : u < 0 := by omega
                  go_wp2_with fail
                  go_loopg [20] m (fun gh s20 wr => ∃ l : Nat, l + gh = m ∧ s20 = .int .i64 (l : Int) ∧ On w wr (sep (intsA (.slice va i vc) a) emp))
                  case atStart => exact ⟨0, by omega, rfl, H2.out⟩
                  case round =>
                    obtain ⟨l, hl, rfl, hon⟩ := hrel
                    by_cases hll : l < m
                    · have hllI : (l : Int) < (m : Int) := by omega
                      have hl0 : (0 : Int) ≤ (l : Int) := by omega
                      obtain ⟨z, hz⟩ : ∃ x, ks[l]? = some x := ⟨_, List.getElem?_eq_getElem (by rw [HMl.out]; exact hll)⟩
                      obtain ⟨p0, p1⟩ := HKc.out wr hon.to_below k y hlk HY.out
                      obtain ⟨p2, p3⟩ := HKc.out wr hon.to_below l z hll hz
                      have hcl := fun (A : World) (hA : Below wr.drew.heap.size wr.drew A) => HAt1.out A z.2 ((hon.below (Below.refl _ wr).drew).below hA)
                      have hbf := HFs.out z (List.mem_of_getElem? hz) hu0
                      obtain ⟨u2, hu2⟩ : ∃ u, atI a z.2 = u := ⟨_, rfl⟩
                      rw [hu2] at hcl hbf
                      have HCl := Lib.hid (fun (A : World) (hA : Below wr.drew.heap.size wr.drew A) => (hcl A hA).mono fun e w' ⟨h1, h2⟩ => (⟨h1, hA.trans (h2.mono hA.size)⟩ : e = Ending.returned (.int .i64 u2) ∧ Below wr.drew.heap.size wr.drew w'))
                      have HOnd := Lib.hid (hon.below (Below.refl _ wr).drew)
                      by_cases hu20 : (0 : Int) ≤ u2
                      · have hu21 : ¬ u2 < 0 := by omega
                        have hu22 : decide ((0 : Int) ≤ u2) = true := by simpa using hu20
                        have hbe : ∀ A, Below wr.drew.heap.size wr.drew A → Calls Try.prog 31 #[.agg #[.int .i64 y.1, .int .i64 y.2], .agg #[.int .i64 z.1, .int .i64 z.2]] A fun e w' => e = .returned (.bool false) ∧ Below wr.drew.heap.size wr.drew w' := fun A hA =>
                          (before_any y.1 y.2 z.1 z.2 A).mono fun e w' ⟨h1, h2⟩ => ⟨by rw [h1]; exact congrArg (fun b => Ending.returned (.bool b)) (hbf hu20), hA.trans (h2.mono hA.size)⟩
                        have HBe := Lib.hid hbe
                        clear hon hz hcl hbf hu2 hbe
                        go_wp2_with fail
                        have p0_d := drewC p0
                        have p1_d := drewC p1
                        have p2_d := drewC p2
                        have p3_d := drewC p3
                        refine wp_region_loose (fun A' => Below wr.drew.heap.size wr.drew A') (by kernel_rfl) (by kernel_rfl) (Below.refl _ _) ?_
                        repeat (first
                          | (refine loose_skip (by rfl) ?_; simp only [Act.put, List.setIfInBounds_toArray, List.set_cons_zero, List.set_cons_succ])
                          | (refine loose_val (v := ?_) (by rfl) ?_ ?_; rotate_left; (focus (intro A' hA'; have p0_e := zatB p0_d hA' ;  have p1_e := zatB p1_d hA' ;  have p2_e := zatB p2_d hA' ;  have p3_e := zatB p3_d hA'; go_simp; first | done | with_reducible rfl)); simp only [Act.put, List.setIfInBounds_toArray, List.set_cons_zero, List.set_cons_succ])
                          | (refine loose_call HCl.out (by rfl) ?_ ?_; (focus (intro A' hA'; go_simp; done)); simp only [Act.put, List.setIfInBounds_toArray, List.set_cons_zero, List.set_cons_succ])
                          | (refine loose_call HBe.out (by rfl) ?_ ?_; (focus (intro A' hA'; go_simp; done)); simp only [Act.put, List.setIfInBounds_toArray, List.set_cons_zero, List.set_cons_succ]))
                        refine loose_nil ?_
                        intro A3 hA3
                        have HZ := Lib.hid (HOnd.out.below hA3)
                        clear hA3
                        go_wp2_with fail
                        go_roundg (m - (l + 1))
                        case measure => omega
                        case rel => exact ⟨l + 1, by omega, by go_num, HZ.out⟩
                      · have hu21 : u2 < 0 := by omega
                        have hu22 : decide ((0 : Int) ≤ u2) = false := by simpa using hu21
                        clear hon hz hcl hbf hu2
                        go_wp2_with fail
                        have p0_d := drewC p0
                        have p1_d := drewC p1
                        have p2_d := drewC p2
                        have p3_d := drewC p3
                        refine wp_region_loose (fun A' => Below wr.drew.heap.size wr.drew A') (by kernel_rfl) (by kernel_rfl) (Below.refl _ _) ?_
                        repeat (first
                          | (refine loose_skip (by rfl) ?_; simp only [Act.put, List.setIfInBounds_toArray, List.set_cons_zero, List.set_cons_succ])
                          | (refine loose_val (v := ?_) (by rfl) ?_ ?_; rotate_left; (focus (intro A' hA'; have p0_e := zatB p0_d hA' ;  have p1_e := zatB p1_d hA' ;  have p2_e := zatB p2_d hA' ;  have p3_e := zatB p3_d hA'; go_simp; first | done | with_reducible rfl)); simp only [Act.put, List.setIfInBounds_toArray, List.set_cons_zero, List.set_cons_succ])
                          | (refine loose_call HCl.out (by rfl) ?_ ?_; (focus (intro A' hA'; go_simp; done)); simp only [Act.put, List.setIfInBounds_toArray, List.set_cons_zero, List.set_cons_succ]))
                        refine loose_nil ?_
                        intro A3 hA3
                        have HZ := Lib.hid (HOnd.out.below hA3)
                        clear hA3
                        go_wp2_with fail
                        go_roundg (m - (l + 1))
                        case measure => omega
                        case rel => exact ⟨l + 1, by omega, by go_num, HZ.out⟩
                    · have hlm : l = m := by omega
                      subst hlm
                      have H3' := Lib.hid hon
                      clear hon
                      go_wp2_with fail
                      go_roundg (l - (k + 1))
                      case measure => omega
                      case rel => exact ⟨k + 1, by omega, by go_num, H3'.out⟩
              · have hkm : k = m := by omega
                subst hkm
                have HC5 := Lib.hid (HAw.out wr hon.to_below)
                clear hon
                go_wp2_with fail
                refine HC5.out.mono ?_
                rintro e w5 ⟨rfl, hb5⟩
                have HB5 := Lib.hid hb5
                clear hb5
                go_wp2_with fail
                go_ret
                exact ⟨rfl, HB5.out⟩
          · have zc : ((c : Int) != (i : Int)) = false := by simp; omega
            have hmI : (i : Int) < (m : Int) := by omega
            have hmI2 : ¬ (m : Int) ≤ (i : Int) := by omega
            clear hmin
            go_wp2_with fail
            go_loopg [17] m (fun gh s17 wr => ∃ k : Nat, k + gh = m ∧ s17 = .int .i64 (k : Int) ∧ On w wr (sep (intsA (.slice va i vc) a) emp))
            case atStart => exact ⟨0, by omega, rfl, H6.out⟩
            case round =>
              obtain ⟨k, hk, rfl, hon⟩ := hrel
              by_cases hlk : k < m
              · have hlkI : (k : Int) < (m : Int) := by omega
                have hk0 : (0 : Int) ≤ (k : Int) := by omega
                obtain ⟨y, hy⟩ : ∃ x, ks[k]? = some x := ⟨_, List.getElem?_eq_getElem (by rw [HMl.out]; exact hlk)⟩
                obtain ⟨kb, kof, rfl, hbl, hc⟩ := keysAt_get (HIr.out wr hon.to_below) (n := m) (by omega) HMl.out
                have HKc := Lib.hid (fun (A : World) (hA : Below w.heap.size w A) (l : Nat) (z : Int × Int) (hl : l < m) (hz : ks[l]? = some z) => by
                  obtain ⟨_, _, he, _, hc⟩ := keysAt_get (HIr.out A hA) (n := m) (by omega) HMl.out
                  cases he
                  obtain ⟨c0, c1⟩ := hc l hl
                  rw [hz, Option.getD_some] at c0 c1
                  exact (⟨c0, c1⟩ : A.cell? ⟨kb, kof + l * 2, none⟩ = some (.int .i64 z.1) ∧ A.cell? ⟨kb, kof + l * 2 + 1, none⟩ = some (.int .i64 z.2)))
                obtain ⟨p0, p1⟩ := HKc.out wr hon.to_below k y hlk hy
                have hat := HAt1.out wr y.2 hon
                have hst := fun h1 h2 => HFi.out.stay (List.mem_of_getElem? hy) h1 h2
                have hfs := fun (z : Int × Int) (hz : z ∈ ks) h1 h2 => HFi.out.first (List.mem_of_getElem? hy) hz h1 h2
                obtain ⟨u, hu⟩ : ∃ u, atI a y.2 = u := ⟨_, rfl⟩
                obtain ⟨v, hv⟩ : ∃ u, atI r y.2 = u := ⟨_, rfl⟩
                rw [hu] at hat hst hfs
                rw [hv] at hst
                have HC1 := Lib.hid hat
                have HSt := Lib.hid hst
                have HFs := Lib.hid hfs
                have HV := Lib.hid hv
                have HY := Lib.hid hy
                have HOn := Lib.hid hon
                clear hon hbl hc hat hst hu hv hfs hy
                go_wp2_with fail
                refine HC1.out.mono ?_
                rintro e x1 ⟨rfl, hb1⟩
                have h1 := HOn.out.below hb1
                obtain ⟨p2, p3⟩ := HKc.out x1 h1.to_below k y hlk HY.out
                have hr := HAr.out x1 y.2 h1.to_below
                rw [HV.out] at hr
                have HC2 := Lib.hid hr
                have H1 := Lib.hid h1
                clear hb1 h1 hr p0 p1
                go_wp2_with fail
                refine HC2.out.mono ?_
                rintro e x2 ⟨rfl, hb2⟩
                have H2 := Lib.hid (H1.out.below hb2)
                clear hb2 p2 p3
                by_cases hu0 : (0 : Int) ≤ u
                · have hu1 : ¬ u < 0 := by omega
                  by_cases hv0 : (0 : Int) ≤ v
                  · obtain rfl := HSt.out hu0 hv0
                    have zu : (u != u) = false := by simp
                    go_wp2_with fail
                    go_loopg [20] m (fun gh s20 wr => ∃ l : Nat, l + gh = m ∧ s20 = .int .i64 (l : Int) ∧ On w wr (sep (intsA (.slice va i vc) a) emp))
                    case atStart => exact ⟨0, by omega, rfl, H2.out⟩
                    case round =>
                      obtain ⟨l, hl, rfl, hon⟩ := hrel
                      have H3' := Lib.hid hon
                      clear hon
                      by_cases hll : l < m
                      · have hllI : (l : Int) < (m : Int) := by omega
                        go_wp2_with fail
                        go_roundg (m - (k + 1))
                        case measure => omega
                        case rel => exact ⟨k + 1, by omega, by go_num, H3'.out⟩
                      · have hllI : ¬ (l : Int) < (m : Int) := by omega
                        go_wp2_with fail
                        go_roundg (m - (k + 1))
                        case measure => omega
                        case rel => exact ⟨k + 1, by omega, by go_num, H3'.out⟩
                  · go_wp2_with fail
                    go_loopg [20] m (fun gh s20 wr => ∃ l : Nat, l + gh = m ∧ s20 = .int .i64 (l : Int) ∧ On w wr (sep (intsA (.slice va i vc) a) emp))
                    case atStart => exact ⟨0, by omega, rfl, H2.out⟩
                    case round =>
                      obtain ⟨l, hl, rfl, hon⟩ := hrel
                      have H3' := Lib.hid hon
                      clear hon
                      by_cases hll : l < m
                      · have hllI : (l : Int) < (m : Int) := by omega
                        go_wp2_with fail
                        go_roundg (m - (k + 1))
                        case measure => omega
                        case rel => exact ⟨k + 1, by omega, by go_num, H3'.out⟩
                      · have hllI : ¬ (l : Int) < (m : Int) := by omega
                        go_wp2_with fail
                        go_roundg (m - (k + 1))
                        case measure => omega
                        case rel => exact ⟨k + 1, by omega, by go_num, H3'.out⟩
                · have hu1 : u < 0 := by omega
                  go_wp2_with fail
                  go_loopg [20] m (fun gh s20 wr => ∃ l : Nat, l + gh = m ∧ s20 = .int .i64 (l : Int) ∧ On w wr (sep (intsA (.slice va i vc) a) emp))
                  case atStart => exact ⟨0, by omega, rfl, H2.out⟩
                  case round =>
                    obtain ⟨l, hl, rfl, hon⟩ := hrel
                    by_cases hll : l < m
                    · have hllI : (l : Int) < (m : Int) := by omega
                      have hl0 : (0 : Int) ≤ (l : Int) := by omega
                      obtain ⟨z, hz⟩ : ∃ x, ks[l]? = some x := ⟨_, List.getElem?_eq_getElem (by rw [HMl.out]; exact hll)⟩
                      obtain ⟨p0, p1⟩ := HKc.out wr hon.to_below k y hlk HY.out
                      obtain ⟨p2, p3⟩ := HKc.out wr hon.to_below l z hll hz
                      have hcl := fun (A : World) (hA : Below wr.drew.heap.size wr.drew A) => HAt1.out A z.2 ((hon.below (Below.refl _ wr).drew).below hA)
                      have hbf := HFs.out z (List.mem_of_getElem? hz) hu0
                      obtain ⟨u2, hu2⟩ : ∃ u, atI a z.2 = u := ⟨_, rfl⟩
                      rw [hu2] at hcl hbf
                      have HCl := Lib.hid (fun (A : World) (hA : Below wr.drew.heap.size wr.drew A) => (hcl A hA).mono fun e w' ⟨h1, h2⟩ => (⟨h1, hA.trans (h2.mono hA.size)⟩ : e = Ending.returned (.int .i64 u2) ∧ Below wr.drew.heap.size wr.drew w'))
                      have HOnd := Lib.hid (hon.below (Below.refl _ wr).drew)
                      by_cases hu20 : (0 : Int) ≤ u2
                      · have hu21 : ¬ u2 < 0 := by omega
                        have hu22 : decide ((0 : Int) ≤ u2) = true := by simpa using hu20
                        have hbe : ∀ A, Below wr.drew.heap.size wr.drew A → Calls Try.prog 31 #[.agg #[.int .i64 y.1, .int .i64 y.2], .agg #[.int .i64 z.1, .int .i64 z.2]] A fun e w' => e = .returned (.bool false) ∧ Below wr.drew.heap.size wr.drew w' := fun A hA =>
                          (before_any y.1 y.2 z.1 z.2 A).mono fun e w' ⟨h1, h2⟩ => ⟨by rw [h1]; exact congrArg (fun b => Ending.returned (.bool b)) (hbf hu20), hA.trans (h2.mono hA.size)⟩
                        have HBe := Lib.hid hbe
                        clear hon hz hcl hbf hu2 hbe
                        go_wp2_with fail
                        have p0_d := drewC p0
                        have p1_d := drewC p1
                        have p2_d := drewC p2
                        have p3_d := drewC p3
                        refine wp_region_loose (fun A' => Below wr.drew.heap.size wr.drew A') (by kernel_rfl) (by kernel_rfl) (Below.refl _ _) ?_
                        repeat (first
                          | (refine loose_skip (by rfl) ?_; simp only [Act.put, List.setIfInBounds_toArray, List.set_cons_zero, List.set_cons_succ])
                          | (refine loose_val (v := ?_) (by rfl) ?_ ?_; rotate_left; (focus (intro A' hA'; have p0_e := zatB p0_d hA' ;  have p1_e := zatB p1_d hA' ;  have p2_e := zatB p2_d hA' ;  have p3_e := zatB p3_d hA'; go_simp; first | done | with_reducible rfl)); simp only [Act.put, List.setIfInBounds_toArray, List.set_cons_zero, List.set_cons_succ])
                          | (refine loose_call HCl.out (by rfl) ?_ ?_; (focus (intro A' hA'; go_simp; done)); simp only [Act.put, List.setIfInBounds_toArray, List.set_cons_zero, List.set_cons_succ])
                          | (refine loose_call HBe.out (by rfl) ?_ ?_; (focus (intro A' hA'; go_simp; done)); simp only [Act.put, List.setIfInBounds_toArray, List.set_cons_zero, List.set_cons_succ]))
                        refine loose_nil ?_
                        intro A3 hA3
                        have HZ := Lib.hid (HOnd.out.below hA3)
                        clear hA3
                        go_wp2_with fail
                        go_roundg (m - (l + 1))
                        case measure => omega
                        case rel => exact ⟨l + 1, by omega, by go_num, HZ.out⟩
                      · have hu21 : u2 < 0 := by omega
                        have hu22 : decide ((0 : Int) ≤ u2) = false := by simpa using hu21
                        clear hon hz hcl hbf hu2
                        go_wp2_with fail
                        have p0_d := drewC p0
                        have p1_d := drewC p1
                        have p2_d := drewC p2
                        have p3_d := drewC p3
                        refine wp_region_loose (fun A' => Below wr.drew.heap.size wr.drew A') (by kernel_rfl) (by kernel_rfl) (Below.refl _ _) ?_
                        repeat (first
                          | (refine loose_skip (by rfl) ?_; simp only [Act.put, List.setIfInBounds_toArray, List.set_cons_zero, List.set_cons_succ])
                          | (refine loose_val (v := ?_) (by rfl) ?_ ?_; rotate_left; (focus (intro A' hA'; have p0_e := zatB p0_d hA' ;  have p1_e := zatB p1_d hA' ;  have p2_e := zatB p2_d hA' ;  have p3_e := zatB p3_d hA'; go_simp; first | done | with_reducible rfl)); simp only [Act.put, List.setIfInBounds_toArray, List.set_cons_zero, List.set_cons_succ])
                          | (refine loose_call HCl.out (by rfl) ?_ ?_; (focus (intro A' hA'; go_simp; done)); simp only [Act.put, List.setIfInBounds_toArray, List.set_cons_zero, List.set_cons_succ]))
                        refine loose_nil ?_
                        intro A3 hA3
                        have HZ := Lib.hid (HOnd.out.below hA3)
                        clear hA3
                        go_wp2_with fail
                        go_roundg (m - (l + 1))
                        case measure => omega
                        case rel => exact ⟨l + 1, by omega, by go_num, HZ.out⟩
                    · have hlm : l = m := by omega
                      subst hlm
                      have H3' := Lib.hid hon
                      clear hon
                      go_wp2_with fail
                      go_roundg (l - (k + 1))
                      case measure => omega
                      case rel => exact ⟨k + 1, by omega, by go_num, H3'.out⟩
              · have hkm : k = m := by omega
                subst hkm
                have HC5 := Lib.hid (HAw.out wr hon.to_below)
                clear hon
                go_wp2_with fail
                refine HC5.out.mono ?_
                rintro e w5 ⟨rfl, hb5⟩
                have HB5 := Lib.hid hb5
                clear hb5
                go_wp2_with fail
                go_ret
                exact ⟨rfl, HB5.out⟩
    · have zE : (E != 0) = true := by simpa using hE0
      rw [hE] at HWr
      obtain ⟨n, hn⟩ : ∃ x, r.length = x := ⟨_, rfl⟩
      obtain ⟨m, hm⟩ : ∃ x, ks.length = x := ⟨_, rfl⟩
      rw [hn, hm] at HFw HWr ⊢
      clear hr hrw hk hkw hE hn hm hf
      go_enter Try.func12, Try.ntmps12
      go_wp2_with fail
      refine HFw.out.mono ?_
      rintro e w0 ⟨rfl, rfl⟩
      go_wp2_with fail
      refine HWr.out.mono ?_
      rintro e w1 ⟨v, rfl, h1⟩
      have HC5 := Lib.hid (HAw.out w1 h1.to_below)
      clear h1
      go_wp2_with fail
      refine HC5.out.mono ?_
      rintro e w5 ⟨rfl, hb5⟩
      have HB5 := Lib.hid hb5
      clear hb5
      go_wp2_with fail
      go_ret
      exact ⟨rfl, HB5.out⟩
  · rw [decide_eq_false hf] at HFw
    have HC5 := Lib.hid (HAw.out w (Below.refl _ w))
    obtain ⟨n, hn⟩ : ∃ x, r.length = x := ⟨_, rfl⟩
    obtain ⟨m, hm⟩ : ∃ x, ks.length = x := ⟨_, rfl⟩
    rw [hn, hm] at HFw ⊢
    clear hr hrw hk hkw hn hm hf
    go_enter Try.func12, Try.ntmps12
    go_wp2_with fail
    refine HFw.out.mono ?_
    rintro e w0 ⟨rfl, rfl⟩
    go_wp2_with fail
    refine HC5.out.mono ?_
    rintro e w5 ⟨rfl, hb5⟩
    have HB5 := Lib.hid hb5
    clear hb5
    go_wp2_with fail
    go_ret
    exact ⟨rfl, HB5.out⟩
end Go.Proofs.Ytkjpkhpiojahkaa
