/-
  Walks: the document's Least and Until.
-/
import Derived.Test.YtkjpkhpiojahkaaOp4
import Derived.Test.YtkjpkhpiojahkaaRk4
namespace Go.Proofs.Ytkjpkhpiojahkaa
set_option linter.unusedVariables false
open Go.RowKit Hp
attribute [local go_sem] Oper.semAt_some

theorem keysAt_take {w : World} {a : Option Addr} {ks : List (Int × Int)} {i : Nat} (h : Ke.KeysAt w a ks) : Ke.KeysAt w a (ks.take i) := by
  rcases h with h | ⟨b, off, rfl, hb, h⟩
  · exact .inl (by rw [List.length_take]; omega)
  · refine .inr ⟨b, off, rfl, hb, fun k hk => ?_⟩
    rw [List.length_take] at hk
    rw [List.getElem?_take_of_lt (by omega)]
    exact h k (by omega)

section
variable {w0 w : World} {rb : Nat} {S : List (It Int)} {R : Ast}
set_option maxRecDepth 100000 in
set_option maxHeartbeats 4000000 in
theorem RL_least (h : On w0 w (sep (refA rb S) R)) (hl : S.length < 900000) (n : Int) :
    Calls Try.prog 40 #[.pointer (some ⟨rb, 0, none⟩), .int .i64 n] w fun e w' => ∃ a c, e = .returned (.slice a (leastS S n).length c) ∧ Below w.heap.size w w' ∧ Ke.KeysAt w' a (kv (leastS S n)) := by
  by_cases hn : n < 1
  · have e : leastS S n = [] := by unfold leastS; rw [if_pos hn]
    rw [e]
    go_enter Try.func40, Try.ntmps40
    go_wp2_with fail
    go_ret
    exact ⟨none, 0, rfl, Below.refl _ _, .inl rfl⟩
  · obtain ⟨m, hm⟩ : ∃ m, S.length = m := ⟨_, rfl⟩
    obtain ⟨k, hk⟩ : ∃ k : Nat, n = (k : Int) := ⟨n.toNat, by omega⟩
    have e : leastS S n = S.take k := by unfold leastS; rw [if_neg hn, hk, Int.toNat_natCast]
    rw [e]
    obtain ⟨ra, rc, h5⟩ := h.ref_open
    obtain ⟨ra', rc', hre, hkr⟩ := h5.out1.keys1
    cases hre
    rw [hm] at h5 hl
    have c0 : w.cell? ⟨rb, 0, none⟩ = some (.slice ra m rc) := (h5.box1 0).1
    obtain ⟨_, _, hre, hrc1, hrc2, _⟩ := h5.out1.keys_cap rfl (n := m) (by rw [kv, List.length_map, hm])
    cases hre
    have HKr := Lib.hid hkr
    have HM := Lib.hid hm
    clear h h5 hkr e hm
    subst hk
    have hk0 : (0 : Int) ≤ (k : Int) := by omega
    have c0' : w.drew.cell? ⟨rb, 0, none⟩ = some (.slice ra m rc) := c0
    have hb : Below w.heap.size w w.drew := (Below.refl _ w).drew
    have hkd : Ke.KeysAt w.drew ra (kv S) := HKr.out
    by_cases hmk : m < k
    · have ht : S.take k = S := List.take_of_length_le (by rw [HM.out]; omega)
      rw [ht, HM.out]
      obtain ⟨a', hsl, hka⟩ := slice_keys_to ra m rc m (kv S) (by rw [kv, List.length_map, HM.out]) (Nat.le_refl _) hrc1
      have hka' := hka _ hkd
      rw [List.take_of_length_le (by rw [kv, List.length_map, HM.out]; exact Nat.le_refl _)] at hka'
      have HKa := Lib.hid hka'
      have HB := Lib.hid hb
      clear hka hka' ht hkd hb
      go_enter Try.func40, Try.ntmps40
      go_wp2_with fail
      refine wp_region_loose (fun A => A = w.drew) (by kernel_rfl) (by kernel_rfl) rfl ?_
      iterate 13 (first
        | (refine loose_skip (by rfl) ?_; simp only [Act.put, List.setIfInBounds_toArray, List.set_cons_zero, List.set_cons_succ])
        | (refine loose_val (v := ?_) (by rfl) ?_ ?_; rotate_left; (focus (intro A' hA'; subst hA'; go_simp; first | done | with_reducible rfl)); simp only [Act.put, List.setIfInBounds_toArray, List.set_cons_zero, List.set_cons_succ]))
      refine loose_nil ?_
      intro A3 hA3
      subst hA3
      go_wp2_with fail
      go_ret
      exact ⟨_, _, rfl, HB.out, HKa.out⟩
    · have hlk : (S.take k).length = k := by rw [List.length_take, HM.out]; omega
      rw [hlk]
      obtain ⟨a', hsl, hka⟩ := slice_keys_to ra m rc k (kv S) (by rw [kv, List.length_map, HM.out]) (by omega) hrc1
      have hka' := hka _ hkd
      rw [kv, ← List.map_take] at hka'
      have HKa := Lib.hid hka'
      have HB := Lib.hid hb
      clear hka hka' hlk hkd hb
      go_enter Try.func40, Try.ntmps40
      go_wp2_with fail
      refine wp_region_loose (fun A => A = w.drew) (by kernel_rfl) (by kernel_rfl) rfl ?_
      iterate 13 (first
        | (refine loose_skip (by rfl) ?_; simp only [Act.put, List.setIfInBounds_toArray, List.set_cons_zero, List.set_cons_succ])
        | (refine loose_val (v := ?_) (by rfl) ?_ ?_; rotate_left; (focus (intro A' hA'; subst hA'; go_simp; first | done | with_reducible rfl)); simp only [Act.put, List.setIfInBounds_toArray, List.set_cons_zero, List.set_cons_succ]))
      refine loose_nil ?_
      intro A3 hA3
      subst hA3
      go_wp2_with fail
      go_ret
      exact ⟨_, _, rfl, HB.out, HKa.out⟩

set_option maxRecDepth 100000 in
set_option maxHeartbeats 4000000 in
theorem RL_until (h : On w0 w (sep (refA rb S) R)) (hl : S.length < 900000) (t : Int) :
    Calls Try.prog 41 #[.pointer (some ⟨rb, 0, none⟩), .int .i64 t] w fun e w' => ∃ a c, e = .returned (.slice a (upto S t).length c) ∧ Below w.heap.size w w' ∧ Ke.KeysAt w' a (kv (upto S t)) := by
  obtain ⟨m, hm⟩ : ∃ m, S.length = m := ⟨_, rfl⟩
  obtain ⟨u, hu⟩ : ∃ u, (upto S t).length = u := ⟨_, rfl⟩
  rw [hu]
  have hum : u ≤ m := by rw [← hu, ← hm]; exact (upto_pre S t).length_le
  obtain ⟨ra, rc, h5⟩ := h.ref_open
  obtain ⟨ra', rc', hre, hkr⟩ := h5.out1.keys1
  cases hre
  rw [hm] at h5 hl
  have c0 : w.cell? ⟨rb, 0, none⟩ = some (.slice ra m rc) := (h5.box1 0).1
  obtain ⟨_, _, hre, hrc1, hrc2, _⟩ := h5.out1.keys_cap rfl (n := m) (by rw [kv, List.length_map, hm])
  cases hre
  obtain ⟨a', hsl, hka⟩ := slice_keys_to ra m rc u (kv S) (by rw [kv, List.length_map, hm]) hum hrc1
  have hut : (kv S).take u = kv (upto S t) := by
    rw [kv, kv, ← List.map_take, ← hu]
    congr 1
    exact (List.prefix_iff_eq_take.1 (upto_pre S t)).symm
  have HKa := Lib.hid (fun A (hA : Below w.heap.size w A) => hut ▸ hka A (keysAt_below hkr hA))
  have HKr := Lib.hid hkr
  have HM := Lib.hid hm
  have HU := Lib.hid hu
  clear h h5 hkr hm hu hka hut
  go_enter Try.func41, Try.ntmps41
  go_wp2_with fail
  have HC0 := Lib.hid (fun A (hA : Below w.heap.size w A) => zatB c0 hA)
  clear c0
  go_loopg [5] m (fun gh s5 wr => ∃ i : Nat, i + gh = m ∧ s5 = .int .i64 (i : Int) ∧ i ≤ u ∧ Below w.heap.size w wr)
  case atStart => exact ⟨0, by omega, rfl, by omega, Below.refl _ _⟩
  case round =>
    obtain ⟨i, hi, rfl, hiu, hb⟩ := hrel
    have c1 := HC0.out wr hb
    have c2 : wr.drew.cell? ⟨rb, 0, none⟩ = some (.slice ra m rc) := c1
    by_cases hlt : i < m
    · have hltI : (i : Int) < (m : Int) := by omega
      have hi0 : (0 : Int) ≤ (i : Int) := by omega
      obtain ⟨b, off, rfl, _, hc⟩ := keysAt_get (keysAt_below HKr.out hb) (n := m) (by omega) (by rw [kv, List.length_map, HM.out])
      obtain ⟨x, hx⟩ : ∃ x, S[i]? = some x := ⟨_, List.getElem?_eq_getElem (by rw [HM.out]; exact hlt)⟩
      obtain ⟨r0, r1⟩ := hc i hlt
      rw [kv, List.getElem?_map, hx] at r0 r1
      simp only [Option.map_some, Option.getD_some] at r0 r1
      obtain ⟨ha1, ha2⟩ := upto_at (T := S) (t := t) (i := i) (by rw [HU.out]; exact hiu) hx
      rw [HU.out] at ha1
      by_cases hxt : x.2 ≤ t
      · have hiu2 : i + 1 ≤ u := by have := (List.getElem?_eq_some_iff.1 (ha2 hxt)).1; rw [HU.out] at this; exact this
        have HB := Lib.hid hb
        clear ha1 ha2 hc hx r1 hb
        go_wp2_with fail
        go_roundg (m - (i + 1))
        case measure => omega
        case rel => exact ⟨i + 1, by omega, by go_num, hiu2, HB.out⟩
      · have hiu2 : u = i := ha1 (by omega)
        subst hiu2
        have hka := HKa.out wr hb
        have HKw := Lib.hid hka
        have HB := Lib.hid hb
        clear ha1 ha2 hc hx r1 hb hka
        go_wp2_with fail
        go_ret
        first | exact ⟨_, _, rfl, HB.out, HKw.out⟩ | exact ⟨_, ⟨_, rfl⟩, HB.out, HKw.out⟩
    · have him : i = m := by omega
      have hum2 : u = i := by omega
      subst him
      subst hum2
      have hka := HKa.out wr hb
      have HKw := Lib.hid hka
      have HB := Lib.hid hb
      clear hb hka
      go_wp2_with fail
      go_ret
      first | exact ⟨_, _, rfl, HB.out, HKw.out⟩ | exact ⟨_, ⟨_, rfl⟩, HB.out, HKw.out⟩
end
end Go.Proofs.Ytkjpkhpiojahkaa
