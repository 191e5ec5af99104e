/-
  Place: the document's answer for the last one to be wanted, and for who is wanted ahead.
-/
import Derived.Test.YtkjpkhpiojahkaaPc4
import Derived.Test.YtkjpkhpiojahkaaPl3
namespace Go.Proofs.Ytkjpkhpiojahkaa
set_option linter.unusedVariables false
open Go.RowKit Hp
attribute [local go_sem] Oper.semAt_some
section
variable {w : World} {r : List Int} {ra : Option Addr} {rc : Nat} {S : List (It Int)} {a : Option Addr} {c : Nat}
theorem hitS_take {i : Nat} {x : It Int} (h : S[i]? = some x) : hitS r (S.take (i + 1)) = if x.1 ∈ r then hitS r (S.take i) ++ [x] else hitS r (S.take i) := by
  rw [List.take_add_one, h]
  exact hitS_snoc
theorem kv_at {i : Nat} {x : It Int} (h : S[i]? = some x) : (kv S)[i]? = some (x.2, x.1) := by
  unfold kv
  rw [List.getElem?_map, h]
  rfl
/-- the worker of the last one that runs, or -1 -/
def vicF (r : List Int) (L : List (It Int)) : Int := if (hitS r L).length = 0 then -1 else atI r (lastH (hitS r L)).1
theorem vicF_step {i : Nat} {x : It Int} (h : S[i]? = some x) : vicF r (S.take (i + 1)) = if x.1 ∈ r then atI r x.1 else vicF r (S.take i) := by
  unfold vicF
  rw [hitS_take h]
  by_cases hx : x.1 ∈ r
  · rw [if_pos hx, if_pos hx, if_neg (by simp), lastH_snoc]
  · rw [if_neg hx, if_neg hx]
set_option maxRecDepth 100000 in
set_option maxHeartbeats 4000000 in
theorem rvictim_ok (h1 : IntsAt w ra r) (h2 : Ke.KeysAt w a (kv S)) (hl : r.length < 1000000) (hS : S.length < 1000000) :
    Calls Try.prog 67 #[.slice ra r.length rc, .slice a S.length c] w fun e w' => e = .returned (.int .i64 (vicF r S)) ∧ Below w.heap.size w w' := by
  obtain ⟨n, hn⟩ : ∃ n, S.length = n := ⟨_, rfl⟩
  obtain ⟨m, hm⟩ : ∃ n, r.length = n := ⟨_, rfl⟩
  have HAt := Lib.hid (fun (A : World) (hA : Below w.heap.size w A) (id : Int) => pat_ok ra rc r id A (h1.below (Nat.le_refl _) hA) hl)
  have HK := Lib.hid h2
  rw [hm] at HAt ⊢
  rw [hn] at hS ⊢
  have HN := Lib.hid hn
  have HM := Lib.hid hm
  clear h1 h2 hn hm hl
  go_enter Try.func67, Try.ntmps67
  go_wp2_with fail
  go_loopg [5, 6] n (fun gh s5 s6 wr => ∃ i : Nat, i + gh = n ∧ s5 = .int .i64 (vicF r (S.take i)) ∧ s6 = .int .i64 (i : Int) ∧ Below w.heap.size w wr)
  case atStart => exact ⟨0, by omega, rfl, rfl, Below.refl _ _⟩
  case round =>
    obtain ⟨i, hi, rfl, rfl, hb⟩ := hrel
    obtain ⟨V, hV⟩ : ∃ V, vicF r (S.take i) = V := ⟨_, rfl⟩
    rw [hV]
    have HB := Lib.hid hb
    by_cases hlt : i < n
    · have hltI : (i : Int) < (n : Int) := by omega
      have hi0 : (0 : Int) ≤ (i : Int) := by omega
      obtain ⟨x, hx⟩ : ∃ x, S[i]? = some x := ⟨_, List.getElem?_eq_getElem (by rw [HN.out]; exact hlt)⟩
      have hxk := kv_at hx
      obtain ⟨b, off, rfl, hbl, hc⟩ := keysAt_get HK.out (n := n) (by omega) (by unfold kv; rw [List.length_map, HN.out])
      obtain ⟨_, hc1⟩ := hc i hlt
      rw [hxk, Option.getD_some] at hc1
      have q1 : wr.cell? ⟨b, off + i * 2 + 1, none⟩ = some (.int .i64 x.1) := (hb.cell (by exact hbl)).trans hc1
      have hst := vicF_step (r := r) hx
      have hng := atI_neg r x.1
      have HA2 := Lib.hid (HAt.out wr hb x.1)
      by_cases hin : x.1 ∈ r
      · rw [if_pos hin] at hst
        rw [decide_eq_true hin] at hng
        obtain ⟨z, hz⟩ : ∃ z, atI r x.1 = z := ⟨_, rfl⟩
        rw [hz] at hst hng HA2
        have g0 : (0 : Int) ≤ z := of_decide_eq_true hng
        have HSt := Lib.hid hst
        clear hV hb hx hxk hbl hc hc1 hst hng hin hz
        go_wp2_with fail
        refine HA2.out.mono ?_
        rintro e x1 ⟨rfl, hb1⟩
        have HB1 := Lib.hid hb1
        clear hb1
        go_wp2_with fail
        go_roundg (n - (i + 1))
        case measure => omega
        case rel => exact ⟨i + 1, by omega, by rw [HSt.out], by go_num, HB.out.trans (HB1.out.mono HB.out.size)⟩
      · rw [if_neg hin, hV] at hst
        rw [decide_eq_false hin] at hng
        obtain ⟨z, hz⟩ : ∃ z, atI r x.1 = z := ⟨_, rfl⟩
        rw [hz] at hng HA2
        have g0 : ¬ (0 : Int) ≤ z := of_decide_eq_false hng
        have HSt := Lib.hid hst
        clear hV hb hx hxk hbl hc hc1 hst hng hin hz
        go_wp2_with fail
        refine HA2.out.mono ?_
        rintro e x1 ⟨rfl, hb1⟩
        have HB1 := Lib.hid hb1
        clear hb1
        go_wp2_with fail
        go_roundg (n - (i + 1))
        case measure => omega
        case rel => exact ⟨i + 1, by omega, by rw [HSt.out], by go_num, HB.out.trans (HB1.out.mono HB.out.size)⟩
    · have hin : i = n := by omega
      rw [List.take_of_length_le (by rw [HN.out]; omega)] at hV
      have HV := Lib.hid hV
      subst hin
      clear hb hV
      go_wp2_with fail
      go_ret
      exact ⟨by rw [HV.out]; rfl, HB.out⟩
set_option maxRecDepth 100000 in
set_option maxHeartbeats 4000000 in
theorem rbeats_ok (t id : Int) (h1 : IntsAt w ra r) (h2 : Ke.KeysAt w a (kv S)) (hl : r.length < 1000000) (hS : S.length < 1000000) :
    Calls Try.prog 69 #[.slice ra r.length rc, .slice a S.length c, .agg #[.int .i64 t, .int .i64 id]] w fun e w' => e = .returned (.bool (beatsB r S t id)) ∧ Below w.heap.size w w' := by
  obtain ⟨n, hn⟩ : ∃ n, S.length = n := ⟨_, rfl⟩
  obtain ⟨m, hm⟩ : ∃ n, r.length = n := ⟨_, rfl⟩
  have HAt := Lib.hid (fun (A : World) (hA : Below w.heap.size w A) (id : Int) => pat_ok ra rc r id A (h1.below (Nat.le_refl _) hA) hl)
  have HK := Lib.hid h2
  rw [hm] at HAt ⊢
  rw [hn] at hS ⊢
  have HN := Lib.hid hn
  have HM := Lib.hid hm
  clear h1 h2 hn hm hl
  obtain ⟨bk, hbk⟩ : ∃ b, w.heap.size = b := ⟨_, rfl⟩
  obtain ⟨w1, hw1⟩ : ∃ x, w.alloc (.cells #[.int .i64 t, .int .i64 id] 24) = x := ⟨_, rfl⟩
  have hk1 := (On.emp w).new1 24 #[.int .i64 t, .int .i64 id]
  rw [hw1] at hk1
  obtain ⟨bl, hbl0⟩ : ∃ b, w1.heap.size = b := ⟨_, rfl⟩
  obtain ⟨w2, hw2⟩ : ∃ x, w1.alloc (.cells #[.int .i64 0, .int .i64 0] 24) = x := ⟨_, rfl⟩
  have hl1 := hk1.new1 24 #[.int .i64 0, .int .i64 0]
  rw [hw2, hbl0, hbk] at hl1
  have hbl1 : bk + 1 = bl := by rw [← hbl0, ← hw1, ← hbk]; simp
  have k00 := (hl1).bx 0 rfl
  have k00f := ((hl1).box1 0).2
  have k01 := (hl1).bx 1 rfl
  have k01f := ((hl1).box1 1).2
  have hl2 := hl1.box_set 0 (.int .i64 0)
  have m01 := (hl2).bx 1 rfl
  have m01f := ((hl2).box1 1).2
  have HL1 := Lib.hid (hl2.box_set 1 (.int .i64 0))
  clear hk1 hl1 hl2
  go_enter Try.func69, Try.ntmps69
  go_wp2_with fail

  go_loopg [7, 9] n (fun gh s7 s9 wr => ∃ i : Nat, i + gh = n ∧ s7 = .int .i64 ((hitS r (S.take i)).length : Int) ∧ s9 = .int .i64 (i : Int) ∧ On w wr (sep (boxA bl 24 #[.int .i64 (lastH (hitS r (S.take i))).2, .int .i64 (lastH (hitS r (S.take i))).1]) (sep (boxA bk 24 #[.int .i64 t, .int .i64 id]) emp)))
  case atStart => exact ⟨0, by omega, rfl, rfl, HL1.out⟩
  case round =>
    obtain ⟨i, hi, rfl, rfl, hon⟩ := hrel
    by_cases hlt : i < n
    · have hltI : (i : Int) < (n : Int) := by omega
      have hi0 : (0 : Int) ≤ (i : Int) := by omega
      obtain ⟨x, hx⟩ : ∃ x, S[i]? = some x := ⟨_, List.getElem?_eq_getElem (by rw [HN.out]; exact hlt)⟩
      have hxk := kv_at hx
      obtain ⟨b, off, rfl, hblk, hc⟩ := keysAt_get HK.out (n := n) (by omega) (by unfold kv; rw [List.length_map, HN.out])
      obtain ⟨hc0, hc1⟩ := hc i hlt
      rw [hxk, Option.getD_some] at hc0 hc1
      have hb : Below w.heap.size w wr := by obtain ⟨_, _, hb, _⟩ := hon; exact hb
      have q0 : wr.cell? ⟨b, off + i * 2, none⟩ = some (.int .i64 x.2) := (hb.cell (by exact hblk)).trans hc0
      have q1 : wr.cell? ⟨b, off + i * 2 + 1, none⟩ = some (.int .i64 x.1) := (hb.cell (by exact hblk)).trans hc1
      have hst := hitS_take (r := r) hx
      have hng := atI_neg r x.1
      have HA2 := Lib.hid (HAt.out wr hb x.1)
      have hil : (hitS r (S.take i)).length ≤ i := by
        have h1 : (hitS r (S.take i)).length ≤ (S.take i).length := List.length_filter_le _ _
        rw [List.length_take] at h1
        omega
      obtain ⟨L, hL⟩ : ∃ L, hitS r (S.take i) = L := ⟨_, rfl⟩
      rw [hL] at hst hil hon ⊢
      obtain ⟨ll, hll⟩ : ∃ l, L.length = l := ⟨_, rfl⟩
      rw [hll] at hil ⊢
      obtain ⟨p, hp⟩ : ∃ p, lastH L = p := ⟨_, rfl⟩
      rw [hp] at hon
      have HOn := Lib.hid hon
      by_cases hin : x.1 ∈ r
      · rw [if_pos hin] at hst
        rw [decide_eq_true hin] at hng
        obtain ⟨z, hz⟩ : ∃ z, atI r x.1 = z := ⟨_, rfl⟩
        rw [hz] at hng HA2
        have g0 : (0 : Int) ≤ z := of_decide_eq_true hng
        have HSt := Lib.hid hst
        have HLl := Lib.hid hll
        have hwr : IntKind.i64.wrap ((ll : Int) + 1) = (ll : Int) + 1 := IntWalk.i64_in _ (by omega)
        have HC0 := Lib.hid hc0
        have HC1 := Lib.hid hc1
        clear hon hb hx hxk hc hc0 hc1 hst hng hin hz hL hp hll
        go_wp2_with fail
        refine HA2.out.mono ?_
        rintro e x1 ⟨rfl, hb1⟩
        have h1 := HOn.out.below hb1
        have hb : Below w.heap.size w x1 := by obtain ⟨_, _, hb, _⟩ := h1; exact hb
        have r0 : x1.cell? ⟨b, off + i * 2, none⟩ = some (.int .i64 x.2) := (hb.cell (by exact hblk)).trans HC0.out
        have r1 : x1.cell? ⟨b, off + i * 2 + 1, none⟩ = some (.int .i64 x.1) := (hb.cell (by exact hblk)).trans HC1.out
        have k00 := (h1).bx 0 rfl
        have k00f := ((h1).box1 0).2
        have k01 := (h1).bx 1 rfl
        have k01f := ((h1).box1 1).2
        have h2 := h1.box_set 0 (.int .i64 x.2)
        have m01 := (h2).bx 1 rfl
        have m01f := ((h2).box1 1).2
        have H3 := Lib.hid (h2.box_set 1 (.int .i64 x.1))
        clear hb1 h1 hb h2
        go_wp2_with fail
        go_roundg (n - (i + 1))
        case measure => omega
        case rel => exact ⟨i + 1, by omega, by rw [HSt.out, List.length_append, HLl.out]; go_num, by go_num, by rw [HSt.out, lastH_snoc]; exact H3.out⟩
      · rw [if_neg hin] at hst
        rw [decide_eq_false hin] at hng
        obtain ⟨z, hz⟩ : ∃ z, atI r x.1 = z := ⟨_, rfl⟩
        rw [hz] at hng HA2
        have g0 : ¬ (0 : Int) ≤ z := of_decide_eq_false hng
        have HSt := Lib.hid hst
        have HLl := Lib.hid hll
        have HPp := Lib.hid hp
        clear hon hb hx hxk hc hc0 hc1 hst hng hin hz hL hp hll
        go_wp2_with fail
        refine HA2.out.mono ?_
        rintro e x1 ⟨rfl, hb1⟩
        have H3 := Lib.hid (HOn.out.below hb1)
        clear hb1
        go_wp2_with fail
        go_roundg (n - (i + 1))
        case measure => omega
        case rel => exact ⟨i + 1, by omega, by rw [HSt.out, HLl.out], by go_num, by rw [HSt.out, HPp.out]; exact H3.out⟩
    · have hin : i = n := by omega
      rw [List.take_of_length_le (by rw [HN.out]; omega)] at hon ⊢
      obtain ⟨L, hL⟩ : ∃ L, hitS r S = L := ⟨_, rfl⟩
      rw [hL] at hon ⊢
      obtain ⟨ll, hll⟩ : ∃ l, L.length = l := ⟨_, rfl⟩
      rw [hll]
      obtain ⟨p, hp⟩ : ∃ p, lastH L = p := ⟨_, rfl⟩
      rw [hp] at hon
      have he : beatsB r S t id = (decide (ll < m) || bef (t, id) (p.2, p.1)) := by
        unfold beatsB
        rw [hL, hll, hp, HM.out]
      have HE := Lib.hid he
      have hb : Below w.heap.size w wr := by obtain ⟨_, _, hb, _⟩ := hon; exact hb
      have HB := Lib.hid hb
      have k00 := (hon).bx 0 rfl
      have k01 := (hon).bx 1 rfl
      have h1 := hon.out1
      have m00 := (h1).bx 0 rfl
      have m01 := (h1).bx 1 rfl
      have HA := Lib.hid (Ahead_any t id p.2 p.1 wr)
      subst hin
      by_cases hlm : ll < m
      · have hlmI : (ll : Int) < (m : Int) := by omega
        have HLm := Lib.hid hlm
        clear hon hL hll hp he hb h1 hlm
        go_wp2_with fail
        go_ret
        exact ⟨by rw [HE.out, decide_eq_true HLm.out]; rfl, HB.out⟩
      · have hlmI : ¬ (ll : Int) < (m : Int) := by omega
        have HLm := Lib.hid hlm
        clear hon hL hll hp he hb h1 hlm
        go_wp2_with fail
        refine HA.out.mono ?_
        rintro e x1 ⟨rfl, hb1⟩
        have HB1 := Lib.hid hb1
        clear hb1
        go_wp2_with fail
        go_ret
        exact ⟨by rw [HE.out, decide_eq_false HLm.out]; rfl, HB.out.trans (HB1.out.mono HB.out.size)⟩
end
end Go.Proofs.Ytkjpkhpiojahkaa
