/-
  Place: servers in a queue, and in the document's answer's list; what is wrong with workers and servers.
-/
import Derived.Test.YtkjpkhpiojahkaaPc2
namespace Go.Proofs.Ytkjpkhpiojahkaa
set_option linter.unusedVariables false
open Go.RowKit Hp
attribute [local go_sem] Oper.semAt_some
section
variable {w0 w : World} {R : Ast} {a : Option Addr} {cap : Nat} {ks : List (Int × Int)}
set_option maxRecDepth 100000 in
set_option maxHeartbeats 4000000 in
theorem servers_ok (h : On w0 w R) (hk : ∀ A, On w0 A R → Ke.KeysAt A a ks) (hwf : ∀ k ∈ ks, (Lit.int .i64 k.2).wf = true) (hcap : ks.length ≤ cap) (hcm : cap ≤ 9223372036854775807) (hl : ks.length < 700000) :
    Calls Try.prog 123 #[.slice a ks.length cap] w fun e w' => ∃ v, e = .returned (.tuple #[v, .int .i64 (servE ks)]) ∧ (servE ks ≠ 0 → On w0 w' R) ∧ (servE ks = 0 → ∃ q, v = .pointer (some ⟨q, 0, none⟩) ∧ On w0 w' (sep (quA q (putAll [] ks)) R)) := by
  obtain ⟨n, hn⟩ : ∃ n, ks.length = n := ⟨_, rfl⟩
  rw [hn]
  by_cases h64 : 64 < n
  · have g1 : decide ((64 : Int) < (n : Int)) = true := by simp; omega
    have e : servE ks = 13 := by unfold servE; rw [if_pos (by omega)]
    rw [e]
    have H := Lib.hid h
    clear h e hn hk hwf
    go_enter Try.func123, Try.ntmps123
    go_wp2_with fail
    go_ret2
    exact ⟨_, rfl, fun _ => H.out, fun h => by cases h⟩
  · have g1 : decide ((64 : Int) < (n : Int)) = false := by simp; omega
    have e : servE ks = putErr [] ks := by unfold servE; rw [if_neg (by omega)]
    rw [e]
    obtain ⟨i, hi1, hi2, hi3, hi4, hi5⟩ := putErr_put ks
    have HN0 := Lib.hid (Q_new h)
    have HP := Lib.hid (fun (A : World) (q : Nat) (hA : On w0 A (sep (quA q []) R)) => Q_put hA a cap ks (fun A T hA => hk A hA.out1) hwf hcap hcm (by simp; omega) i hi1 hi2 (putErr [] ks) hi4 hi3)
    rw [hn] at HP
    obtain ⟨E, hE⟩ : ∃ E, putErr [] ks = E := ⟨_, rfl⟩
    rw [hE] at HP hi5 ⊢
    have HI := Lib.hid hi5
    have HNn := Lib.hid hn
    clear h e hn hk hwf hi1 hi2 hi3 hi4 hi5 hE
    go_enter Try.func123, Try.ntmps123
    go_wp2_with fail
    refine HN0.out.mono ?_
    rintro e w1 ⟨q, rfl, h1⟩
    have HP1 := Lib.hid (HP.out _ _ h1)
    clear h1
    go_wp2_with fail
    refine HP1.out.mono ?_
    rintro e w2 ⟨rfl, h2⟩
    have H2 := Lib.hid h2
    clear h2
    go_wp2_with fail
    go_ret2
    refine ⟨_, rfl, fun _ => H2.out.out1, fun h0 => ⟨q, rfl, ?_⟩⟩
    have := H2.out
    rw [HI.out h0] at this
    unfold putT at this
    rw [if_neg (by rw [HNn.out]; omega)] at this
    unfold putAll
    rw [HNn.out]
    exact this
set_option maxRecDepth 100000 in
set_option maxHeartbeats 4000000 in
theorem both_ok {r : List Int} {ra : Option Addr} {rc : Nat} (h : On w0 w R) (hr : ∀ A, On w0 A R → IntsAt A ra r) (hrl : r.length < 1000000) (hrw : ∀ x ∈ r, (Lit.int .i64 x).wf = true)
    (hk : ∀ A, On w0 A R → Ke.KeysAt A a ks) (hwf : ∀ k ∈ ks, (Lit.int .i64 k.2).wf = true) (hcap : ks.length ≤ cap) (hcm : cap ≤ 9223372036854775807) (hl : ks.length < 700000) :
    Calls Try.prog 110 #[.slice ra r.length rc, .slice a ks.length cap] w fun e w' => ∃ v, e = .returned (.tuple #[v, .int .i64 (bothE r ks)]) ∧ (bothE r ks ≠ 0 → On w0 w' R) ∧ (bothE r ks = 0 → ∃ q, v = .pointer (some ⟨q, 0, none⟩) ∧ On w0 w' (sep (quA q (putAll [] ks)) R)) := by
  have HW := Lib.hid (pworkers_ok ra rc r w (hr w h) hrl hrw)
  have HS := Lib.hid (fun (A : World) (hA : On w0 A R) => servers_ok hA hk hwf hcap hcm hl)
  have H := Lib.hid h
  obtain ⟨we, hwe⟩ : ∃ e, workE r = e := ⟨_, rfl⟩
  rw [hwe] at HW
  clear h hr hk hwf hrw
  by_cases h0 : we = 0
  · have e : bothE r ks = servE ks := by unfold bothE; rw [if_pos (hwe.trans h0)]
    rw [e]
    obtain ⟨se, hse⟩ : ∃ e, servE ks = e := ⟨_, rfl⟩
    rw [hse] at HS ⊢
    subst h0
    clear e hwe hse
    go_enter Try.func110, Try.ntmps110
    go_wp2_with fail
    refine HW.out.mono ?_
    rintro e w1 ⟨rfl, hb1⟩
    have HS1 := Lib.hid (HS.out w1 (H.out.below hb1))
    clear hb1
    go_wp2_with fail
    refine HS1.out.mono ?_
    rintro e w2 ⟨v, rfl, hA, hB⟩
    have HA := Lib.hid hA
    have HB := Lib.hid hB
    clear hA hB
    go_wp2_with fail
    go_ret2
    exact ⟨v, rfl, HA.out, HB.out⟩
  · have e : bothE r ks = we := by unfold bothE; rw [if_neg (by rw [hwe]; exact h0), hwe]
    rw [e]
    have z : (we != 0) = true := by simpa using h0
    clear e hwe
    go_enter Try.func110, Try.ntmps110
    go_wp2_with fail
    refine HW.out.mono ?_
    rintro e w1 ⟨rfl, hb1⟩
    have HB1 := Lib.hid hb1
    clear hb1
    go_wp2_with fail
    go_ret2
    exact ⟨_, rfl, fun _ => H.out.below HB1.out, fun hh => absurd hh h0⟩
/-- the row of a list, without its box -/
theorem On.ref_row {rb : Nat} {S : List (It Int)} (h : On w0 w (sep (refA rb S) R)) : ∃ a c, w.cell? ⟨rb, 0, none⟩ = some (.slice a S.length c) ∧ On w0 w (sep (keysA (.slice a S.length c) S) R) := by
  obtain ⟨a, c, h1⟩ := h.ref_open
  exact ⟨a, c, (h1.box1 0).1, h1.out1⟩
set_option maxRecDepth 100000 in
set_option maxHeartbeats 4000000 in
theorem rservers_ok (h : On w0 w R) (hk : ∀ A, On w0 A R → Ke.KeysAt A a ks) (hl : ks.length < 700000) :
    Calls Try.prog 68 #[.slice a ks.length cap] w fun e w' => ∃ v, e = .returned (.tuple #[v, .int .i64 (servE ks)]) ∧ On w0 w' (sep (keysA v (servS ks)) R) := by
  obtain ⟨n, hn⟩ : ∃ n, ks.length = n := ⟨_, rfl⟩
  rw [hn]
  by_cases h64 : 64 < n
  · have g1 : decide ((64 : Int) < (n : Int)) = true := by simp; omega
    have e : servE ks = 13 := by unfold servE; rw [if_pos (by omega)]
    have e2 : servS ks = [] := by unfold servS; rw [if_neg (by rw [e]; decide)]
    rw [e, e2]
    have H := Lib.hid (h.add (Below.refl _ w) (keysA_nil w) (fun _ h => h.elim))
    clear h e hn hk e2
    go_enter Try.func68, Try.ntmps68
    go_wp2_with fail
    go_ret2
    exact ⟨_, rfl, H.out⟩
  · have g1 : decide ((64 : Int) < (n : Int)) = false := by simp; omega
    have e : servE ks = putErr [] ks := by unfold servE; rw [if_neg (by omega)]
    obtain ⟨i, hi1, hi2, hi3, hi4, hi5⟩ := putErr_put ks
    have e2 : putT [] ks ks.length i = servS ks := by
      unfold putT servS
      rw [e]
      by_cases hi : i < ks.length
      · rw [if_pos hi, if_neg (hi3 hi)]
      · rw [if_neg hi, if_pos (by rw [hi4, if_neg hi])]
        rfl
    rw [e]
    obtain ⟨hb, hhb⟩ : ∃ b, w.heap.size = b := ⟨_, rfl⟩
    obtain ⟨w1, hw1⟩ : ∃ x, w.alloc (.cells #[.slice none 0 0] 32) = x := ⟨_, rfl⟩
    have h1 := h.add ((Below.refl _ w).alloc (Nat.le_refl _) _) (refA_new w) (fun j hj => by omega)
    rw [hw1, hhb] at h1
    have hp := RR_put h1 a cap ks (fun A hA => hk A hA.out1) (by simp; omega) i hi1 hi2 (putErr [] ks) hi4 hi3
    rw [e2, hn] at hp
    obtain ⟨E, hE⟩ : ∃ E, putErr [] ks = E := ⟨_, rfl⟩
    rw [hE] at hp ⊢
    have HP := Lib.hid hp
    clear h e hn hk hi1 hi2 hi3 hi4 hi5 hE h1 hp e2
    go_enter Try.func68, Try.ntmps68
    go_wp2_with fail
    refine HP.out.mono ?_
    rintro e w2 ⟨rfl, h2⟩
    obtain ⟨la, lc, k0, h3⟩ := h2.ref_row
    have H3 := Lib.hid h3
    clear h2 h3 hw1 hhb
    go_wp2_with fail
    go_ret2
    exact ⟨_, rfl, H3.out⟩
set_option maxRecDepth 100000 in
set_option maxHeartbeats 4000000 in
theorem wrong_ok {r : List Int} {ra : Option Addr} {rc : Nat} (h : On w0 w R) (hr : ∀ A, On w0 A R → IntsAt A ra r) (hrl : r.length < 1000000) (hk : ∀ A, On w0 A R → Ke.KeysAt A a ks) (hl : ks.length < 700000) :
    Calls Try.prog 59 #[.slice ra r.length rc, .slice a ks.length cap] w fun e w' => ∃ v, e = .returned (.tuple #[v, .int .i64 (bothE r ks)]) ∧ On w0 w' (sep (keysA v (bothS r ks)) R) := by
  have HW := Lib.hid (pworkers_ref ra rc r w (hr w h) hrl)
  have HS := Lib.hid (fun (A : World) (hA : On w0 A R) => rservers_ok (cap := cap) hA hk hl)
  have H := Lib.hid h
  obtain ⟨we, hwe⟩ : ∃ e, workE r = e := ⟨_, rfl⟩
  rw [hwe] at HW
  clear h hr hk
  by_cases h0 : we = 0
  · have e : bothE r ks = servE ks := by unfold bothE; rw [if_pos (hwe.trans h0)]
    have e2 : bothS r ks = servS ks := by unfold bothS servS; rw [e]
    rw [e, e2]
    obtain ⟨se, hse⟩ : ∃ e, servE ks = e := ⟨_, rfl⟩
    rw [hse] at HS ⊢
    subst h0
    clear e hwe hse e2
    go_enter Try.func59, Try.ntmps59
    go_wp2_with fail
    refine HW.out.mono ?_
    rintro e w1 ⟨rfl, hb1⟩
    have HS1 := Lib.hid (HS.out w1 (H.out.below hb1))
    clear hb1
    go_wp2_with fail
    refine HS1.out.mono ?_
    rintro e w2 ⟨v, rfl, hA⟩
    have HA := Lib.hid hA
    clear hA
    go_wp2_with fail
    go_ret2
    exact ⟨v, rfl, HA.out⟩
  · have e : bothE r ks = we := by unfold bothE; rw [if_neg (by rw [hwe]; exact h0), hwe]
    have e2 : bothS r ks = [] := by unfold bothS; rw [if_neg (by rw [e]; exact h0)]
    rw [e, e2]
    have z : (we != 0) = true := by simpa using h0
    clear e hwe e2
    go_enter Try.func59, Try.ntmps59
    go_wp2_with fail
    refine HW.out.mono ?_
    rintro e w1 ⟨rfl, hb1⟩
    have H3 := Lib.hid ((H.out.below hb1).add (Below.refl _ w1) (keysA_nil w1) (fun _ h => h.elim))
    clear hb1
    go_wp2_with fail
    go_ret2
    exact ⟨_, rfl, H3.out⟩
end
end Go.Proofs.Ytkjpkhpiojahkaa
