/-
  Walk: ClockSharp.
-/
import Derived.Test.YtkjpkhpiojahkaaCk9
namespace Go.Proofs.Ytkjpkhpiojahkaa
set_option linter.unusedVariables false
open Go.RowKit Hp
attribute [local go_sem] Oper.semAt_some
set_option maxRecDepth 100000 in
set_option maxHeartbeats 8000000 in
theorem ksharp_ok (a : Option Addr) (cap : Nat) (zs : List Int) (w : World) (hc : IntsAt w a zs) :
    Calls Try.prog 19 #[.slice a zs.length cap] w fun e w' => e = .returned (.bool true) ∧ Below w.heap.size w w' := by
  obtain ⟨n, hn⟩ : ∃ n, zs.length = n := ⟨_, rfl⟩
  rw [hn]
  by_cases h60 : n ≤ 60
  · have g1 : decide ((60 : Int) < (n : Int)) = false := by simp; omega
    have HN0 := Lib.hid (K_new (On.emp w))
    have HC := Lib.hid hc
    have HN := Lib.hid hn
    clear hc hn
    go_enter Try.func19, Try.ntmps19
    go_wp2_with fail
    refine HN0.out.mono ?_
    rintro e w1 ⟨cb, rfl, h1⟩
    have H1 := Lib.hid h1
    clear h1
    go_wp2_with fail
    go_loopg [4, 5] n (fun gh s4 s5 wr => ∃ (i : Nat) (c : Ck), i + gh = n ∧ s4 = .int .i64 (c.S.length : Int) ∧ s5 = .int .i64 (i : Int) ∧ ShOk c i ∧ c.S.length ≤ i ∧ On w wr (sep (ckA cb c) emp))
    case atStart => exact ⟨0, Ck.new, by omega, rfl, rfl, ShOk.new, Nat.le_refl _, H1.out⟩
    case round =>
      obtain ⟨i, c, hi, rfl, rfl, hs, hsl, hon⟩ := hrel
      by_cases hlt : i < n
      · have hltI : (i : Int) < (n : Int) := by omega
        have hi0 : (0 : Int) ≤ (i : Int) := by omega
        obtain ⟨b, off, rfl, hb, hcc⟩ := HC.out.row (by rw [HN.out]; omega)
        obtain ⟨x, hx⟩ : ∃ x, zs[i]?.getD 0 = x := ⟨_, rfl⟩
        have q0 : wr.cell? ⟨b, off + i, none⟩ = some (.int .i64 x) := by rw [← hx]; exact (hon.to_below.cell (by exact hb)).trans (hcc i (by rw [HN.out]; exact hlt))
        have hse := K_set hon hs.ok (by rw [hs.lates]; decide) 3 (i : Int) x
        rw [hs.setE (by omega)] at hse
        obtain ⟨E, hE⟩ : ∃ E, timeE x = E := ⟨_, rfl⟩
        rw [hE] at hse
        by_cases ht0 : E = 0
        · subst ht0
          obtain ⟨g3, g4⟩ := hs.set (a := x) (by omega) hE
          obtain ⟨G, hG⟩ : ∃ G, c.set 3 (i : Int) x = G := ⟨_, rfl⟩
          rw [hG] at g3 g4 hse
          have HSe := Lib.hid hse
          have H3 := Lib.hid g3
          have H4 := Lib.hid g4
          clear hs hon hcc hx hse hE g3 g4 hG
          go_wp2_with fail
          refine HSe.out.mono ?_
          rintro e x1 ⟨rfl, h2⟩
          have H2 := Lib.hid h2
          clear h2
          go_wp2_with fail
          go_roundg (n - (i + 1))
          case measure => omega
          case rel => exact ⟨i + 1, G, by omega, by rw [H4.out]; go_num, by go_num, H3.out, by rw [H4.out]; omega, H2.out⟩
        · have z : (E == 0) = false := by simpa using ht0
          rw [set_not (by rw [hs.setE (by omega), hE]; exact ht0)] at hse
          have HSe := Lib.hid hse
          have HS := Lib.hid hs
          clear hs hon hcc hx hse hE
          go_wp2_with fail
          refine HSe.out.mono ?_
          rintro e x1 ⟨rfl, h2⟩
          have H2 := Lib.hid h2
          clear h2
          go_wp2_with fail
          go_roundg (n - (i + 1))
          case measure => omega
          case rel => exact ⟨i + 1, c, by omega, rfl, by go_num, HS.out.more, by omega, H2.out⟩
      · have hin : i = n := by omega
        subst hin
        obtain ⟨hr1, T, hr2, hr3, hr4⟩ := hs.run h60
        have hrun := K_run Plain.emp.tame hon hs.ok 1099511627775
        rw [hr1, hr2] at hrun
        have hdo : CkOk { c with S := [], now := 1099511627775, worst := 0 } := by
          have := CkOk.run (c.S.length + 1) (to := 1099511627775) hs.ok
          rw [hr2] at this
          exact this
        obtain ⟨D, hD⟩ : ∃ D, ({ c with S := [], now := 1099511627775, worst := 0 } : Ck) = D := ⟨_, rfl⟩
        have hD1 : D.S = [] := by rw [← hD]
        have hD2 : D.worst = 0 := by rw [← hD]
        rw [hD] at hrun hdo
        rw [← hr3] at hsl ⊢
        have HRu := Lib.hid hrun
        have HDo := Lib.hid hdo
        have HT := Lib.hid hr4
        have HD1 := Lib.hid hD1
        have HD2 := Lib.hid hD2
        clear hr1 hr2 hr3 hr4 hrun hdo hD hD1 hD2 hs hon
        go_wp2_with fail
        refine HRu.out.mono ?_
        rintro e x2 ⟨v, rfl, h3⟩
        obtain ⟨ea, ec, rfl⟩ := h3.evs_form
        obtain ⟨m, hm⟩ : ∃ m, T.length = m := ⟨_, rfl⟩
        have h3' : On w x2 (sep (evsA (.slice ea T.length ec) T) (sep (ckA cb D) emp)) := h3
        rw [hm] at h3' hsl ⊢
        have H3 := Lib.hid h3'
        have HM := Lib.hid hm
        clear h3 h3' hm
        go_wp2_with fail
        go_loopg [8] m (fun gh s8 wr => ∃ k : Nat, k + gh = m ∧ s8 = .int .i64 (k : Int) ∧ On w wr (sep (evsA (.slice ea m ec) T) (sep (ckA cb D) emp)))
        case atStart => exact ⟨0, by omega, rfl, H3.out⟩
        case round =>
          obtain ⟨k, hk, rfl, hon⟩ := hrel
          by_cases hlt : k < m
          · have hltI : (k : Int) < (m : Int) := by omega
            have hk0 : (0 : Int) ≤ (k : Int) := by omega
            obtain ⟨x, hx⟩ : ∃ x, T[k]? = some x := ⟨_, List.getElem?_eq_getElem (by rw [HM.out]; exact hlt)⟩
            obtain ⟨u1, u2, u3⟩ := HT.out x (List.mem_of_getElem? hx)
            obtain ⟨kd, id, at', lt, nw⟩ := x
            simp only at u1 u2 u3
            subst u1 u2 u3
            obtain ⟨b2, rfl, f0, f1, f2, f3, f4⟩ := hon.evs_at hx
            have z : (nw != nw) = false := by simp
            have HOn := Lib.hid hon
            clear hon hx f1
            go_wp2_with fail
            have f0_d := drewC f0
            have f2_d := drewC f2
            have f3_d := drewC f3
            have f4_d := drewC f4
            refine wp_region_loose (fun A => A = wr.drew) (by kernel_rfl) (by kernel_rfl) rfl ?_
            repeat (first
              | (refine loose_skip (by rfl) ?_; simp only [Act.put, List.setIfInBounds_toArray, List.set_cons_zero, List.set_cons_succ])
              | (refine loose_val (v := ?_) (by rfl) ?_ ?_; rotate_left; (focus (intro A' hA'; subst hA'; go_simp; first | done | with_reducible rfl)); simp only [Act.put, List.setIfInBounds_toArray, List.set_cons_zero, List.set_cons_succ]))
            refine loose_nil ?_
            intro A3 hA3
            subst hA3
            go_wp2_with fail
            go_roundg (m - (k + 1))
            case measure => omega
            case rel => exact ⟨k + 1, by omega, by go_num, HOn.out.below (Below.refl _ wr).drew⟩
          · have him : k = m := by omega
            subst him
            have h4 := hon.out1
            have hle := K_len Plain.emp.tame h4 HDo.out
            rw [HD1.out] at hle
            have hle' : Calls Try.prog 76 #[.pointer (some ⟨cb, 0, none⟩)] wr fun e w' => e = .returned (.int .i64 0) ∧ On w w' (sep (ckA cb D) emp) := hle
            have HLe := Lib.hid hle'
            clear hon h4 hle hle'
            go_wp2_with fail
            refine HLe.out.mono ?_
            rintro e x3 ⟨rfl, h5⟩
            have hwo := K_worst h5 HDo.out
            rw [HD2.out] at hwo
            have HWo := Lib.hid hwo
            have HF := Lib.hid h5.to_below
            clear h5 hwo
            go_wp2_with fail
            refine HWo.out.mono ?_
            rintro e x4 ⟨rfl, rfl⟩
            have HAw := Lib.hid (kawake_ok x3)
            go_wp2_with fail
            refine HAw.out.mono ?_
            rintro e x4 ⟨rfl, hb4⟩
            have HB4 := Lib.hid hb4
            clear hb4
            go_wp2_with fail
            go_ret
            exact ⟨rfl, HF.out.trans (HB4.out.mono HF.out.size)⟩
  · have g1 : decide ((60 : Int) < (n : Int)) = true := by simp; omega
    have HN0 := Lib.hid (K_new (On.emp w))
    clear hc hn
    go_enter Try.func19, Try.ntmps19
    go_wp2_with fail
    refine HN0.out.mono ?_
    rintro e w1 ⟨cb, rfl, h1⟩
    have HA := Lib.hid (kawake_ok w1)
    have HF := Lib.hid h1.to_below
    clear h1
    go_wp2_with fail
    refine HA.out.mono ?_
    rintro e w3 ⟨rfl, hb3⟩
    have HB3 := Lib.hid hb3
    clear hb3
    go_wp2_with fail
    go_ret
    exact ⟨rfl, HF.out.trans (HB3.out.mono HF.out.size)⟩
end Go.Proofs.Ytkjpkhpiojahkaa
