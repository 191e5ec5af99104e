/-
  Walk: TimersSharp.
-/
import Derived.Test.YtkjpkhpiojahkaaTA
namespace Go.Proofs.Ytkjpkhpiojahkaa
set_option linter.unusedVariables false
open Go.RowKit Hp
attribute [local go_sem] Oper.semAt_some

theorem wf_small {i : Int} (h0 : 0 ≤ i) (h1 : i ≤ 1000000) : (Lit.int .i64 i).wf = true := by
  simp [Lit.wf, IntKind.min, IntKind.max, IntKind.signed, IntKind.bits]; omega
set_option maxRecDepth 100000 in
set_option maxHeartbeats 8000000 in
theorem sharp_ok (a : Option Addr) (cap : Nat) (zs : List Int) (w : World) (hc : IntsAt w a zs) :
    Calls Try.prog 8 #[.slice a zs.length cap] w fun e w' => e = .returned (.bool true) ∧ Below w.heap.size w w' := by
  obtain ⟨n, hn⟩ : ∃ n, zs.length = n := ⟨_, rfl⟩
  rw [hn]
  by_cases h60 : n ≤ 60
  · have g1 : decide ((60 : Int) < (n : Int)) = false := by simp; omega
    have HN0 := Lib.hid (T_new (On.emp w) 60 (by decide) (by decide))
    have HC := Lib.hid hc
    have HN := Lib.hid hn
    clear hc hn
    go_enter Try.func8, Try.ntmps8
    go_wp2_with fail
    refine HN0.out.mono ?_
    rintro e w1 ⟨tb, rfl, h1⟩
    have H1 := Lib.hid h1
    clear h1
    go_wp2_with fail
    go_loopg [5, 6] n (fun gh s4 s5 wr => ∃ (i : Nat) (S : List (It Int)), i + gh = n ∧ s4 = .int .i64 (S.length : Int) ∧ s5 = .int .i64 (i : Int) ∧ Sorted ltI S ∧ Timed S ∧ S.length ≤ i ∧ (∀ x ∈ S, x.1 < (i : Int)) ∧ On w wr (sep (tqA tb 60 S 0 0) emp))
    case atStart => exact ⟨0, [], by omega, rfl, rfl, List.Pairwise.nil, (fun x hx => by cases hx), by simp, (fun x hx => by cases hx), H1.out⟩
    case round =>
      obtain ⟨i, S, hi, rfl, rfl, hs, ht, hsl, hid, hon⟩ := hrel
      by_cases hlt : i < n
      · have hltI : (i : Int) < (n : Int) := by omega
        have hi0 : (0 : Int) ≤ (i : Int) := by omega
        obtain ⟨b, off, rfl, hb, hcc⟩ := HC.out.row (by rw [HN.out]; omega)
        obtain ⟨x, hx⟩ : ∃ x, zs[i]?.getD 0 = x := ⟨_, rfl⟩
        have q0 : wr.cell? ⟨b, off + i, none⟩ = some (.int .i64 x) := by rw [← hx]; exact (hon.to_below.cell (by exact hb)).trans (hcc i (by rw [HN.out]; exact hlt))
        have hhas : has S (i : Int) = false := has_none.2 fun y hy => by have := hid y hy; omega
        obtain ⟨ae, hae⟩ : ∃ ae, armE S 60 (i : Int) x = ae := ⟨_, rfl⟩
        have har := T_arm hon hs (by omega) (i : Int) x (wf_small hi0 (by omega))
        rw [hae] at har
        obtain ⟨S2, hS2⟩ : ∃ T, armS S 60 (i : Int) x = T := ⟨_, rfl⟩
        rw [hS2] at har
        have HAr := Lib.hid har
        have haE : ae = timeE x := by
          rw [← hae]; unfold armE
          rw [if_neg (by omega)]
          split
          · rename_i h0; rw [if_neg (by rintro ⟨_, h⟩; omega), h0]
          · rfl
        have hsl60 : S.length ≤ 60 := by omega
        by_cases ht0 : timeE x = 0
        · have hae0 : ae = 0 := by rw [haE, ht0]
          have hS2' : S2 = ins ltI ((i : Int), x) S := by rw [← hS2]; unfold armS; rw [hae, if_pos hae0, without_none hhas]
          have HS := Lib.hid (show Sorted ltI S2 by rw [hS2']; exact ins_sorted ltI_swo hs fun y hy => (fun e => by have := hid y hy; rw [e] at this; exact absurd this (by simp)))
          have HT := Lib.hid (show Timed S2 by
            rw [hS2']
            intro y hy
            rcases ins_mem.1 hy with h | h
            · rw [h]; exact ht0
            · exact ht y h)
          have HL := Lib.hid (show S2.length = S.length + 1 by rw [hS2', ins_length])
          have HI := Lib.hid (show ∀ y ∈ S2, y.1 < ((i + 1 : Nat) : Int) by
            rw [hS2']
            intro y hy
            rcases ins_mem.1 hy with h | h
            · rw [h]; simp; omega
            · have := hid y h; omega)
          subst hae0
          clear har hs ht hid hon hcc hx hS2 hS2' haE hhas ht0 hae
          go_wp2_with fail
          refine HAr.out.mono ?_
          rintro e x1 ⟨rfl, h2⟩
          have H2 := Lib.hid h2
          clear h2
          go_wp2_with fail
          go_roundg (n - (i + 1))
          case measure => omega
          case rel => exact ⟨i + 1, S2, by omega, by rw [HL.out]; go_num, by go_num, HS.out, HT.out, by rw [HL.out]; omega, HI.out, H2.out⟩
        · have hae0 : (ae == 0) = false := by rw [haE]; simpa using ht0
          have hS2' : S2 = S := by rw [← hS2]; unfold armS; rw [hae, if_neg (by rw [haE]; exact ht0)]
          subst hS2'
          have HS := Lib.hid hs
          have HT := Lib.hid ht
          have HI := Lib.hid hid
          clear har hs ht hid hon hcc hx hS2 haE hhas ht0 hae
          go_wp2_with fail
          refine HAr.out.mono ?_
          rintro e x1 ⟨rfl, h2⟩
          have H2 := Lib.hid h2
          clear h2
          go_wp2_with fail
          go_roundg (n - (i + 1))
          case measure => omega
          case rel => exact ⟨i + 1, S2, by omega, rfl, by go_num, HS.out, HT.out, by omega, fun y hy => by have := HI.out y hy; omega, H2.out⟩
      · have hin : i = n := by omega
        subst hin
        have hS60 : S.length ≤ 60 := by omega
        have HOn := Lib.hid hon
        have HS := Lib.hid hs
        have HT := Lib.hid ht
        clear hs ht hid hon hsl
        go_wp2_with fail
        go_loopg [5, 7] 60 (fun gh s5 s7 wy => ∃ (k : Nat) (T : List (It Int)) (now : Int), k + gh = 60 ∧ s5 = .int .i64 (T.length : Int) ∧ s7 = .int .i64 (k : Int) ∧ Sorted ltI T ∧ Timed T ∧ T.length + k ≤ 60 ∧ (∀ x ∈ T, now ≤ x.2) ∧ On w wy (sep (tqA tb 60 T now 0) emp))
        case atStart => exact ⟨0, S, 0, by omega, rfl, rfl, HS.out, HT.out, by omega, (fun x hx => (timeE_ok (HT.out x hx)).1), HOn.out⟩
        case round =>
          obtain ⟨k, T, now, hk, rfl, rfl, hs, ht, hsl, hnow, hon⟩ := hrel
          cases T with
          | nil =>
            have hnx : Calls Try.prog 49 #[.pointer (some ⟨tb, 0, none⟩)] wr fun e w' => e = .returned (.tuple #[.int .i64 0, .int .i64 14]) ∧ Below wr.heap.size wr w' := T_next hon hs
            have HNx := Lib.hid hnx
            have HOn2 := Lib.hid hon
            have hk60 : k ≤ 60 := by omega
            clear hs ht hsl hnow hon hnx
            simp only [List.length_nil]
            go_wp2_with fail
            all_goals
              refine HNx.out.mono ?_
              rintro e x2 ⟨rfl, hb2⟩
              have h3 := HOn2.out.below hb2
              have HWo := Lib.hid (T_worst h3)
              have HF := Lib.hid h3.to_below
              clear hb2 h3
              go_wp2_with fail
              refine HWo.out.mono ?_
              rintro e x3 ⟨rfl, rfl⟩
              have HAw := Lib.hid (tawake_ok x2)
              go_wp2_with fail
              refine HAw.out.mono ?_
              rintro e x4 ⟨rfl, hb4⟩
              have HB4 := Lib.hid hb4
              clear hb4
              go_wp2_with fail
              go_ret
              exact ⟨rfl, HF.out.trans (HB4.out.mono HF.out.size)⟩
          | cons x T =>
            have hx0 : timeE x.2 = 0 := ht x (List.mem_cons_self ..)
            have hdu : dueE now x.2 = 0 := dueE_ok hx0 (hnow x (List.mem_cons_self ..))
            have hle := sorted_le hs
            have hle' : ∀ y ∈ x :: T, x.2 ≤ y.2 := fun y hy => by
              rcases List.mem_cons.1 hy with h | h
              · rw [h]; exact Int.le_refl _
              · exact hle y h
            obtain ⟨L, hL⟩ : ∃ L, late (x :: T) x.2 = L := ⟨_, rfl⟩
            obtain ⟨U, hU⟩ : ∃ U, upto (x :: T) x.2 = U := ⟨_, rfl⟩
            have hlen := late_length (S := x :: T) (t := x.2)
            rw [hL, hU] at hlen
            have hU1 : 1 ≤ U.length := by rw [← hU, upto_head (Int.le_refl _)]; simp
            have hW0 : worstS 0 x.2 U = 0 := worst_none hle' 0 (Int.le_refl _) U fun y hy => hle' y ((List.IsPrefix.subset (hU ▸ upto_pre (x :: T) x.2)) hy)
            have hnx : Calls Try.prog 49 #[.pointer (some ⟨tb, 0, none⟩)] wr fun e w' => e = .returned (.tuple #[.int .i64 x.2, .int .i64 0]) ∧ Below wr.heap.size wr w' := T_next hon hs
            have hdue : ∀ A, Below wr.heap.size wr A → Calls Try.prog 45 #[.pointer (some ⟨tb, 0, none⟩), .int .i64 x.2] A fun e w' => ∃ v, e = .returned (.tuple #[v, .int .i64 0]) ∧ On w w' (sep (firedA v x.2 U) (sep (tqA tb 60 L x.2 0) emp)) := fun A hA => by
              have := T_due (hon.below hA) hs ht (by simp at hsl; simp; omega) Plain.emp.tame x.2 hdu
              rw [hU, hL, hW0] at this
              exact this
            obtain ⟨m, hm⟩ : ∃ m, (x :: T).length = m := ⟨_, rfl⟩
            rw [hm] at hlen hsl
            have HNx := Lib.hid hnx
            have HDu := Lib.hid hdue
            have HL := Lib.hid (show Sorted ltI L by rw [← hL]; exact late_sorted hs)
            have HT2 := Lib.hid (show Timed L by rw [← hL]; exact Timed.late ht)
            have HG := Lib.hid (show ∀ y ∈ L, x.2 ≤ y.2 by rw [← hL]; intro y hy; exact Int.le_of_lt (late_gt hs y hy))
            have hm1 : 1 ≤ m := by omega
            have hmI : (0 : Int) < (m : Int) := by omega
            have hkI : (k : Int) < 60 := by omega
            have hk0 : (0 : Int) ≤ (k : Int) := by omega
            obtain ⟨u, hu⟩ : ∃ u, U.length = u := ⟨_, rfl⟩
            obtain ⟨l, hl⟩ : ∃ l, L.length = l := ⟨_, rfl⟩
            rw [hu, hl] at hlen
            rw [hu] at hU1
            have HU := Lib.hid hu
            have HLl := Lib.hid hl
            have huN : ((u : Int) == 0) = false := by simp; omega
            have hml : IntKind.i64.wrap ((m : Int) - (u : Int)) = (l : Int) := by rw [IntWalk.i64_in _ (by omega)]; omega
            rw [hm]
            clear hs ht hnow hon hle hle' hL hU hW0 hnx hdue hm hx0 hdu hu hl
            go_wp2_with fail
            refine HNx.out.mono ?_
            rintro e x2 ⟨rfl, hb2⟩
            have HDu2 := Lib.hid (HDu.out x2 hb2)
            clear hb2
            go_wp2_with fail
            refine HDu2.out.mono ?_
            rintro e x3 ⟨v, rfl, h3⟩
            obtain ⟨fa, fc, rfl, _, _⟩ := h3.fired1
            rw [HU.out] at h3 ⊢
            have H3 := Lib.hid h3.out1
            clear h3
            go_wp2_with fail
            go_roundg (60 - (k + 1))
            case measure => omega
            case rel => exact ⟨k + 1, L, x.2, by omega, by rw [HLl.out], by go_num, HL.out, HT2.out, by rw [HLl.out]; omega, HG.out, H3.out⟩
  · have g1 : decide ((60 : Int) < (n : Int)) = true := by simp; omega
    have HA := Lib.hid (tawake_ok w)
    clear hc hn
    go_enter Try.func8, Try.ntmps8
    go_wp2_with fail
    refine HA.out.mono ?_
    rintro e w3 ⟨rfl, hb3⟩
    have HB3 := Lib.hid hb3
    clear hb3
    go_wp2_with fail
    go_ret
    exact ⟨rfl, HB3.out⟩
end Go.Proofs.Ytkjpkhpiojahkaa
