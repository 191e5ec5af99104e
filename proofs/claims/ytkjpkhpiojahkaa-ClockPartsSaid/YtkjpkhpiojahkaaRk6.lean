/-
  The document's clock in memory: Late, Step.
-/
import Derived.Test.YtkjpkhpiojahkaaRk5
namespace Go.Proofs.Ytkjpkhpiojahkaa
set_option linter.unusedVariables false
open Go.RowKit Hp
attribute [local go_sem] Oper.semAt_some
theorem RkOk.lateC {c : Ck} {r : Rk} {zs : List Int} (h : RkOk c r) (he : lateE zs = 0) : RkOk (c.lateC zs) { r with lates := r.lates ++ zs } := by
  unfold Ck.lateC
  rw [if_pos he]
  exact ⟨by show r.lates ++ zs = c.lates ++ zs; rw [h.lates], h.now, h.worst, h.perm, h.each⟩
section
variable {w0 w : World} {R : Ast} {rb : Nat} {c : Ck}
set_option maxRecDepth 100000 in
set_option maxHeartbeats 8000000 in
theorem RK_late (h : On w0 w (sep (refK rb c) R)) (a : Option Addr) (cp : Nat) (zs : List Int) (hr : ∀ A, On w0 A R → IntsAt A a zs) (hl : zs.length + c.lates.length < 1000000) :
    Calls Try.prog 131 #[.pointer (some ⟨rb, 0, none⟩), .slice a zs.length cp] w fun e w' => e = .returned (.int .i64 (lateE zs)) ∧ On w0 w' (sep (refK rb (c.lateC zs)) R) := by
  obtain ⟨r, hro, h1⟩ := h.refk_open
  have hrd := hr w h.out1
  have H := Lib.hid h
  have HI := Lib.hid hrd
  obtain ⟨v1, v2, h2⟩ := h1.rk_open
  obtain ⟨va, vc, rfl, _⟩ := (h2.sw1.sw0).lat_read
  have q1 := h2.bx 1 rfl
  have hRd : ReadsI w (.slice a zs.length cp) zs.length zs := reads_intsAt hrd rfl
  have hll : r.lates.length = c.lates.length := by rw [hro.lates]
  have hmx : r.lates.length + zs.length ≤ maxLen := by unfold maxLen; omega
  have hby : (r.lates.length + zs.length) * 8 ≤ 140737488355328 := by omega
  obtain ⟨n, hn⟩ : ∃ n, zs.length = n := ⟨_, rfl⟩
  obtain ⟨E, hE⟩ : ∃ E, lateE zs = E := ⟨_, rfl⟩
  obtain ⟨G, hG⟩ : ∃ G, c.lateC zs = G := ⟨_, rfl⟩
  rw [hn] at hRd hmx hby ⊢
  rw [hE, hG]
  have hn6 : n < 1000000 := by omega
  have HE := Lib.hid hE
  have HG := Lib.hid hG
  have HRo := Lib.hid hro
  have H2 := Lib.hid (h2.sw1.sw0)
  have HRd := Lib.hid hRd
  have HN := Lib.hid hn
  clear h h1 h2 hr hrd hro hll hRd hn hE hG hl
  go_enter Try.func131, Try.ntmps131
  go_wp2_with fail
  go_loopg [5] n (fun gh s5 wr => ∃ i : Nat, i + gh = n ∧ s5 = .int .i64 (i : Int) ∧ (∀ x ∈ zs.take i, badL x = false) ∧ w = wr)
  case atStart => exact ⟨0, by omega, rfl, (fun x hx => by simp at hx), rfl⟩
  case round =>
    obtain ⟨i, hi, rfl, hb, rfl⟩ := hrel
    have HB := Lib.hid hb
    clear hb
    by_cases hlt : i < n
    · have hltI : (i : Int) < (n : Int) := by omega
      have hi0 : (0 : Int) ≤ (i : Int) := by omega
      obtain ⟨x, hx⟩ : ∃ x, zs[i]? = some x := ⟨_, List.getElem?_eq_getElem (by rw [HN.out]; exact hlt)⟩
      obtain ⟨b, off, rfl, _, hc⟩ := HI.out.row (by rw [HN.out]; omega)
      have q0 : w.cell? ⟨b, off + i, none⟩ = some (.int .i64 x) := by
        have := hc i (by rw [HN.out]; exact hlt)
        rw [hx] at this
        exact this
      have HX := Lib.hid hx
      clear hc hx
      by_cases h1 : x < 0
      · have he : E = 10 := by rw [← HE.out]; exact lateE_bad (List.mem_of_getElem? HX.out) (.inl h1)
        have HG1 := Lib.hid (show G = c by rw [← HG.out]; unfold Ck.lateC; rw [if_neg (by rw [HE.out, he]; decide)])
        subst he
        go_wp2_with fail
        go_ret
        exact ⟨rfl, by have := HG1.out; rw [this]; exact H.out⟩
      · by_cases h2 : 1073741824 < x
        · have he : E = 10 := by rw [← HE.out]; exact lateE_bad (List.mem_of_getElem? HX.out) (.inr h2)
          have HG1 := Lib.hid (show G = c by rw [← HG.out]; unfold Ck.lateC; rw [if_neg (by rw [HE.out, he]; decide)])
          subst he
          go_wp2_with fail
          go_ret
          exact ⟨rfl, by have := HG1.out; rw [this]; exact H.out⟩
        · have HBx := Lib.hid (show badL x = false by unfold badL; rw [decide_eq_false h1, decide_eq_false h2]; rfl)
          go_wp2_with fail
          go_roundg (n - (i + 1))
          case measure => omega
          case rel =>
            refine ⟨i + 1, by omega, by go_num, fun y hy => ?_, rfl⟩
            rw [List.take_add_one, HX.out] at hy
            rcases List.mem_append.1 hy with hy | hy
            · exact HB.out y hy
            · have : y = x := by simpa using hy
              rw [this]
              exact HBx.out
    · have hin : i = n := by omega
      subst hin
      have he : E = 0 := by rw [← HE.out]; exact lateE_take.1 (by have := HB.out; rw [List.take_of_length_le (by rw [HN.out]; omega)] at this; exact this)
      subst he
      have HRo2 := Lib.hid (HRo.out.lateC HE.out)
      go_wp2_with (at_builtin; go_loud (refine wpList_append_lat (by rfl) _ _ (by rfl) (by rfl) H2.out (by rfl) HRd.out hmx hby ?_; intro v' w2 h2 _; (obtain ⟨qa, qc, rfl, _⟩ := h2.lat_read); (obtain ⟨L, hL⟩ : ∃ x, (r.lates ++ zs).length = x := ⟨_, rfl⟩); rw [hL] at h2 ⊢; (have d1 := (h2.sw0).bx 1 rfl); (have d1f := ((h2.sw0).box1 1).2); (have H3 := Lib.hid ((h2.sw0).box_set 1 (.slice qa L qc))); clear h2 hL))
      go_ret
      refine ⟨rfl, ?_⟩
      have h3 := (H3.out.sw1)
      rw [← HG.out]
      exact On.refk_shut HRo2.out (On.rk_shut (r := { r with lates := r.lates ++ zs }) h3)
end
end Go.Proofs.Ytkjpkhpiojahkaa
