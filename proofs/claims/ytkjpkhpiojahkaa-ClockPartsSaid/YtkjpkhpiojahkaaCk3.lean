/-
  Clock: Clone, Set, Clear, When, Next.
-/
import Derived.Test.YtkjpkhpiojahkaaCk2
namespace Go.Proofs.Ytkjpkhpiojahkaa
set_option linter.unusedVariables false
open Go.RowKit Hp
attribute [local go_sem] Oper.semAt_some
section
variable {w0 w : World} {R : Ast} {cb : Nat} {c : Ck}
theorem wf_in {x : Int} (h : -9223372036854775808 ≤ x ∧ x ≤ 9223372036854775807) : (Lit.int .i64 x).wf = true := by
  simp only [Lit.wf, Bool.and_eq_true, decide_eq_true_eq]
  exact h
theorem lat_box {b : Nat} {F : Nat → Prop} (h : (boxA b 3 #[]).holds w F) : (latA (.slice (some ⟨b, 0, none⟩) 0 0) []).holds w F :=
  .inr ⟨b, 0, 0, #[], rfl, h.1, Nat.le_refl _, Nat.zero_le _, Nat.le_refl _, fun j y hy => by simp at hy, h.2⟩
set_option maxRecDepth 100000 in
set_option maxHeartbeats 4000000 in
theorem clone_ok (h : On w0 w R) (ad : Addr) (n cp : Nat) (zs : List Int) (hr : ∀ A, On w0 A R → ReadsI A (.slice (some ad) n cp) n zs) (hl : n < 1000000) :
    Calls Try.prog 128 #[.slice (some ad) n cp] w fun e w' => ∃ v, e = .returned v ∧ On w0 w' (sep (latA v zs) R) := by
  obtain ⟨b, hb⟩ : ∃ b, w.heap.size = b := ⟨_, rfl⟩
  obtain ⟨W, hW⟩ : ∃ x, w.alloc (.cells #[] 3) = x := ⟨_, rfl⟩
  have h1 := h.new1 3 #[]
  rw [hW, hb] at h1
  have h2 : On w0 W (sep (latA (.slice (some ⟨b, 0, none⟩) 0 0) []) R) := h1.mono1 fun F hF => lat_box hF
  have HRd := Lib.hid (hr W h1.out1)
  have H2 := Lib.hid h2
  have hmx : ([] : List Int).length + n ≤ maxLen := by unfold maxLen; simp; omega
  have hby : (([] : List Int).length + n) * 8 ≤ 140737488355328 := by simp; omega
  have hq : ∀ w, (binOp .eql 54 (.slice (some ad) n cp) (.slice none 0 0)).run Try.prog w = .ok (.bool false) w := fun w => by kernel_rfl
  clear h h1 h2 hr
  go_enter Try.func128, Try.ntmps128
  go_wp2_with (at_builtin; go_loud (refine wpList_append_lat (by rfl) _ _ (by rfl) (by rfl) H2.out (by rfl) HRd.out hmx hby ?_; intro v' w2 h3 _; (have H3 := Lib.hid h3); clear h3))
  go_ret
  exact ⟨_, rfl, H3.out⟩
set_option maxRecDepth 100000 in
set_option maxHeartbeats 4000000 in
theorem K_clear (h : On w0 w (sep (ckA cb c) R)) (ho : CkOk c) (k id : Int) :
    Calls Try.prog 84 #[.pointer (some ⟨cb, 0, none⟩), .int .i64 k, .int .i64 id] w fun e w' => e = .returned (.int .i64 (c.clearE k id)) ∧ On w0 w' (sep (ckA cb (c.clear k id)) R) := by
  have HNu := Lib.hid (number_ok k id w)
  by_cases hm : mayT k id
  · obtain ⟨tb, v, h1⟩ := h.ck_open
    have c0 := h1.bxg (ck_q (tb := tb) (ats := c.ats) (v := v) (now := c.now) (worst := c.worst))
    obtain ⟨n0, n1⟩ := nm_range hm
    have hca := T_cancel (h1.sw0) (by have := ho.few; omega) (nm k id) (wf_in (by omega))
    have e1 : c.clearE k id = hasE c.S (nm k id) := by unfold Ck.clearE; rw [if_pos hm]
    have e2 : c.clear k id = { c with S := without c.S (nm k id) } := by unfold Ck.clear; rw [if_pos hm]
    obtain ⟨N, hN⟩ : ∃ N, nm k id = N := ⟨_, rfl⟩
    rw [hN] at hca e1 e2
    rw [e1, e2]
    obtain ⟨E, hE⟩ : ∃ E, hasE c.S N = E := ⟨_, rfl⟩
    rw [hE] at hca ⊢
    have HCa := Lib.hid hca
    rw [decide_eq_true hm] at HNu
    have HN := Lib.hid hN
    have HM := Lib.hid hm
    clear h h1 hca e1 e2 hE hN hm
    go_enter Try.func84, Try.ntmps84
    go_wp2_with fail
    refine HNu.out.mono ?_
    rintro e w1 ⟨n, rfl, hn, rfl⟩
    obtain rfl := (hn HM.out).trans HN.out
    clear hn
    go_wp2_with fail
    refine HCa.out.mono ?_
    rintro e w2 ⟨rfl, h2⟩
    have H2 := Lib.hid h2
    clear h2
    go_wp2_with fail
    go_ret
    exact ⟨rfl, On.ck_shut (c := { c with S := without c.S n }) (H2.out.sw0)⟩
  · have e1 : c.clearE k id = 1 := by unfold Ck.clearE; rw [if_neg hm]
    have e2 : c.clear k id = c := by unfold Ck.clear; rw [if_neg hm]
    rw [e1, e2]
    rw [decide_eq_false hm] at HNu
    have H := Lib.hid h
    clear h e1 e2 hm
    go_enter Try.func84, Try.ntmps84
    go_wp2_with fail
    refine HNu.out.mono ?_
    rintro e w1 ⟨n, rfl, _, rfl⟩
    go_wp2_with fail
    go_ret
    exact ⟨rfl, H.out⟩
set_option maxRecDepth 100000 in
set_option maxHeartbeats 4000000 in
theorem K_next (h : On w0 w (sep (ckA cb c) R)) (ho : CkOk c) :
    Calls Try.prog 89 #[.pointer (some ⟨cb, 0, none⟩)] w fun e w' => e = .returned (.tuple #[.int .i64 (c.S.headD (0, 0)).2, .int .i64 (headE c.S)]) ∧ Below w.heap.size w w' := by
  obtain ⟨tb, v, h1⟩ := h.ck_open
  have c0 := h1.bxg (ck_q (tb := tb) (ats := c.ats) (v := v) (now := c.now) (worst := c.worst))
  have hnx := T_next (h1.sw0) ho.sorted
  obtain ⟨p, hp⟩ : ∃ p, (c.S.headD (0, 0)).2 = p := ⟨_, rfl⟩
  obtain ⟨q, hq⟩ : ∃ p, headE c.S = p := ⟨_, rfl⟩
  rw [hp, hq] at hnx ⊢
  have HNx := Lib.hid hnx
  clear h h1 hnx hp hq ho
  go_enter Try.func89, Try.ntmps89
  go_wp2_with fail
  refine HNx.out.mono ?_
  rintro e w2 ⟨rfl, h2⟩
  have H2 := Lib.hid h2
  clear h2
  go_wp2_with fail
  go_ret2
  exact ⟨rfl, H2.out⟩
theorem has_keyAt {S : List (It Int)} {n : Int} (h : hasE S n = 0) : has S n = true := by
  unfold hasE at h
  split at h
  · assumption
  · cases h
set_option maxRecDepth 100000 in
set_option maxHeartbeats 4000000 in
theorem K_when (h : On w0 w (sep (ckA cb c) R)) (ho : CkOk c) (k id : Int) :
    Calls Try.prog 88 #[.pointer (some ⟨cb, 0, none⟩), .int .i64 k, .int .i64 id] w fun e w' => e = .returned (.tuple #[.int .i64 (c.whenA k id), .int .i64 (c.whenF k id), .int .i64 (c.whenE k id)]) ∧ Below w.heap.size w w' := by
  have HNu := Lib.hid (number_ok k id w)
  unfold Ck.whenA Ck.whenF
  by_cases hm : mayT k id
  · obtain ⟨tb, v, h1⟩ := h.ck_open
    have c0 := h1.bxg (ck_q (tb := tb) (ats := c.ats) (v := v) (now := c.now) (worst := c.worst))
    obtain ⟨n0, n1⟩ := nm_range hm
    have hwh := T_when (h1.sw0) (by have := ho.few; omega) (nm k id) (wf_in (by omega))
    have e1 : c.whenE k id = hasE c.S (nm k id) := by unfold Ck.whenE; rw [if_pos hm]
    obtain ⟨N, hN⟩ : ∃ N : Nat, nm k id = (N : Int) := ⟨(nm k id).toNat, by omega⟩
    have hNl : N < 512 := by omega
    obtain ⟨x, hx⟩ : ∃ x, c.ats[N]? = some x := ⟨_, List.getElem?_eq_getElem (by rw [ho.len]; exact hNl)⟩
    have hat : c.at (N : Int) = x := by unfold Ck.at; rw [Int.toNat_natCast, hx]; rfl
    have c2 := h1.bxg (ck_at (tb := tb) (v := v) (now := c.now) (worst := c.worst) hx)
    rw [hN] at hwh e1
    rw [e1, hN, hat]
    obtain ⟨E, hE⟩ : ∃ E, hasE c.S (N : Int) = E := ⟨_, rfl⟩
    obtain ⟨K, hK⟩ : ∃ E, keyAt 0 c.S (N : Int) = E := ⟨_, rfl⟩
    rw [hE, hK] at hwh ⊢
    have HWh := Lib.hid hwh
    rw [decide_eq_true hm] at HNu
    have HN := Lib.hid hN
    have HM := Lib.hid hm
    have H1 := Lib.hid h1
    have HX := Lib.hid hx
    have hN0 : (0 : Int) ≤ (N : Int) := by omega
    have hNI : (N : Int) < 512 := by omega
    clear h h1 hwh e1 hE hN hm hK hx hat
    by_cases hE0 : E = 0
    · subst hE0
      rw [if_pos rfl, if_pos rfl]
      go_enter Try.func88, Try.ntmps88
      go_wp2_with fail
      refine HNu.out.mono ?_
      rintro e w1 ⟨n, rfl, hn, rfl⟩
      obtain rfl := (hn HM.out).trans HN.out
      clear hn
      go_wp2_with fail
      refine HWh.out.mono ?_
      rintro e w2 ⟨rfl, h2⟩
      have H2 := Lib.hid h2
      have h3 := H1.out.below h2
      have c3 := h3.bxg (ck_at (tb := tb) (v := v) (now := c.now) (worst := c.worst) HX.out)
      clear h2 h3 c0 c2
      go_wp2_with fail
      go_ret3
      exact ⟨rfl, H2.out⟩
    · rw [if_neg hE0, if_neg hE0]
      have z : (E != 0) = true := by simpa using hE0
      go_enter Try.func88, Try.ntmps88
      go_wp2_with fail
      refine HNu.out.mono ?_
      rintro e w1 ⟨n, rfl, hn, rfl⟩
      obtain rfl := (hn HM.out).trans HN.out
      clear hn
      go_wp2_with fail
      refine HWh.out.mono ?_
      rintro e w2 ⟨rfl, h2⟩
      have H2 := Lib.hid h2
      clear h2
      go_wp2_with fail
      go_ret3
      exact ⟨rfl, H2.out⟩
  · have e1 : c.whenE k id = 1 := by unfold Ck.whenE; rw [if_neg hm]
    rw [e1, if_neg (by decide), if_neg (by decide)]
    rw [decide_eq_false hm] at HNu
    clear h e1 hm
    go_enter Try.func88, Try.ntmps88
    go_wp2_with fail
    refine HNu.out.mono ?_
    rintro e w1 ⟨n, rfl, _, rfl⟩
    go_wp2_with fail
    go_ret3
    exact ⟨rfl, Below.refl _ _⟩
end
end Go.Proofs.Ytkjpkhpiojahkaa
