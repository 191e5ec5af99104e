/-
  The document's clock in memory: Clear, Set.
-/
import Derived.Test.YtkjpkhpiojahkaaRk3
namespace Go.Proofs.Ytkjpkhpiojahkaa
set_option linter.unusedVariables false
open Go.RowKit Hp
attribute [local go_sem] Oper.semAt_some
/-- the document's clock that is this one -/
def refK (rb : Nat) (c : Ck) : Ast := exA fun r : Rk => sep (prA (RkOk c r)) (rkA rb r)
theorem Plain.refk (rb : Nat) (c : Ck) : Plain (refK rb c) := Plain.ex fun _ => (Plain.pr _).sep (Plain.rk _ _)
section
variable {c : Ck} {r : Rk} {k i a to : Int} {t : Tm} {j : Nat}
theorem RkOk.clear (ho : CkOk c) (h : RkOk c r) (ht : r.L[j]? = some t) (hi : tmIs k i t = true) : RkOk (c.clear k i) { r with L := r.L.eraseIdx j } := by
  obtain ⟨hm, _⟩ := h.found ho ht hi
  obtain ⟨rfl, rfl⟩ := tmIs_iff.1 hi
  unfold Ck.clear
  rw [if_pos hm]
  exact ⟨h.lates, h.now, h.worst, h.erase ho ht, fun u hu => h.each u (List.mem_of_mem_eraseIdx hu)⟩
theorem clear_same (hn : has c.S (nm k i) = false) : c.clear k i = c := by
  unfold Ck.clear
  split
  · rw [without_none hn]
  · rfl
theorem setE_form (ho : CkOk c) (hm : mayT k i) (ht : timeE a = 0) : c.setE k i a = if 1099511627776 ≤ max a c.now + c.late1 then 21 else 0 := by
  have h1 := timeE_iff.1 ht
  have h2 := timeE_iff.1 ho.now
  have h3 := ho.late1
  have h4 : timeE (max a c.now) = 0 := timeE_iff.2 (by omega)
  unfold Ck.setE
  rw [if_pos hm, if_pos ht]
  unfold afterE
  rw [if_pos h4, if_neg (by omega)]
  split
  · rw [if_pos (by omega)]
  · rw [if_neg (by omega)]
/-- what the others are, when a timer is set -/
theorem RkOk.put (ho : CkOk c) (h : RkOk c r) (he : c.setE k i a = 0) {L1 : List Tm} (hp : (L1.map tmKey).Perm (without c.S (nm k i))) (hs : ∀ u ∈ L1, u ∈ r.L) : RkOk (c.set k i a) ⟨L1 ++ [⟨k, i, a, c.fires a⟩], r.lates.tail, r.now, r.worst⟩ := by
  obtain ⟨hm, _⟩ := setE_ok he
  have hr := nm_range hm
  unfold Ck.set
  rw [if_pos he]
  refine ⟨by rw [h.lates], h.now, h.worst, ?_, fun u hu => ?_⟩
  · show ((L1 ++ [(⟨k, i, a, c.fires a⟩ : Tm)]).map tmKey).Perm (ins ltI (nm k i, c.fires a) (without c.S (nm k i)))
    rw [List.map_append]
    exact (List.perm_append_comm.trans (hp.cons _)).trans (ins_perm _ _).symm
  · rcases List.mem_append.1 hu with hu | hu
    · obtain ⟨h1, h2⟩ := h.each u (hs u hu)
      refine ⟨h1, ?_⟩
      show atL (c.ats.set (nm k i).toNat a) (nm u.kind u.id) = u.at'
      rw [atL_set ho.len hr (nm_range h1).1, if_neg]
      · exact h2
      · intro e
        have := hp.mem_iff.1 (List.mem_map.2 ⟨u, hu, rfl⟩)
        exact (without_mem.1 this).2 e
    · have : u = ⟨k, i, a, c.fires a⟩ := by simpa using hu
      subst this
      refine ⟨hm, ?_⟩
      show atL (c.ats.set (nm k i).toNat a) (nm k i) = a
      rw [atL_set ho.len hr hr.1, if_pos rfl]
end
section
variable {w0 w : World} {R : Ast} {rb : Nat} {c : Ck}
theorem On.refk_open (h : On w0 w (sep (refK rb c) R)) : ∃ r, RkOk c r ∧ On w0 w (sep (rkA rb r) R) := by
  obtain ⟨r, h⟩ := h.ex_open
  obtain ⟨hr, h⟩ := h.assoc.pr_open
  exact ⟨r, hr, h⟩
theorem On.refk_shut {r : Rk} (hr : RkOk c r) (h : On w0 w (sep (rkA rb r) R)) : On w0 w (sep (refK rb c) R) :=
  On.ex_shut (f := fun r : Rk => sep (prA (RkOk c r)) (rkA rb r)) r (On.assoc' (h.pr_shut hr))
set_option maxRecDepth 100000 in
set_option maxHeartbeats 4000000 in
theorem RK_clear (h : On w0 w (sep (refK rb c) R)) (ho : CkOk c) (k i : Int) :
    Calls Try.prog 130 #[.pointer (some ⟨rb, 0, none⟩), .int .i64 k, .int .i64 i] w fun e w' => e = .returned (.int .i64 (c.clearE k i)) ∧ On w0 w' (sep (refK rb (c.clear k i)) R) := by
  obtain ⟨r, hr, h1⟩ := h.refk_open
  have hlen := hr.len
  have hfew := ho.few
  have HMa := Lib.hid (RK_may k i w)
  have HAt := Lib.hid (RK_at h1 (by omega) k i)
  have H := Lib.hid h
  have H1 := Lib.hid h1
  by_cases hm : mayT k i
  · rw [decide_eq_true hm] at HMa
    have HM := Lib.hid hm
    obtain ⟨E, hE⟩ : ∃ x, c.clearE k i = x := ⟨_, rfl⟩
    obtain ⟨G, hG⟩ : ∃ x, c.clear k i = x := ⟨_, rfl⟩
    rw [hE, hG]
    have HE := Lib.hid hE
    have HG := Lib.hid hG
    clear h h1 hm hlen hfew hE hG
    go_enter Try.func130, Try.ntmps130
    go_wp2_with fail
    refine HMa.out.mono ?_
    rintro e w1 ⟨rfl, rfl⟩
    go_wp2_with fail
    refine HAt.out.mono ?_
    rintro e w1 ⟨⟨x, rfl, hx⟩, rfl⟩
    rcases hx with ⟨rfl, hn⟩ | ⟨j, t, rfl, ht, hi⟩
    · have hh := (hr.hasI ho HM.out).1 hn
      have e1 : c.clearE k i = 14 := by unfold Ck.clearE hasE; rw [if_pos HM.out, hh]; rfl
      have HE1 := Lib.hid (HE.out.symm.trans e1)
      have HG1 := Lib.hid (HG.out.symm.trans (clear_same hh))
      clear hn hh e1 hr ho
      go_wp2_with fail
      go_ret
      exact ⟨by rw [HE1.out]; rfl, by rw [HG1.out]; exact H.out⟩
    · obtain ⟨_, hh, _⟩ := hr.found ho ht hi
      have e1 : c.clearE k i = 0 := by unfold Ck.clearE hasE; rw [if_pos HM.out, hh]; rfl
      have HE1 := Lib.hid (HE.out.symm.trans e1)
      have HR := Lib.hid (hr.clear ho ht hi)
      have HDr := Lib.hid (RK_drop H1.out (by have := hr.len; have := ho.few; omega) (List.getElem?_eq_some_iff.1 ht).1)
      have hj0 : (0 : Int) ≤ (j : Int) := by omega
      have hj1 : ¬ (j : Int) < 0 := by omega
      clear ht hi hh e1 hr ho
      go_wp2_with fail
      refine HDr.out.mono ?_
      rintro e w2 ⟨rfl, h2⟩
      have H2 := Lib.hid h2
      clear h2
      go_wp2_with fail
      go_ret
      exact ⟨by rw [HE1.out]; rfl, by rw [← HG.out]; exact On.refk_shut HR.out H2.out⟩
  · rw [decide_eq_false hm] at HMa
    have e1 : c.clearE k i = 1 := by unfold Ck.clearE; rw [if_neg hm]
    have e2 : c.clear k i = c := by unfold Ck.clear; rw [if_neg hm]
    rw [e1, e2]
    clear h h1 hm hlen hfew e1 e2 hr ho
    go_enter Try.func130, Try.ntmps130
    go_wp2_with fail
    refine HMa.out.mono ?_
    rintro e w1 ⟨rfl, rfl⟩
    go_wp2_with fail
    go_ret
    exact ⟨rfl, H.out⟩
end
end Go.Proofs.Ytkjpkhpiojahkaa
