/-
  Clock: Run.
-/
import Derived.Test.YtkjpkhpiojahkaaCk6
namespace Go.Proofs.Ytkjpkhpiojahkaa
set_option linter.unusedVariables false
open Go.RowKit Hp
attribute [local go_sem] Oper.semAt_some
/-- events, in memory -/
def evsA (v : Value) (T : List Ev) : Ast := rowA v 109 5 T.length (T.flatMap evC)
theorem Plain.evs (v : Value) (T : List Ev) : Plain (evsA v T) := Plain.row _ _ _ _ _
theorem info109 : (Try.prog.info? 109).map (fun i => (i.zero, i.size, i.bytes)) = some (some (.agg #[.int .i64 0, .int .i64 0, .int .i64 0, .int .i64 0, .int .i64 0]), 5, 40) := by kernel_rfl
theorem evSlice : SliceOf Try.prog 105 109 5 40 := by
  obtain ⟨i0, hi0, hz0, hz1, hz2⟩ := info_parts2 info109
  exact ⟨Try.underlying105, ⟨i0, _, hi0, hz0, hz1, hz2, rfl⟩, by omega⟩
theorem evsA_nil (w : World) : (evsA (.slice none 0 0) []).holds w (fun _ => False) := ⟨World.ownsRow_nil _ _ _ _, fun j => by simp [Value.ownBlock]⟩
theorem own_len {w : World} {B t size n m : Nat} {q : Option Addr} {cc : Nat} {xs : List Value} (h : w.ownsRow B t size (.slice q m cc) n xs) : m = n := by
  rcases own_parts h with ⟨h1, h2⟩ | ⟨_, _, _, h1, _⟩
  · cases h1; exact h2.symm
  · cases h1; rfl
theorem run_zero (c : Ck) (to : Int) (f : Nat) (h : c.stepV to = none) : Ck.run (f + 1) c to = ([], c.step to) := by
  show (match Ck.stepV _ to with | none => _ | some v => _) = _
  rw [h]
theorem run_some (c : Ck) (to : Int) (f : Nat) {v : Ev} (h : c.stepV to = some v) : Ck.run (f + 1) c to = (v :: (Ck.run f (c.step to) to).1, (Ck.run f (c.step to) to).2) := by
  show (match Ck.stepV _ to with | none => _ | some v => _) = _
  rw [h]
theorem stepV_some {c : Ck} {to : Int} {v : Ev} (h : c.stepV to = some v) : c.stepE to = 0 ∧ (c.step to).stepE to = 0 ∧ (c.step to).S.length + 1 = c.S.length := by
  obtain ⟨S, ats, lates, now, worst⟩ := c
  by_cases he : Ck.stepE ⟨S, ats, lates, now, worst⟩ to = 0
  · unfold Ck.stepV at h
    rw [if_pos he] at h
    cases S with
    | nil => cases h
    | cons x T =>
      change (if to < x.2 then none else _) = _ at h
      by_cases hx : to < x.2
      · rw [if_pos hx] at h; cases h
      · have h2 : Ck.step ⟨x :: T, ats, lates, now, worst⟩ to = ⟨T, ats, lates, x.2, max worst (x.2 - Ck.at ⟨x :: T, ats, lates, now, worst⟩ x.1)⟩ := by
          unfold Ck.step
          rw [if_pos he]
          show (if to < x.2 then _ else _) = _
          rw [if_neg hx]
        rw [h2]
        exact ⟨he, stepE_zero (stepE_ok he).1 (by show x.2 ≤ to; omega), rfl⟩
  · unfold Ck.stepV at h
    rw [if_neg he] at h
    cases h
theorem stepE_bad {c : Ck} {to : Int} (h : c.stepE to ≠ 0) : c.stepV to = none ∧ c.step to = c := by
  unfold Ck.stepV Ck.step
  rw [if_neg h, if_neg h]
  exact ⟨rfl, rfl⟩
section
variable {w0 w : World} {R : Ast} {cb : Nat} {c : Ck}
set_option maxRecDepth 100000 in
set_option maxHeartbeats 8000000 in
theorem K_run (hT : Tame R) (h : On w0 w (sep (ckA cb c) R)) (ho : CkOk c) (to : Int) :
    Calls Try.prog 77 #[.pointer (some ⟨cb, 0, none⟩), .int .i64 to] w fun e w' => ∃ v, e = .returned (.tuple #[v, .int .i64 (c.stepE to)]) ∧ On w0 w' (sep (evsA v (Ck.run (c.S.length + 1) c to).1) (sep (ckA cb (Ck.run (c.S.length + 1) c to).2) R)) := by
  obtain ⟨n, hn⟩ : ∃ n, c.S.length = n := ⟨_, rfl⟩
  rw [hn]
  obtain ⟨RS, hRS⟩ : ∃ r, Ck.run (n + 1) c to = r := ⟨_, rfl⟩
  obtain ⟨E, hE⟩ : ∃ e, c.stepE to = e := ⟨_, rfl⟩
  rw [hRS, hE]
  have hn5 : n ≤ 512 := by rw [← hn]; exact ho.few
  have HOn := Lib.hid (On.add h (Below.refl _ w) (evsA_nil w) (fun _ h => h.elim))
  have HRS := Lib.hid hRS
  have HE := Lib.hid hE
  have HOk := Lib.hid ho
  have HN := Lib.hid hn
  have HTm := Lib.hid hT
  clear hRS hE h ho hn hT
  go_enter Try.func77, Try.ntmps77
  go_wp2_with fail
  go_loopg [6] n (fun gh s6 wr => ∃ (pre : List Ev) (d : Ck) (qa : Option Addr) (qc : Nat), s6 = .slice qa pre.length qc ∧ RS = (pre ++ (Ck.run (gh + 1) d to).1, (Ck.run (gh + 1) d to).2) ∧ d.S.length ≤ gh ∧ CkOk d ∧ pre.length + gh ≤ n ∧ d.stepE to = E ∧ (E ≠ 0 → pre = []) ∧ On w0 wr (sep (evsA (.slice qa pre.length qc) pre) (sep (ckA cb d) R)))
  case atStart => exact ⟨[], c, none, 0, rfl, HRS.out.symm, by rw [HN.out]; exact Nat.le_refl _, HOk.out, by simp, HE.out, fun _ => rfl, HOn.out⟩
  case round =>
    obtain ⟨pre, d, qa, qc, rfl, hRS, hdl, hod, hpl, hdE, hp0, hon⟩ := hrel
    have hst := K_step ((Plain.evs _ _).sepT HTm.out) hon.sw0 hod to
    rw [hdE] at hst
    cases hV : d.stepV to with
    | none =>
      have hst' : Calls Try.prog 87 #[.pointer (some ⟨cb, 0, none⟩), .int .i64 to] wr fun e w' => e = .returned (.tuple #[.agg #[.int .i64 0, .int .i64 0, .int .i64 0, .int .i64 0, .int .i64 0], .bool false, .int .i64 E]) ∧ On w0 w' (sep (ckA cb (d.step to)) (sep (evsA (.slice qa pre.length qc) pre) R)) := by
        rw [hV] at hst
        exact hst
      rw [run_zero d to gk hV, List.append_nil] at hRS
      have HRS2 := Lib.hid hRS
      have HSt := Lib.hid hst'
      by_cases hE0 : E = 0
      · subst hE0
        obtain ⟨m, hm⟩ : ∃ m, pre.length = m := ⟨_, rfl⟩
        rw [hm] at HSt hpl ⊢
        have HM := Lib.hid hm
        clear hst hst' hon hRS hV hp0 hod hdE hm
        go_wp2_with fail
        refine HSt.out.mono ?_
        rintro e x1 ⟨rfl, h1⟩
        have h2 := h1.new1 109 #[.int .i64 0, .int .i64 0, .int .i64 0, .int .i64 0, .int .i64 0]
        have H2 := Lib.hid h2.out1
        clear h1 h2
        go_wp2_with fail
        go_ret2
        refine ⟨_, rfl, ?_⟩
        rw [HRS2.out]
        exact H2.out.sw0
      · have z : (E != 0) = true := by simpa using hE0
        have hpn := hp0 hE0
        subst hpn
        obtain ⟨_, hds⟩ := stepE_bad (by rw [hdE]; exact hE0)
        rw [hds] at HSt HRS2
        clear hst hst' hon hRS hV hp0 hod hdE hds
        simp only [List.length_nil]
        go_wp2_with fail
        refine HSt.out.mono ?_
        rintro e x1 ⟨rfl, h1⟩
        have h2 := h1.new1 109 #[.int .i64 0, .int .i64 0, .int .i64 0, .int .i64 0, .int .i64 0]
        have H2 := Lib.hid (h2.out1.sw0.out1.add (Below.refl _ _) (evsA_nil _) (fun _ h => h.elim))
        clear h1 h2
        go_wp2_with fail
        go_ret2
        refine ⟨_, rfl, ?_⟩
        rw [HRS2.out]
        exact H2.out
    | some ev =>
      obtain ⟨k, i, a, l, nw⟩ := ev
      have hst' : Calls Try.prog 87 #[.pointer (some ⟨cb, 0, none⟩), .int .i64 to] wr fun e w' => e = .returned (.tuple #[.agg #[.int .i64 k, .int .i64 i, .int .i64 a, .int .i64 l, .int .i64 nw], .bool true, .int .i64 E]) ∧ On w0 w' (sep (ckA cb (d.step to)) (sep (evsA (.slice qa pre.length qc) pre) R)) := by
        rw [hV] at hst
        exact hst
      obtain ⟨s1, s2, s3⟩ := stepV_some hV
      have hE0 : E = 0 := hdE.symm.trans s1
      subst hE0
      rw [run_some d to gk hV] at hRS
      have HRS2 := Lib.hid hRS
      have HSt := Lib.hid hst'
      have HOd := Lib.hid (CkOk.step (to := to) hod)
      have HS2 := Lib.hid s2
      obtain ⟨G, hG⟩ : ∃ g, d.step to = g := ⟨_, rfl⟩
      rw [hG] at HRS2 HSt HOd HS2 s3
      obtain ⟨m, hm⟩ : ∃ m, pre.length = m := ⟨_, rfl⟩
      rw [hm] at HSt hpl ⊢
      have HM := Lib.hid hm
      have hg1 : 1 ≤ gk := by omega
      obtain ⟨g2, rfl⟩ : ∃ g, gk = g + 1 := ⟨gk - 1, by omega⟩
      have hgl : G.S.length ≤ g2 := by omega
      have hev : ∀ u ∈ evC ⟨k, i, a, l, nw⟩, u.oneCell' = true := by
        intro u hu
        simp [evC] at hu
        rcases hu with rfl | rfl | rfl | rfl | rfl <;> rfl
      have hmx : m + 1 ≤ maxLen := by unfold maxLen; omega
      have hby : (m + 1) * 40 ≤ 140737488355328 := by omega
      clear hst hst' hon hRS hV hp0 hod hdE hm s1 s2 hG s3 hdl hg1
      go_wp2_with fail
      refine HSt.out.mono ?_
      rintro e x1 ⟨rfl, h1⟩
      obtain ⟨bv, hbv⟩ : ∃ b, x1.heap.size = b := ⟨_, rfl⟩
      obtain ⟨W2, hW2⟩ : ∃ x, x1.alloc (.cells #[.int .i64 k, .int .i64 i, .int .i64 a, .int .i64 l, .int .i64 nw] 109) = x := ⟨_, rfl⟩
      have h3 := h1.new1 109 #[.int .i64 k, .int .i64 i, .int .i64 a, .int .i64 l, .int .i64 nw]
      rw [hW2, hbv] at h3
      have q00 := (h3).bx 0 rfl
      have q01 := (h3).bx 1 rfl
      have q02 := (h3).bx 2 rfl
      have q03 := (h3).bx 3 rfl
      have q04 := (h3).bx 4 rfl
      have h4 := (h3.sw1).out1
      have hbk : Below W2.heap.size W2 (W2.alloc (.cells #[.int .i64 k, .int .i64 i, .int .i64 a, .int .i64 l, .int .i64 nw] 109)) := (Below.refl _ W2).alloc (Nat.le_refl _) _
      have HRd := Lib.hid (cells_reads W2 #[.int .i64 k, .int .i64 i, .int .i64 a, .int .i64 l, .int .i64 nw] 109)
      have h5 : On w0 W2 (sep (rowA (.slice qa m qc) 109 5 m (pre.flatMap evC)) (sep (ckA cb G) R)) := by
        unfold evsA at h4
        rw [HM.out] at h4
        exact h4
      obtain ⟨F, ⟨how, _⟩, _⟩ := (h5.below hbk).get1
      have HOw := Lib.hid how
      have H5 := Lib.hid h5
      have HBk := Lib.hid hbk
      clear h1 h3 h4 h5 hbk how
      go_wp2_with (at_builtin; go_loud (refine wpList_append_any (by rfl) _ _ 105 (by rfl) 109 5 40 evSlice (.slice qa m qc) m (pre.flatMap evC) (by rfl) HOw.out _ 1 (evC ⟨k, i, a, l, nw⟩) (by rfl) HRd.out hev hmx hby ?_; intro v' A5 hown hgrow hat; obtain ⟨qq, qn, qcc, rfl⟩ := own_form hown; have h17 := H5.out.row_push HBk.out hgrow hown hat; have HQ := Lib.hid (own_len hown); have H17 := Lib.hid h17; clear h17 hown hgrow hat))
      go_roundg g2
      case measure => omega
      case rel =>
        obtain rfl := HQ.out
        have e1 : (pre ++ [(⟨k, i, a, l, nw⟩ : Ev)]).length = m + 1 := by rw [List.length_append, HM.out]; rfl
        refine ⟨pre ++ [⟨k, i, a, l, nw⟩], G, qq, qcc, by rw [e1], by rw [HRS2.out, List.append_assoc]; rfl, hgl, HOd.out, by rw [e1]; omega, HS2.out, fun h => absurd rfl h, ?_⟩
        unfold evsA
        rw [e1, List.flatMap_append, List.flatMap_singleton]
        exact H17.out
end
end Go.Proofs.Ytkjpkhpiojahkaa
