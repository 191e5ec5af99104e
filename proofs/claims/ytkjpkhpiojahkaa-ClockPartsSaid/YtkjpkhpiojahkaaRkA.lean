/-
  The document's clock in memory: Copy.
-/
import Derived.Test.YtkjpkhpiojahkaaRk9
namespace Go.Proofs.Ytkjpkhpiojahkaa
set_option linter.unusedVariables false
open Go.RowKit Hp
attribute [local go_sem] Oper.semAt_some
theorem step_append_lat {w0 w : World} {R : Ast} {v : Value} {zs : List Int} {ops : Array Oper} {o : Oper} {a : Act} {K : Act → World → Prop} {Q : Exit → Act → World → Prop} {E : Prop} (hgd : o.guard = none) (s x : Operand)
    (ho : o.op = .call { callee := .builtin .append, args := #[s, x], argTypes := #[54, 54] }) (hs : a.eval s = v) (h : On w0 w (sep (latA v zs) R))
    {y : Value} {m : Nat} {ms : List Int} (hx : a.eval x = y) (hy : ReadsI w y m ms) (h63 : zs.length + m ≤ maxLen) (hby : (zs.length + m) * 8 ≤ 140737488355328)
    (k : ∀ v' w', On w0 w' (sep (latA v' (zs ++ ms)) R) → On w0 w' (sep (latA v zs) R) → K (a.put o.dst v') w') :
    if Region.wanted o (yielded ops a.tmps) = true then Oper.wp Try.prog o a w K Q else E := by
  have hw : Region.wanted o (yielded ops a.tmps) = true := by simp [Region.wanted, hgd]
  rw [if_pos hw]
  obtain ⟨v', w', hr, h1, h2⟩ := h.lat_app o.type hy h63 hby
  unfold Oper.wp execOp
  simp only [ho, resolve, invoke, builtin, Sem.run_bind, Sem.run_pure, Result.andThen_ok, List.map_toArray, List.map_cons, List.map_nil, hs, hx, hr]
  exact k v' w' h1 h2
section
variable {w0 w : World} {R : Ast} {rb : Nat} {c : Ck}
set_option maxRecDepth 100000 in
set_option maxHeartbeats 8000000 in
theorem RK_copy (h : On w0 w (sep (refK rb c) R)) (ho : CkOk c) (hl : c.lates.length < 1000000) :
    Calls Try.prog 85 #[.pointer (some ⟨rb, 0, none⟩)] w fun e w' => ∃ ob, e = .returned (.pointer (some ⟨ob, 0, none⟩)) ∧ On w0 w' (sep (refK ob c) (sep (refK rb c) R)) := by
  obtain ⟨r, hr, h1⟩ := h.refk_open
  have hlen := hr.len
  have hfew := ho.few
  have hll : r.lates.length < 1000000 := by rw [hr.lates]; exact hl
  obtain ⟨v1, v2, h2⟩ := h1.rk_open
  obtain ⟨a1, c1, rfl, _⟩ := h2.sw0.tms_form
  obtain ⟨va, vc, rfl, _⟩ := (h2.sw1.sw0).lat_read
  obtain ⟨now, hnow⟩ : ∃ n, r.now = n := ⟨_, rfl⟩
  obtain ⟨wor, hwor⟩ : ∃ n, r.worst = n := ⟨_, rfl⟩
  have h2' : On w0 w (sep (boxA rb 116 #[.slice a1 r.L.length c1, .slice va r.lates.length vc, .int .i64 r.now, .int .i64 r.worst]) (sep (tmsA (.slice a1 r.L.length c1) r.L) (sep (latA (.slice va r.lates.length vc) r.lates) R))) := h2
  obtain ⟨n, hn⟩ : ∃ n, r.L.length = n := ⟨_, rfl⟩
  obtain ⟨m, hm⟩ : ∃ n, r.lates.length = n := ⟨_, rfl⟩
  have HRs := Lib.hid (show ∀ A X u1 u2 b, On w0 A (sep (boxA b 116 #[u1, u2, .int .i64 now, .int .i64 wor]) (sep (tmsA u1 r.L) (sep (latA u2 r.lates) X))) → On w0 A (sep (refK b c) X) from fun A X u1 u2 b hA => by
    rw [← hnow, ← hwor] at hA
    exact On.refk_shut hr (On.rk_shut hA))
  rw [hn, hm, hnow, hwor] at h2'
  have hn5 : n ≤ 512 := by rw [← hn, hlen]; exact hfew
  rw [hm] at hll
  have HN := Lib.hid hn
  have HM := Lib.hid hm
  have hd := h2'.below (Below.refl _ w).drew
  have p2 := hd.bx 2 rfl
  have p3 := hd.bx 3 rfl
  obtain ⟨ob, hob⟩ : ∃ b, w.heap.size = b := ⟨_, rfl⟩
  obtain ⟨W1, hW1⟩ : ∃ x, w.alloc (.cells #[.slice none 0 0, .slice none 0 0, .int .i64 now, .int .i64 wor] 116) = x := ⟨_, rfl⟩
  have h3 := h2'.new1 116 #[.slice none 0 0, .slice none 0 0, .int .i64 now, .int .i64 wor]
  rw [hW1, hob] at h3
  have h3d := h3.below (Below.refl _ W1).drew
  have r2 := h3d.sw0.bx 2 rfl
  have r3 := h3d.sw0.bx 3 rfl
  have h4d := h3d.below (Below.refl _ W1.drew).drew
  have e00 := (h4d).bx 0 rfl
  have e00f := ((h4d).box1 0).2
  have e10 := (h4d.sw0).bx 0 rfl
  have H4 := Lib.hid h4d
  have HT : Hid (W1.drew.drew.cell? ⟨ob, 0, none⟩ = some (.slice none 0 0) ∧ W1.drew.drew.frozen? ⟨ob, 0, none⟩ = false ∧ W1.drew.drew.cell? ⟨rb, 0, none⟩ = some (.slice a1 n c1) ∧ ob < W1.drew.drew.heap.size ∧ rb < W1.drew.drew.heap.size) := Lib.hid ⟨e00, e00f, e10, lt_of_some h4d.obj1, lt_of_some h4d.sw0.obj1⟩
  have HRd := Lib.hid (Reads.of_own (h4d.sw1.sw0).tms_own)
  rw [HN.out] at HRd
  have hone := tms_one r.L
  have hmx : 0 + n ≤ maxLen := by unfold maxLen; omega
  have hby : (0 + n) * 32 ≤ 140737488355328 := by omega
  clear h3 h3d h4d
  clear h h1 h2 h2' hd hr ho hlen hfew hnow hwor hn hm hl
  go_enter Try.func85, Try.ntmps85
  go_wp2_with fail
  go_region_held3 (fun A0 => A0.cell? ⟨rb, 2, none⟩ = some (.int .i64 now) ∧ A0.cell? ⟨rb, 3, none⟩ = some (.int .i64 wor))
    (first | (refine ⟨?_, ?_⟩ <;> assumption) | go_keep)
    (fail)
  go_wp2_with fail
  clear hW1 hob p2 p3 r2 r3
  refine wp_region_noPanic ?_
  go_region_law (first
    | (refine step_append_any (by rfl) _ _ 114 (by rfl) 124 4 32 tmSlice (.slice none 0 0) 0 [] (by rfl) (World.ownsRow_nil _ _ _ _) (.slice a1 n c1) n (r.L.flatMap tmC) (by rfl) HRd.out hone hmx hby ?_; intro v' y1 hown hgrow hat; obtain ⟨q, nn, cc, rfl⟩ := own_form hown; (obtain rfl : nn = n := by have := own_len hown; omega); (have hby1 := below_grown hgrow (by intro j hj; simp [Value.ownBlock] at hj) (Nat.le_refl _)); (have h5 := H4.out.add hby1 (tmsA_of (X := r.L) hown (by rw [HN.out]; omega) (List.nil_append _)) (own_new hat (by simp [Value.ownBlock]) (Nat.le_refl _))); (have s1 := h5.sw0.bx 0 rfl); (have s1f := (h5.sw0.box1 0).2); (have s2 := (h5.sw1.sw0).bx 0 rfl); (have H5 := Lib.hid h5); clear hown hgrow hat hby1 h5))
  all_goals
    refine NoPanic.normal ?_
    have h6 := H5.out.sw0.box_set 0 (.slice q nn cc)
    obtain ⟨W5, hW5⟩ : ∃ x, y1.setCell ⟨ob, 0, none⟩ (.slice q nn cc) = x := ⟨_, rfl⟩
    rw [hW5] at h6 ⊢
    have h7 := h6.below (Below.refl _ W5).drew
    have h7l := (h7.sw3.sw2.sw1.sw0).lat_read
    have hrd2 : ReadsI W5.drew (.slice va m vc) m r.lates := by
      obtain ⟨x1, x2, hx, hi⟩ := h7l
      rw [HM.out] at hx
      cases hx
      exact reads_intsAt hi HM.out
    have HRd2 := Lib.hid hrd2
    have h8 := h7.lat_nil
    have f11 := (h8.sw0).bx 1 rfl
    have f11f := ((h8.sw0).box1 1).2
    have f31 := (h8.sw2.sw1.sw0).bx 1 rfl
    have H8 := Lib.hid h8
    have hmx2 : ([] : List Int).length + m ≤ maxLen := by unfold maxLen; simp; omega
    have hby2 : (([] : List Int).length + m) * 8 ≤ 140737488355328 := by simp; omega
    clear h6 h7 h7l hrd2 h8 s1 s1f s2 e00 e00f e10
    go_wp2_with fail
    refine wp_region_noPanic ?_
    go_region_law (first
      | (refine step_append_lat (by rfl) _ _ (by rfl) (by rfl) H8.out (by rfl) HRd2.out hmx2 hby2 ?_; intro v' y2 hq1 _; (obtain ⟨qa, qc, rfl, _⟩ := hq1.lat_read); (have t1 := hq1.sw0.bx 1 rfl); (have t1f := (hq1.sw0.box1 1).2); (have t2 := (hq1.sw2.sw1.sw0).bx 1 rfl); (have HQ1 := Lib.hid hq1); clear hq1))
  all_goals
    refine NoPanic.normal ?_
    have h9 := HQ1.out.sw0.box_set 1 (.slice qa r.lates.length qc)
    have h10 := HRs.out _ _ _ _ ob (h9.sw1)
    have H10 := Lib.hid (HRs.out _ _ _ _ rb (h10.sw0.sw1.sw2)).sw0
    clear h9 h10 t1 t1f t2
    go_wp2_with fail
    go_ret
    exact ⟨_, rfl, H10.out⟩
end
end Go.Proofs.Ytkjpkhpiojahkaa
