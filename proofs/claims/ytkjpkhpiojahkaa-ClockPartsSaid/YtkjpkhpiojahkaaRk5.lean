/-
  The document's clock in memory: Set, Late.
-/
import Derived.Test.YtkjpkhpiojahkaaRk4
namespace Go.Proofs.Ytkjpkhpiojahkaa
set_option linter.unusedVariables false
open Go.RowKit Hp
attribute [local go_sem] Oper.semAt_some
theorem erase_sub {α : Type} {L : List α} {j : Nat} : ∀ u ∈ L.eraseIdx j, u ∈ L := fun _ hu => List.mem_of_mem_eraseIdx hu
section
variable {w0 w : World} {R : Ast} {rb : Nat} {c : Ck}
/-- a timer is set behind the others -/
theorem On.tms_snoc {v v' : Value} {L : List Tm} {t : Tm} {m : Nat} {w1 w' : World} (h : On w0 w (sep (tmsA v L) R)) (hb : Below w.heap.size w w1) (hg : w1.grownBy w' v.ownBlock)
    (hown : w'.ownsRow 0 124 4 v' m (L.flatMap tmC ++ tmC t)) (hm : m = L.length + 1) (hat : v'.ownBlock = v.ownBlock ∨ v'.ownBlock = some w1.heap.size) : On w0 w' (sep (tmsA v' (L ++ [t])) R) := by
  have h1 := On.row_push h hb hg hown hat
  exact On.tms_of h1 (by rw [List.length_append]; exact hm.symm) (by rw [List.flatMap_append, List.flatMap_singleton])
set_option maxRecDepth 100000 in
set_option maxHeartbeats 8000000 in
theorem RK_set (h : On w0 w (sep (refK rb c) R)) (ho : CkOk c) (k i a : Int) :
    Calls Try.prog 129 #[.pointer (some ⟨rb, 0, none⟩), .int .i64 k, .int .i64 i, .int .i64 a] w fun e w' => e = .returned (.int .i64 (c.setE k i a)) ∧ On w0 w' (sep (refK rb (c.set k i a)) R) := by
  obtain ⟨r, hr, h1⟩ := h.refk_open
  have hlen := hr.len
  have hfew := ho.few
  have HMa := Lib.hid (RK_may k i w)
  have HTi := Lib.hid (RK_time a w)
  have H := Lib.hid h
  obtain ⟨E, hE⟩ : ∃ x, c.setE k i a = x := ⟨_, rfl⟩
  obtain ⟨G, hG⟩ : ∃ x, c.set k i a = x := ⟨_, rfl⟩
  have hsame : c.setE k i a ≠ 0 → G = c := fun h => by rw [← hG]; exact set_not h
  rw [hE, hG]
  by_cases hm : mayT k i
  · rw [decide_eq_true hm] at HMa
    obtain ⟨T, hT⟩ : ∃ T, timeE a = T := ⟨_, rfl⟩
    rw [hT] at HTi
    by_cases ht : T = 0
    · subst ht
      have hform := setE_form ho hm hT
      obtain ⟨ls, hls⟩ : ∃ l, r.lates = l := ⟨_, rfl⟩
      obtain ⟨now, hnow⟩ : ∃ l, r.now = l := ⟨_, rfl⟩
      obtain ⟨M, hM⟩ : ∃ l, max a now = l := ⟨_, rfl⟩
      have hlt : c.late1 = ls.headD 0 := by unfold Ck.late1; rw [← hr.lates, hls]
      have hl1 := ho.late1
      have hn1 := timeE_iff.1 ho.now
      have ha1 := timeE_iff.1 hT
      rw [← hr.now, hnow] at hform hn1
      rw [hM, hlt, hE] at hform
      rw [hlt] at hl1
      obtain ⟨v1, v2, h2⟩ := h1.rk_open
      rw [hls, hnow] at h2
      have hmw' : (if a < now then now else a) = M := by rw [← hM]; omega
      have HR := Lib.hid hr
      have HLs := Lib.hid hls
      have HNow := Lib.hid hnow
      have HMay := Lib.hid hm
      have HG := Lib.hid hG
      have HSm := Lib.hid hsame
      have HE := Lib.hid hE
      have HO := Lib.hid ho
      have HF := Lib.hid (show c.fires a = M + ls.headD 0 by unfold Ck.fires; rw [hlt, ← hr.now, hnow, hM])
      obtain ⟨a1, c1, rfl, _⟩ := h2.sw0.tms_form
      obtain ⟨n, hn⟩ : ∃ n, r.L.length = n := ⟨_, rfl⟩
      have H2r := Lib.hid (show ∀ A v2' ls', On w0 A (sep (boxA rb 116 #[.slice a1 n c1, v2', .int .i64 now, .int .i64 r.worst]) (sep (tmsA (.slice a1 n c1) r.L) (sep (latA v2' ls') R))) → On w0 A (sep (rkA rb ⟨r.L, ls', now, r.worst⟩) R) from fun A v2' ls' hA => by rw [← hn] at hA; exact On.rk_shut (r := ⟨r.L, ls', now, r.worst⟩) hA)
      rw [hn] at h2
      have HN := Lib.hid hn
      have hn5 : n ≤ 512 := by rw [← hn, hlen]; exact hfew
      have hM0 : 0 ≤ M ∧ M < 1099511627776 := by omega
      obtain ⟨hM0, hM1⟩ := hM0
      clear h h1 hm hlen hfew hT hr ho hls hnow hsame hE hG hlt hn hM
      cases ls with
      | nil =>
        obtain ⟨va, vc, rfl, _⟩ := (h2.sw1.sw0).lat_read
        have hN0 : ¬ 1099511627776 ≤ M := by omega
        have hE0 : E = 0 := by rw [hform]; simp; omega
        subst hE0
        have zw : IntKind.i64.wrap M = M := IntWalk.i64_in _ (by omega)
        have q0 := h2.bx 0 rfl
        have q1 := h2.bx 1 rfl
        have q2 := h2.bx 2 rfl
        have H2 := Lib.hid h2
        have h3 : On w0 w (sep (rkA rb ⟨r.L, [], now, r.worst⟩) R) := H2r.out _ _ _ h2
        have HAt := Lib.hid (RK_at h3 (by rw [HN.out]; omega) k i)
        have H3 := Lib.hid h3
        have HLt := Lib.hid (show r.lates.tail = [] by rw [HLs.out]; rfl)
        have HFF := Lib.hid (show c.fires a = M by rw [HF.out]; exact Int.add_zero M)
        clear h2 h3 hform hl1
        go_enter Try.func129, Try.ntmps129
        go_wp2_with fail
        refine HMa.out.mono ?_
        rintro e w1 ⟨rfl, rfl⟩
        go_wp2_with fail
        refine HTi.out.mono ?_
        rintro e w1 ⟨rfl, rfl⟩
        go_wp2_with fail
        refine HAt.out.mono ?_
        rintro e w2 ⟨⟨x, rfl, hx⟩, rfl⟩
        rcases hx with ⟨rfl, hno⟩ | ⟨j, t, rfl, hjt, hi⟩
        · have HPut := Lib.hid (show RkOk G ⟨r.L ++ [⟨k, i, a, M⟩], [], now, r.worst⟩ by
            have hh := (HR.out.hasI HO.out HMay.out).1 hno
            have := HR.out.put HO.out (k := k) (i := i) (a := a) HE.out (L1 := r.L) (by rw [without_none hh]; exact HR.out.perm) (fun _ h => h)
            rw [HG.out, HFF.out, HLt.out, HNow.out] at this
            exact this)
          obtain ⟨u1, u2, h5⟩ := H3.out.rk_open
          obtain ⟨a5, c5, rfl, _⟩ := h5.sw0.tms_form
          have hp5 : r.L.length ≤ 512 := by rw [HN.out]; exact hn5
          have h5 : On w0 w (sep (boxA rb 116 #[.slice a5 r.L.length c5, u2, .int .i64 now, .int .i64 r.worst]) (sep (tmsA (.slice a5 r.L.length c5) r.L) (sep (latA u2 []) R))) := h5
          clear hno q0 q1 q2
          obtain ⟨p, hp⟩ : ∃ p, r.L.length = p := ⟨_, rfl⟩
          rw [hp] at h5 hp5
          have HP5 := Lib.hid hp
          have q0 := h5.bx 0 rfl
          obtain ⟨W5, hW5⟩ : ∃ x, w = x := ⟨_, rfl⟩
          rw [hW5] at h5 q0
          have hbk : Below W5.heap.size W5 (W5.alloc (.cells #[.int .i64 k, .int .i64 i, .int .i64 a, .int .i64 M] 124)) := (Below.refl _ W5).alloc (Nat.le_refl _) _
          have HRd := Lib.hid (cells_reads W5 #[.int .i64 k, .int .i64 i, .int .i64 a, .int .i64 M] 124)
          have HOw := Lib.hid (h5.below hbk).sw0.tms_own
          rw [HP5.out] at HOw
          have hev : ∀ u ∈ tmC ⟨k, i, a, M⟩, u.oneCell' = true := by
            intro u hu
            simp [tmC] at hu
            rcases hu with rfl | rfl | rfl | rfl <;> rfl
          have hmx : p + 1 ≤ maxLen := by unfold maxLen; omega
          have hby : (p + 1) * 32 ≤ 140737488355328 := by omega
          have H5 := Lib.hid h5
          have HBk := Lib.hid hbk
          subst hW5
          clear h5 hbk hp
          go_wp2_with (at_builtin; go_loud (refine wpList_append_any (by rfl) _ _ 114 (by rfl) 124 4 32 tmSlice (.slice a5 p c5) p (r.L.flatMap tmC) (by rfl) HOw.out _ 1 (tmC ⟨k, i, a, M⟩) (by rfl) HRd.out hev hmx hby ?_; intro v' A5 hown hgrow hat; obtain ⟨qq, qn, qcc, rfl⟩ := own_form hown; (have h17 := On.tms_snoc H5.out.sw0 HBk.out hgrow hown (by rw [HP5.out]) hat); (have q9 := h17.sw0.bx 0 rfl); (have q9f := (h17.sw0.box1 0).2); (have HQ := Lib.hid (own_len hown)); (have H17 := Lib.hid h17); clear hown hgrow hat h17))
          go_ret
          obtain rfl := HQ.out
          have h18 := H17.out.sw0.box_set 0 (.slice qq (p + 1) qcc)
          refine ⟨rfl, On.refk_shut HPut.out ?_⟩
          have e1 : (r.L ++ [(⟨k, i, a, M⟩ : Tm)]).length = p + 1 := by rw [List.length_append, HP5.out]; rfl
          exact On.rk_shut (r := ⟨r.L ++ [⟨k, i, a, M⟩], _, now, r.worst⟩) h18
        · have HPut := Lib.hid (show RkOk G ⟨r.L.eraseIdx j ++ [⟨k, i, a, M⟩], [], now, r.worst⟩ by
            have hie := tmIs_iff.1 hi
            have := HR.out.put HO.out (k := k) (i := i) (a := a) HE.out (L1 := r.L.eraseIdx j) (by rw [← hie.1, ← hie.2]; exact HR.out.erase HO.out hjt) erase_sub
            rw [HG.out, HFF.out, HLt.out, HNow.out] at this
            exact this)
          have hjl := (List.getElem?_eq_some_iff.1 hjt).1
          have HDr := Lib.hid (RK_drop (j := j) H3.out (by show r.L.length < _; rw [HN.out]; omega) hjl)
          have hj0 : (0 : Int) ≤ (j : Int) := by omega
          have HEl := Lib.hid (show (r.L.eraseIdx j).length ≤ 512 by rw [List.length_eraseIdx, HN.out, if_pos (by rw [← HN.out]; exact hjl)]; omega)
          clear hjt hi hjl q0 q1 q2
          go_wp2_with fail
          refine HDr.out.mono ?_
          rintro e w3 ⟨rfl, h4⟩
          obtain ⟨u1, u2, h5⟩ := h4.rk_open
          obtain ⟨a5, c5, rfl, _⟩ := h5.sw0.tms_form
          have hp5 := HEl.out
          have h5 : On w0 w3 (sep (boxA rb 116 #[.slice a5 (r.L.eraseIdx j).length c5, u2, .int .i64 now, .int .i64 r.worst]) (sep (tmsA (.slice a5 (r.L.eraseIdx j).length c5) (r.L.eraseIdx j)) (sep (latA u2 []) R))) := h5
          clear h4
          obtain ⟨p, hp⟩ : ∃ p, (r.L.eraseIdx j).length = p := ⟨_, rfl⟩
          rw [hp] at h5 hp5
          have HP5 := Lib.hid hp
          have q0 := h5.bx 0 rfl
          obtain ⟨W5, hW5⟩ : ∃ x, w3 = x := ⟨_, rfl⟩
          rw [hW5] at h5 q0
          have hbk : Below W5.heap.size W5 (W5.alloc (.cells #[.int .i64 k, .int .i64 i, .int .i64 a, .int .i64 M] 124)) := (Below.refl _ W5).alloc (Nat.le_refl _) _
          have HRd := Lib.hid (cells_reads W5 #[.int .i64 k, .int .i64 i, .int .i64 a, .int .i64 M] 124)
          have HOw := Lib.hid (h5.below hbk).sw0.tms_own
          rw [HP5.out] at HOw
          have hev : ∀ u ∈ tmC ⟨k, i, a, M⟩, u.oneCell' = true := by
            intro u hu
            simp [tmC] at hu
            rcases hu with rfl | rfl | rfl | rfl <;> rfl
          have hmx : p + 1 ≤ maxLen := by unfold maxLen; omega
          have hby : (p + 1) * 32 ≤ 140737488355328 := by omega
          have H5 := Lib.hid h5
          have HBk := Lib.hid hbk
          subst hW5
          clear h5 hbk hp
          go_wp2_with (at_builtin; go_loud (refine wpList_append_any (by rfl) _ _ 114 (by rfl) 124 4 32 tmSlice (.slice a5 p c5) p ((r.L.eraseIdx j).flatMap tmC) (by rfl) HOw.out _ 1 (tmC ⟨k, i, a, M⟩) (by rfl) HRd.out hev hmx hby ?_; intro v' A5 hown hgrow hat; obtain ⟨qq, qn, qcc, rfl⟩ := own_form hown; (have h17 := On.tms_snoc H5.out.sw0 HBk.out hgrow hown (by rw [HP5.out]) hat); (have q9 := h17.sw0.bx 0 rfl); (have q9f := (h17.sw0.box1 0).2); (have HQ := Lib.hid (own_len hown)); (have H17 := Lib.hid h17); clear hown hgrow hat h17))
          go_ret
          obtain rfl := HQ.out
          have h18 := H17.out.sw0.box_set 0 (.slice qq (p + 1) qcc)
          refine ⟨rfl, On.refk_shut HPut.out ?_⟩
          have e1 : ((r.L.eraseIdx j) ++ [(⟨k, i, a, M⟩ : Tm)]).length = p + 1 := by rw [List.length_append, HP5.out]; rfl
          exact On.rk_shut (r := ⟨(r.L.eraseIdx j) ++ [⟨k, i, a, M⟩], _, now, r.worst⟩) h18
      | cons y l =>
        obtain ⟨g, off, vc, rfl, hvc⟩ := (h2.sw1.sw0).lat_some
        have qy : w.cell? ⟨g, off, none⟩ = some (.int .i64 y) := by
          obtain ⟨_, _, he, hi⟩ := (h2.sw1.sw0).lat_read
          cases he
          obtain ⟨b, o, e, _, hc⟩ := hi 0 (by simp)
          cases e
          exact hc
        have hl1' : 0 ≤ y ∧ y ≤ 1073741824 := hl1
        obtain ⟨hy0, hy1⟩ := hl1'
        obtain ⟨FF, hFF⟩ : ∃ f, M + y = f := ⟨_, rfl⟩
        have hform' : E = if 1099511627776 ≤ FF then 21 else 0 := by rw [← hFF]; exact hform
        have zw : IntKind.i64.wrap (M + y) = FF := by rw [IntWalk.i64_in _ (by omega)]; exact hFF
        have q0 := h2.bx 0 rfl
        have q1 := h2.bx 1 rfl
        have q1f := (h2.box1 1).2
        have q2 := h2.bx 2 rfl
        have hll : (0 : Int) < ((l.length + 1 : Nat) : Int) := by omega
        have hll2 : (0 : Int) < (l.length : Int) + 1 := by omega
        have hll3 : (1 : Int) ≤ (l.length : Int) + 1 := by omega
        have hlvc : l.length ≤ vc - 1 := by omega
        by_cases hbig : 1099511627776 ≤ FF
        · have hE0 : E = 21 := by rw [hform', if_pos hbig]
          have HGG := Lib.hid (HSm.out (by rw [HE.out, hE0]; decide))
          subst hE0
          clear h2 hform hform' hl1 hFF
          go_enter Try.func129, Try.ntmps129
          go_wp2_with fail
          refine HMa.out.mono ?_
          rintro e w1 ⟨rfl, rfl⟩
          go_wp2_with fail
          refine HTi.out.mono ?_
          rintro e w1 ⟨rfl, rfl⟩
          go_wp2_with fail
          go_ret
          exact ⟨rfl, by have := HGG.out; rw [this]; exact H.out⟩
        · have hE0 : E = 0 := by rw [hform', if_neg hbig]
          subst hE0
          have HFF := Lib.hid (show c.fires a = FF by rw [HF.out]; exact hFF)
          have HLt := Lib.hid (show r.lates.tail = l by rw [HLs.out]; rfl)
          by_cases hv : vc - 1 = 0
          · have hl0 : l = [] := List.eq_nil_of_length_eq_zero (by omega)
            subst hl0
            have hvc1 : vc = 1 := by simp at hvc; omega
            subst hvc1
            obtain ⟨W1, hW1⟩ : ∃ x, w.setCell ⟨rb, 1, none⟩ (.slice (some ⟨g, off, none⟩) 0 0) = x := ⟨_, rfl⟩
            have h3 := (h2.sw1.sw0).lat_empty
            have h4 := (h3.sw0.sw1).box_set 1 (.slice (some ⟨g, off, none⟩) 0 0)
            rw [hW1] at h4
            have h5 := H2r.out _ _ _ h4
            have HAt := Lib.hid (RK_at h5 (by rw [HN.out]; omega) k i)
            have H3 := Lib.hid h5
            clear h2 h3 h4 h5 hform hform' hl1 hFF
            go_enter Try.func129, Try.ntmps129
            go_wp2_with fail
            refine HMa.out.mono ?_
            rintro e w1 ⟨rfl, rfl⟩
            go_wp2_with fail
            refine HTi.out.mono ?_
            rintro e w1 ⟨rfl, rfl⟩
            go_wp2_with fail
            clear q0 q1 q1f q2 qy
            refine HAt.out.mono ?_
            rintro e w2 ⟨⟨x, rfl, hx⟩, rfl⟩
            rcases hx with ⟨rfl, hno⟩ | ⟨j, t, rfl, hjt, hi⟩
            · have HPut := Lib.hid (show RkOk G ⟨r.L ++ [⟨k, i, a, FF⟩], [], now, r.worst⟩ by
                have hh := (HR.out.hasI HO.out HMay.out).1 hno
                have := HR.out.put HO.out (k := k) (i := i) (a := a) HE.out (L1 := r.L) (by rw [without_none hh]; exact HR.out.perm) (fun _ h => h)
                rw [HG.out, HFF.out, HLt.out, HNow.out] at this
                exact this)
              obtain ⟨u1, u2, h5⟩ := H3.out.rk_open
              obtain ⟨a5, c5, rfl, _⟩ := h5.sw0.tms_form
              have hp5 : r.L.length ≤ 512 := by rw [HN.out]; exact hn5
              have h5 : On w0 W1 (sep (boxA rb 116 #[.slice a5 r.L.length c5, u2, .int .i64 now, .int .i64 r.worst]) (sep (tmsA (.slice a5 r.L.length c5) r.L) (sep (latA u2 []) R))) := h5
              clear hno
              obtain ⟨p, hp⟩ : ∃ p, r.L.length = p := ⟨_, rfl⟩
              rw [hp] at h5 hp5
              have HP5 := Lib.hid hp
              have q0 := h5.bx 0 rfl
              obtain ⟨W5, hW5⟩ : ∃ x, W1 = x := ⟨_, rfl⟩
              rw [hW5] at h5 q0
              have hbk : Below W5.heap.size W5 (W5.alloc (.cells #[.int .i64 k, .int .i64 i, .int .i64 a, .int .i64 FF] 124)) := (Below.refl _ W5).alloc (Nat.le_refl _) _
              have HRd := Lib.hid (cells_reads W5 #[.int .i64 k, .int .i64 i, .int .i64 a, .int .i64 FF] 124)
              have HOw := Lib.hid (h5.below hbk).sw0.tms_own
              rw [HP5.out] at HOw
              have hev : ∀ u ∈ tmC ⟨k, i, a, FF⟩, u.oneCell' = true := by
                intro u hu
                simp [tmC] at hu
                rcases hu with rfl | rfl | rfl | rfl <;> rfl
              have hmx : p + 1 ≤ maxLen := by unfold maxLen; omega
              have hby : (p + 1) * 32 ≤ 140737488355328 := by omega
              have H5 := Lib.hid h5
              have HBk := Lib.hid hbk
              subst hW5
              clear h5 hbk hp
              go_wp2_with (at_builtin; go_loud (refine wpList_append_any (by rfl) _ _ 114 (by rfl) 124 4 32 tmSlice (.slice a5 p c5) p (r.L.flatMap tmC) (by rfl) HOw.out _ 1 (tmC ⟨k, i, a, FF⟩) (by rfl) HRd.out hev hmx hby ?_; intro v' A5 hown hgrow hat; obtain ⟨qq, qn, qcc, rfl⟩ := own_form hown; (have h17 := On.tms_snoc H5.out.sw0 HBk.out hgrow hown (by rw [HP5.out]) hat); (have q9 := h17.sw0.bx 0 rfl); (have q9f := (h17.sw0.box1 0).2); (have HQ := Lib.hid (own_len hown)); (have H17 := Lib.hid h17); clear hown hgrow hat h17))
              go_ret
              obtain rfl := HQ.out
              have h18 := H17.out.sw0.box_set 0 (.slice qq (p + 1) qcc)
              refine ⟨rfl, On.refk_shut HPut.out ?_⟩
              have e1 : (r.L ++ [(⟨k, i, a, FF⟩ : Tm)]).length = p + 1 := by rw [List.length_append, HP5.out]; rfl
              exact On.rk_shut (r := ⟨r.L ++ [⟨k, i, a, FF⟩], _, now, r.worst⟩) h18
            · have HPut := Lib.hid (show RkOk G ⟨r.L.eraseIdx j ++ [⟨k, i, a, FF⟩], [], now, r.worst⟩ by
                have hie := tmIs_iff.1 hi
                have := HR.out.put HO.out (k := k) (i := i) (a := a) HE.out (L1 := r.L.eraseIdx j) (by rw [← hie.1, ← hie.2]; exact HR.out.erase HO.out hjt) erase_sub
                rw [HG.out, HFF.out, HLt.out, HNow.out] at this
                exact this)
              have hjl := (List.getElem?_eq_some_iff.1 hjt).1
              have HDr := Lib.hid (RK_drop (j := j) H3.out (by show r.L.length < _; rw [HN.out]; omega) hjl)
              have hj0 : (0 : Int) ≤ (j : Int) := by omega
              have HEl := Lib.hid (show (r.L.eraseIdx j).length ≤ 512 by rw [List.length_eraseIdx, HN.out, if_pos (by rw [← HN.out]; exact hjl)]; omega)
              clear hjt hi hjl
              go_wp2_with fail
              refine HDr.out.mono ?_
              rintro e w3 ⟨rfl, h4⟩
              obtain ⟨u1, u2, h5⟩ := h4.rk_open
              obtain ⟨a5, c5, rfl, _⟩ := h5.sw0.tms_form
              have hp5 := HEl.out
              have h5 : On w0 w3 (sep (boxA rb 116 #[.slice a5 (r.L.eraseIdx j).length c5, u2, .int .i64 now, .int .i64 r.worst]) (sep (tmsA (.slice a5 (r.L.eraseIdx j).length c5) (r.L.eraseIdx j)) (sep (latA u2 []) R))) := h5
              clear h4
              obtain ⟨p, hp⟩ : ∃ p, (r.L.eraseIdx j).length = p := ⟨_, rfl⟩
              rw [hp] at h5 hp5
              have HP5 := Lib.hid hp
              have q0 := h5.bx 0 rfl
              obtain ⟨W5, hW5⟩ : ∃ x, w3 = x := ⟨_, rfl⟩
              rw [hW5] at h5 q0
              have hbk : Below W5.heap.size W5 (W5.alloc (.cells #[.int .i64 k, .int .i64 i, .int .i64 a, .int .i64 FF] 124)) := (Below.refl _ W5).alloc (Nat.le_refl _) _
              have HRd := Lib.hid (cells_reads W5 #[.int .i64 k, .int .i64 i, .int .i64 a, .int .i64 FF] 124)
              have HOw := Lib.hid (h5.below hbk).sw0.tms_own
              rw [HP5.out] at HOw
              have hev : ∀ u ∈ tmC ⟨k, i, a, FF⟩, u.oneCell' = true := by
                intro u hu
                simp [tmC] at hu
                rcases hu with rfl | rfl | rfl | rfl <;> rfl
              have hmx : p + 1 ≤ maxLen := by unfold maxLen; omega
              have hby : (p + 1) * 32 ≤ 140737488355328 := by omega
              have H5 := Lib.hid h5
              have HBk := Lib.hid hbk
              subst hW5
              clear h5 hbk hp
              go_wp2_with (at_builtin; go_loud (refine wpList_append_any (by rfl) _ _ 114 (by rfl) 124 4 32 tmSlice (.slice a5 p c5) p ((r.L.eraseIdx j).flatMap tmC) (by rfl) HOw.out _ 1 (tmC ⟨k, i, a, FF⟩) (by rfl) HRd.out hev hmx hby ?_; intro v' A5 hown hgrow hat; obtain ⟨qq, qn, qcc, rfl⟩ := own_form hown; (have h17 := On.tms_snoc H5.out.sw0 HBk.out hgrow hown (by rw [HP5.out]) hat); (have q9 := h17.sw0.bx 0 rfl); (have q9f := (h17.sw0.box1 0).2); (have HQ := Lib.hid (own_len hown)); (have H17 := Lib.hid h17); clear hown hgrow hat h17))
              go_ret
              obtain rfl := HQ.out
              have h18 := H17.out.sw0.box_set 0 (.slice qq (p + 1) qcc)
              refine ⟨rfl, On.refk_shut HPut.out ?_⟩
              have e1 : ((r.L.eraseIdx j) ++ [(⟨k, i, a, FF⟩ : Tm)]).length = p + 1 := by rw [List.length_append, HP5.out]; rfl
              exact On.rk_shut (r := ⟨(r.L.eraseIdx j) ++ [⟨k, i, a, FF⟩], _, now, r.worst⟩) h18
          · obtain ⟨W1, hW1⟩ : ∃ x, w.setCell ⟨rb, 1, none⟩ (.slice (some ⟨g, off + 1, none⟩) l.length (vc - 1)) = x := ⟨_, rfl⟩
            have h3 := (h2.sw1.sw0).lat_tail
            have h4 := (h3.sw0.sw1).box_set 1 (.slice (some ⟨g, off + 1, none⟩) l.length (vc - 1))
            rw [hW1] at h4
            have h5 := H2r.out _ _ _ h4
            have HAt := Lib.hid (RK_at h5 (by rw [HN.out]; omega) k i)
            have H3 := Lib.hid h5
            clear h2 h3 h4 h5 hform hform' hl1 hFF
            go_enter Try.func129, Try.ntmps129
            go_wp2_with fail
            refine HMa.out.mono ?_
            rintro e w1 ⟨rfl, rfl⟩
            go_wp2_with fail
            refine HTi.out.mono ?_
            rintro e w1 ⟨rfl, rfl⟩
            go_wp2_with fail
            clear q0 q1 q1f q2 qy
            refine HAt.out.mono ?_
            rintro e w2 ⟨⟨x, rfl, hx⟩, rfl⟩
            rcases hx with ⟨rfl, hno⟩ | ⟨j, t, rfl, hjt, hi⟩
            · have HPut := Lib.hid (show RkOk G ⟨r.L ++ [⟨k, i, a, FF⟩], l, now, r.worst⟩ by
                have hh := (HR.out.hasI HO.out HMay.out).1 hno
                have := HR.out.put HO.out (k := k) (i := i) (a := a) HE.out (L1 := r.L) (by rw [without_none hh]; exact HR.out.perm) (fun _ h => h)
                rw [HG.out, HFF.out, HLt.out, HNow.out] at this
                exact this)
              obtain ⟨u1, u2, h5⟩ := H3.out.rk_open
              obtain ⟨a5, c5, rfl, _⟩ := h5.sw0.tms_form
              have hp5 : r.L.length ≤ 512 := by rw [HN.out]; exact hn5
              have h5 : On w0 W1 (sep (boxA rb 116 #[.slice a5 r.L.length c5, u2, .int .i64 now, .int .i64 r.worst]) (sep (tmsA (.slice a5 r.L.length c5) r.L) (sep (latA u2 l) R))) := h5
              clear hno
              obtain ⟨p, hp⟩ : ∃ p, r.L.length = p := ⟨_, rfl⟩
              rw [hp] at h5 hp5
              have HP5 := Lib.hid hp
              have q0 := h5.bx 0 rfl
              obtain ⟨W5, hW5⟩ : ∃ x, W1 = x := ⟨_, rfl⟩
              rw [hW5] at h5 q0
              have hbk : Below W5.heap.size W5 (W5.alloc (.cells #[.int .i64 k, .int .i64 i, .int .i64 a, .int .i64 FF] 124)) := (Below.refl _ W5).alloc (Nat.le_refl _) _
              have HRd := Lib.hid (cells_reads W5 #[.int .i64 k, .int .i64 i, .int .i64 a, .int .i64 FF] 124)
              have HOw := Lib.hid (h5.below hbk).sw0.tms_own
              rw [HP5.out] at HOw
              have hev : ∀ u ∈ tmC ⟨k, i, a, FF⟩, u.oneCell' = true := by
                intro u hu
                simp [tmC] at hu
                rcases hu with rfl | rfl | rfl | rfl <;> rfl
              have hmx : p + 1 ≤ maxLen := by unfold maxLen; omega
              have hby : (p + 1) * 32 ≤ 140737488355328 := by omega
              have H5 := Lib.hid h5
              have HBk := Lib.hid hbk
              subst hW5
              clear h5 hbk hp
              go_wp2_with (at_builtin; go_loud (refine wpList_append_any (by rfl) _ _ 114 (by rfl) 124 4 32 tmSlice (.slice a5 p c5) p (r.L.flatMap tmC) (by rfl) HOw.out _ 1 (tmC ⟨k, i, a, FF⟩) (by rfl) HRd.out hev hmx hby ?_; intro v' A5 hown hgrow hat; obtain ⟨qq, qn, qcc, rfl⟩ := own_form hown; (have h17 := On.tms_snoc H5.out.sw0 HBk.out hgrow hown (by rw [HP5.out]) hat); (have q9 := h17.sw0.bx 0 rfl); (have q9f := (h17.sw0.box1 0).2); (have HQ := Lib.hid (own_len hown)); (have H17 := Lib.hid h17); clear hown hgrow hat h17))
              go_ret
              obtain rfl := HQ.out
              have h18 := H17.out.sw0.box_set 0 (.slice qq (p + 1) qcc)
              refine ⟨rfl, On.refk_shut HPut.out ?_⟩
              have e1 : (r.L ++ [(⟨k, i, a, FF⟩ : Tm)]).length = p + 1 := by rw [List.length_append, HP5.out]; rfl
              exact On.rk_shut (r := ⟨r.L ++ [⟨k, i, a, FF⟩], _, now, r.worst⟩) h18
            · have HPut := Lib.hid (show RkOk G ⟨r.L.eraseIdx j ++ [⟨k, i, a, FF⟩], l, now, r.worst⟩ by
                have hie := tmIs_iff.1 hi
                have := HR.out.put HO.out (k := k) (i := i) (a := a) HE.out (L1 := r.L.eraseIdx j) (by rw [← hie.1, ← hie.2]; exact HR.out.erase HO.out hjt) erase_sub
                rw [HG.out, HFF.out, HLt.out, HNow.out] at this
                exact this)
              have hjl := (List.getElem?_eq_some_iff.1 hjt).1
              have HDr := Lib.hid (RK_drop (j := j) H3.out (by show r.L.length < _; rw [HN.out]; omega) hjl)
              have hj0 : (0 : Int) ≤ (j : Int) := by omega
              have HEl := Lib.hid (show (r.L.eraseIdx j).length ≤ 512 by rw [List.length_eraseIdx, HN.out, if_pos (by rw [← HN.out]; exact hjl)]; omega)
              clear hjt hi hjl
              go_wp2_with fail
              refine HDr.out.mono ?_
              rintro e w3 ⟨rfl, h4⟩
              obtain ⟨u1, u2, h5⟩ := h4.rk_open
              obtain ⟨a5, c5, rfl, _⟩ := h5.sw0.tms_form
              have hp5 := HEl.out
              have h5 : On w0 w3 (sep (boxA rb 116 #[.slice a5 (r.L.eraseIdx j).length c5, u2, .int .i64 now, .int .i64 r.worst]) (sep (tmsA (.slice a5 (r.L.eraseIdx j).length c5) (r.L.eraseIdx j)) (sep (latA u2 l) R))) := h5
              clear h4
              obtain ⟨p, hp⟩ : ∃ p, (r.L.eraseIdx j).length = p := ⟨_, rfl⟩
              rw [hp] at h5 hp5
              have HP5 := Lib.hid hp
              have q0 := h5.bx 0 rfl
              obtain ⟨W5, hW5⟩ : ∃ x, w3 = x := ⟨_, rfl⟩
              rw [hW5] at h5 q0
              have hbk : Below W5.heap.size W5 (W5.alloc (.cells #[.int .i64 k, .int .i64 i, .int .i64 a, .int .i64 FF] 124)) := (Below.refl _ W5).alloc (Nat.le_refl _) _
              have HRd := Lib.hid (cells_reads W5 #[.int .i64 k, .int .i64 i, .int .i64 a, .int .i64 FF] 124)
              have HOw := Lib.hid (h5.below hbk).sw0.tms_own
              rw [HP5.out] at HOw
              have hev : ∀ u ∈ tmC ⟨k, i, a, FF⟩, u.oneCell' = true := by
                intro u hu
                simp [tmC] at hu
                rcases hu with rfl | rfl | rfl | rfl <;> rfl
              have hmx : p + 1 ≤ maxLen := by unfold maxLen; omega
              have hby : (p + 1) * 32 ≤ 140737488355328 := by omega
              have H5 := Lib.hid h5
              have HBk := Lib.hid hbk
              subst hW5
              clear h5 hbk hp
              go_wp2_with (at_builtin; go_loud (refine wpList_append_any (by rfl) _ _ 114 (by rfl) 124 4 32 tmSlice (.slice a5 p c5) p ((r.L.eraseIdx j).flatMap tmC) (by rfl) HOw.out _ 1 (tmC ⟨k, i, a, FF⟩) (by rfl) HRd.out hev hmx hby ?_; intro v' A5 hown hgrow hat; obtain ⟨qq, qn, qcc, rfl⟩ := own_form hown; (have h17 := On.tms_snoc H5.out.sw0 HBk.out hgrow hown (by rw [HP5.out]) hat); (have q9 := h17.sw0.bx 0 rfl); (have q9f := (h17.sw0.box1 0).2); (have HQ := Lib.hid (own_len hown)); (have H17 := Lib.hid h17); clear hown hgrow hat h17))
              go_ret
              obtain rfl := HQ.out
              have h18 := H17.out.sw0.box_set 0 (.slice qq (p + 1) qcc)
              refine ⟨rfl, On.refk_shut HPut.out ?_⟩
              have e1 : ((r.L.eraseIdx j) ++ [(⟨k, i, a, FF⟩ : Tm)]).length = p + 1 := by rw [List.length_append, HP5.out]; rfl
              exact On.rk_shut (r := ⟨(r.L.eraseIdx j) ++ [⟨k, i, a, FF⟩], _, now, r.worst⟩) h18
    · have z : (T != 0) = true := by simpa using ht
      have e1 : E = T := by rw [← hE]; unfold Ck.setE; rw [if_pos hm, if_neg (by rw [hT]; exact ht), hT]
      have HE2 := Lib.hid e1
      have HSame := Lib.hid (hsame (by rw [hE, e1]; exact ht))
      clear h h1 hm hlen hfew hT hr ho hsame hE hG e1
      go_enter Try.func129, Try.ntmps129
      go_wp2_with fail
      refine HMa.out.mono ?_
      rintro e w1 ⟨rfl, rfl⟩
      go_wp2_with fail
      refine HTi.out.mono ?_
      rintro e w1 ⟨rfl, rfl⟩
      go_wp2_with fail
      go_ret
      exact ⟨by rw [HE2.out]; rfl, by have := HSame.out; rw [this]; exact H.out⟩
  · rw [decide_eq_false hm] at HMa
    have e1 : E = 1 := by rw [← hE]; unfold Ck.setE; rw [if_neg hm]
    have HE2 := Lib.hid e1
    have HSame := Lib.hid (hsame (by rw [hE, e1]; decide))
    clear h h1 hm hlen hfew hr ho hsame hE hG e1
    go_enter Try.func129, Try.ntmps129
    go_wp2_with fail
    refine HMa.out.mono ?_
    rintro e w1 ⟨rfl, rfl⟩
    go_wp2_with fail
    go_ret
    exact ⟨by rw [HE2.out]; rfl, by have := HSame.out; rw [this]; exact H.out⟩
end
end Go.Proofs.Ytkjpkhpiojahkaa
