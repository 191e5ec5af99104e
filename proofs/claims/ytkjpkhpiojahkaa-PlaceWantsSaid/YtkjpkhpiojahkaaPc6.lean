/-
  Place: which server runs on each worker.
-/
import Derived.Test.YtkjpkhpiojahkaaPc5
import Derived.Test.YtkjpkhpiojahkaaPl1
import Derived.WalkMore
namespace Go.Proofs.Ytkjpkhpiojahkaa
set_option linter.unusedVariables false
open Go.RowKit Hp
attribute [local go_sem] Oper.semAt_some run_store_func
theorem addN_ids {ks : List (Int × Int)} : ∀ n, ∀ x ∈ addN [] ks n, 0 ≤ x.1
  | 0, x, h => absurd h (by simp [addN])
  | n + 1, x, h => by
    rw [addN] at h
    unfold putS at h
    split at h
    · exact addN_ids n x h
    · split at h
      · exact addN_ids n x h
      · rcases ins_mem.1 h with rfl | h
        · show 0 ≤ (kj ks n).2
          have : ¬ (ks[n]?.getD (0, 0)).2 < 0 := by assumption
          show 0 ≤ (ks[n]?.getD (0, 0)).2
          omega
        · exact addN_ids n x h
theorem lit_small {i : Nat} (h : i < 16) : (Lit.int .i64 (i : Int)).wf = true := (by decide : ∀ k : Fin 16, (Lit.int .i64 ((k.val : Nat) : Int)).wf = true) ⟨i, h⟩
theorem putAll_ids {ks : List (Int × Int)} : ∀ x ∈ putAll [] ks, 0 ≤ x.1 := addN_ids _
theorem kv_ids (B : List (It Int)) : (kv B).map (·.2) = B.map (·.1) := by unfold kv; rw [List.map_map]; rfl
section
variable {w0 w : World} {R : Ast} {g n : Nat} {zs : List Int}
theorem ints_at {i : Nat} {x : Int} (h : zs[i]? = some x) : (ints zs)[i]? = some (.int .i64 x) := by unfold ints; rw [List.getElem?_map, h]; rfl
theorem On.ints_set (h : On w0 w (sep (intsA (.slice (some ⟨g, 0, none⟩) n n) zs) R)) (i : Nat) (x : Int) (hn : zs.length = n) :
    On w0 (w.setCell ⟨g, i, none⟩ (.int .i64 x)) (sep (intsA (.slice (some ⟨g, 0, none⟩) n n) (zs.set i x)) R) := h.step1 fun F hF => by
  subst hn
  unfold intsA at hF ⊢
  have e : ints (zs.set i x) = (ints zs).set i (.int .i64 x) := by unfold ints; rw [List.map_set]
  rw [List.length_set, e]
  exact rowA_set hF
theorem On.ints_cell (h : On w0 w (sep (intsA (.slice (some ⟨g, 0, none⟩) n n) zs) R)) (hn : zs.length = n) {i : Nat} {x : Int} (hx : zs[i]? = some x) : w.cell? ⟨g, i, none⟩ = some (.int .i64 x) ∧ w.frozen? ⟨g, i, none⟩ = false := by
  obtain ⟨F, hF, _⟩ := h.get1
  subst hn
  exact ⟨own_cellG hF.1 (ints_at hx), own_freeG hF.1 i⟩
theorem On.ints_at (h : On w0 w (sep (intsA (.slice (some ⟨g, 0, none⟩) n n) zs) R)) (hn : zs.length = n) : IntsAt w (some ⟨g, 0, none⟩) zs := fun k hk => by
  obtain ⟨h1, _⟩ := h.ints_cell hn (List.getElem?_eq_getElem hk)
  exact ⟨g, 0, rfl, World.block_lt_of_cell? w _ h1, by rw [List.getElem?_eq_getElem hk, Nat.zero_add]; exact h1⟩
end
section
variable {w0 w : World} {R : Ast} {a : Option Addr} {cap : Nat} {ks : List (Int × Int)} {r : List Int} {ra : Option Addr} {rc : Nat}
set_option maxRecDepth 100000 in
set_option maxHeartbeats 8000000 in
theorem place_ok (h : On w0 w R) (hr : ∀ A, On w0 A R → IntsAt A ra r) (hrl : r.length < 1000000) (hrw : ∀ x ∈ r, (Lit.int .i64 x).wf = true)
    (hk : ∀ A, On w0 A R → Ke.KeysAt A a ks) (hwf : ∀ k ∈ ks, (Lit.int .i64 k.2).wf = true) (hcap : ks.length ≤ cap) (hcm : cap ≤ 9223372036854775807) (hl : ks.length < 700000) :
    Calls Try.prog 60 #[.slice ra r.length rc, .slice a ks.length cap] w fun e w' => ∃ v, e = .returned (.tuple #[v, .int .i64 (bothE r ks)]) ∧ (bothE r ks ≠ 0 → v = .slice none 0 0 ∧ On w0 w' R) ∧ (bothE r ks = 0 → On w0 w' (sep (intsA v (placeL r (putAll [] ks))) R)) := by
  have HBo := Lib.hid (both_ok (rc := rc) h hr hrl hrw hk hwf hcap hcm hl)
  have HR := Lib.hid hr
  obtain ⟨E, hE⟩ : ∃ E, bothE r ks = E := ⟨_, rfl⟩
  rw [hE] at HBo ⊢
  obtain ⟨n, hn⟩ : ∃ n, r.length = n := ⟨_, rfl⟩
  rw [hn] at HBo ⊢
  have HE := Lib.hid hE
  have HN := Lib.hid hn
  clear h hr hk hwf hE hn
  by_cases h0 : E = 0
  · subst h0
    go_enter Try.func60, Try.ntmps60
    go_wp2_with fail
    go_step3
    go_wp2_with fail
    refine HBo.out.mono ?_
    rintro e w1 ⟨v, rfl, _, hq⟩
    obtain ⟨q, rfl, h1⟩ := hq (by first | rfl | trivial)
    have H1 := Lib.hid h1
    clear hq h1
    go_wp2_with fail
    obtain ⟨hw0, hs0⟩ := both_zero HE.out
    obtain ⟨hn1, hn16, _, _⟩ := work_ok hw0
    rw [HN.out] at hn1 hn16
    have hsl := putAll_length ks
    have hlst : leastS (putAll [] ks) (n : Int) = (putAll [] ks).take n := by unfold leastS; rw [if_neg (by omega)]; simp
    have hle := Q_least H1.out (putAll_sorted ks) (by omega) (n : Int)
    rw [hlst] at hle
    have HLe := Lib.hid hle
    have HW0 := Lib.hid hw0
    clear hw0 hs0 hlst hle
    refine HLe.out.mono ?_
    rintro e w2 ⟨v, rfl, h2⟩
    obtain ⟨ba, bc, rfl, _⟩ := h2.keys1
    obtain ⟨B, hB⟩ : ∃ B, (putAll [] ks).take n = B := ⟨_, rfl⟩
    rw [hB] at h2 ⊢
    obtain ⟨m, hm⟩ : ∃ m, B.length = m := ⟨_, rfl⟩
    rw [hm] at h2 ⊢
    have hmn : m ≤ n := by rw [← hm, ← hB, List.length_take]; exact Nat.min_le_left _ _
    have HBst := Lib.hid hB
    have HMl := Lib.hid hm
    obtain ⟨w3, hw3⟩ : ∃ x, w2.alloc (.cells #[.int .i64 (-1)] 3) = x := ⟨_, rfl⟩
    obtain ⟨bx, hbx⟩ : ∃ b, w2.heap.size = b := ⟨_, rfl⟩
    have h3 := h2.new1 3 #[.int .i64 (-1)]
    rw [hw3, hbx] at h3
    have HRp := Lib.hid (repeat_ok (-1) bx n w3 hn1 hn16 (h3.bx 0 rfl))
    have H3 := Lib.hid h3.out1
    clear h2 h3 hB hm
    go_wp2_with fail
    refine HRp.out.mono ?_
    rintro e w4 ⟨g, rfl, hb4, hg4, hrow4⟩
    have h4 : On w0 w4 (sep (intsA (.slice (some ⟨g, 0, none⟩) n n) (List.replicate n (-1))) _) := (H3.out.add hb4 (rowA_of hrow4) (fun j hj => by omega)).mono1 fun F hF => by
      unfold intsA
      rw [List.length_replicate]
      exact hF
    have HNw := Lib.hid (H_new h4)
    clear hw3 hbx hb4 hg4 hrow4 h4
    go_wp2_with fail
    refine HNw.out.mono ?_
    rintro e w5 ⟨fb, rfl, h5⟩
    have H5 := Lib.hid h5
    clear h5
    go_wp2_with fail
    go_loopg [42] n (fun gh s42 wr => ∃ i : Nat, i + gh = n ∧ s42 = .int .i64 (i : Int) ∧ On w0 wr (sep (H fb (freeOf (outB (B.map (·.1)) r) i)) (sep (intsA (.slice (some ⟨g, 0, none⟩) n n) (outN (B.map (·.1)) r i)) (sep (keysA (.slice ba m bc) B) (sep (quA q (putAll [] ks)) R)))))
    case atStart => exact ⟨0, by omega, rfl, by rw [outN_zero, HN.out]; exact H5.out⟩
    case round =>
      obtain ⟨i, hi, rfl, hon⟩ := hrel
      by_cases hlt : i < n
      · have hltI : (i : Int) < (n : Int) := by omega
        have hi0 : (0 : Int) ≤ (i : Int) := by omega
        obtain ⟨b, off, rfl, hbl, hc⟩ := (HR.out wr hon.out1.out1.out1.out1).row (by rw [HN.out]; omega)
        obtain ⟨x, hx⟩ : ∃ x, r[i]? = some x := ⟨_, List.getElem?_eq_getElem (by rw [HN.out]; exact hlt)⟩
        have q0 : wr.cell? ⟨b, off + i, none⟩ = some (.int .i64 x) := by
          have := hc i (by rw [HN.out]; exact hlt)
          rw [hx] at this
          exact this
        obtain ⟨W, hW⟩ : ∃ W, wr.alloc (.cells #[.int .i64 x] 3) = W := ⟨_, rfl⟩
        obtain ⟨bi, hbi⟩ : ∃ bi, wr.heap.size = bi := ⟨_, rfl⟩
        have h1 := hon.new1 3 #[.int .i64 x]
        rw [hW, hbi] at h1
        obtain ⟨a', c', he, hk⟩ := h1.out1.out1.out1.keys1
        rw [HMl.out] at he
        cases he
        have hcf := containsf_ok ba bc (kv B) bi x W hk (by unfold kv; rw [List.length_map, HMl.out]; omega) (h1.bx 0 rfl)
        rw [kv_ids, show (kv B).length = m from by unfold kv; rw [List.length_map, HMl.out]] at hcf
        have hxo := outB_at (B := B.map (·.1)) hx
        have HX := Lib.hid hx
        have H1' := Lib.hid h1
        by_cases hin : x ∈ B.map (·.1)
        · rw [decide_eq_true hin] at hcf
          rw [if_pos hin] at hxo
          have HXo := Lib.hid hxo
          have HCf := Lib.hid hcf
          have HIn := Lib.hid hin
          clear hon hbl hc hx h1 hk hcf hxo hin
          go_wp2_with fail
          refine HCf.out.mono ?_
          rintro e x2 ⟨rfl, hb2⟩
          have h2 := (H1'.out.below hb2).out1.sw0
          have hol : (outN (B.map (·.1)) r i).length = n := by rw [outN_length (by rw [HN.out]; omega), HN.out]
          have hoi : (outN (B.map (·.1)) r i)[i]? = some (-1) := by
            unfold outN
            have hlo := outB_length (B.map (·.1)) r
            rw [List.getElem?_append_right (by rw [List.length_take]; omega), List.length_take, List.getElem?_replicate, if_pos (by rw [HN.out]; have := HN.out; omega)]
          obtain ⟨k0, k1⟩ := h2.ints_cell hol hoi
          have q1 : x2.cell? ⟨bi, 0, none⟩ = some (.int .i64 x) := (H1'.out.below hb2).bx 0 rfl
          have h3 := h2.ints_set i x hol
          rw [outN_step HXo.out] at h3
          have h4 := h3.sw0
          rw [← freeOf_skip (by rw [HXo.out]; show x ≠ -1; intro e; obtain ⟨y, hy, hyx⟩ := List.mem_map.1 HIn.out; rw [← HBst.out] at hy; have := putAll_ids y (List.mem_of_mem_take hy); omega)] at h4
          have H4 := Lib.hid h4
          clear hb2 h2 hol hoi h3 h4
          go_wp2_with fail
          go_roundg (n - (i + 1))
          case measure => omega
          case rel => exact ⟨i + 1, by omega, by go_num, H4.out⟩
        · rw [decide_eq_false hin] at hcf
          rw [if_neg hin] at hxo
          have HXo := Lib.hid hxo
          have HCf := Lib.hid hcf
          clear hon hbl hc hx h1 hk hcf hxo hin
          go_wp2_with fail
          refine HCf.out.mono ?_
          rintro e x2 ⟨rfl, hb2⟩
          have h2 := (H1'.out.below hb2).out1
          have hpu := U_put h2 (by have := freeOf_length (outB (B.map (·.1)) r) i; omega) (i : Int) (i : Int) (lit_small (by omega))
          rw [freeOf_put (by rw [HXo.out]; rfl), outN_keep HXo.out] at hpu
          have HPu := Lib.hid hpu
          clear hb2 h2 hpu
          go_wp2_with fail
          refine HPu.out.mono ?_
          rintro e x3 ⟨rfl, h3⟩
          have H3' := Lib.hid h3
          clear h3
          go_wp2_with fail
          go_roundg (n - (i + 1))
          case measure => omega
          case rel => exact ⟨i + 1, by omega, by go_num, H3'.out⟩
      · have hin : i = n := by omega
        subst hin
        have h1 := hon
        rw [show outN (B.map (·.1)) r i = outB (B.map (·.1)) r from by rw [← HN.out, outN_all]] at h1
        obtain ⟨O, hO⟩ : ∃ O, outB (B.map (·.1)) r = O := ⟨_, rfl⟩
        have hOl : O.length = i := by rw [← hO, outB_length, HN.out]
        rw [hO] at h1
        have HO := Lib.hid hO
        have HOl := Lib.hid hOl
        have H1' := Lib.hid h1
        clear hon h1 hO hOl
        go_wp2_with fail
        go_step3
        go_wp2_with fail
        obtain ⟨T, hT⟩ : ∃ T, placeL r (putAll [] ks) = T := ⟨_, rfl⟩
        have hTz : fillB O (B.map (·.1)) = T := by
          rw [← hT, ← HO.out, ← HBst.out]
          unfold placeL bestI
          rw [HN.out]
        have HTz := Lib.hid hTz
        have HLd : Hid (Laid (B.map (·.1)) O) := Lib.hid (by rw [← HO.out]; exact Laid.start HW0.out)
        have HT := Lib.hid hT
        clear hT hTz
        go_loopg [61] m (fun gh s61 wz => ∃ (j : Nat) (Z : List Int), j + gh = m ∧ s61 = .int .i64 (j : Int) ∧ Z.length = i ∧ Laid (B.map (·.1)) Z ∧ fillB Z ((B.drop j).map (·.1)) = T ∧ On w0 wz (sep (H fb (freeOf Z i)) (sep (intsA (.slice (some ⟨g, 0, none⟩) i i) Z) (sep (keysA (.slice ba m bc) B) (sep (quA q (putAll [] ks)) R)))))
        case atStart => exact ⟨0, O, by omega, rfl, HOl.out, HLd.out, by rw [List.drop_zero]; exact HTz.out, by rw [← HO.out]; rw [← HO.out] at H1'; exact H1'.out⟩
        case round =>
          obtain ⟨j, Z, hj, rfl, hZl, hZd, hZf, hon⟩ := hrel
          by_cases hlt : j < m
          · have hltI : (j : Int) < (m : Int) := by omega
            have hj0 : (0 : Int) ≤ (j : Int) := by omega
            obtain ⟨y, hy⟩ : ∃ y, B[j]? = some y := ⟨_, List.getElem?_eq_getElem (by rw [HMl.out]; exact hlt)⟩
            have hyk : (kv B)[j]? = some (y.2, y.1) := by unfold kv; rw [List.getElem?_map, hy]; rfl
            obtain ⟨a', c', he, hk⟩ := hon.out1.out1.keys1
            rw [HMl.out] at he
            cases he
            have hkl : (kv B).length = m := by unfold kv; rw [List.length_map, HMl.out]
            obtain ⟨b, off, rfl, hbl, hc⟩ := keysAt_get hk (n := m) (by omega) hkl
            obtain ⟨hc0, hc1⟩ := hc j hlt
            rw [hyk, Option.getD_some] at hc0 hc1
            have q0 : wr.cell? ⟨b, off + j * 2, none⟩ = some (.int .i64 y.2) := hc0
            have q1 : wr.cell? ⟨b, off + j * 2 + 1, none⟩ = some (.int .i64 y.1) := hc1
            obtain ⟨W, hW⟩ : ∃ W, wr.alloc (.cells #[.int .i64 y.2, .int .i64 y.1] 24) = W := ⟨_, rfl⟩
            obtain ⟨bi, hbi⟩ : ∃ bi, wr.heap.size = bi := ⟨_, rfl⟩
            have h1 := hon.new1 24 #[.int .i64 y.2, .int .i64 y.1]
            rw [hW, hbi] at h1
            have k00 := (h1).bx 0 rfl
            have k01 := (h1).bx 1 rfl
            have hcf := contains_ok (some ⟨g, 0, none⟩) i Z y.1 W (h1.out1.out1.ints_at hZl) (by omega)
            rw [hZl] at hcf
            have hdr : B.drop j = y :: B.drop (j + 1) := by
              obtain ⟨h1, h2⟩ := List.getElem?_eq_some_iff.1 hy
              rw [List.drop_eq_getElem_cons h1, h2]
            have hym : y.1 ∈ B.map (·.1) := List.mem_map.2 ⟨y, List.mem_of_getElem? hy, rfl⟩
            have hyn : y.1 ≠ -1 := by
              have hy2 := List.mem_of_getElem? hy
              rw [← HBst.out] at hy2
              have := putAll_ids y (List.mem_of_mem_take hy2)
              omega
            rw [hdr, List.map_cons] at hZf
            have hpf : fillB (putB Z y.1) ((B.drop (j + 1)).map (·.1)) = T := hZf
            have HPf := Lib.hid hpf
            have HPd := Lib.hid (hZd.put hym hyn)
            have HPl := Lib.hid ((putB_length Z y.1).trans hZl)
            have H1'' := Lib.hid h1
            by_cases hin : y.1 ∈ Z
            · rw [decide_eq_true hin] at hcf
              have HCf := Lib.hid hcf
              have hpb : putB Z y.1 = Z := by unfold putB; rw [if_pos hin]
              rw [hpb] at HPf HPd HPl
              clear hZd hZf hon hy hyk hk hkl hbl hc hc0 hc1 h1 hcf hdr hym hyn hpf hin hpb
              go_wp2_with fail
              refine HCf.out.mono ?_
              rintro e x2 ⟨rfl, hb2⟩
              have h2 := (H1''.out.below hb2).out1
              have H2 := Lib.hid h2
              clear hb2 h2
              go_wp2_with fail
              go_roundg (m - (j + 1))
              case measure => omega
              case rel => exact ⟨j + 1, Z, by omega, by go_num, HPl.out, HPd.out, HPf.out, H2.out⟩
            · rw [decide_eq_false hin] at hcf
              have HCf := Lib.hid hcf
              have hidle := hZd.idle hym (by rw [List.length_map, HMl.out, hZl]; exact hmn) hin
              obtain ⟨p, hp⟩ : ∃ p, Z.idxOf (-1) = p := ⟨_, rfl⟩
              have hpi : p < i := by rw [← hp, ← hZl]; exact List.idxOf_lt_length_iff.2 hidle
              have hpz : Z[p]? = some (-1) := by
                subst hp
                rw [List.getElem?_eq_getElem (by rw [hZl]; exact hpi)]
                exact congrArg some (List.getElem_idxOf (by rw [hZl]; exact hpi))
              have hpb : putB Z y.1 = Z.set p y.1 := by unfold putB; rw [if_neg hin, hp]
              have hfr : freeOf Z i = ((p : Int), (p : Int)) :: freeOf (Z.set p y.1) i := by
                have := freeOf_take (id := y.1) hidle hyn
                rw [hp, hZl] at this
                exact this
              have HTk := Lib.hid (fun (A : World) (h : On w0 A (sep (H fb (freeOf Z i)) (sep (boxA bi 24 #[.int .i64 y.2, .int .i64 y.1]) (sep (intsA (.slice (some ⟨g, 0, none⟩) i i) Z) (sep (keysA (.slice (some ⟨b, off, none⟩) m bc) B) (sep (quA q (putAll [] ks)) R))))))  => U_take h (freeOf_sorted Z i) (by have := freeOf_length Z i; omega))
              rw [hpb] at HPf HPd HPl
              rw [hfr] at HTk
              have HPz := Lib.hid hpz
              have HFr := Lib.hid hfr
              have hpI : (p : Int) < (i : Int) := by omega
              have hp0 : (0 : Int) ≤ (p : Int) := by omega
              have HZl := Lib.hid hZl
              clear hZd hZf hon hy hyk hk hkl hbl hc hc0 hc1 h1 hcf hdr hym hyn hpf hin hpb hp hpz hfr hidle hZl
              go_wp2_with fail
              refine HCf.out.mono ?_
              rintro e x2 ⟨rfl, hb2⟩
              have h2 := (H1''.out.below hb2).sw0
              rw [HFr.out] at h2
              have HTk2 := Lib.hid (HTk.out x2 h2)
              clear hb2 h2
              go_wp2_with fail
              refine HTk2.out.mono ?_
              rintro e x3 ⟨rfl, h3⟩
              have h4 := h3.sw0
              have k00 := (h4).bx 0 rfl
              have k01 := (h4).bx 1 rfl
              have h5 := h3.sw1.sw0
              obtain ⟨z0, z1⟩ := h5.ints_cell HZl.out HPz.out
              have h6 := (h5.ints_set p y.1 HZl.out).sw0.sw1.sw0.out1
              have H6 := Lib.hid h6
              clear h3 h4 h5 h6
              go_wp2_with fail
              go_roundg (m - (j + 1))
              case measure => omega
              case rel => exact ⟨j + 1, Z.set p y.1, by omega, by go_num, HPl.out, HPd.out, HPf.out, H6.out⟩
          · have hjm : j = m := by omega
            have hZT : Z = T := by
              rw [← hZf, List.drop_of_length_le (by rw [HMl.out]; omega)]
              rfl
            subst hZT
            have H8 := Lib.hid hon.out1.sw0.out1.sw0.out1
            clear hon hZl hZd hZf
            go_wp2_with fail
            go_ret2
            exact ⟨_, rfl, fun h => absurd rfl h, fun _ => by rw [HT.out]; exact H8.out⟩
  · have z : (E != 0) = true := by simpa using h0
    go_enter Try.func60, Try.ntmps60
    go_wp2_with fail
    go_step3
    go_wp2_with fail
    refine HBo.out.mono ?_
    rintro e w1 ⟨v, rfl, hq, _⟩
    have H1 := Lib.hid (hq h0)
    clear hq
    go_wp2_with fail
    rw [Exit.noGoto_ret]
    go_ret2
    exact ⟨_, rfl, fun _ => ⟨by first | rfl | trivial, H1.out⟩, fun h => absurd h h0⟩
end
end Go.Proofs.Ytkjpkhpiojahkaa
