/-
  Walk: PlaceOrder.
-/
import Derived.Test.YtkjpkhpiojahkaaPl6
namespace Go.Proofs.Ytkjpkhpiojahkaa
set_option linter.unusedVariables false
open Go.RowKit Hp
attribute [local go_sem] Oper.semAt_some
theorem reads_key1 {A : World} {b : Nat} {v u : Value} (h0 : A.cell? ⟨b, 0, none⟩ = some v) (h1 : A.cell? ⟨b, 1, none⟩ = some u) : Reads A (.slice (some ⟨b, 0, none⟩) 1 1) 2 1 [v, u] :=
  .inr ⟨_, _, rfl, rfl, fun j x hx => by
    match j, hx with
    | 0, hx => cases hx; exact h0
    | 1, hx => cases hx; exact h1⟩
theorem On.keys_nil {w0 w : World} {R : Ast} (h : On w0 w R) : On w0 w (sep (keysA (.slice none 0 0) []) R) :=
  h.add (Below.refl _ w) (F := fun _ => False) (keysA_nil w) (fun _ h => h.elim)
theorem keys_snoc (T : List (It Int)) (t id : Int) : T.flatMap keyC ++ [.int .i64 t, .int .i64 id] = (T ++ [(id, t)]).flatMap keyC := by rw [List.flatMap_append]; rfl
theorem itk_reverse (ks : List (Int × Int)) : itk ks.reverse = (itk ks).reverse := by unfold itk; rw [List.map_reverse]
theorem mem_take_if {l : List Int} {i : Nat} {y x : Int} (h : l[i]? = some y) : (if x ∈ l.take (i + 1) then x else -1) = if y = x then x else if x ∈ l.take i then x else -1 := by
  have hm : x ∈ l.take (i + 1) ↔ x ∈ l.take i ∨ x = y := by
    rw [List.take_add_one, h, List.mem_append]
    show _ ∨ x ∈ [y] ↔ _
    rw [List.mem_singleton]
  by_cases hy : y = x
  · rw [if_pos (hm.2 (.inr hy.symm)), if_pos hy]
  · rw [if_neg hy]
    by_cases hi : x ∈ l.take i
    · rw [if_pos (hm.2 (.inl hi)), if_pos hi]
    · rw [if_neg hi, if_neg fun h => (hm.1 h).elim hi fun e => hy e.symm]
section
variable {r : List Int} {ks : List (Int × Int)} {S : List (It Int)} {a : List Int}
theorem Fine.idle (h : Fine r ks S a) : workE (outB (ks.map (·.2)) r) = 0 := by
  obtain ⟨l1, l2, _, _⟩ := work_ok h.w
  refine (Laid.start (B := ks.map (·.2)) h.w).work (fun x hx => ?_) (by rw [outB_length]; exact l1) (by rw [outB_length]; exact l2)
  obtain ⟨k, hk, rfl⟩ := List.mem_map.1 hx
  have := (h.g.puts.1 k hk).1
  omega
end
theorem vicW_eq {r : List Int} {ks : List (Int × Int)} {S : List (It Int)} (hb : bothE r ks = 0) (hS : putAll [] ks = S) : vicW r ks = victW r S ∧ vicE r ks = victE r S := by
  unfold vicW vicE
  rw [if_pos hb, if_pos hb, hS]
  exact ⟨rfl, rfl⟩
set_option maxRecDepth 100000 in
set_option maxHeartbeats 16000000 in
theorem porder_ok (ra ka : Option Addr) (rc kc : Nat) (r : List Int) (ks : List (Int × Int)) (w : World) (hr : IntsAt w ra r) (hrw : ∀ x ∈ r, (Lit.int .i64 x).wf = true) (hk : Ke.KeysAt w ka ks) (hkw : ∀ k ∈ ks, (Lit.int .i64 k.2).wf = true) (hcap : ks.length ≤ kc) (hcm : kc ≤ 9223372036854775807) :
    Calls Try.prog 14 #[.slice ra r.length rc, .slice ka ks.length kc] w fun e w' => e = .returned (.bool true) ∧ Below w.heap.size w w' := by
  have HAw := Lib.hid (fun (A : World) (hA : Below w.heap.size w A) => (pawake_ok A).mono fun e w' ⟨h1, h2⟩ => (⟨h1, hA.trans (h2.mono hA.size)⟩ : e = Ending.returned (.bool true) ∧ Below w.heap.size w w'))
  have HFw := Lib.hid (pfew_any (a := ra) (a' := ka) r.length rc ks.length kc w)
  by_cases hf : ((r.length : Int) ≤ 30 ∧ (ks.length : Int) ≤ 80)
  · rw [decide_eq_true hf] at HFw
    have HWr := Lib.hid (wrong_ok (rc := rc) (cap := kc) (On.emp w) (fun A hA => hr.below (Nat.le_refl _) hA.to_below) (by omega) (fun A hA => keysAt_below hk hA.to_below) (by omega))
    obtain ⟨E, hE⟩ : ∃ x, bothE r ks = x := ⟨_, rfl⟩
    by_cases hE0 : E = 0
    · subst hE0
      have hfi := both_fine hE
      obtain ⟨S, hS⟩ : ∃ x, putAll [] ks = x := ⟨_, rfl⟩
      obtain ⟨a, ha⟩ : ∃ x, placeL r S = x := ⟨_, rfl⟩
      rw [hS, ha] at hfi
      obtain ⟨K, hK⟩ : ∃ x, ks.reverse = x := ⟨_, rfl⟩
      obtain ⟨I, hI⟩ : ∃ x, outB (ks.map (·.2)) r = x := ⟨_, rfl⟩
      have hrev := serv_rev hfi.s
      rw [hK, hS] at hrev
      have hSi : ∀ x ∈ S, x.1 ∈ ks.map (·.2) := fun x hx => hfi.g.id.1 (List.mem_map.2 ⟨x, hx, rfl⟩)
      have hIp : placeL I S = a := by rw [← hI, placeL_outB hSi hfi.g.pos, ha]
      have hIw : workE I = 0 := by rw [← hI]; exact hfi.idle
      have hIv := victW_outB (r := r) hSi hfi.g.pos
      rw [hI] at hIv
      have hKw : ∀ k ∈ K, (Lit.int .i64 k.2).wf = true := fun k hk => hkw k (List.mem_reverse.1 (by rw [hK]; exact hk))
      have hIwf : ∀ x ∈ I, (Lit.int .i64 x).wf = true := fun x hx => by
        rw [← hI] at hx
        obtain ⟨y, hy, rfl⟩ := List.mem_map.1 hx
        split
        · exact hrw y hy
        · decide
      obtain ⟨hv1, hv2⟩ := vicW_eq hE hS
      have hbIK : bothE I K = 0 := both_mk hIw hrev.1
      obtain ⟨hv3, hv4⟩ := vicW_eq hbIK hrev.2
      rw [hIv.1, ← hv1] at hv3
      rw [hIv.2, ← hv2] at hv4
      have HP1 := Lib.hid (fun (A : World) (R : Ast) (hA : On w A R) => place_fine (rc := rc) (cap := kc) hS ha hE hA (fun A hA => hr.below (Nat.le_refl _) hA.to_below) hrw (fun A hA => keysAt_below hk hA.to_below) hkw hcap hcm)
      have HP2 := Lib.hid (fun (A : World) (R : Ast) (kb : Option Addr) (kd : Nat) (hcap : K.length ≤ kd) (hcm : kd ≤ 9223372036854775807) (hA : On w A R) (hk : ∀ A, On w A R → Ke.KeysAt A kb K) => place_fine (rc := rc) (cap := kd) hrev.2 ha (both_mk hfi.w hrev.1) hA (fun A hA => hr.below (Nat.le_refl _) hA.to_below) hrw hk hKw hcap hcm)
      have HP3 := Lib.hid (fun (A : World) (R : Ast) (ib : Option Addr) (ic : Nat) (hA : On w A R) (hi : ∀ A, On w A R → IntsAt A ib I) => place_fine (rc := ic) (cap := kc) hS hIp (both_mk hIw hfi.s) hA hi hIwf (fun A hA => keysAt_below hk hA.to_below) hkw hcap hcm)
      have HV1 := Lib.hid (fun (A : World) (R : Ast) (hT : Tame R) (hA : On w A R) => victim_ok (rc := rc) (cap := kc) hT hA (fun A hA => hr.below (Nat.le_refl _) hA.to_below) (by omega) hrw (fun A hA => keysAt_below hk hA.to_below) hkw hcap hcm (by omega))
      have HV2 := Lib.hid (fun (A : World) (R : Ast) (ib kb : Option Addr) (ic kd : Nat) (hcap : K.length ≤ kd) (hcm : kd ≤ 9223372036854775807) (hT : Tame R) (hA : On w A R) (hi : ∀ A, On w A R → IntsAt A ib I) (hk : ∀ A, On w A R → Ke.KeysAt A kb K) => victim_ok (rc := ic) (cap := kd) hT hA hi (by rw [← hI, outB_length]; omega) hIwf hk hKw hcap hcm (by rw [← hK, List.length_reverse]; omega))
      have HMv := Lib.hid (fun (A : World) (R : Ast) (hA : On w A R) => moves_ok (ac := rc) (bc := rc) hA (fun A hA => hr.below (Nat.le_refl _) hA.to_below) (by omega) hrw (fun A hA => hr.below (Nat.le_refl _) hA.to_below) (by omega) hrw)
      have hmv : movE r r = 0 := by unfold movE; simp [hfi.w]
      have hml : movesL r r = [] := movesL_same r
      rw [hmv, hml] at HMv
      rw [hv3, hv4] at HV2
      have hal : a.length = r.length := hfi.p.len
      have HPi := Lib.hid (fun (A : World) (va vb : Option Addr) (vc vd : Nat) (h1 : IntsAt A va a) (h2 : IntsAt A vb a) => pints_ok va vb vc vd a a A h1 h2 (by omega) (by omega))
      have HIr := Lib.hid (fun (A : World) (hA : Below w.heap.size w A) => hr.below (Nat.le_refl _) hA)
      have HIk := Lib.hid (fun (A : World) (hA : Below w.heap.size w A) => keysAt_below hk hA)
      obtain ⟨VW, hVW⟩ : ∃ x, vicW r ks = x := ⟨_, rfl⟩
      obtain ⟨VE, hVE⟩ : ∃ x, vicE r ks = x := ⟨_, rfl⟩
      obtain ⟨n, hn⟩ : ∃ x, r.length = x := ⟨_, rfl⟩
      obtain ⟨m, hm⟩ : ∃ x, ks.length = x := ⟨_, rfl⟩
      have hKl : K.length = m := by rw [← hK, List.length_reverse, hm]
      have hIl : I.length = n := by rw [← hI, outB_length, hn]
      have hal2 : a.length = n := by rw [hal, hn]
      have hKi : itk K = (itk ks).reverse := by rw [← hK, itk_reverse]
      rw [hE] at HWr
      rw [hVW, hVE] at HV1 HV2
      rw [hKl] at HP2 HV2
      rw [hIl] at HP3 HV2
      rw [hn, hm] at HFw HWr HP1 HV1 hf ⊢
      rw [hn] at HP2 HMv
      rw [hm] at HP3
      rw [hal2] at HPi
      have hmn : ((m : Int) ≤ 80) := hf.2
      have hnn : ((n : Int) ≤ 30) := hf.1
      have HNl := Lib.hid hal2
      have HMl := Lib.hid hm
      have HRl := Lib.hid hn
      have HI := Lib.hid hI
      have HIl := Lib.hid hIl
      have HKi := Lib.hid hKi
      have HKl := Lib.hid hKl
      clear hr hrw hk hkw hE hfi hS ha hal hn hm hf hal2 hK hI hrev hSi hIp hIw hIv hKw hIwf hv1 hv2 hv3 hv4 hbIK hmv hml hVW hVE hKl hIl hKi
      go_enter Try.func14, Try.ntmps14
      go_wp2_with fail
      refine HFw.out.mono ?_
      rintro e w0 ⟨rfl, rfl⟩
      go_wp2_with fail
      refine HWr.out.mono ?_
      rintro e w1 ⟨v, rfl, h1⟩
      have H1 := Lib.hid h1.out1.keys_nil
      clear h1
      go_wp2_with fail
      go_loopg [7, 8] m (fun gh s7 s8 wr => ∃ j : Nat, j + gh = m ∧ s8 = .int .i64 ((m : Int) - 1 - (j : Int)) ∧ On w wr (sep (keysA s7 ((itk ks).reverse.take j)) emp))
      case atStart => exact ⟨0, by omega, by go_num, H1.out⟩
      case round =>
        obtain ⟨j, hj, hs8, hon⟩ := hrel
        rw [show ((m : Int) - 1 - (j : Int)) = ((m - j : Nat) : Int) - 1 by omega] at hs8
        by_cases hg0 : m = j
        · subst hg0
          rw [Nat.sub_self] at hs8
          have hs9 := hs8.trans (show Value.int .i64 (((0 : Nat) : Int) - 1) = .int .i64 (-1) from rfl)
          subst hs9
          clear hs8
          rw [List.take_of_length_le (by rw [List.length_reverse, itk_length, HMl.out]; exact Nat.le_refl _), ← HKi.out] at hon
          obtain ⟨kd0, kdc, rfl, hk1, hk2, hkall⟩ := hon.keys_cap (kv_itk K) HKl.out
          have HKa := Lib.hid hkall
          have H2 := Lib.hid hon.ints_nil
          clear hon hkall
          go_wp2_with fail
          obtain ⟨w2, hw2⟩ : ∃ x, x = wr := ⟨_, rfl⟩
          subst hw2
          go_loopg [9, 10] n (fun gh s9 s10 wr => ∃ i : Nat, i + gh = n ∧ s10 = .int .i64 (i : Int) ∧ On w wr (sep (intsA s9 (I.take i)) (sep (keysA (.slice kd0 m kdc) (itk K)) emp)))
          case atStart => exact ⟨0, by omega, rfl, H2.out⟩
          case round =>
            obtain ⟨i, hi, rfl, hon⟩ := hrel
            by_cases hlt : i < n
            · have hltI : (i : Int) < (n : Int) := by omega
              have hi0 : (0 : Int) ≤ (i : Int) := by omega
              obtain ⟨x, hx⟩ : ∃ x, r[i]? = some x := ⟨_, List.getElem?_eq_getElem (by rw [HRl.out]; exact hlt)⟩
              obtain ⟨rb, rof, rfl, hbl, hc⟩ := (HIr.out wr hon.to_below).row (by rw [HRl.out]; omega)
              have HRc := Lib.hid (fun (A : World) (hA : Below w.heap.size w A) => by
                obtain ⟨_, _, he, _, hc⟩ := (HIr.out A hA).row (by rw [HRl.out]; omega)
                cases he
                have := hc i (by rw [HRl.out]; exact hlt)
                rw [hx] at this
                exact (this : A.cell? ⟨rb, rof + i, none⟩ = some (.int .i64 x)))
              have hix : I[i]? = some (if x ∈ ks.map (·.2) then x else -1) := by rw [← HI.out]; exact outB_at hx
              have HIx := Lib.hid hix
              have hxl : (I.take i).length = i := by rw [List.length_take, HIl.out]; omega
              obtain ⟨ia0, ic0, rfl, _⟩ := hon.ints_read
              rw [hxl] at hon ⊢
              have HOn := Lib.hid hon
              have HXl := Lib.hid hxl
              clear hon hx hbl hc hix hxl
              go_wp2_with fail
              obtain ⟨w3, hw3⟩ : ∃ x, x = wr := ⟨_, rfl⟩
              subst hw3
              go_loopg [11, 12] m (fun gh s11 s12 wr => ∃ k : Nat, k + gh = m ∧ s12 = .int .i64 (k : Int) ∧ s11 = .int .i64 (if x ∈ (ks.map (·.2)).take k then x else -1) ∧ On w wr (sep (intsA (.slice ia0 i ic0) (I.take i)) (sep (keysA (.slice kd0 m kdc) (itk K)) emp)))
              case atStart => exact ⟨0, by omega, rfl, rfl, HOn.out⟩
              case round =>
                obtain ⟨k, hk, rfl, rfl, hon⟩ := hrel
                by_cases hlk : k < m
                · have hlkI : (k : Int) < (m : Int) := by omega
                  have hk0 : (0 : Int) ≤ (k : Int) := by omega
                  obtain ⟨y, hy⟩ : ∃ x, ks[k]? = some x := ⟨_, List.getElem?_eq_getElem (by rw [HMl.out]; exact hlk)⟩
                  have hym : (ks.map (·.2))[k]? = some y.2 := by rw [List.getElem?_map, hy]; rfl
                  have hdt := mem_take_if (x := x) hym
                  obtain ⟨kb, kof, rfl, hbl, hc⟩ := keysAt_get (HIk.out wr hon.to_below) (n := m) (by omega) HMl.out
                  obtain ⟨_, hc1⟩ := hc k hlk
                  rw [hy, Option.getD_some] at hc1
                  have p0 : wr.cell? ⟨kb, kof + k * 2 + 1, none⟩ = some (.int .i64 y.2) := hc1
                  have p1 := HRc.out wr hon.to_below
                  have p2 := HRc.out wr.drew (hon.below (Below.refl _ wr).drew).to_below
                  have HOnd := Lib.hid (hon.below (Below.refl _ wr).drew)
                  obtain ⟨u, hu⟩ : ∃ u, (if x ∈ (ks.map (·.2)).take k then x else -1) = u := ⟨_, rfl⟩
                  rw [hu] at hdt ⊢
                  by_cases hyx : y.2 = x
                  · rw [if_pos hyx] at hdt
                    have zy : (y.2 == x) = true := by simpa using hyx
                    have HDt := Lib.hid hdt
                    clear hon hy hym hdt hbl hc hc1 hu hyx
                    go_wp2_with fail
                    have p0_d := drewC p0
                    have p1_d := drewC p1
                    refine wp_region_loose (fun A => A = wr.drew) (by kernel_rfl) (by kernel_rfl) rfl ?_
                    repeat (first
                      | (refine loose_skip (by rfl) ?_; simp only [Act.put, List.setIfInBounds_toArray, List.set_cons_zero, List.set_cons_succ])
                      | (refine loose_val (v := ?_) (by rfl) ?_ ?_; rotate_left; (focus (intro A' hA'; subst hA'; go_simp; first | done | with_reducible rfl)); simp only [Act.put, List.setIfInBounds_toArray, List.set_cons_zero, List.set_cons_succ]))
                    refine loose_nil ?_
                    intro A3 hA3
                    subst hA3
                    go_wp2_with fail
                    go_roundg (m - (k + 1))
                    case measure => omega
                    case rel => exact ⟨k + 1, by omega, by go_num, by rw [HDt.out], HOnd.out⟩
                  · rw [if_neg hyx] at hdt
                    have zy : (y.2 == x) = false := by simpa using hyx
                    have HDt := Lib.hid hdt
                    clear hon hy hym hdt hbl hc hc1 hu hyx
                    go_wp2_with fail
                    have p0_d := drewC p0
                    have p1_d := drewC p1
                    refine wp_region_loose (fun A => A = wr.drew) (by kernel_rfl) (by kernel_rfl) rfl ?_
                    repeat (first
                      | (refine loose_skip (by rfl) ?_; simp only [Act.put, List.setIfInBounds_toArray, List.set_cons_zero, List.set_cons_succ])
                      | (refine loose_val (v := ?_) (by rfl) ?_ ?_; rotate_left; (focus (intro A' hA'; subst hA'; go_simp; first | done | with_reducible rfl)); simp only [Act.put, List.setIfInBounds_toArray, List.set_cons_zero, List.set_cons_succ]))
                    refine loose_nil ?_
                    intro A3 hA3
                    subst hA3
                    go_wp2_with fail
                    go_roundg (m - (k + 1))
                    case measure => omega
                    case rel => exact ⟨k + 1, by omega, by go_num, by rw [HDt.out], HOnd.out⟩
                · have hkm : k = m := by omega
                  rw [List.take_of_length_le (by rw [List.length_map, HMl.out]; omega)]
                  obtain ⟨u, hu⟩ : ∃ u, (if x ∈ ks.map (·.2) then x else -1) = u := ⟨_, rfl⟩
                  rw [hu] at HIx ⊢
                  subst hkm
                  have h1 := hon.new1 3 #[.int .i64 u]
                  obtain ⟨bz, hbz⟩ : ∃ x, wr.heap.size = x := ⟨_, rfl⟩
                  obtain ⟨W, hW⟩ : ∃ x, wr.alloc (.cells #[.int .i64 u] 3) = x := ⟨_, rfl⟩
                  rw [hW, hbz] at h1
                  have HRd := Lib.hid (reads_one (h1.bx 0 rfl))
                  obtain ⟨F, hF, _⟩ := h1.sw0.get1
                  have hown := hF.1
                  rw [HXl.out] at hown
                  have HOw := Lib.hid hown
                  have H1' := Lib.hid h1.sw0
                  have hmx : i + 1 ≤ maxLen := by unfold maxLen; omega
                  have hby : (i + 1) * 8 ≤ 140737488355328 := by omega
                  have hone : ∀ v ∈ [Value.int .i64 u], v.oneCell' = true := by simp; rfl
                  have htk : I.take (i + 1) = I.take i ++ [u] := by rw [List.take_add_one, HIx.out]; rfl
                  obtain ⟨T2, hT2⟩ : ∃ x, I.take (i + 1) = x := ⟨_, rfl⟩
                  rw [hT2] at htk
                  have HTk := Lib.hid htk
                  have HT2 := Lib.hid hT2
                  clear hon h1 hF hown htk hT2 hu
                  go_wp2_with (at_builtin; go_loud (refine wpList_append_any (by rfl) _ _ 54 (by rfl) 3 1 8 intSlice _ i (ints (I.take i)) (by rfl) HOw.out (.slice (some ⟨bz, 0, none⟩) 1 1) 1 [.int .i64 u] (by rfl) HRd.out hone hmx hby ?_; intro v' w2 hown hgrow hat; have HOw2 := Lib.hid hown; have HGr := Lib.hid hgrow; have HAt := Lib.hid hat; clear hown hgrow hat))
                  have h2 := H1'.out.row_push (Below.refl _ _) HGr.out HOw2.out HAt.out
                  rw [ints_snoc, ← HTk.out, show i + 1 = T2.length from by rw [HTk.out, List.length_append, HXl.out]; rfl] at h2
                  have H3 := Lib.hid h2.sw0.out1
                  clear h2
                  go_roundg (n - (i + 1))
                  case measure => omega
                  case rel => exact ⟨i + 1, by omega, by go_num, by rw [HT2.out]; exact H3.out⟩
            · have hin : i = n := by omega
              rw [List.take_of_length_le (by rw [HIl.out]; omega)] at hon
              subst hin
              obtain ⟨ia, ic, rfl, hia⟩ := hon.ints_read
              rw [HIl.out] at hon ⊢
              have HIa := Lib.hid (fun (A : World) (R : Ast) (hA : On w A (sep (intsA (.slice ia i ic) I) R)) => by
                obtain ⟨_, _, he, h⟩ := hA.ints_read
                rw [HIl.out] at he
                cases he
                exact h)
              have HC1 := Lib.hid (HP1.out wr _ hon)
              clear hon hia
              go_wp2_with fail
              refine HC1.out.mono ?_
              rintro e w3 ⟨va, vc, rfl, h3⟩
              have HC2 := Lib.hid (HP2.out w3 _ kd0 kdc hk1 hk2 h3 (fun A hA => HKa.out w A _ (hA.sw1.sw0)))
              clear h3
              go_wp2_with fail
              refine HC2.out.mono ?_
              rintro e w4 ⟨vb, vd, rfl, h4⟩
              have HC3 := Lib.hid (HP3.out w4 _ ia ic h4 (fun A hA => HIa.out A _ (hA.sw1.sw0)))
              clear h4
              go_wp2_with fail
              refine HC3.out.mono ?_
              rintro e w5 ⟨vx, ve, rfl, h5⟩
              have HTm : Hid (Tame (sep (intsA (.slice vx i ve) a) (sep (intsA (.slice vb i vd) a) (sep (intsA (.slice va i vc) a) (sep (intsA (.slice ia i ic) I) (sep (keysA (.slice kd0 m kdc) (itk K)) emp)))))) := Lib.hid ((Plain.ints _ _).sepT ((Plain.ints _ _).sepT ((Plain.ints _ _).sepT ((Plain.ints _ _).sepT ((Plain.keys _ _).sepT Plain.emp.tame)))))
              have HC4 := Lib.hid (HV1.out w5 _ HTm.out h5)
              clear h5
              go_wp2_with fail
              refine HC4.out.mono ?_
              rintro e w6 ⟨rfl, h6⟩
              have HC5 := Lib.hid (HV2.out w6 _ ia kd0 ic kdc hk1 hk2 HTm.out h6 (fun A hA => HIa.out A _ (hA.sw2.sw1.sw0)) (fun A hA => HKa.out w A _ (hA.sw3.sw2.sw1.sw0)))
              clear h6
              go_wp2_with fail
              refine HC5.out.mono ?_
              rintro e w7 ⟨rfl, h7⟩
              have HC6 := Lib.hid (HMv.out w7 _ h7)
              clear h7
              go_wp2_with fail
              refine HC6.out.mono ?_
              rintro e w8 ⟨v8, rfl, _, hq⟩
              have h8 := hq (by first | rfl | trivial)
              obtain ⟨ma, mc, rfl, _⟩ := h8.ints_read
              obtain ⟨_, _, he, hx1⟩ := h8.sw0.ints_read
              rw [HNl.out] at he
              cases he
              obtain ⟨_, _, he, hx2⟩ := (h8.sw1.sw0).ints_read
              rw [HNl.out] at he
              cases he
              obtain ⟨_, _, he, hx3⟩ := (h8.sw2.sw1.sw0).ints_read
              rw [HNl.out] at he
              cases he
              have hp1 := HPi.out w8 va vb vc vd hx3 hx2
              simp only [decide_true] at hp1
              have HD1 := Lib.hid hp1
              have H8 := Lib.hid h8
              have HX1 := Lib.hid (fun (A : World) (hb : Below w8.heap.size w8 A) => HPi.out A va vx vc ve (hx3.below (Nat.le_refl _) hb) (hx1.below (Nat.le_refl _) hb))
              have zv : (VW == VW) = true := by simp
              have ze : (VE == VE) = true := by simp
              clear h8 hq hx1 hx2 hx3 hp1
              go_wp2_with fail
              refine HD1.out.mono ?_
              rintro e w9 ⟨rfl, hb9⟩
              have hp2 := HX1.out w9 hb9
              simp only [decide_true] at hp2
              have HD2 := Lib.hid hp2
              have H9 := Lib.hid (H8.out.below hb9)
              clear hb9 hp2
              go_wp2_with fail
              refine HD2.out.mono ?_
              rintro e wa ⟨rfl, hba⟩
              have HD3 := Lib.hid (HAw.out wa (H9.out.below hba).to_below)
              clear hba
              go_wp2_with fail
              refine HD3.out.mono ?_
              rintro e wb ⟨rfl, hbb⟩
              have HB5 := Lib.hid hbb
              clear hbb
              go_wp2_with fail
              go_ret
              exact ⟨rfl, HB5.out⟩
        · obtain ⟨g, hg⟩ : ∃ g, m - j = g + 1 := ⟨m - j - 1, by omega⟩
          rw [hg, show (((g + 1 : Nat) : Int) - 1) = (g : Int) by omega] at hs8
          have hs9 := hs8
          subst hs9
          clear hs8
          have hgI : (0 : Int) ≤ (g : Int) := by omega
          have hglI : (g : Int) < (m : Int) := by omega
          obtain ⟨y, hy⟩ : ∃ x, ks[g]? = some x := ⟨_, List.getElem?_eq_getElem (by rw [HMl.out]; omega)⟩
          have hyr : (itk ks).reverse[j]? = some (y.2, y.1) := by
            rw [List.getElem?_reverse (by rw [itk_length, HMl.out]; omega), itk_length, HMl.out, show m - 1 - j = g by omega]
            unfold itk
            rw [List.getElem?_map, hy]
            rfl
          have htk : (itk ks).reverse.take (j + 1) = (itk ks).reverse.take j ++ [(y.2, y.1)] := by rw [List.take_add_one, hyr]; rfl
          have htl : ((itk ks).reverse.take j).length = j := by rw [List.length_take, List.length_reverse, itk_length, HMl.out]; omega
          obtain ⟨kb, kof, rfl, hbl, hc⟩ := keysAt_get (HIk.out wr hon.to_below) (n := m) (by omega) HMl.out
          obtain ⟨hc0, hc1⟩ := hc g (by omega)
          rw [hy, Option.getD_some] at hc0 hc1
          have p0 : wr.cell? ⟨kb, kof + g * 2, none⟩ = some (.int .i64 y.1) := hc0
          have p1 : wr.cell? ⟨kb, kof + g * 2 + 1, none⟩ = some (.int .i64 y.2) := hc1
          have h1 := hon.new1 24 #[.int .i64 y.1, .int .i64 y.2]
          obtain ⟨bz, hbz⟩ : ∃ x, wr.heap.size = x := ⟨_, rfl⟩
          obtain ⟨W, hW⟩ : ∃ x, wr.alloc (.cells #[.int .i64 y.1, .int .i64 y.2] 24) = x := ⟨_, rfl⟩
          rw [hW, hbz] at h1
          have HRd := Lib.hid (reads_key1 (h1.bx 0 rfl) (h1.bx 1 rfl))
          obtain ⟨F, hF, _⟩ := h1.sw0.get1
          have hown := hF.1
          rw [htl] at hown
          have HOw := Lib.hid hown
          obtain ⟨T2, hT2⟩ : ∃ x, (itk ks).reverse.take (j + 1) = x := ⟨_, rfl⟩
          rw [hT2] at htk
          have HTk := Lib.hid htk
          have HT2 := Lib.hid hT2
          have HTl := Lib.hid htl
          have H1' := Lib.hid h1.sw0
          have hmx : j + 1 ≤ maxLen := by unfold maxLen; omega
          have hby : (j + 1) * 16 ≤ 140737488355328 := by omega
          have hone : ∀ u ∈ [Value.int .i64 y.1, Value.int .i64 y.2], u.oneCell' = true := by simp; exact ⟨rfl, rfl⟩
          clear hon hy hyr htk htl hT2 hbl hc hc0 hc1 h1 hF hown
          go_wp2_with (at_builtin; go_loud (refine wpList_append_any (by rfl) _ _ 30 (by rfl) 24 2 16 keySlice _ j (((itk ks).reverse.take j).flatMap keyC) (by rfl) HOw.out (.slice (some ⟨bz, 0, none⟩) 1 1) 1 [.int .i64 y.1, .int .i64 y.2] (by rfl) HRd.out hone hmx hby ?_; intro v' w2 hown hgrow hat; have HOw2 := Lib.hid hown; have HGr := Lib.hid hgrow; have HAt := Lib.hid hat; clear hown hgrow hat))
          have h2 := H1'.out.row_push (Below.refl _ _) HGr.out HOw2.out HAt.out
          rw [keys_snoc, ← HTk.out, show j + 1 = T2.length from by rw [HTk.out, List.length_append, HTl.out]; rfl] at h2
          have H3 := Lib.hid h2.sw0.out1
          clear h2
          go_roundg g
          case measure => omega
          case rel => exact ⟨j + 1, by omega, by go_num, by rw [HT2.out]; exact H3.out⟩
    · have zE : (E != 0) = true := by simpa using hE0
      rw [hE] at HWr
      obtain ⟨n, hn⟩ : ∃ x, r.length = x := ⟨_, rfl⟩
      obtain ⟨m, hm⟩ : ∃ x, ks.length = x := ⟨_, rfl⟩
      rw [hn, hm] at HFw HWr ⊢
      clear hr hrw hk hkw hE hn hm hf
      go_enter Try.func14, Try.ntmps14
      go_wp2_with fail
      refine HFw.out.mono ?_
      rintro e w0 ⟨rfl, rfl⟩
      go_wp2_with fail
      refine HWr.out.mono ?_
      rintro e w1 ⟨v, rfl, h1⟩
      have HC5 := Lib.hid (HAw.out w1 h1.to_below)
      clear h1
      go_wp2_with fail
      refine HC5.out.mono ?_
      rintro e w5 ⟨rfl, hb5⟩
      have HB5 := Lib.hid hb5
      clear hb5
      go_wp2_with fail
      go_ret
      exact ⟨rfl, HB5.out⟩
  · rw [decide_eq_false hf] at HFw
    have HC5 := Lib.hid (HAw.out w (Below.refl _ w))
    obtain ⟨n, hn⟩ : ∃ x, r.length = x := ⟨_, rfl⟩
    obtain ⟨m, hm⟩ : ∃ x, ks.length = x := ⟨_, rfl⟩
    rw [hn, hm] at HFw ⊢
    clear hr hrw hk hkw hn hm hf
    go_enter Try.func14, Try.ntmps14
    go_wp2_with fail
    refine HFw.out.mono ?_
    rintro e w0 ⟨rfl, rfl⟩
    go_wp2_with fail
    refine HC5.out.mono ?_
    rintro e w5 ⟨rfl, hb5⟩
    have HB5 := Lib.hid hb5
    clear hb5
    go_wp2_with fail
    go_ret
    exact ⟨rfl, HB5.out⟩
end Go.Proofs.Ytkjpkhpiojahkaa
