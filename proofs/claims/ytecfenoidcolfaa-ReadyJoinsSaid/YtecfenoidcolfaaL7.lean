/-
  Walk: ReadyJoins.
-/
import Derived.Test.YtecfenoidcolfaaQP
namespace Go.Proofs.Ytecfenoidcolfaa
set_option linter.unusedVariables false
open Go.RowKit Hp
attribute [local go_sem] Oper.semAt_some

set_option maxRecDepth 100000 in
set_option maxHeartbeats 4000000 in
theorem joins_not (a : Option Addr) (len cap : Nat) (m id : Int) (w : World) (h : 40 < len ∨ m < 0 ∨ (len : Int) < m) :
    Calls Try.prog 9 #[.slice a len cap, .int .i64 m, .int .i64 id] w fun e w' => e = .returned (.bool true) ∧ Below w.heap.size w w' := by
  have HA := Lib.hid (qawake_ok w)
  by_cases h1 : 40 < len
  · have h1' : (40 : Int) < (len : Int) := by omega
    clear h
    go_enter Try.func9, Try.ntmps9
    go_wp2_with fail
    refine HA.out.mono ?_
    rintro e w1 ⟨rfl, hb⟩
    go_wp2_with fail
    go_ret
    exact ⟨rfl, hb⟩
  · have h1' : (len : Int) ≤ 40 := by omega
    have g1 : decide ((40 : Int) < (len : Int)) = false := by simp; omega
    by_cases h2 : m < 0
    · clear h
      go_enter Try.func9, Try.ntmps9
      go_wp2_with fail
      refine HA.out.mono ?_
      rintro e w1 ⟨rfl, hb⟩
      go_wp2_with fail
      go_ret
      exact ⟨rfl, hb⟩
    · have h2' : 0 ≤ m := by omega
      have g2 : decide (m < 0) = false := by simp; omega
      have h3 : (len : Int) < m := by omega
      clear h
      go_enter Try.func9, Try.ntmps9
      go_wp2_with fail
      refine HA.out.mono ?_
      rintro e w1 ⟨rfl, hb⟩
      go_wp2_with fail
      go_ret
      exact ⟨rfl, hb⟩

set_option maxRecDepth 100000 in
set_option maxHeartbeats 8000000 in
theorem joins_ok (a : Option Addr) (cap : Nat) (ks : List (Int × Int)) (m : Nat) (id : Int) (w : World) (hc : Ke.KeysAt w a ks) (hwf : ∀ k ∈ ks, (Lit.int .i64 k.1).wf = true ∧ (Lit.int .i64 k.2).wf = true) (hcap : ks.length ≤ cap) (hcm : cap ≤ 9223372036854775807)
    (hid : (Lit.int .i64 id).wf = true) (hl : ks.length ≤ 40) (hm : m ≤ ks.length) :
    Calls Try.prog 9 #[.slice a ks.length cap, .int .i64 (m : Int), .int .i64 id] w fun e w' => e = .returned (.bool true) ∧ Below w.heap.size w w' := by
  obtain ⟨n, hn⟩ : ∃ n, ks.length = n := ⟨_, rfl⟩
  rw [hn] at hcap hl hm ⊢
  have HC := Lib.hid hc
  have HWf := Lib.hid hwf
  have HN := Lib.hid hn
  have g1 : decide ((40 : Int) < (n : Int)) = false := by simp; omega
  have g2 : decide ((m : Int) < 0) = false := by simp
  have g3 : decide ((n : Int) < (m : Int)) = false := by simp; omega
  clear hc hwf hn
  go_enter Try.func9, Try.ntmps9
  go_wp2_with fail
  refine (Q_new (On.emp w)).mono ?_
  rintro e w1 ⟨qa, rfl, h1⟩
  have HN1 := Lib.hid (Q_new h1)
  clear h1
  go_wp2_with fail
  refine HN1.out.mono ?_
  rintro e w2 ⟨qb, rfl, h2⟩
  have HN2 := Lib.hid (Q_new h2)
  clear h2
  go_wp2_with fail
  refine HN2.out.mono ?_
  rintro e w3 ⟨qc, rfl, h3⟩
  have h4 := h3.add (Below.refl _ w3) (keysA_nil w3) (fun _ h => h.elim)
  have H4 := Lib.hid h4
  clear h3 h4
  go_wp2_with fail
  go_loopg [10, 11] n (fun gh s10 s11 wr => gh ≤ n ∧ s11 = .int .i64 ((gh : Int) - 1) ∧ On w wr (sep (keysA s10 (itk (ks.drop gh)).reverse) (sep (quA qc []) (sep (quA qb []) (sep (quA qa []) emp)))))
  case atStart =>
    refine ⟨Nat.le_refl _, rfl, ?_⟩
    rw [List.drop_eq_nil_of_le (by rw [HN.out]; exact Nat.le_refl _)]
    exact H4.out
  case round =>
    obtain ⟨hgn, rfl, hon⟩ := hrel
    by_cases hg : gk = 0
    · subst hg
      rw [List.drop_zero] at hon
      have hkr : kv (itk ks).reverse = ks.reverse := by rw [kv, List.map_reverse]; exact congrArg List.reverse (kv_itk ks)
      obtain ⟨ba, bc, rfl, hbc1, hbc2, hback⟩ := hon.keys_cap hkr (by rw [List.length_reverse, HN.out])
      have HBack := Lib.hid hback
      clear hback hkr
      have hpa := Q_puts (hon.sw2.sw1.sw0) a cap ks (fun A T hA => keysAt_below HC.out hA.to_below) (fun k hk => (HWf.out k hk).2) (by rw [HN.out]; exact hcap) hcm (by rw [HN.out]; simp; omega)
      rw [HN.out] at hpa
      have HPa := Lib.hid hpa
      clear hon hpa
      go_wp2_with fail
      refine HPa.out.mono ?_
      rintro e w4 ⟨te, Sa, rfl, h4, ⟨rfl, hgood, rfl⟩ | ⟨hte, hbad, rfl⟩⟩
      · obtain ⟨a1, he1, hk1⟩ := slice_keys_to a n cap m ks HN.out hm hcap
        obtain ⟨a2, he2, hk2⟩ := slice_keys_from a n cap m ks HN.out hm hcap
        have hlt : (ks.take m).length = m := by rw [List.length_take, HN.out]; omega
        have hld : (ks.drop m).length = n - m := by rw [List.length_drop, HN.out]
        obtain ⟨T, hT⟩ : ∃ T, putAll [] ks = T := ⟨_, rfl⟩
        have hTs : Sorted ltI T := by rw [← hT]; exact putAll_sorted List.Pairwise.nil
        have hTl : T.length = n := by rw [← hT, putAll_length hgood, HN.out]; simp
        have hTp : putAll (putAll [] (ks.take m)) (ks.drop m) = T := by rw [putAll_parts hgood List.Pairwise.nil, hT]
        have hTr : putAll [] ks.reverse = T := by rw [putAll_rev hgood List.Pairwise.nil, hT]
        have hp1 := Q_puts (h4.sw2.sw1.sw0) a1 cap (ks.take m) (fun A T hA => hk1 A (keysAt_below HC.out hA.to_below)) (fun k hk => (HWf.out k (List.mem_of_mem_take hk)).2) (by rw [hlt]; omega) hcm (by rw [hlt]; simp; omega)
        rw [hT, hlt] at hp1
        have HP1 := Lib.hid hp1
        have HGood := Lib.hid hgood
        have HTp := Lib.hid hTp
        have HTr := Lib.hid hTr
        have HTs := Lib.hid hTs
        have HTl := Lib.hid hTl
        have HK2 := Lib.hid hk2
        have HLd := Lib.hid hld
        have HT := Lib.hid hT
        clear h4 hp1 hgood hTp hTr hTs hTl hk1 hk2 hlt hld hT
        go_wp2_with fail
        refine HP1.out.mono ?_
        rintro e w5 ⟨te5, S5, rfl, h5, ⟨rfl, hg5, rfl⟩ | ⟨_, hb5, _⟩⟩
        case inr => exact absurd (HGood.out.take m) hb5
        have hl5 := putAll_length hg5
        have hp2 := Q_puts h5 a2 (cap - m) (ks.drop m) (fun A T hA => HK2.out A (keysAt_below HC.out hA.to_below)) (fun k hk => (HWf.out k (List.mem_of_mem_drop hk)).2) (by rw [HLd.out]; omega) (by omega) (by rw [HLd.out, hl5, List.length_take]; simp; omega)
        rw [HLd.out] at hp2
        have HP2 := Lib.hid hp2
        clear h5 hp2 hl5 hg5
        go_wp2_with fail
        refine HP2.out.mono ?_
        rintro e w6 ⟨te6, S6, rfl, h6, ⟨rfl, hg6, rfl⟩ | ⟨_, hb6, _⟩⟩
        case inr => exact absurd (HGood.out.drop m) hb6
        rw [HTp.out] at h6
        have hp3 := Q_puts (h6.sw2.sw1.sw0) ba bc ks.reverse (fun A T hA => HBack.out _ _ _ (hA.sw2.sw1.sw0)) (fun k hk => (HWf.out k (List.mem_reverse.1 hk)).2) (by rw [List.length_reverse, HN.out]; exact hbc1) hbc2 (by rw [List.length_reverse, HN.out]; simp; omega)
        rw [List.length_reverse, HN.out] at hp3
        have HP3 := Lib.hid hp3
        clear h6 hp3 hg6 he1 he2
        go_wp2_with fail
        refine HP3.out.mono ?_
        rintro e w7 ⟨te7, S7, rfl, h7, ⟨rfl, hg7, rfl⟩ | ⟨_, hb7, _⟩⟩
        case inr => exact absurd (Puts.reverse_iff.2 HGood.out) hb7
        rw [HTr.out] at h7
        have hl7 := Q_len (h7.sw1.sw0)
        rw [HTl.out] at hl7
        have HL7 := Lib.hid hl7
        have hls := Q_least_all (h7.sw1.sw0) HTs.out (by rw [HTl.out]; omega) (n : Int) (by rw [HTl.out]; exact Int.le_refl _)
        have HLs := Lib.hid hls
        clear h7 hg7 hl7 hls
        go_wp2_with fail
        refine HL7.out.mono ?_
        rintro e w8 ⟨rfl, rfl⟩
        go_wp2_with fail
        refine HLs.out.mono ?_
        rintro e w8 ⟨va, rfl, h8⟩
        obtain ⟨aa, ac, rfl, hac1, hac2, hall⟩ := h8.keys_cap rfl (by rw [kv, List.length_map, HTl.out])
        have hb8 := Q_least_all (h8.sw2.sw1.sw0) HTs.out (by rw [HTl.out]; omega) (n : Int) (by rw [HTl.out]; exact Int.le_refl _)
        have HB8 := Lib.hid hb8
        have HAll := Lib.hid hall
        clear h8 hb8 hall
        go_wp2_with fail
        refine HB8.out.mono ?_
        rintro e w9 ⟨vb, rfl, h9⟩
        have HK9 := Lib.hid ((h9.sw1.sw0).keys2_same (by rw [HTl.out]; omega))
        have H9 := Lib.hid h9
        clear h9
        go_wp2_with fail
        refine HK9.out.mono ?_
        rintro e w10 ⟨rfl, hb10⟩
        have h10 := H9.out.below hb10
        have hc10 := Q_least_all (h10.sw3.sw2.sw1.sw0) HTs.out (by rw [HTl.out]; omega) (n : Int) (by rw [HTl.out]; exact Int.le_refl _)
        have HC10 := Lib.hid hc10
        clear h10 hc10 hb10
        go_wp2_with fail
        refine HC10.out.mono ?_
        rintro e w11 ⟨vc, rfl, h11⟩
        have HK11 := Lib.hid ((h11.sw3.sw2.sw1.sw0).keys2_same (by rw [HTl.out]; omega))
        have H11 := Lib.hid h11
        clear h11
        go_wp2_with fail
        refine HK11.out.mono ?_
        rintro e w12 ⟨rfl, hb12⟩
        have h12 := (H11.out.below hb12).out1.out1.out1.out1
        have hd12 := Q_drop (h12.sw0) (by rw [HTl.out]; omega) id hid
        have HDist := Lib.hid (h12.sw0).qu_distinct
        have HD12 := Lib.hid hd12
        clear h12 hd12 hb12
        go_wp2_with fail
        refine HD12.out.mono ?_
        rintro e w13 ⟨rfl, h13⟩
        obtain ⟨bk, hbk⟩ : ∃ bk, w13.heap.size = bk := ⟨_, rfl⟩
        obtain ⟨w14, hw14⟩ : ∃ w14, w13.alloc (.cells #[.int .i64 (keyAt 0 T id), .int .i64 (idAt T id)] 32) = w14 := ⟨_, rfl⟩
        have h14 := h13.new1 32 #[.int .i64 (keyAt 0 T id), .int .i64 (idAt T id)]
        rw [hw14, hbk] at h14
        have hr14 := Q_least_all (h14.sw0) (without_sorted HTs.out) (by have := without_length_le (S := T) (id := id); rw [HTl.out] at this; omega) (n : Int) (by have := without_length_le (S := T) (id := id); rw [HTl.out] at this; omega)
        have HR14 := Lib.hid hr14
        clear h13 h14 hr14
        go_wp2_with fail
        clear hw14 hbk
        refine HR14.out.mono ?_
        rintro e w15 ⟨vr, rfl, h15⟩
        cases hh : has T id with
        | false =>
          have hwT := without_none hh
          have hhe : hasE T id = 14 := by unfold hasE; rw [hh]; rfl
          rw [hwT] at h15
          have hk15 := (h15.sw2.sw1.sw0).keys2_same (by rw [HTl.out]; omega)
          rw [hhe]
          have HK15 := Lib.hid hk15
          have H15 := Lib.hid h15
          clear hk15 h15 hwT hh hhe
          go_wp2_with fail
          refine HK15.out.mono ?_
          rintro e w16 ⟨rfl, hb16⟩
          have h16 := (H15.out.below hb16).to_below
          have HB16 := Lib.hid h16
          have HA16 := Lib.hid (qawake_ok w16)
          clear h16 hb16
          go_wp2_with fail
          refine HA16.out.mono ?_
          rintro e w17 ⟨rfl, hb17⟩
          have HB17 := Lib.hid hb17
          clear hb17
          go_wp2_with fail
          go_ret
          exact ⟨rfl, HB16.out.trans (HB17.out.mono HB16.out.size)⟩
        | true =>
          have hhe : hasE T id = 0 := by unfold hasE; rw [hh]; rfl
          rw [hhe]
          have HHas := Lib.hid hh
          have h16 := (h15.add (Below.refl _ w15) (keysA_nil w15) (fun _ h => h.elim))
          have H16 := Lib.hid h16
          clear h15 hh hhe h16
          go_wp2_with fail
          have hlW : (without T id).length + 1 = n := by
            obtain ⟨k, hk⟩ := has_some HHas.out
            rw [without_erase HDist.out hk, List.length_erase_of_mem hk, HTl.out]
            have := List.length_pos_of_mem hk
            rw [HTl.out] at this
            omega
          have HlW := Lib.hid hlW
          clear hlW
          go_loopg [17, 18] n (fun gh s17 s18 wz => ∃ i : Nat, i + gh = n ∧ s18 = .int .i64 (i : Int) ∧ On w wz (sep (keysA s17 (without (T.take i) id)) (sep (keysA vr (without T id)) (sep (quA qa (without T id)) (sep (boxA bk 32 #[.int .i64 (keyAt 0 T id), .int .i64 (idAt T id)]) (sep (keysA (.slice aa n ac) T) (sep (keysA (.slice ba n bc) (itk ks).reverse) emp)))))))
          case atStart => exact ⟨0, by omega, rfl, H16.out⟩
          case round =>
            obtain ⟨i, hi, rfl, hon⟩ := hrel
            by_cases hlt : i < n
            · have hltI : (i : Int) < (n : Int) := by omega
              have hi0 : (0 : Int) ≤ (i : Int) := by omega
              obtain ⟨b, off, rfl, hb, hcells⟩ := keysAt_get (HAll.out _ _ _ (hon.sw3.sw2.sw1.sw0)) (n := n) (by omega) (by rw [kv, List.length_map, HTl.out])
              obtain ⟨x, hx⟩ : ∃ x, T[i]? = some x := ⟨_, List.getElem?_eq_getElem (by rw [HTl.out]; exact hlt)⟩
              obtain ⟨q0, q1⟩ := hcells i hlt
              rw [kv, List.getElem?_map, hx] at q0 q1
              simp only [Option.map_some, Option.getD_some] at q0 q1
              have htk : T.take (i + 1) = T.take i ++ [x] := by rw [List.take_add_one, hx]; rfl
              have HTk := Lib.hid htk
              by_cases hxi : x.1 = id
              · have hq : (x.1 != id) = false := by simp [hxi]
                have HOn := Lib.hid hon
                have HXi := Lib.hid hxi
                clear hon hcells hx htk hxi
                go_wp2_with fail
                go_roundg (n - (i + 1))
                case measure => omega
                case rel =>
                  refine ⟨i + 1, by omega, by go_num, ?_⟩
                  have e : without (T.take (i + 1)) id = without (T.take i) id := by
                    rw [HTk.out, without, without, List.filter_append]
                    simp [HXi.out]
                  rw [e]
                  exact HOn.out
              · have hq : (x.1 != id) = true := by simp [hxi]
                have e : without (T.take (i + 1)) id = without (T.take i) id ++ [x] := by
                  rw [HTk.out, without, without, List.filter_append]
                  simp [hxi]
                obtain ⟨T2, hT2⟩ : ∃ T2, without (T.take i) id = T2 := ⟨_, rfl⟩
                have hlT2 : T2.length ≤ 40 := by rw [← hT2]; exact Nat.le_trans (without_length_le) (by rw [List.length_take]; omega)
                rw [hT2] at hon e
                have hbk : Below wr.heap.size wr (wr.alloc (.cells #[.int .i64 x.2, .int .i64 x.1] 32)) := (Below.refl _ wr).alloc (Nat.le_refl _) _
                obtain ⟨F, ⟨how, _⟩, _⟩ := (hon.below hbk).get1
                have HRd := Lib.hid (keys_reads wr x.2 x.1)
                have HOw := Lib.hid how
                have hkc := keyC_cells x
                have hmx : T2.length + 1 ≤ maxLen := by unfold maxLen; omega
                have hby : (T2.length + 1) * 16 ≤ 140737488355328 := by omega
                have HOn := Lib.hid hon
                have HBk := Lib.hid hbk
                have HE := Lib.hid e
                clear hon how hbk hcells hx htk hT2 e
                go_wp2_with (at_builtin; go_loud (refine wpList_append_any (by rfl) _ _ 38 (by rfl) 32 2 16 keySlice u17 T2.length (T2.flatMap keyC) (by rfl) HOw.out _ 1 (keyC x) (by rfl) HRd.out hkc hmx hby ?_; intro v' A2 hown hgrow hat; have h6 := HOn.out.keys_push HBk.out hgrow hown hat; have H6 := Lib.hid h6; clear h6 hown hgrow hat))
                go_roundg (n - (i + 1))
                case measure => omega
                case rel =>
                  refine ⟨i + 1, by omega, by go_num, ?_⟩
                  rw [HE.out]
                  exact H6.out
            · have hin : i = n := by omega
              subst hin
              have e : T.take i = T := by rw [← HTl.out]; exact List.take_length ..
              rw [e] at hon
              obtain ⟨n', rfl⟩ : ∃ n', i = n' + 1 := ⟨i - 1, by have := HlW.out; omega⟩
              have hlW : (without T id).length = n' := by have := HlW.out; omega
              obtain ⟨wa, wc, rfl, hwc1, hwc2, hwant⟩ := hon.keys_cap rfl (by rw [kv, List.length_map, hlW])
              have HK := Lib.hid (hon.sw0.keys2_same (by rw [hlW]; omega))
              have k1 : wr.cell? ⟨bk, 1, none⟩ = some (.int .i64 (idAt T id)) := ((hon.sw2.sw1.sw0).box1 1).1
              have hia : idAt T id = id := by unfold idAt; rw [HHas.out]; rfl
              rw [hia] at k1
              have hnn : (((n' + 1 : Nat) : Int) - 1) = (n' : Int) := by omega
              have HOn := Lib.hid hon
              clear hon hwant e hlW hia
              go_wp2_with fail
              refine HK.out.mono ?_
              rintro e w20 ⟨rfl, hb20⟩
              have h20 := (HOn.out.below hb20).to_below
              have HB20 := Lib.hid h20
              have HA20 := Lib.hid (qawake_ok w20)
              clear h20 hb20
              go_wp2_with fail
              refine HA20.out.mono ?_
              rintro e w21 ⟨rfl, hb21⟩
              have HB21 := Lib.hid hb21
              clear hb21
              go_wp2_with fail
              go_ret
              exact ⟨rfl, HB20.out.trans (HB21.out.mono HB20.out.size)⟩
      · have hl4 := Q_len h4
        have HL4 := Lib.hid hl4
        have hte' : (te != 0) = true := by simp [hte]
        have HBad := Lib.hid hbad
        have H4 := Lib.hid h4
        clear h4 hl4 hte hbad
        go_wp2_with fail
        refine HL4.out.mono ?_
        rintro e w5 ⟨rfl, rfl⟩
        have hpc := Q_puts (H4.out.sw1.sw0) ba bc ks.reverse (fun A T hA => HBack.out _ _ _ (hA.sw1.sw0)) (fun k hk => (HWf.out k (List.mem_reverse.1 hk)).2) (by rw [List.length_reverse, HN.out]; exact hbc1) hbc2 (by rw [List.length_reverse, HN.out]; simp; omega)
        rw [List.length_reverse, HN.out] at hpc
        have HPc := Lib.hid hpc
        clear hpc
        go_wp2_with fail
        refine HPc.out.mono ?_
        rintro e w6 ⟨te2, Sc, rfl, h6, ⟨_, hgood, _⟩ | ⟨hte2, _, rfl⟩⟩
        · exact absurd (Puts.reverse_iff.1 hgood) HBad.out
        · have hte2' : (te2 != 0) = true := by simp [hte2]
          have HL6 := Lib.hid (Q_len h6)
          have HA6 := Lib.hid (qawake_ok w6)
          have HB6 := Lib.hid h6.to_below
          clear h6 hte2
          go_wp2_with fail
          refine HL6.out.mono ?_
          rintro e w7 ⟨rfl, rfl⟩
          go_wp2_with fail
          refine HA6.out.mono ?_
          rintro e w8 ⟨rfl, hb8⟩
          have HB8 := Lib.hid hb8
          clear hb8
          go_wp2_with fail
          go_ret
          exact ⟨rfl, HB6.out.trans (HB8.out.mono HB6.out.size)⟩
    · obtain ⟨j, rfl⟩ : ∃ j, gk = j + 1 := ⟨gk - 1, by omega⟩
      have hj0 : (((j + 1 : Nat) : Int) - 1) = (j : Int) := by omega
      have hjn : (j : Int) < (n : Int) := by omega
      have hj1 : (0 : Int) ≤ (j : Int) := by omega
      rw [hj0]
      obtain ⟨b, off, rfl, hb, hcells⟩ := keysAt_get HC.out (n := n) (by omega) HN.out
      obtain ⟨p, hp⟩ : ∃ p, ks[j]?.getD (0, 0) = p := ⟨_, rfl⟩
      have hb1 := hon.to_below
      have q0 : wr.cell? ⟨b, off + j * 2, none⟩ = some (.int .i64 p.1) := by rw [← hp]; exact (hb1.cell (by exact hb)).trans (hcells j (by omega)).1
      have q1 : wr.cell? ⟨b, off + j * 2 + 1, none⟩ = some (.int .i64 p.2) := by rw [← hp]; exact (hb1.cell (by exact hb)).trans (hcells j (by omega)).2
      obtain ⟨T, hT⟩ : ∃ T, (itk (ks.drop (j + 1))).reverse = T := ⟨_, rfl⟩
      have hlT : T.length ≤ 40 := by rw [← hT, List.length_reverse, itk_length, List.length_drop, HN.out]; omega
      have hT' : (itk (ks.drop j)).reverse = T ++ [(p.2, p.1)] := by
        have hjl : j < ks.length := by rw [HN.out]; omega
        rw [List.drop_eq_getElem_cons hjl, itk, List.map_cons, List.reverse_cons, ← hT]
        rw [List.getElem?_eq_getElem hjl, Option.getD_some] at hp
        rw [hp]
        rfl
      rw [hT] at hon
      have hbk : Below wr.heap.size wr (wr.alloc (.cells #[.int .i64 p.1, .int .i64 p.2] 32)) := (Below.refl _ wr).alloc (Nat.le_refl _) _
      obtain ⟨F, ⟨how, _⟩, _⟩ := (hon.below hbk).get1
      have HRd := Lib.hid (keys_reads wr p.1 p.2)
      have HOw := Lib.hid how
      have hkc := keyC_cells (p.2, p.1)
      have hmx : T.length + 1 ≤ maxLen := by unfold maxLen; omega
      have hby : (T.length + 1) * 16 ≤ 140737488355328 := by omega
      have HOn := Lib.hid hon
      have HBk := Lib.hid hbk
      have HT' := Lib.hid hT'
      clear hon hb1 how hbk hT' hT hcells hp
      go_wp2_with (at_builtin; go_loud (refine wpList_append_any (by rfl) _ _ 38 (by rfl) 32 2 16 keySlice u10 T.length (T.flatMap keyC) (by rfl) HOw.out _ 1 (keyC (p.2, p.1)) (by rfl) HRd.out hkc hmx hby ?_; intro v' A2 hown hgrow hat; have h6 := HOn.out.keys_push HBk.out hgrow hown hat; have H6 := Lib.hid h6; clear h6 hown hgrow hat))
      go_roundg j
      case measure => omega
      case rel =>
        refine ⟨by omega, by go_num, ?_⟩
        rw [HT'.out]
        exact H6.out
end Go.Proofs.Ytecfenoidcolfaa
