/-
  Walk: PlaceBeats.
-/
import Derived.Test.YtkjpkhpiojahkaaL21
import Derived.Test.YtkjpkhpiojahkaaL19
namespace Go.Proofs.Ytkjpkhpiojahkaa
set_option linter.unusedVariables false
open Go.RowKit Hp
attribute [local go_sem] Oper.semAt_some
theorem reads_keysAt2 {w : World} {a : Option Addr} {c u : Nat} {T : List (It Int)} (h : Ke.KeysAt w a (kv T)) (hu : T.length = u) (ha : a = none → c = 0) : Reads w (.slice a u c) 2 u (T.flatMap keyC) := by
  have hl : (T.flatMap keyC).length = u * 2 := by rw [← hu]; exact flat_length keyC 2 keyC_len T
  rcases h with h | ⟨b, off, rfl, hb, h⟩
  · have hT : T = [] := by
      have : T.length = 0 := by simpa [kv] using h
      exact List.length_eq_zero_iff.1 this
    subst hT
    simp only [List.length_nil] at hu
    subst hu
    cases a with
    | none => rw [ha rfl]; exact .inl ⟨rfl, rfl, rfl⟩
    | some ad => exact .inr ⟨ad, c, rfl, rfl, fun j x hx => by simp at hx⟩
  · refine .inr ⟨_, c, rfl, hl, fun j x hx => ?_⟩
    have hj : j < u * 2 := by rw [← hl]; exact (List.getElem?_eq_some_iff.1 hx).1
    have hk : j / 2 < T.length := by omega
    have hi : T[j / 2]? = some T[j / 2] := List.getElem?_eq_getElem hk
    obtain ⟨g0, g1⟩ := h (j / 2) (by simpa [kv] using hk)
    have hkv : (kv T)[j / 2]?.getD (0, 0) = (T[j / 2].2, T[j / 2].1) := by simp [kv, List.getElem?_map, hi]
    rw [hkv] at g0 g1
    rw [add_zero']
    have hm : j % 2 < 2 := Nat.mod_lt _ (by omega)
    have hx' := flat_at keyC 2 keyC_len T (j / 2) (j % 2) _ hi hm
    rw [show j / 2 * 2 + j % 2 = j by omega, hx] at hx'
    rcases (show j % 2 = 0 ∨ j % 2 = 1 by omega) with h0 | h0
    · rw [h0] at hx'
      have : x = .int .i64 T[j / 2].2 := by simpa [keyC] using hx'
      rw [this, show off + j = off + j / 2 * 2 by omega]
      exact g0
    · rw [h0] at hx'
      have : x = .int .i64 T[j / 2].1 := by simpa [keyC] using hx'
      rw [this, show off + j = off + j / 2 * 2 + 1 by omega]
      exact g1
theorem open_keys_none {Hd : Type} {enc : TypeId × Value → Hd} {w : World} {base : Nat} {spare : Nat → Bool} {held : Bool} {fuel : Nat} {a : Option Addr} {len cap : Nat} {x : DataW Hd × List MemPlace}
    (h : DataW.trod enc Try.prog w base spare held fuel 30 [.slice a len cap] = some x) : a = none → cap = 0 := by
  rcases Go.Deep.open_slice Try.underlying30 h with ⟨h0, _⟩ | ⟨a', len', cap', m, n, D, Pl, hcs, _⟩
  · intro _
    injection h0 with h0
    injection h0
  · intro ha
    injection hcs with hcs
    injection hcs with h1
    rw [ha] at h1
    cases h1
section
variable {r : List Int} {ks : List (Int × Int)} {S : List (It Int)} {a : List Int} {t id : Int}
theorem vic_count (h : Fine r ks S a) : victE a S = if ks.length = 0 then 14 else 0 := by
  have h1 := (work_ok h.w).1
  unfold victE
  rw [hitS_placed h.p h.g, List.length_take, h.g.len]
  by_cases h0 : ks.length = 0
  · rw [if_pos h0, if_pos (by omega)]
  · rw [if_neg h0, if_neg (by omega)]
theorem beats_more (h : Fine r ks S a) (h63 : ks.length ≤ 63) (he : beaE a ks t id = 0) : 0 ≤ id ∧ id ∉ ks.map (·.2) ∧ servE (ks ++ [(t, id)]) = 0 ∧ putAll [] (ks ++ [(t, id)]) = ins ltI (id, t) S := by
  have hb := both_mk h.wa h.s
  unfold beaE at he
  rw [if_pos hb] at he
  have hps : putAll [] ks = S := Sorted.eq_of_perm ltI_swo (Go.Proofs.Ytkjpkhpiojahkaa.putAll_sorted ks) h.g.sorted ((serv_good h.s).perm.trans h.g.perm.symm)
  rw [hps] at he
  split at he
  · cases he
  · rename_i hh
    obtain ⟨h0, ht, _⟩ := checkE_ok he
    have hno : id ∉ ks.map (·.2) := fun hm => hh (by
      obtain ⟨x, hx, e⟩ := List.mem_map.1 (h.g.id.2 hm)
      rw [← e]
      exact has_mem (k := x.2) hx)
    obtain ⟨h3, h4⟩ := h.g.more (by omega) h0 ht hno
    exact ⟨h0, hno, h3, h4⟩
end
set_option maxRecDepth 100000 in
set_option maxHeartbeats 16000000 in
theorem pbeats_ok (ra ka : Option Addr) (rc kc : Nat) (r : List Int) (ks : List (Int × Int)) (t id : Int) (w : World) (hr : IntsAt w ra r) (hrw : ∀ x ∈ r, (Lit.int .i64 x).wf = true) (hk : Ke.KeysAt w ka ks) (hkw : ∀ k ∈ ks, (Lit.int .i64 k.2).wf = true) (hcap : ks.length ≤ kc) (hcm : kc ≤ 9223372036854775807) (hkn : ka = none → kc = 0) (hid : (Lit.int .i64 id).wf = true) :
    Calls Try.prog 17 #[.slice ra r.length rc, .slice ka ks.length kc, .agg #[.int .i64 t, .int .i64 id]] w fun e w' => e = .returned (.bool true) ∧ Below w.heap.size w w' := by
  obtain ⟨bk, hbk⟩ : ∃ b, w.heap.size = b := ⟨_, rfl⟩
  obtain ⟨W, hW⟩ : ∃ x, w.alloc (.cells #[.int .i64 t, .int .i64 id] 24) = x := ⟨_, rfl⟩
  have h0 := (On.emp w).new1 24 #[.int .i64 t, .int .i64 id]
  rw [hW, hbk] at h0
  have HAw := Lib.hid (fun (A : World) (hA : Below w.heap.size w A) => (pawake_ok A).mono fun e w' ⟨h1, h2⟩ => (⟨h1, hA.trans (h2.mono hA.size)⟩ : e = Ending.returned (.bool true) ∧ Below w.heap.size w w'))
  have HFw := Lib.hid (pfew_any (a := ra) (a' := ka) r.length rc ks.length kc W)
  by_cases hf : ((r.length : Int) ≤ 30 ∧ (ks.length : Int) ≤ 80)
  · rw [decide_eq_true hf] at HFw
    by_cases h63 : ks.length ≤ 63
    · have HWr := Lib.hid (wrong_ok (rc := rc) (cap := kc) h0 (fun A hA => hr.below (Nat.le_refl _) hA.to_below) (by omega) (fun A hA => keysAt_below hk hA.to_below) (by omega))
      obtain ⟨E, hE⟩ : ∃ x, bothE r ks = x := ⟨_, rfl⟩
      by_cases hE0 : E = 0
      · subst hE0
        have hfi := both_fine hE
        obtain ⟨S, hS⟩ : ∃ x, putAll [] ks = x := ⟨_, rfl⟩
        obtain ⟨a, ha⟩ : ∃ x, placeL r S = x := ⟨_, rfl⟩
        rw [hS, ha] at hfi
        have hal : a.length = r.length := hfi.p.len
        have hawf := hfi.wf hkw
        have hab := both_mk hfi.wa hfi.s
        have HP1 := Lib.hid (fun (A : World) (R : Ast) (hA : On w A R) => place_fine (rc := rc) (cap := kc) hS ha hE hA (fun A hA => hr.below (Nat.le_refl _) hA.to_below) hrw (fun A hA => keysAt_below hk hA.to_below) hkw hcap hcm)
        have HBe := Lib.hid (fun (A : World) (R : Ast) (va : Option Addr) (vc : Nat) (hT : Tame R) (hA : On w A R) (hi : ∀ A, On w A R → IntsAt A va a) => beats_ok (rc := vc) (cap := kc) t id hid hT hA hi (by omega) hawf (fun A hA => keysAt_below hk hA.to_below) hkw hcap hcm (by omega))
        obtain ⟨bb, hbb⟩ : ∃ x, beaB a ks t id = x := ⟨_, rfl⟩
        obtain ⟨be, hbe⟩ : ∃ x, beaE a ks t id = x := ⟨_, rfl⟩
        rw [hbb, hbe] at HBe
        obtain ⟨n, hn⟩ : ∃ x, r.length = x := ⟨_, rfl⟩
        obtain ⟨m, hm⟩ : ∃ x, ks.length = x := ⟨_, rfl⟩
        have h63I : ¬ (63 : Int) < (m : Int) := by omega
        by_cases hbe0 : be = 0
        · subst hbe0
          obtain ⟨hi0, hno, hs2, hp2⟩ := beats_more hfi h63 hbe
          obtain ⟨K, hK⟩ : ∃ x, ks ++ [(t, id)] = x := ⟨_, rfl⟩
          rw [hK] at hs2 hp2
          have hKl : K.length = m + 1 := by rw [← hK]; simp [hm]
          have hKw : ∀ k ∈ K, (Lit.int .i64 k.2).wf = true := fun k hk => by
            rw [← hK] at hk
            rcases List.mem_append.1 hk with h | h
            · exact hkw k h
            · rw [List.mem_singleton.1 h]; exact hid
          have hKi : itk K = itk ks ++ [(id, t)] := by rw [← hK]; unfold itk; rw [List.map_append]; rfl
          have hkI : (itk ks).length = m := by rw [itk_length, hm]
          obtain ⟨b, hb⟩ : ∃ x, placeL a (ins ltI (id, t) S) = x := ⟨_, rfl⟩
          have hfb := both_fine (both_mk hfi.wa hs2)
          rw [hp2, hb] at hfb
          have hbl : b.length = n := by rw [hfb.p.len, hal, hn]
          have hbwf := hfb.wf hKw
          have hmv : movE a b = 0 := by
            unfold movE
            rw [if_pos hfi.wa, if_pos hfb.wa, if_pos (by rw [hbl, hal, hn])]
          have hbb2 : beatsB a S t id = bb := by
            unfold beaB at hbb
            rw [hbe, if_pos rfl, hS] at hbb
            exact hbb
          obtain ⟨hv1, hv2⟩ := vicW_eq hab hS
          rw [vic_count hfi, hm] at hv2
          have HP2 := Lib.hid (fun (A : World) (R : Ast) (va kb : Option Addr) (vc kd : Nat) (hcap : K.length ≤ kd) (hcm : kd ≤ 9223372036854775807) (hA : On w A R) (hi : ∀ A, On w A R → IntsAt A va a) (hk : ∀ A, On w A R → Ke.KeysAt A kb K) => place_fine (rc := vc) (cap := kd) hp2 hb (both_mk hfi.wa hs2) hA hi hawf hk hKw hcap hcm)
          have HV := Lib.hid (fun (A : World) (R : Ast) (va : Option Addr) (vc : Nat) (hT : Tame R) (hA : On w A R) (hi : ∀ A, On w A R → IntsAt A va a) => victim_ok (rc := vc) (cap := kc) hT hA hi (by omega) hawf (fun A hA => keysAt_below hk hA.to_below) hkw hcap hcm (by omega))
          obtain ⟨M, hM⟩ : ∃ x, movesL a b = x := ⟨_, rfl⟩
          have HMv := Lib.hid (fun (A : World) (R : Ast) (va vb : Option Addr) (vc vd : Nat) (hA : On w A R) (hi : ∀ A, On w A R → IntsAt A va a) (hj : ∀ A, On w A R → IntsAt A vb b) => moves_ok (ac := vc) (bc := vd) hA hi (by omega) hawf hj (by omega) hbwf)
          rw [hmv, hM] at HMv
          have HPi := Lib.hid (fun (A : World) (va vb : Option Addr) (vc vd : Nat) (h1 : IntsAt A va a) (h2 : IntsAt A vb b) => pints_ok va vb vc vd a b A h1 h2 (by omega) (by omega))
          have HAb := Lib.hid (fun (A : World) (va : Option Addr) (vc : Nat) (h1 : IntsAt A va b) => pat_ok va vc b id A h1 (by omega))
          have HAa := Lib.hid (fun (A : World) (va : Option Addr) (vc : Nat) (h1 : IntsAt A va a) => pat_ok va vc a (-1) A h1 (by omega))
          have hls := fun h => place_less (t := t) hfi.p hfi.g hno (work_ok hfi.w).1 h
          have hmo := fun h => place_more (t := t) hfi.p hfi.g hno hi0 (work_ok hfi.w).1 hfi.wa h
          rw [hbb2, hb] at hls hmo
          obtain ⟨vw, hvw⟩ : ∃ x, vicW a ks = x := ⟨_, rfl⟩
          obtain ⟨ve, hve⟩ : ∃ x, vicE a ks = x := ⟨_, rfl⟩
          rw [hvw, hve] at HV
          rw [hvw] at hv1
          rw [hve] at hv2
          rw [← hv1] at hmo
          have HRd := Lib.hid (fun (A : World) (hA : Below w.heap.size w A) => reads_keysAt2 (T := itk ks) (u := m) (by rw [kv_itk]; exact keysAt_below hk hA) hkI hkn)
          rw [hE] at HWr
          rw [hKl] at HP2
          rw [hbl] at HMv HPi HAb
          rw [hal] at HBe HMv HPi HAa HP2 HV
          rw [hn, hm] at HFw HWr HP1 HBe hf ⊢
          rw [hn] at HP2 HMv HPi HAa HV hal
          rw [hm] at HV
          have hnn : ((n : Int) ≤ 30) := hf.1
          have hmm : m ≤ 63 := by omega
          have HAl := Lib.hid hal
          have HBl := Lib.hid hbl
          have HKl := Lib.hid hKl
          have HKi := Lib.hid hKi
          have HLs := Lib.hid hls
          have HMo := Lib.hid hmo
          have HVe := Lib.hid hv2
          have HM := Lib.hid hM
          have HkI := Lib.hid hkI
          have HIdn := Lib.hid hi0
          have c00 := (h0).bx 0 rfl
          have c01 := (h0).bx 1 rfl
          clear hr hrw hk hkw hE hfi hS ha hal hn hm hf h63 hbe hbb hbb2 hi0 hno hs2 hp2 hK hKl hKw hKi hb hfb hbl hbwf hmv hv1 hv2 hM hls hmo hvw hve h0 hawf hab hkI
          go_enter Try.func17, Try.ntmps17
          go_wp2_with fail
          clear hW hbk
          refine HFw.out.mono ?_
          rintro e w0 ⟨rfl, rfl⟩
          go_wp2_with fail
          refine HWr.out.mono ?_
          rintro e w1 ⟨v, rfl, h1⟩
          have HC1 := Lib.hid (HP1.out w1 _ h1.out1)
          clear h1
          go_wp2_with fail
          refine HC1.out.mono ?_
          rintro e w2 ⟨va, vc, rfl, h2⟩
          have HC2 := Lib.hid (HBe.out w2 _ va vc ((Plain.ints _ _).sepT ((Plain.box _ _ _).sepT Plain.emp.tame)) h2 (fun A hA => hA.ints_at2))
          clear c00 c01
          have c10 := (h2.sw0).bx 0 rfl
          have c11 := (h2.sw0).bx 1 rfl
          clear h2
          go_wp2_with fail
          refine HC2.out.mono ?_
          rintro e w3 ⟨rfl, h3⟩
          have HR3 := Lib.hid (HRd.out w3 h3.to_below)
          have hone := keyC_one (itk ks)
          have H3 := Lib.hid h3.keys_nil
          have hmx : 0 + m ≤ maxLen := by unfold maxLen; omega
          have hby : (0 + m) * 16 ≤ 140737488355328 := by omega
          have hmx2 : 0 + m + 1 ≤ maxLen := by unfold maxLen; omega
          have hby2 : (0 + m + 1) * 16 ≤ 140737488355328 := by omega
          have hone2 : ∀ u ∈ [Value.int .i64 t, Value.int .i64 id], u.oneCell' = true := by simp; exact ⟨rfl, rfl⟩
          clear h3 c10 c11
          go_wp2_with (at_builtin; go_loud (first
            | (refine wpList_append_any (by rfl) _ _ 30 (by rfl) 24 2 16 keySlice (.slice none 0 0) 0 [] (by rfl) (World.ownsRow_nil _ _ _ _) (.slice ka m kc) m ((itk ks).flatMap keyC) (by rfl) HR3.out hone hmx hby ?_; intro v' w4 hown hgrow hat; (obtain ⟨qq, qn, qcc, rfl⟩ := own_form hown); (have h4 := H3.out.row_push (Below.refl _ _) hgrow hown hat); ((have c20 := (h4.sw1.sw0).bx 0 rfl); (have c21 := (h4.sw1.sw0).bx 1 rfl)); (obtain ⟨bz, hbz⟩ : ∃ x, w4.heap.size = x := ⟨_, rfl⟩); (obtain ⟨W4, hW4⟩ : ∃ x, w4.alloc (.cells #[.int .i64 t, .int .i64 id] 24) = x := ⟨_, rfl⟩); (have h5 := h4.new1 24 #[.int .i64 t, .int .i64 id]); rw [hW4, hbz] at h5; (have HRd2 := Lib.hid (reads_key1 (h5.bx 0 rfl) (h5.bx 1 rfl))); (obtain ⟨F, hF, _⟩ := h5.sw0.get1); (have HOw2 := Lib.hid hF.1); (have H5 := Lib.hid h5.sw0); clear hown hgrow hat h4 h5 hF)
            | (refine wpList_append_any (by rfl) _ _ 30 (by rfl) 24 2 16 keySlice _ (0 + m) _ (by rfl) HOw2.out (.slice (some ⟨bz, 0, none⟩) 1 1) 1 [.int .i64 t, .int .i64 id] (by rfl) HRd2.out hone2 hmx2 hby2 ?_; intro v' w5 hown hgrow hat; (obtain ⟨qq2, qn2, qcc2, rfl⟩ := own_form hown); (have h6 := H5.out.row_push (Below.refl _ _) hgrow hown hat); (have H6 := Lib.hid h6); clear hown hgrow hat h6)))
          have h7 : On w w5 (sep (keysA (.slice qq2 qn2 qcc2) (itk K)) _) := H6.out.mono1 fun F hF => by
            unfold keysA
            rw [HKi.out, ← keys_snoc, List.length_append, HkI.out]
            rw [show 0 + m + 1 = m + 1 by omega] at hF
            exact hF
          obtain ⟨_, _, he, hk1, hk2, hkall⟩ := h7.keys_cap (kv_itk K) HKl.out
          cases he
          have HKa := Lib.hid hkall
          have h8 := h7.sw0.out1
          have HC3 := Lib.hid (HP2.out w5 _ va qq2 vc qcc2 hk1 hk2 h8 (fun A hA => hA.sw0.ints_at2) (fun A hA => HKa.out w A _ hA))
          clear h7 h8 hkall
          go_wp2_with fail
          refine HC3.out.mono ?_
          rintro e w6 ⟨vb, vd, rfl, h9⟩
          have HC4 := Lib.hid (HV.out w6 _ va vc ((Plain.ints _ _).sepT ((Plain.keys _ _).sepT ((Plain.ints _ _).sepT ((Plain.box _ _ _).sepT Plain.emp.tame)))) h9 (fun A hA => (hA.sw1.sw0).ints_at2))
          clear h9
          go_wp2_with fail
          refine HC4.out.mono ?_
          rintro e w7 ⟨rfl, h10⟩
          have HC5 := Lib.hid (HMv.out w7 _ va vb vc vd h10 (fun A hA => (hA.sw1.sw0).ints_at2) (fun A hA => hA.ints_at2))
          clear h10
          go_wp2_with fail
          refine HC5.out.mono ?_
          rintro e w8 ⟨v8, rfl, _, hq⟩
          have h11 := hq (by first | rfl | trivial)
          obtain ⟨ma, mc, rfl, hma⟩ := h11.ints_read
          have hb11 := h11.sw0.ints_at2
          have ha11 := (h11.sw2.sw1.sw0).ints_at2
          have hpi := HPi.out w8 va vb vc vd ha11 hb11
          have hab := HAb.out w8 vb vd hb11
          have haa := HAa.out w8 va vc ha11
          have c40 := (h11.sw3.sw2.sw1.sw0).bx 0 rfl
          have c41 := (h11.sw3.sw2.sw1.sw0).bx 1 rfl
          have H11 := Lib.hid h11
          have hve := HVe.out
          cases bb with
          | false =>
            have hab2 := HLs.out rfl
            have hM0 : M = [] := by rw [← HM.out, hab2, movesL_same]
            subst hM0
            rw [hab2] at hpi
            simp only [eq_self, decide_true] at hpi
            have HC6 := Lib.hid hpi
            clear hq h11 hma hb11 ha11 hpi hab haa hab2
            by_cases hm0 : m = 0
            · rw [if_pos hm0] at hve
              subst hve
              subst hm0
              go_wp2_with fail
              refine HC6.out.mono ?_
              rintro e w9 ⟨rfl, hb9⟩
              have HC8 := Lib.hid (HAw.out w9 (H11.out.below hb9).to_below)
              clear hb9
              go_wp2_with fail
              refine HC8.out.mono ?_
              rintro e wa ⟨rfl, hba⟩
              have HB5 := Lib.hid hba
              clear hba
              go_wp2_with fail
              go_ret
              exact ⟨rfl, HB5.out⟩
            · rw [if_neg hm0] at hve
              subst hve
              have hm0I : (0 : Int) < (m : Int) := by omega
              have hm0N : 0 < m := by omega
              go_wp2_with fail
              refine HC6.out.mono ?_
              rintro e w9 ⟨rfl, hb9⟩
              have HC8 := Lib.hid (HAw.out w9 (H11.out.below hb9).to_below)
              clear hb9
              go_wp2_with fail
              refine HC8.out.mono ?_
              rintro e wa ⟨rfl, hba⟩
              have HB5 := Lib.hid hba
              clear hba
              go_wp2_with fail
              go_ret
              exact ⟨rfl, HB5.out⟩
          | true =>
            obtain ⟨p, hp, hbp, hne, hat, hor⟩ := HMo.out rfl
            have hMp : M = [(p : Int)] := by
              rw [← HM.out, hbp]
              have hid1 : id ≠ -1 := by have := HIdn.out; omega
              exact movesL_set hp hid1 hne
            subst hMp
            rw [hbp, hat] at hab
            obtain ⟨mb, mof, rfl, _, hmc⟩ := hma.row (by simp)
            have m0 : w8.cell? ⟨mb, mof, none⟩ = some (.int .i64 (p : Int)) := by
              have := hmc 0 (by simp)
              simpa using this
            have HC6 := Lib.hid hab
            have HOr := Lib.hid hor
            clear hq h11 hma hb11 ha11 hpi hbp hne hmc hab haa hat hor
            rw [show ([(p : Int)] : List Int).length = 1 from rfl]
            have hp0 : (0 : Int) ≤ (p : Int) := by omega
            have zp : ((p : Int) == (p : Int)) = true := by simp
            by_cases hm0 : m = 0
            · rw [if_pos hm0] at hve
              subst hve
              subst hm0
              go_wp2_with fail
              refine HC6.out.mono ?_
              rintro e w9 ⟨rfl, hb9⟩
              have h12 := H11.out.below hb9
              have haa := HAa.out w9 va vc (h12.sw2.sw1.sw0).ints_at2
              have m1 : w9.cell? ⟨mb, mof, none⟩ = some (.int .i64 (p : Int)) := (hb9.cell (by exact World.block_lt_of_cell? _ _ m0)).trans m0
              have H12 := Lib.hid h12
              clear hb9 h12
              rcases HOr.out with ⟨_, hidl⟩ | ⟨_, hidl, hvp⟩
              · rw [hidl] at haa
                have HC7 := Lib.hid haa
                clear haa
                go_wp2_with fail
                refine HC7.out.mono ?_
                rintro e wx ⟨rfl, hbx⟩
                have m2 : wx.cell? ⟨mb, mof, none⟩ = some (.int .i64 (p : Int)) := (hbx.cell (by exact World.block_lt_of_cell? _ _ m1)).trans m1
                have HC8 := Lib.hid (HAw.out wx (H12.out.below hbx).to_below)
                clear hbx
                go_wp2_with fail
                refine HC8.out.mono ?_
                rintro e wa ⟨rfl, hba⟩
                have HB5 := Lib.hid hba
                clear hba
                go_wp2_with fail
                go_ret
                exact ⟨rfl, HB5.out⟩
              · rw [hidl] at haa
                have HC7 := Lib.hid haa
                subst hvp
                clear haa
                go_wp2_with fail
                refine HC7.out.mono ?_
                rintro e wx ⟨rfl, hbx⟩
                have m2 : wx.cell? ⟨mb, mof, none⟩ = some (.int .i64 (p : Int)) := (hbx.cell (by exact World.block_lt_of_cell? _ _ m1)).trans m1
                have HC8 := Lib.hid (HAw.out wx (H12.out.below hbx).to_below)
                clear hbx
                go_wp2_with fail
                refine HC8.out.mono ?_
                rintro e wa ⟨rfl, hba⟩
                have HB5 := Lib.hid hba
                clear hba
                go_wp2_with fail
                go_ret
                exact ⟨rfl, HB5.out⟩
            · rw [if_neg hm0] at hve
              subst hve
              have hm0I : (0 : Int) < (m : Int) := by omega
              have hm0N : 0 < m := by omega
              go_wp2_with fail
              refine HC6.out.mono ?_
              rintro e w9 ⟨rfl, hb9⟩
              have h12 := H11.out.below hb9
              have haa := HAa.out w9 va vc (h12.sw2.sw1.sw0).ints_at2
              have m1 : w9.cell? ⟨mb, mof, none⟩ = some (.int .i64 (p : Int)) := (hb9.cell (by exact World.block_lt_of_cell? _ _ m0)).trans m0
              have H12 := Lib.hid h12
              clear hb9 h12
              rcases HOr.out with ⟨_, hidl⟩ | ⟨_, hidl, hvp⟩
              · rw [hidl] at haa
                have HC7 := Lib.hid haa
                clear haa
                go_wp2_with fail
                refine HC7.out.mono ?_
                rintro e wx ⟨rfl, hbx⟩
                have m2 : wx.cell? ⟨mb, mof, none⟩ = some (.int .i64 (p : Int)) := (hbx.cell (by exact World.block_lt_of_cell? _ _ m1)).trans m1
                have HC8 := Lib.hid (HAw.out wx (H12.out.below hbx).to_below)
                clear hbx
                go_wp2_with fail
                refine HC8.out.mono ?_
                rintro e wa ⟨rfl, hba⟩
                have HB5 := Lib.hid hba
                clear hba
                go_wp2_with fail
                go_ret
                exact ⟨rfl, HB5.out⟩
              · rw [hidl] at haa
                have HC7 := Lib.hid haa
                subst hvp
                clear haa
                go_wp2_with fail
                refine HC7.out.mono ?_
                rintro e wx ⟨rfl, hbx⟩
                have m2 : wx.cell? ⟨mb, mof, none⟩ = some (.int .i64 (p : Int)) := (hbx.cell (by exact World.block_lt_of_cell? _ _ m1)).trans m1
                have HC8 := Lib.hid (HAw.out wx (H12.out.below hbx).to_below)
                clear hbx
                go_wp2_with fail
                refine HC8.out.mono ?_
                rintro e wa ⟨rfl, hba⟩
                have HB5 := Lib.hid hba
                clear hba
                go_wp2_with fail
                go_ret
                exact ⟨rfl, HB5.out⟩
        · have hbb0 : bb = false := by
            unfold beaB at hbb
            rw [hbe, if_neg hbe0] at hbb
            exact hbb.symm
          subst hbb0
          have zb : (be != 0) = true := by simpa using hbe0
          rw [hE] at HWr
          rw [hal] at HBe
          rw [hn, hm] at HFw HWr HP1 HBe ⊢
          rw [hn] at hal
          have HAl := Lib.hid hal
          have c00 := (h0).bx 0 rfl
          have c01 := (h0).bx 1 rfl
          clear hr hrw hk hkw hE hfi hS ha hal hn hm hf h63 hbe hbb h0 hawf hab
          go_enter Try.func17, Try.ntmps17
          go_wp2_with fail
          clear hW hbk
          refine HFw.out.mono ?_
          rintro e w0 ⟨rfl, rfl⟩
          go_wp2_with fail
          refine HWr.out.mono ?_
          rintro e w1 ⟨v, rfl, h1⟩
          have HC1 := Lib.hid (HP1.out w1 _ h1.out1)
          clear h1
          go_wp2_with fail
          refine HC1.out.mono ?_
          rintro e w2 ⟨va, vc, rfl, h2⟩
          have HC2 := Lib.hid (HBe.out w2 _ va vc ((Plain.ints _ _).sepT ((Plain.box _ _ _).sepT Plain.emp.tame)) h2 (fun A hA => hA.ints_at2))
          clear c00 c01
          have c10 := (h2.sw0).bx 0 rfl
          have c11 := (h2.sw0).bx 1 rfl
          clear h2
          go_wp2_with fail
          refine HC2.out.mono ?_
          rintro e w3 ⟨rfl, h3⟩
          have HC8 := Lib.hid (HAw.out w3 h3.to_below)
          clear h3
          go_wp2_with fail
          refine HC8.out.mono ?_
          rintro e wa ⟨rfl, hba⟩
          have HB5 := Lib.hid hba
          clear hba
          go_wp2_with fail
          go_ret
          exact ⟨rfl, HB5.out⟩
      · have zE : (E != 0) = true := by simpa using hE0
        rw [hE] at HWr
        obtain ⟨n, hn⟩ : ∃ x, r.length = x := ⟨_, rfl⟩
        obtain ⟨m, hm⟩ : ∃ x, ks.length = x := ⟨_, rfl⟩
        have h63I : ¬ (63 : Int) < (m : Int) := by omega
        rw [hn, hm] at HFw HWr ⊢
        clear hr hrw hk hkw hE hn hm hf h0
        go_enter Try.func17, Try.ntmps17
        go_wp2_with fail
        clear hW hbk
        refine HFw.out.mono ?_
        rintro e w0 ⟨rfl, rfl⟩
        go_wp2_with fail
        refine HWr.out.mono ?_
        rintro e w1 ⟨v, rfl, h1⟩
        have HC5 := Lib.hid (HAw.out w1 h1.to_below)
        clear h1
        go_wp2_with fail
        refine HC5.out.mono ?_
        rintro e w5 ⟨rfl, hb5⟩
        have HB5 := Lib.hid hb5
        clear hb5
        go_wp2_with fail
        go_ret
        exact ⟨rfl, HB5.out⟩
    · have HC5 := Lib.hid (HAw.out W h0.to_below)
      obtain ⟨n, hn⟩ : ∃ x, r.length = x := ⟨_, rfl⟩
      obtain ⟨m, hm⟩ : ∃ x, ks.length = x := ⟨_, rfl⟩
      have h63I : (63 : Int) < (m : Int) := by omega
      rw [hn, hm] at HFw ⊢
      clear hr hrw hk hkw hn hm hf h0 h63
      go_enter Try.func17, Try.ntmps17
      go_wp2_with fail
      clear hW hbk
      refine HFw.out.mono ?_
      rintro e w0 ⟨rfl, rfl⟩
      go_wp2_with fail
      refine HC5.out.mono ?_
      rintro e w5 ⟨rfl, hb5⟩
      have HB5 := Lib.hid hb5
      clear hb5
      go_wp2_with fail
      go_ret
      exact ⟨rfl, HB5.out⟩
  · rw [decide_eq_false hf] at HFw
    have HC5 := Lib.hid (HAw.out W h0.to_below)
    obtain ⟨n, hn⟩ : ∃ x, r.length = x := ⟨_, rfl⟩
    obtain ⟨m, hm⟩ : ∃ x, ks.length = x := ⟨_, rfl⟩
    rw [hn, hm] at HFw ⊢
    clear hr hrw hk hkw hn hm hf h0
    go_enter Try.func17, Try.ntmps17
    go_wp2_with fail
    clear hW hbk
    refine HFw.out.mono ?_
    rintro e w0 ⟨rfl, rfl⟩
    go_wp2_with fail
    refine HC5.out.mono ?_
    rintro e w5 ⟨rfl, hb5⟩
    have HB5 := Lib.hid hb5
    clear hb5
    go_wp2_with fail
    go_ret
    exact ⟨rfl, HB5.out⟩
end Go.Proofs.Ytkjpkhpiojahkaa
