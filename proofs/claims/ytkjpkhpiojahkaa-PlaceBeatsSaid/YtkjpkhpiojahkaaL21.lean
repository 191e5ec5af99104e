/-
  Walk: PlaceGrows.
-/
import Derived.Test.YtkjpkhpiojahkaaPl6
import Derived.Test.YtkjpkhpiojahkaaPc8
namespace Go.Proofs.Ytkjpkhpiojahkaa
set_option linter.unusedVariables false
open Go.RowKit Hp
attribute [local go_sem] Oper.semAt_some
theorem reads_ints {A : World} {a : Option Addr} {n c : Nat} {zs : List Int} (h : IntsAt A a zs) (hn : zs.length = n) (h0 : 0 < n) : Reads A (.slice a n c) 1 n (ints zs) := by
  obtain ⟨b, off, rfl, _, hc⟩ := h.row (by omega)
  refine .inr ⟨_, _, rfl, by rw [Nat.mul_one, ← hn]; simp [ints], fun j u hu => ?_⟩
  unfold ints at hu
  rw [List.getElem?_map] at hu
  have hj : j < zs.length := by
    refine Decidable.byContradiction fun hge => ?_
    rw [List.getElem?_eq_none (by omega)] at hu
    cases hu
  have h1 := hc j hj
  rw [List.getElem?_eq_getElem hj] at hu h1
  cases hu
  rw [Addr.add_lit]
  exact h1
theorem ints_oneC (zs : List Int) : ∀ u ∈ ints zs, u.oneCell' = true := fun u hu => by
  obtain ⟨x, _, rfl⟩ := List.mem_map.1 hu
  rfl
theorem IntsAt.take {A : World} {a : Option Addr} {zs : List Int} (h : IntsAt A a zs) (n : Nat) : IntsAt A a (zs.take n) := fun k hk => by
  have hk2 : k < n ∧ k < zs.length := by rw [List.length_take] at hk; omega
  obtain ⟨b, off, ha, hb, hc⟩ := h k hk2.2
  refine ⟨b, off, ha, hb, ?_⟩
  rw [List.getElem?_take, if_pos hk2.1]
  exact hc
theorem keysAt_take2 {w : World} {a : Option Addr} {ks : List (Int × Int)} {i : Nat} (h : Ke.KeysAt w a ks) : Ke.KeysAt w a (ks.take i) := by
  rcases h with h | ⟨b, off, ha, hb, h⟩
  · exact .inl (by rw [List.length_take, h]; exact Nat.min_zero i)
  · refine .inr ⟨b, off, ha, hb, fun k hk => ?_⟩
    have hk2 : k < i ∧ k < ks.length := by rw [List.length_take] at hk; omega
    have := h k hk2.2
    rw [List.getElem?_take, if_pos hk2.1]
    exact this
theorem On.ints_at2 {w0 A : World} {R : Ast} {a : Option Addr} {n c : Nat} {zs : List Int} (h : On w0 A (sep (intsA (.slice a n c) zs) R)) : IntsAt A a zs := by
  obtain ⟨_, _, he, hi⟩ := h.ints_read
  cases he
  exact hi
theorem On.ints_cap {w0 A : World} {R : Ast} {a : Option Addr} {n c : Nat} {zs : List Int} (h : On w0 A (sep (intsA (.slice a n c) zs) R)) : n ≤ c := by
  obtain ⟨F, hF, _⟩ := h.get1
  rcases own_parts hF.1 with ⟨h1, h2⟩ | ⟨g, cap, cur, h1, _, _, h3, _⟩
  · cases h1
    exact Nat.le_refl _
  · cases h1
    exact h3
section
variable {r : List Int} {ks : List (Int × Int)} {S : List (It Int)} {a : List Int}
theorem Fine.wider (h : Fine r ks S a) (hl : r.length ≤ 15) : workE (a ++ [-1]) = 0 := by
  obtain ⟨l1, l2, _, _⟩ := work_ok h.w
  refine (h.p.laid.wider (I := bestI S (r.length + 1)) bestI_sub2).work (fun x hx => by have := h.g.best_pos x hx; omega) (by simp) (by rw [List.length_append, h.p.len]; simp; omega)
theorem Fine.grow (h : Fine r ks S a) (hl : r.length ≤ 15) : ∃ b, placeL (a ++ [-1]) S = b ∧ b.length = r.length + 1 ∧ b.take r.length = a ∧ movE (a ++ [-1]) b = 0 ∧ (movesL (a ++ [-1]) b).length = (if r.length < ks.length then 1 else 0) := by
  have hw := h.wider hl
  obtain ⟨h1, h2⟩ := place_grow h.p h.g
  have hfw := both_fine (both_mk hw h.s)
  have hps : putAll [] ks = S := by
    refine Sorted.eq_of_perm ltI_swo (Go.Proofs.Ytkjpkhpiojahkaa.putAll_sorted ks) h.g.sorted ?_
    exact (serv_good h.s).perm.trans h.g.perm.symm
  rw [hps] at hfw
  have hla : a.length = r.length := h.p.len
  have hwa := hfw.wa
  have hmv : ∀ b, placeL (a ++ [-1]) S = b → movE (a ++ [-1]) b = 0 := fun b hb => by
    subst hb
    unfold movE
    rw [if_pos hw, if_pos hwa, if_pos (by rw [placeL_length])]
  by_cases hlt : r.length < ks.length
  · obtain ⟨x, hx⟩ : ∃ x, S[r.length]? = some x := ⟨_, List.getElem?_eq_getElem (by rw [h.g.len]; exact hlt)⟩
    obtain ⟨e1, e2⟩ := h2 x hx
    refine ⟨_, e1, by simp [hla], by rw [← hla]; exact List.take_left, hmv _ e1, ?_⟩
    have hms := movesL_set (a := a ++ [-1]) (p := a.length) (x := x.1) (by simp) e2 (by simp; exact e2)
    rw [set_snoc] at hms
    rw [if_pos hlt, hms]
    rfl
  · have e1 := h1 (by rw [h.g.len]; omega)
    refine ⟨_, e1, by simp [hla], by rw [← hla]; exact List.take_left, hmv _ e1, ?_⟩
    rw [if_neg hlt, movesL_same]
    rfl
end
set_option maxRecDepth 100000 in
set_option maxHeartbeats 16000000 in
theorem pgrows_ok (ra ka : Option Addr) (rc kc : Nat) (r : List Int) (ks : List (Int × Int)) (w : World) (hr : IntsAt w ra r) (hrw : ∀ x ∈ r, (Lit.int .i64 x).wf = true) (hk : Ke.KeysAt w ka ks) (hkw : ∀ k ∈ ks, (Lit.int .i64 k.2).wf = true) (hcap : ks.length ≤ kc) (hcm : kc ≤ 9223372036854775807) :
    Calls Try.prog 16 #[.slice ra r.length rc, .slice ka ks.length kc] w fun e w' => e = .returned (.bool true) ∧ Below w.heap.size w w' := by
  have HAw := Lib.hid (fun (A : World) (hA : Below w.heap.size w A) => (pawake_ok A).mono fun e w' ⟨h1, h2⟩ => (⟨h1, hA.trans (h2.mono hA.size)⟩ : e = Ending.returned (.bool true) ∧ Below w.heap.size w w'))
  have HFw := Lib.hid (pfew_any (a := ra) (a' := ka) r.length rc ks.length kc w)
  by_cases hf : ((r.length : Int) ≤ 30 ∧ (ks.length : Int) ≤ 80)
  · rw [decide_eq_true hf] at HFw
    by_cases h15 : r.length ≤ 15
    · have HWr := Lib.hid (wrong_ok (rc := rc) (cap := kc) (On.emp w) (fun A hA => hr.below (Nat.le_refl _) hA.to_below) (by omega) (fun A hA => keysAt_below hk hA.to_below) (by omega))
      obtain ⟨E, hE⟩ : ∃ x, bothE r ks = x := ⟨_, rfl⟩
      by_cases hE0 : E = 0
      · subst hE0
        have hfi := both_fine hE
        obtain ⟨S, hS⟩ : ∃ x, putAll [] ks = x := ⟨_, rfl⟩
        obtain ⟨a, ha⟩ : ∃ x, placeL r S = x := ⟨_, rfl⟩
        rw [hS, ha] at hfi
        obtain ⟨b, hb, hbl, hbt, hbm, hbc⟩ := hfi.grow h15
        have hwi := hfi.wider h15
        have hal : a.length = r.length := hfi.p.len
        have h1l := (work_ok hfi.w).1
        have hwf := hfi.wf hkw
        have hbE := both_mk hwi hfi.s
        have hfb := both_fine hbE
        rw [hS, hb] at hfb
        have hbwf := hfb.wf hkw
        obtain ⟨Wd, hWd⟩ : ∃ x, a ++ [-1] = x := ⟨_, rfl⟩
        have hWl : Wd.length = r.length + 1 := by rw [← hWd]; simp [hal]
        have hWwf : ∀ x ∈ Wd, (Lit.int .i64 x).wf = true := fun x hx => by
          rw [← hWd] at hx
          rcases List.mem_append.1 hx with h | h
          · exact hwf x h
          · rw [List.mem_singleton.1 h]; decide
        rw [hWd] at hb hbm hbc hbE
        have HP1 := Lib.hid (fun (A : World) (R : Ast) (hA : On w A R) => place_fine (rc := rc) (cap := kc) hS ha hE hA (fun A hA => hr.below (Nat.le_refl _) hA.to_below) hrw (fun A hA => keysAt_below hk hA.to_below) hkw hcap hcm)
        have HP2 := Lib.hid (fun (A : World) (R : Ast) (va : Option Addr) (vc : Nat) (hA : On w A R) (hi : ∀ A, On w A R → IntsAt A va Wd) => place_fine (rc := vc) (cap := kc) hS hb hbE hA hi hWwf (fun A hA => keysAt_below hk hA.to_below) hkw hcap hcm)
        obtain ⟨M, hM⟩ : ∃ x, movesL Wd b = x := ⟨_, rfl⟩
        have HMv := Lib.hid (fun (A : World) (R : Ast) (va vb : Option Addr) (vc vd : Nat) (hA : On w A R) (hi : ∀ A, On w A R → IntsAt A va Wd) (hj : ∀ A, On w A R → IntsAt A vb b) => moves_ok (ac := vc) (bc := vd) hA hi (by omega) hWwf hj (by omega) hbwf)
        rw [hbm, hM] at HMv
        rw [hM] at hbc
        have HB := Lib.hid (fun (A : World) (R : Ast) (mm : Int) (hA : On w A R) => best_ok (cap := kc) mm hA (fun A hA => keysAt_below hk hA.to_below) hkw hcap hcm (by omega))
        have hbe : ∀ mm : Int, 0 ≤ mm → bestE mm ks = 0 := fun mm h => by unfold bestE; rw [if_neg (by omega), hfi.s]
        have hle : ∀ l : Nat, 1 ≤ l → leastS S (l : Int) = S.take l := fun l hl => by unfold leastS; rw [if_neg (by omega)]; simp
        rw [hS] at HB
        have hSl : S.length = ks.length := hfi.g.len
        have HPi := Lib.hid (fun (A : World) (va vb : Option Addr) (vc vd : Nat) (h1 : IntsAt A va a) (h2 : IntsAt A vb a) => pints_ok va vb vc vd a a A h1 h2 (by omega) (by omega))
        have hktl : (kv (S.take r.length)).length = min r.length ks.length := by unfold kv; rw [List.length_map, List.length_take, hSl]
        have HPk := Lib.hid (fun (A : World) (va vb : Option Addr) (vc vd : Nat) (h1 : Ke.KeysAt A va (kv (S.take r.length))) (h2 : Ke.KeysAt A vb (kv (S.take r.length))) => pkeys_ok va vb vc vd (kv (S.take r.length)) (kv (S.take r.length)) A h1 h2 (by omega) (by omega))
        rw [hktl] at HPk
        obtain ⟨n, hn⟩ : ∃ x, r.length = x := ⟨_, rfl⟩
        obtain ⟨m, hm⟩ : ∃ x, ks.length = x := ⟨_, rfl⟩
        obtain ⟨q, hq⟩ : ∃ x, M.length = x := ⟨_, rfl⟩
        rw [hE] at HWr
        rw [hWl] at HP2 HMv
        rw [hbl] at HMv
        rw [hal] at HPi
        rw [hn, hm] at HFw HWr HP1 hf hbc ⊢
        rw [hn] at HP2 HMv HPi hbt hbl hWl hal h1l h15
        rw [hm] at HP2 HB hSl
        rw [hn, hm] at HPk
        rw [hq] at hbc
        have hmn : ((m : Int) ≤ 80) := hf.2
        have hnn : ((n : Int) ≤ 30) := hf.1
        have HAl := Lib.hid hal
        have HBl := Lib.hid hbl
        have HBt := Lib.hid hbt
        have HWl := Lib.hid hWl
        have HWd := Lib.hid hWd
        have HQ := Lib.hid hq
        have HBc := Lib.hid hbc
        have HSl := Lib.hid hSl
        have HBe := Lib.hid hbe
        have HLe := Lib.hid hle
        have g15 : ¬ (15 : Int) < (n : Int) := by omega
        clear hr hrw hk hkw hE hfi hS ha hal hn hm hf hb hbl hbt hbm hbc hwi hwf hbE hfb hbwf hWd hWl hWwf hM hbe hle hSl hktl hq
        go_enter Try.func16, Try.ntmps16
        go_wp2_with fail
        refine HFw.out.mono ?_
        rintro e w0 ⟨rfl, rfl⟩
        go_wp2_with fail
        refine HWr.out.mono ?_
        rintro e w1 ⟨v, rfl, h1⟩
        have HC1 := Lib.hid (HP1.out w1 _ h1.out1)
        clear h1
        go_wp2_with fail
        refine HC1.out.mono ?_
        rintro e w2 ⟨va, vc, rfl, h2⟩
        have h3 := h2.ints_nil
        obtain ⟨_, _, he, hva⟩ := h2.ints_read
        rw [HAl.out] at he
        cases he
        have HRd := Lib.hid (reads_ints (n := n) (c := vc) hva HAl.out (by omega))
        have hone := ints_oneC a
        have H3 := Lib.hid h3
        have hmx : 0 + n ≤ maxLen := by unfold maxLen; omega
        have hby : (0 + n) * 8 ≤ 140737488355328 := by omega
        clear h2 h3 hva
        have hmx2 : 0 + n + 1 ≤ maxLen := by unfold maxLen; omega
        have hby2 : (0 + n + 1) * 8 ≤ 140737488355328 := by omega
        have hone2 : ∀ u ∈ [Value.int .i64 (-1)], u.oneCell' = true := by simp; rfl
        go_wp2_with (at_builtin; go_loud (first
          | (refine wpList_append_any (by rfl) _ _ 54 (by rfl) 3 1 8 intSlice (.slice none 0 0) 0 [] (by rfl) (World.ownsRow_nil _ _ _ _) (.slice va n vc) n (ints a) (by rfl) HRd.out hone hmx hby ?_; intro v' w3 hown hgrow hat; (obtain ⟨qq, qn, qcc, rfl⟩ := own_form hown); (have h4 := H3.out.row_push (Below.refl _ _) hgrow hown hat); (obtain ⟨bz, hbz⟩ : ∃ x, w3.heap.size = x := ⟨_, rfl⟩); (obtain ⟨W3, hW3⟩ : ∃ x, w3.alloc (.cells #[.int .i64 (-1)] 3) = x := ⟨_, rfl⟩); (have h5 := h4.new1 3 #[.int .i64 (-1)]); rw [hW3, hbz] at h5; (have HRd2 := Lib.hid (reads_one (h5.bx 0 rfl))); (obtain ⟨F, hF, _⟩ := h5.sw0.get1); (have HOw2 := Lib.hid hF.1); (have H5 := Lib.hid h5.sw0); clear hown hgrow hat h4 h5 hF)
          | (refine wpList_append_any (by rfl) _ _ 54 (by rfl) 3 1 8 intSlice _ (0 + n) _ (by rfl) HOw2.out (.slice (some ⟨bz, 0, none⟩) 1 1) 1 [.int .i64 (-1)] (by rfl) HRd2.out hone2 hmx2 hby2 ?_; intro v' w4 hown hgrow hat; (obtain ⟨qq2, qn2, qcc2, rfl⟩ := own_form hown); (have h6 := H5.out.row_push (Below.refl _ _) hgrow hown hat); (have H6 := Lib.hid h6); clear hown hgrow hat h6)))
        have h7 : On w w4 (sep (intsA (.slice qq2 qn2 qcc2) Wd) _) := H6.out.mono1 fun F hF => by
          unfold intsA
          rw [HWl.out, ← HWd.out, ← ints_snoc]
          rw [show 0 + n + 1 = n + 1 by omega] at hF
          exact hF
        obtain ⟨_, _, he, _⟩ := h7.ints_read
        rw [HWl.out] at he
        cases he
        have h8 := h7.sw0.out1
        have HC2 := Lib.hid (HP2.out w4 _ qq2 qcc2 h8 (fun A hA => hA.ints_at2))
        clear h7 h8
        go_wp2_with fail
        refine HC2.out.mono ?_
        rintro e w5 ⟨vb, vd, rfl, h9⟩
        have HC3 := Lib.hid (HMv.out w5 _ qq2 vb qcc2 vd h9 (fun A hA => hA.sw0.ints_at2) (fun A hA => hA.ints_at2))
        clear h9
        go_wp2_with fail
        refine HC3.out.mono ?_
        rintro e w6 ⟨v6, rfl, _, hq6⟩
        have h10 := hq6 (by first | rfl | trivial)
        obtain ⟨ma, mc, rfl, _⟩ := h10.ints_read
        rw [HQ.out] at h10 ⊢
        have hc4 := HB.out w6 _ (n : Int) h10
        rw [HBe.out (n : Int) (by omega), HLe.out n (by omega)] at hc4
        have HC4 := Lib.hid hc4
        clear hq6 h10 hc4
        go_wp2_with fail
        refine HC4.out.mono ?_
        rintro e w7 ⟨v7, rfl, _, hq7⟩
        have h11 := hq7 (by first | rfl | trivial)
        have hpl : (S.take n).length = min n m := by rw [List.length_take, HSl.out]
        have hkl : (kv (S.take n)).length = min n m := by unfold kv; rw [List.length_map, hpl]
        obtain ⟨xa, xc, rfl, hx1, hx2, hxall⟩ := h11.keys_cap rfl hkl
        have hc5 := HB.out w7 _ ((n : Int) + 1) h11
        rw [HBe.out ((n : Int) + 1) (by omega), show ((n : Int) + 1) = ((n + 1 : Nat) : Int) by omega, HLe.out (n + 1) (by omega)] at hc5
        rw [show ((n + 1 : Nat) : Int) = (n : Int) + 1 by omega] at hc5
        have HC5 := Lib.hid hc5
        have HXa := Lib.hid hxall
        clear hq7 h11 hc5 hxall hpl hkl
        go_wp2_with fail
        refine HC5.out.mono ?_
        rintro e w8 ⟨v8, rfl, _, hq8⟩
        have h12 := hq8 (by first | rfl | trivial)
        have hkl : (kv (S.take (n + 1))).length = min (n + 1) m := by unfold kv; rw [List.length_map, List.length_take, HSl.out]
        obtain ⟨ya, yc, rfl, hy1, hy2, hyall⟩ := h12.keys_cap rfl hkl
        have hpk := HPk.out w8 xa ya xc yc (HXa.out w w8 _ h12.sw0) (by
          have := keysAt_take2 (i := n) (hyall w w8 _ h12)
          rw [show (kv (S.take (n + 1))).take n = kv (S.take n) from by unfold kv; rw [← List.map_take, List.take_take, Nat.min_eq_left (by omega)]] at this
          exact this)
        simp only [decide_true] at hpk
        have HC6 := Lib.hid hpk
        have H12 := Lib.hid h12
        obtain ⟨p, hp⟩ : ∃ x, min n m = x := ⟨_, rfl⟩
        obtain ⟨p1, hp1⟩ : ∃ x, min (n + 1) m = x := ⟨_, rfl⟩
        rw [hp] at HC6 hx1 ⊢
        rw [hp1] at hy1 ⊢
        have hpp : p ≤ p1 := by omega
        have hppI : ¬ (p1 : Int) < (p : Int) := by omega
        have hpcI : (p : Int) ≤ (yc : Int) := by omega
        clear hq8 h12 hkl hyall hpk hp hp1
        have hvd : n + 1 ≤ vd := (H12.out.sw2.sw1.sw0).ints_cap
        have hvdI : (n : Int) ≤ (vd : Int) := by omega
        go_wp2_with fail
        refine HC6.out.mono ?_
        rintro e w9 ⟨rfl, hb9⟩
        have h13 := H12.out.below hb9
        have hb := (h13.sw2.sw1.sw0).ints_at2
        have ha := (h13.sw4.sw3.sw2.sw1.sw0).ints_at2
        have hpi := HPi.out w9 va vb vc vd ha (by have := hb.take n; rw [HBt.out] at this; exact this)
        simp only [decide_true] at hpi
        have HC7 := Lib.hid hpi
        have H13 := Lib.hid h13
        clear hb9 h13 hb ha hpi
        have hbc := HBc.out
        by_cases hnm : n < m
        · rw [if_pos hnm] at hbc
          subst hbc
          have hnmI : (n : Int) < (m : Int) := by omega
          go_wp2_with fail
          refine HC7.out.mono ?_
          rintro e wa ⟨rfl, hba⟩
          have HC5' := Lib.hid (HAw.out wa (H13.out.below hba).to_below)
          clear hba
          go_wp2_with fail
          refine HC5'.out.mono ?_
          rintro e wb ⟨rfl, hb5⟩
          have HB5 := Lib.hid hb5
          clear hb5
          go_wp2_with fail
          go_ret
          exact ⟨rfl, HB5.out⟩
        · rw [if_neg hnm] at hbc
          subst hbc
          have hnmI : ¬ (n : Int) < (m : Int) := by omega
          go_wp2_with fail
          refine HC7.out.mono ?_
          rintro e wa ⟨rfl, hba⟩
          have HC5' := Lib.hid (HAw.out wa (H13.out.below hba).to_below)
          clear hba
          go_wp2_with fail
          refine HC5'.out.mono ?_
          rintro e wb ⟨rfl, hb5⟩
          have HB5 := Lib.hid hb5
          clear hb5
          go_wp2_with fail
          go_ret
          exact ⟨rfl, HB5.out⟩
      · have zE : (E != 0) = true := by simpa using hE0
        rw [hE] at HWr
        obtain ⟨n, hn⟩ : ∃ x, r.length = x := ⟨_, rfl⟩
        obtain ⟨m, hm⟩ : ∃ x, ks.length = x := ⟨_, rfl⟩
        rw [hn, hm] at HFw HWr ⊢
        have g15 : ¬ (15 : Int) < (n : Int) := by omega
        clear hr hrw hk hkw hE hn hm hf
        go_enter Try.func16, Try.ntmps16
        go_wp2_with fail
        refine HFw.out.mono ?_
        rintro e w0 ⟨rfl, rfl⟩
        go_wp2_with fail
        refine HWr.out.mono ?_
        rintro e w1 ⟨v, rfl, h1⟩
        have HC5 := Lib.hid (HAw.out w1 h1.to_below)
        clear h1
        go_wp2_with fail
        refine HC5.out.mono ?_
        rintro e w5 ⟨rfl, hb5⟩
        have HB5 := Lib.hid hb5
        clear hb5
        go_wp2_with fail
        go_ret
        exact ⟨rfl, HB5.out⟩
    · have HC5 := Lib.hid (HAw.out w (Below.refl _ w))
      obtain ⟨n, hn⟩ : ∃ x, r.length = x := ⟨_, rfl⟩
      obtain ⟨m, hm⟩ : ∃ x, ks.length = x := ⟨_, rfl⟩
      rw [hn, hm] at HFw ⊢
      have g15 : (15 : Int) < (n : Int) := by omega
      clear hr hrw hk hkw hn hm hf
      go_enter Try.func16, Try.ntmps16
      go_wp2_with fail
      refine HFw.out.mono ?_
      rintro e w0 ⟨rfl, rfl⟩
      go_wp2_with fail
      refine HC5.out.mono ?_
      rintro e w5 ⟨rfl, hb5⟩
      have HB5 := Lib.hid hb5
      clear hb5
      go_wp2_with fail
      go_ret
      exact ⟨rfl, HB5.out⟩
  · rw [decide_eq_false hf] at HFw
    have HC5 := Lib.hid (HAw.out w (Below.refl _ w))
    obtain ⟨n, hn⟩ : ∃ x, r.length = x := ⟨_, rfl⟩
    obtain ⟨m, hm⟩ : ∃ x, ks.length = x := ⟨_, rfl⟩
    rw [hn, hm] at HFw ⊢
    clear hr hrw hk hkw hn hm hf
    go_enter Try.func16, Try.ntmps16
    go_wp2_with fail
    refine HFw.out.mono ?_
    rintro e w0 ⟨rfl, rfl⟩
    go_wp2_with fail
    refine HC5.out.mono ?_
    rintro e w5 ⟨rfl, hb5⟩
    have HB5 := Lib.hid hb5
    clear hb5
    go_wp2_with fail
    go_ret
    exact ⟨rfl, HB5.out⟩
end Go.Proofs.Ytkjpkhpiojahkaa
