/-
  Walk: PlaceWants.
-/
import Derived.Test.YtkjpkhpiojahkaaPl6
namespace Go.Proofs.Ytkjpkhpiojahkaa
set_option linter.unusedVariables false
open Go.RowKit Hp
attribute [local go_sem] Oper.semAt_some
theorem serv_one (t id : Int) : servE [(t, id)] = checkE [] t id := by
  unfold servE
  rw [if_neg (by simp)]
  show putErrF [] [(t, id)] 1 0 = _
  unfold putErrF
  by_cases h : okAt [] [(t, id)] 0
  · rw [if_pos h]
    exact h.symm
  · rw [if_neg h]
    rfl
theorem vic_none {r : List Int} {S : List (It Int)} (h : (hitS r S).length = 0) : vicF r S = -1 ∧ victW r S = 0 ∧ victE r S = 14 := by
  unfold vicF victW victE
  rw [if_pos h, if_pos h, if_pos h]
  exact ⟨rfl, rfl, rfl⟩
theorem vic_some {r : List Int} {S : List (It Int)} (h : (hitS r S).length ≠ 0) : (0 : Int) ≤ vicF r S ∧ victW r S = vicF r S ∧ victE r S = 0 := by
  unfold vicF victW victE
  rw [if_neg h, if_neg h, if_neg h]
  refine ⟨?_, rfl, rfl⟩
  have h2 : lastH (hitS r S) ∈ S.filter fun x => decide (x.1 ∈ r) := lastH_mem h
  have h3 := of_decide_eq_true (List.mem_filter.1 h2).2
  unfold atI
  rw [if_pos h3]
  omega
set_option maxRecDepth 100000 in
set_option maxHeartbeats 16000000 in
theorem pwants_ok (ra ka : Option Addr) (rc kc : Nat) (r : List Int) (ks : List (Int × Int)) (t id : Int) (w : World) (hr : IntsAt w ra r) (hrw : ∀ x ∈ r, (Lit.int .i64 x).wf = true) (hk : Ke.KeysAt w ka ks) (hkw : ∀ k ∈ ks, (Lit.int .i64 k.2).wf = true) (hcap : ks.length ≤ kc) (hcm : kc ≤ 9223372036854775807) (hid : (Lit.int .i64 id).wf = true) :
    Calls Try.prog 15 #[.slice ra r.length rc, .slice ka ks.length kc, .agg #[.int .i64 t, .int .i64 id]] w fun e w' => e = .returned (.bool true) ∧ Below w.heap.size w w' := by
  obtain ⟨bk, hbk⟩ : ∃ b, w.heap.size = b := ⟨_, rfl⟩
  obtain ⟨W, hW⟩ : ∃ x, w.alloc (.cells #[.int .i64 t, .int .i64 id] 24) = x := ⟨_, rfl⟩
  have h0 := (On.emp w).new1 24 #[.int .i64 t, .int .i64 id]
  rw [hW, hbk] at h0
  have HAw := Lib.hid (fun (A : World) (hA : Below w.heap.size w A) => (pawake_ok A).mono fun e w' ⟨h1, h2⟩ => (⟨h1, hA.trans (h2.mono hA.size)⟩ : e = Ending.returned (.bool true) ∧ Below w.heap.size w w'))
  have HFw := Lib.hid (pfew_any (a := ra) (a' := ka) r.length rc ks.length kc W)
  by_cases hf : ((r.length : Int) ≤ 30 ∧ (ks.length : Int) ≤ 80)
  · rw [decide_eq_true hf] at HFw
    have HVi := Lib.hid (victim_ok (rc := rc) (cap := kc) ((Plain.box _ _ _).sepT Plain.emp.tame) h0 (fun A hA => hr.below (Nat.le_refl _) hA.to_below) (by omega) hrw (fun A hA => keysAt_below hk hA.to_below) hkw hcap hcm (by omega))
    have HBe := Lib.hid (fun (A : World) (hA : On w A (sep (boxA bk 24 #[.int .i64 t, .int .i64 id]) emp)) => beats_ok (rc := rc) (cap := kc) t id hid ((Plain.box _ _ _).sepT Plain.emp.tame) hA (fun A hA => hr.below (Nat.le_refl _) hA.to_below) (by omega) hrw (fun A hA => keysAt_below hk hA.to_below) hkw hcap hcm (by omega))
    have HWr := Lib.hid (fun (A : World) (hA : On w A (sep (boxA bk 24 #[.int .i64 t, .int .i64 id]) emp)) => wrong_ok (rc := rc) (cap := kc) hA (fun A hA => hr.below (Nat.le_refl _) hA.to_below) (by omega) (fun A hA => keysAt_below hk hA.to_below) (by omega))
    have HRs := Lib.hid (fun (A : World) (X : Ast) (b : Nat) (hA : On w A (sep (boxA b 24 #[.int .i64 t, .int .i64 id]) X)) => rservers_ok (cap := 1) (ks := [(t, id)]) (a := some ⟨b, 0, none⟩) hA (fun A hA => by
      obtain ⟨F, hF, _⟩ := hA.get1
      refine keysAt_box hF fun k hk => ?_
      match k, hk with
      | 0, _ => exact ⟨rfl, rfl⟩) (by simp))
    rw [serv_one] at HRs
    have HIr := Lib.hid (fun (A : World) (hA : Below w.heap.size w A) => hr.below (Nat.le_refl _) hA)
    have HIk := Lib.hid (fun (A : World) (hA : Below w.heap.size w A) => keysAt_below hk hA)
    obtain ⟨E, hE⟩ : ∃ x, bothE r ks = x := ⟨_, rfl⟩
    obtain ⟨vw, hvw⟩ : ∃ x, vicW r ks = x := ⟨_, rfl⟩
    obtain ⟨ve, hve⟩ : ∃ x, vicE r ks = x := ⟨_, rfl⟩
    obtain ⟨bb, hbb⟩ : ∃ x, beaB r ks t id = x := ⟨_, rfl⟩
    obtain ⟨be, hbe⟩ : ∃ x, beaE r ks t id = x := ⟨_, rfl⟩
    obtain ⟨C, hC⟩ : ∃ x, checkE [] t id = x := ⟨_, rfl⟩
    rw [hC] at HRs
    have h1 := hvw
    have h2 := hve
    have h3 := hbb
    have h4 := hbe
    unfold vicW at h1
    unfold vicE at h2
    unfold beaB at h3
    unfold beaE at h4
    rw [hE] at h1 h2 h4
    rw [hbe] at h3
    rw [hC] at h4
    rw [hvw, hve] at HVi
    rw [hbb, hbe] at HBe
    rw [hE] at HWr
    by_cases hE0 : E = 0
    · subst hE0
      have hfi := both_fine hE
      have hbs : bothS r ks = putAll [] ks := both_mkS hfi.w hfi.s
      obtain ⟨S, hS⟩ : ∃ x, putAll [] ks = x := ⟨_, rfl⟩
      rw [hbs, hS] at HWr
      rw [hS] at h1 h2 h3 h4 hfi
      rw [if_pos rfl] at h1 h2 h4
      have hSl : S.length = ks.length := hfi.g.len
      have HRv := Lib.hid (fun (A : World) (a : Option Addr) (c : Nat) (hA : Below w.heap.size w A) (hk : Ke.KeysAt A a (kv S)) => rvictim_ok (rc := rc) (c := c) (hr.below (Nat.le_refl _) hA) hk (by omega) (by omega))
      have HRb := Lib.hid (fun (A : World) (a : Option Addr) (c : Nat) (hA : Below w.heap.size w A) (hk : Ke.KeysAt A a (kv S)) => rbeats_ok (rc := rc) (c := c) t id (hr.below (Nat.le_refl _) hA) hk (by omega) (by omega))
      have hha : has S id = true ↔ id ∈ ks.map (·.2) := by
        rw [← hfi.g.id]
        constructor
        · intro h
          obtain ⟨k, hk⟩ := has_some h
          exact List.mem_map.2 ⟨_, hk, rfl⟩
        · intro h
          obtain ⟨x, hx, rfl⟩ := List.mem_map.1 h
          exact has_mem hx
      obtain ⟨F, hF⟩ : ∃ x, vicF r S = x := ⟨_, rfl⟩
      rw [hF] at HRv
      have hcs : ((F = -1 ∧ vw = 0 ∧ ve = 14) ∨ ((0 : Int) ≤ F ∧ vw = F ∧ ve = 0)) := by
        by_cases hz : (hitS r S).length = 0
        · obtain ⟨a1, a2, a3⟩ := vic_none hz
          exact .inl ⟨by rw [← hF, a1], by rw [← h1, a2], by rw [← h2, a3]⟩
        · obtain ⟨a1, a2, a3⟩ := vic_some hz
          rw [hF] at a1 a2
          exact .inr ⟨a1, by rw [← h1, a2], by rw [← h2, a3]⟩
      have H3 := Lib.hid h3
      have H4 := Lib.hid h4
      have HHa := Lib.hid hha
      obtain ⟨n, hn⟩ : ∃ x, r.length = x := ⟨_, rfl⟩
      obtain ⟨m, hm⟩ : ∃ x, ks.length = x := ⟨_, rfl⟩
      rw [hSl] at HRv HRb
      rw [hn, hm] at HFw HVi HBe HWr HRv HRb hf ⊢
      have hmn : ((m : Int) ≤ 80) := hf.2
      have HMl := Lib.hid hm
      have HSl := Lib.hid (hSl.trans hm)
      have c00 := (h0).bx 0 rfl
      have c01 := (h0).bx 1 rfl
      have H0 := Lib.hid h0
      clear hr hrw hk hkw hE hfi hS hn hm hf h0 h1 h2 h3 h4 hvw hve hbb hbe hC hbs hSl hF hha
      go_enter Try.func15, Try.ntmps15
      go_wp2_with fail
      clear hW hbk
      refine HFw.out.mono ?_
      rintro e w0 ⟨rfl, rfl⟩
      go_wp2_with fail
      refine HVi.out.mono ?_
      rintro e w1 ⟨rfl, h1⟩
      have HC1 := Lib.hid (HBe.out w1 h1)
      clear c00 c01
      have c00 := (h1).bx 0 rfl
      have c01 := (h1).bx 1 rfl
      clear h1
      go_wp2_with fail
      refine HC1.out.mono ?_
      rintro e w2 ⟨rfl, h2⟩
      have HC2 := Lib.hid (HWr.out w2 h2)
      clear h2
      go_wp2_with fail
      refine HC2.out.mono ?_
      rintro e w3 ⟨v, rfl, h3⟩
      obtain ⟨sa, sc, rfl, hka⟩ := h3.keys1
      have hrv := HRv.out w3 sa sc h3.to_below hka
      rw [HSl.out]
      have HC3 := Lib.hid hrv
      have H3' := Lib.hid h3
      clear h3 hka hrv
      go_wp2_with fail
      refine HC3.out.mono ?_
      rintro e w4 ⟨rfl, hb4⟩
      have h5 := H3'.out.below hb4
      rw [HSl.out] at h5
      have H5 := Lib.hid h5
      clear hb4 h5
      rcases hcs with ⟨rfl, rfl, rfl⟩ | ⟨hF0, rfl, rfl⟩
      · go_wp2_with fail
        go_loopg [14] m (fun gh s14 wr => ∃ i : Nat, i + gh = m ∧ s14 = .int .i64 (i : Int) ∧ id ∉ (ks.map (·.2)).take i ∧ On w wr (sep (keysA (.slice sa m sc) S) (sep (boxA bk 24 #[.int .i64 t, .int .i64 id]) emp)))
        case atStart => exact ⟨0, by omega, rfl, by simp, H5.out⟩
        case round =>
          obtain ⟨i, hi, rfl, hno, hon⟩ := hrel
          have c10 := (hon.sw0).bx 0 rfl
          have c11 := (hon.sw0).bx 1 rfl
          by_cases hlt : i < m
          · have hltI : (i : Int) < (m : Int) := by omega
            have hi0 : (0 : Int) ≤ (i : Int) := by omega
            obtain ⟨y, hy⟩ : ∃ x, ks[i]? = some x := ⟨_, List.getElem?_eq_getElem (by rw [HMl.out]; exact hlt)⟩
            have hym : (ks.map (·.2))[i]? = some y.2 := by rw [List.getElem?_map, hy]; rfl
            obtain ⟨kb, kof, rfl, hbl, hc⟩ := keysAt_get (HIk.out wr hon.to_below) (n := m) (by omega) HMl.out
            obtain ⟨_, hc1⟩ := hc i hlt
            rw [hy, Option.getD_some] at hc1
            have p0 : wr.cell? ⟨kb, kof + i * 2 + 1, none⟩ = some (.int .i64 y.2) := hc1
            have HOnd := Lib.hid (hon.below (Below.refl _ wr).drew)
            by_cases hyi : y.2 = id
            · have hh : has S id = true := HHa.out.2 (hyi ▸ List.mem_of_getElem? hym)
              have hbe : be = 15 := by have := H4.out; rw [if_pos hh] at this; exact this.symm
              have hbb : bb = false := by have := H3.out; rw [if_neg (by rw [hbe]; decide)] at this; exact this.symm
              subst hbe
              subst hbb
              subst hyi
              have HC5 := Lib.hid (HAw.out wr.drew (hon.below (Below.refl _ wr).drew).to_below)
              clear hon hy hym hno hbl hc hc1 hh
              go_wp2_with fail
              have p0_d := drewC p0
              have c11_d := drewC c11
              refine wp_region_loose (fun A => A = wr.drew) (by kernel_rfl) (by kernel_rfl) rfl ?_
              repeat (first
                | (refine loose_skip (by rfl) ?_; simp only [Act.put, List.setIfInBounds_toArray, List.set_cons_zero, List.set_cons_succ])
                | (refine loose_val (v := ?_) (by rfl) ?_ ?_; rotate_left; (focus (intro A' hA'; subst hA'; go_simp; first | done | with_reducible rfl)); simp only [Act.put, List.setIfInBounds_toArray, List.set_cons_zero, List.set_cons_succ]))
              refine loose_nil ?_
              intro A3 hA3
              subst hA3
              go_wp2_with fail
              refine HC5.out.mono ?_
              rintro e w5 ⟨rfl, hb5⟩
              have HB5 := Lib.hid hb5
              clear hb5
              go_wp2_with fail
              go_ret
              exact ⟨rfl, HB5.out⟩
            · have z2 : (y.2 == id) = false := by simpa using hyi
              have hno2 : id ∉ (ks.map (·.2)).take (i + 1) := by
                rw [List.take_add_one, hym]
                intro hm
                rcases List.mem_append.1 hm with h | h
                · exact hno h
                · exact hyi (List.mem_singleton.1 h).symm
              have HNo := Lib.hid hno2
              clear hon hy hym hno hbl hc hc1 hno2
              go_wp2_with fail
              have p0_d := drewC p0
              have c11_d := drewC c11
              refine wp_region_loose (fun A => A = wr.drew) (by kernel_rfl) (by kernel_rfl) rfl ?_
              repeat (first
                | (refine loose_skip (by rfl) ?_; simp only [Act.put, List.setIfInBounds_toArray, List.set_cons_zero, List.set_cons_succ])
                | (refine loose_val (v := ?_) (by rfl) ?_ ?_; rotate_left; (focus (intro A' hA'; subst hA'; go_simp; first | done | with_reducible rfl)); simp only [Act.put, List.setIfInBounds_toArray, List.set_cons_zero, List.set_cons_succ]))
              refine loose_nil ?_
              intro A3 hA3
              subst hA3
              go_wp2_with fail
              go_roundg (m - (i + 1))
              case measure => omega
              case rel => exact ⟨i + 1, by omega, by go_num, HNo.out, HOnd.out⟩
          · have him : i = m := by omega
            rw [List.take_of_length_le (by rw [List.length_map, HMl.out]; omega)] at hno
            have hh : ¬ has S id = true := fun h => hno (HHa.out.1 h)
            have hbe : C = be := by have := H4.out; rw [if_neg hh] at this; exact this
            subst hbe
            subst him
            obtain ⟨w6, hw6⟩ : ∃ x, x = wr := ⟨_, rfl⟩
            subst hw6
            obtain ⟨bs, hbs⟩ : ∃ b, w6.heap.size = b := ⟨_, rfl⟩
            obtain ⟨W6, hW6⟩ : ∃ x, w6.alloc (.cells #[.int .i64 t, .int .i64 id] 24) = x := ⟨_, rfl⟩
            have h6 := hon.new1 24 #[.int .i64 t, .int .i64 id]
            rw [hW6, hbs] at h6
            have HC6 := Lib.hid (HRs.out W6 _ bs h6)
            clear hon h6 hno hh
            by_cases hC0 : C = 0
            · subst hC0
              have hbb : beatsB r S t id = bb := by have := H3.out; simpa using this
              have HBb := Lib.hid hbb
              go_wp2_with fail
              refine HC6.out.mono ?_
              rintro e w7 ⟨v7, rfl, h7⟩
              obtain ⟨_, _, he, hka⟩ := ((h7.sw1.sw0)).keys1
              rw [HSl.out] at he
              cases he
              have hrb := HRb.out w7 sa sc h7.to_below hka
              rw [HBb.out] at hrb
              have HC7 := Lib.hid hrb
              have H7 := Lib.hid h7
              clear c10 c11
              have c30 := (h7.sw2.sw1.sw0).bx 0 rfl
              have c31 := (h7.sw2.sw1.sw0).bx 1 rfl
              have zb : (bb == bb) = true := by simp
              clear h7 hka hrb hbb
              go_wp2_with fail
              refine HC7.out.mono ?_
              rintro e w8 ⟨rfl, hb8⟩
              have HC5 := Lib.hid (HAw.out w8 (H7.out.below hb8).to_below)
              clear hb8
              go_wp2_with fail
              refine HC5.out.mono ?_
              rintro e w5 ⟨rfl, hb5⟩
              have HB5 := Lib.hid hb5
              clear hb5
              go_wp2_with fail
              go_ret
              exact ⟨rfl, HB5.out⟩
            · have zC : (C != 0) = true := by simpa using hC0
              have zC2 : (C == C) = true := by simp
              have hbb : bb = false := by have := H3.out; rw [if_neg hC0] at this; exact this.symm
              subst hbb
              go_wp2_with fail
              refine HC6.out.mono ?_
              rintro e w7 ⟨v7, rfl, h7⟩
              have HC5 := Lib.hid (HAw.out w7 h7.to_below)
              clear h7
              go_wp2_with fail
              refine HC5.out.mono ?_
              rintro e w5 ⟨rfl, hb5⟩
              have HB5 := Lib.hid hb5
              clear hb5
              go_wp2_with fail
              go_ret
              exact ⟨rfl, HB5.out⟩
      · have hF1 : ¬ vw < 0 := by omega
        have zz : (vw != vw) = false := by simp
        go_wp2_with fail
        go_loopg [14] m (fun gh s14 wr => ∃ i : Nat, i + gh = m ∧ s14 = .int .i64 (i : Int) ∧ id ∉ (ks.map (·.2)).take i ∧ On w wr (sep (keysA (.slice sa m sc) S) (sep (boxA bk 24 #[.int .i64 t, .int .i64 id]) emp)))
        case atStart => exact ⟨0, by omega, rfl, by simp, H5.out⟩
        case round =>
          obtain ⟨i, hi, rfl, hno, hon⟩ := hrel
          have c10 := (hon.sw0).bx 0 rfl
          have c11 := (hon.sw0).bx 1 rfl
          by_cases hlt : i < m
          · have hltI : (i : Int) < (m : Int) := by omega
            have hi0 : (0 : Int) ≤ (i : Int) := by omega
            obtain ⟨y, hy⟩ : ∃ x, ks[i]? = some x := ⟨_, List.getElem?_eq_getElem (by rw [HMl.out]; exact hlt)⟩
            have hym : (ks.map (·.2))[i]? = some y.2 := by rw [List.getElem?_map, hy]; rfl
            obtain ⟨kb, kof, rfl, hbl, hc⟩ := keysAt_get (HIk.out wr hon.to_below) (n := m) (by omega) HMl.out
            obtain ⟨_, hc1⟩ := hc i hlt
            rw [hy, Option.getD_some] at hc1
            have p0 : wr.cell? ⟨kb, kof + i * 2 + 1, none⟩ = some (.int .i64 y.2) := hc1
            have HOnd := Lib.hid (hon.below (Below.refl _ wr).drew)
            by_cases hyi : y.2 = id
            · have hh : has S id = true := HHa.out.2 (hyi ▸ List.mem_of_getElem? hym)
              have hbe : be = 15 := by have := H4.out; rw [if_pos hh] at this; exact this.symm
              have hbb : bb = false := by have := H3.out; rw [if_neg (by rw [hbe]; decide)] at this; exact this.symm
              subst hbe
              subst hbb
              subst hyi
              have HC5 := Lib.hid (HAw.out wr.drew (hon.below (Below.refl _ wr).drew).to_below)
              clear hon hy hym hno hbl hc hc1 hh
              go_wp2_with fail
              have p0_d := drewC p0
              have c11_d := drewC c11
              refine wp_region_loose (fun A => A = wr.drew) (by kernel_rfl) (by kernel_rfl) rfl ?_
              repeat (first
                | (refine loose_skip (by rfl) ?_; simp only [Act.put, List.setIfInBounds_toArray, List.set_cons_zero, List.set_cons_succ])
                | (refine loose_val (v := ?_) (by rfl) ?_ ?_; rotate_left; (focus (intro A' hA'; subst hA'; go_simp; first | done | with_reducible rfl)); simp only [Act.put, List.setIfInBounds_toArray, List.set_cons_zero, List.set_cons_succ]))
              refine loose_nil ?_
              intro A3 hA3
              subst hA3
              go_wp2_with fail
              refine HC5.out.mono ?_
              rintro e w5 ⟨rfl, hb5⟩
              have HB5 := Lib.hid hb5
              clear hb5
              go_wp2_with fail
              go_ret
              exact ⟨rfl, HB5.out⟩
            · have z2 : (y.2 == id) = false := by simpa using hyi
              have hno2 : id ∉ (ks.map (·.2)).take (i + 1) := by
                rw [List.take_add_one, hym]
                intro hm
                rcases List.mem_append.1 hm with h | h
                · exact hno h
                · exact hyi (List.mem_singleton.1 h).symm
              have HNo := Lib.hid hno2
              clear hon hy hym hno hbl hc hc1 hno2
              go_wp2_with fail
              have p0_d := drewC p0
              have c11_d := drewC c11
              refine wp_region_loose (fun A => A = wr.drew) (by kernel_rfl) (by kernel_rfl) rfl ?_
              repeat (first
                | (refine loose_skip (by rfl) ?_; simp only [Act.put, List.setIfInBounds_toArray, List.set_cons_zero, List.set_cons_succ])
                | (refine loose_val (v := ?_) (by rfl) ?_ ?_; rotate_left; (focus (intro A' hA'; subst hA'; go_simp; first | done | with_reducible rfl)); simp only [Act.put, List.setIfInBounds_toArray, List.set_cons_zero, List.set_cons_succ]))
              refine loose_nil ?_
              intro A3 hA3
              subst hA3
              go_wp2_with fail
              go_roundg (m - (i + 1))
              case measure => omega
              case rel => exact ⟨i + 1, by omega, by go_num, HNo.out, HOnd.out⟩
          · have him : i = m := by omega
            rw [List.take_of_length_le (by rw [List.length_map, HMl.out]; omega)] at hno
            have hh : ¬ has S id = true := fun h => hno (HHa.out.1 h)
            have hbe : C = be := by have := H4.out; rw [if_neg hh] at this; exact this
            subst hbe
            subst him
            obtain ⟨w6, hw6⟩ : ∃ x, x = wr := ⟨_, rfl⟩
            subst hw6
            obtain ⟨bs, hbs⟩ : ∃ b, w6.heap.size = b := ⟨_, rfl⟩
            obtain ⟨W6, hW6⟩ : ∃ x, w6.alloc (.cells #[.int .i64 t, .int .i64 id] 24) = x := ⟨_, rfl⟩
            have h6 := hon.new1 24 #[.int .i64 t, .int .i64 id]
            rw [hW6, hbs] at h6
            have HC6 := Lib.hid (HRs.out W6 _ bs h6)
            clear hon h6 hno hh
            by_cases hC0 : C = 0
            · subst hC0
              have hbb : beatsB r S t id = bb := by have := H3.out; simpa using this
              have HBb := Lib.hid hbb
              go_wp2_with fail
              refine HC6.out.mono ?_
              rintro e w7 ⟨v7, rfl, h7⟩
              obtain ⟨_, _, he, hka⟩ := ((h7.sw1.sw0)).keys1
              rw [HSl.out] at he
              cases he
              have hrb := HRb.out w7 sa sc h7.to_below hka
              rw [HBb.out] at hrb
              have HC7 := Lib.hid hrb
              have H7 := Lib.hid h7
              clear c10 c11
              have c30 := (h7.sw2.sw1.sw0).bx 0 rfl
              have c31 := (h7.sw2.sw1.sw0).bx 1 rfl
              have zb : (bb == bb) = true := by simp
              clear h7 hka hrb hbb
              go_wp2_with fail
              refine HC7.out.mono ?_
              rintro e w8 ⟨rfl, hb8⟩
              have HC5 := Lib.hid (HAw.out w8 (H7.out.below hb8).to_below)
              clear hb8
              go_wp2_with fail
              refine HC5.out.mono ?_
              rintro e w5 ⟨rfl, hb5⟩
              have HB5 := Lib.hid hb5
              clear hb5
              go_wp2_with fail
              go_ret
              exact ⟨rfl, HB5.out⟩
            · have zC : (C != 0) = true := by simpa using hC0
              have zC2 : (C == C) = true := by simp
              have hbb : bb = false := by have := H3.out; rw [if_neg hC0] at this; exact this.symm
              subst hbb
              go_wp2_with fail
              refine HC6.out.mono ?_
              rintro e w7 ⟨v7, rfl, h7⟩
              have HC5 := Lib.hid (HAw.out w7 h7.to_below)
              clear h7
              go_wp2_with fail
              refine HC5.out.mono ?_
              rintro e w5 ⟨rfl, hb5⟩
              have HB5 := Lib.hid hb5
              clear hb5
              go_wp2_with fail
              go_ret
              exact ⟨rfl, HB5.out⟩
    · have zE : (E != 0) = true := by simpa using hE0
      rw [if_neg hE0] at h1 h2 h4
      subst h1
      subst h2
      subst h4
      rw [if_neg hE0] at h3
      subst h3
      have zz : (E == E) = true := by simp
      obtain ⟨n, hn⟩ : ∃ x, r.length = x := ⟨_, rfl⟩
      obtain ⟨m, hm⟩ : ∃ x, ks.length = x := ⟨_, rfl⟩
      rw [hn, hm] at HFw HVi HBe HWr ⊢
      have c00 := (h0).bx 0 rfl
      have c01 := (h0).bx 1 rfl
      clear hr hrw hk hkw hE hn hm hf h0 hvw hve hbb hbe hC
      go_enter Try.func15, Try.ntmps15
      go_wp2_with fail
      clear hW hbk
      refine HFw.out.mono ?_
      rintro e w0 ⟨rfl, rfl⟩
      go_wp2_with fail
      refine HVi.out.mono ?_
      rintro e w1 ⟨rfl, h1⟩
      have HC1 := Lib.hid (HBe.out w1 h1)
      clear c00 c01
      have c00 := (h1).bx 0 rfl
      have c01 := (h1).bx 1 rfl
      clear h1
      go_wp2_with fail
      refine HC1.out.mono ?_
      rintro e w2 ⟨rfl, h2⟩
      have HC2 := Lib.hid (HWr.out w2 h2)
      clear h2
      go_wp2_with fail
      refine HC2.out.mono ?_
      rintro e w3 ⟨v, rfl, h3⟩
      have HC5 := Lib.hid (HAw.out w3 h3.to_below)
      clear h3
      go_wp2_with fail
      refine HC5.out.mono ?_
      rintro e w5 ⟨rfl, hb5⟩
      have HB5 := Lib.hid hb5
      clear hb5
      go_wp2_with fail
      go_ret
      exact ⟨rfl, HB5.out⟩
  · rw [decide_eq_false hf] at HFw
    have HC5 := Lib.hid (HAw.out W h0.to_below)
    obtain ⟨n, hn⟩ : ∃ x, r.length = x := ⟨_, rfl⟩
    obtain ⟨m, hm⟩ : ∃ x, ks.length = x := ⟨_, rfl⟩
    rw [hn, hm] at HFw ⊢
    clear hr hrw hk hkw hn hm hf h0
    go_enter Try.func15, Try.ntmps15
    go_wp2_with fail
    clear hW hbk
    refine HFw.out.mono ?_
    rintro e w0 ⟨rfl, rfl⟩
    go_wp2_with fail
    refine HC5.out.mono ?_
    rintro e w5 ⟨rfl, hb5⟩
    have HB5 := Lib.hid hb5
    clear hb5
    go_wp2_with fail
    go_ret
    exact ⟨rfl, HB5.out⟩
end Go.Proofs.Ytkjpkhpiojahkaa
