/-
  Place: Victim, Beats.
-/
import Derived.Test.YtkjpkhpiojahkaaPc9
import Derived.Test.YtkjpkhpiojahkaaPc3
namespace Go.Proofs.Ytkjpkhpiojahkaa
set_option linter.unusedVariables false
open Go.RowKit Hp
attribute [local go_sem] Oper.semAt_some
def vicW (r : List Int) (ks : List (Int × Int)) : Int := if bothE r ks = 0 then victW r (putAll [] ks) else 0
def vicE (r : List Int) (ks : List (Int × Int)) : Int := if bothE r ks = 0 then victE r (putAll [] ks) else bothE r ks
theorem addN_times {ks : List (Int × Int)} : ∀ n, (∀ j, j < n → okAt [] ks j) → ∀ x ∈ addN [] ks n, x.2 ≤ 1099511627776
  | 0, _, x, h => absurd h (by simp [addN])
  | n + 1, ho, x, h => by
    obtain ⟨_, ht, _⟩ := checkE_ok (ho n (by omega))
    rw [addN] at h
    unfold putS at h
    split at h
    · exact addN_times n (fun j hj => ho j (by omega)) x h
    · split at h
      · exact addN_times n (fun j hj => ho j (by omega)) x h
      · rcases ins_mem.1 h with rfl | h
        · have := timeE_ok ht
          unfold kj at this
          show (ks[n]?.getD (0, 0)).1 ≤ _
          omega
        · exact addN_times n (fun j hj => ho j (by omega)) x h
theorem serv_times {ks : List (Int × Int)} (h : servE ks = 0) : ∀ x ∈ putAll [] ks, x.2 ≤ 1099511627776 := by
  unfold servE at h
  split at h
  · cases h
  · obtain ⟨i, _, hall, _, _, h0⟩ := putErr_put ks
    have := h0 h
    subst this
    exact addN_times _ hall
section
variable {w0 w : World} {R : Ast} {a : Option Addr} {cap : Nat} {ks : List (Int × Int)} {r : List Int} {ra : Option Addr} {rc : Nat}
set_option maxRecDepth 100000 in
set_option maxHeartbeats 4000000 in
theorem victim_ok (hT : Tame R) (h : On w0 w R) (hr : ∀ A, On w0 A R → IntsAt A ra r) (hrl : r.length < 1000000) (hrw : ∀ x ∈ r, (Lit.int .i64 x).wf = true)
    (hk : ∀ A, On w0 A R → Ke.KeysAt A a ks) (hwf : ∀ k ∈ ks, (Lit.int .i64 k.2).wf = true) (hcap : ks.length ≤ cap) (hcm : cap ≤ 9223372036854775807) (hl : ks.length < 700000) :
    Calls Try.prog 65 #[.slice ra r.length rc, .slice a ks.length cap] w fun e w' => e = .returned (.tuple #[.int .i64 (vicW r ks), .int .i64 (vicE r ks)]) ∧ On w0 w' R := by
  have HBo := Lib.hid (both_ok (rc := rc) h hr hrl hrw hk hwf hcap hcm hl)
  have hsl := putAll_length ks
  have HLt := Lib.hid (fun (A : World) (q : Nat) (h0 : servE ks = 0) (hA : On w0 A (sep (quA q (putAll [] ks)) R)) => last_ok (rc := rc) hT hA hr hrl (putAll_sorted ks) (by omega) (serv_times h0))
  have HIx := Lib.hid (fun (A : World) (id : Int) (hA : On w0 A R) => index_ok ra rc r id A (hr A hA) hrl)
  obtain ⟨E, hE⟩ : ∃ E, bothE r ks = E := ⟨_, rfl⟩
  unfold vicW vicE
  rw [hE] at HBo ⊢
  obtain ⟨S, hS⟩ : ∃ S, putAll [] ks = S := ⟨_, rfl⟩
  rw [hS] at HBo HLt ⊢
  obtain ⟨n, hn⟩ : ∃ n, r.length = n := ⟨_, rfl⟩
  rw [hn] at HBo HLt HIx ⊢
  have HE := Lib.hid hE
  unfold victW victE
  obtain ⟨L, hL⟩ : ∃ L, hitS r S = L := ⟨_, rfl⟩
  rw [hL] at HLt ⊢
  obtain ⟨p, hp⟩ : ∃ p, lastH L = p := ⟨_, rfl⟩
  obtain ⟨m, hm⟩ : ∃ m, L.length = m := ⟨_, rfl⟩
  rw [hp, hm] at HLt ⊢
  clear h hr hrw hk hwf hE hn hS hsl hT hL hp hm
  by_cases h0 : E = 0
  · subst h0
    rw [if_pos rfl, if_pos rfl]
    go_enter Try.func65, Try.ntmps65
    go_wp2_with fail
    refine HBo.out.mono ?_
    rintro e w1 ⟨v, rfl, _, hq⟩
    obtain ⟨q, rfl, h1⟩ := hq (by first | rfl | trivial)
    have HL1 := Lib.hid (HLt.out w1 q (both_zero HE.out).2 h1)
    clear hq h1
    go_wp2_with fail
    refine HL1.out.mono ?_
    rintro e w2 ⟨rfl, h2⟩
    obtain ⟨bk, hbk⟩ : ∃ b, w2.heap.size = b := ⟨_, rfl⟩
    obtain ⟨W3, hW3⟩ : ∃ x, w2.alloc (.cells #[.int .i64 p.2, .int .i64 p.1] 24) = x := ⟨_, rfl⟩
    have h3 := h2.out1.new1 24 #[.int .i64 p.2, .int .i64 p.1]
    rw [hW3, hbk] at h3
    have c00 := (h3).bx 0 rfl
    have c01 := (h3).bx 1 rfl
    have HI2 := Lib.hid (HIx.out W3 p.1 h3.out1)
    have H2 := Lib.hid h3.out1
    clear h2 h3
    by_cases hm0 : m = 0
    · subst hm0
      go_wp2_with fail
      go_ret2
      exact ⟨by first | rfl | trivial, H2.out⟩
    · have z : ((m : Int) == 0) = false := by simp; omega
      go_wp2_with fail
      refine HI2.out.mono ?_
      rintro e w3 ⟨rfl, hb3⟩
      have H3 := Lib.hid (H2.out.below hb3)
      clear hb3
      go_wp2_with fail
      go_ret2
      exact ⟨by rfl, H3.out⟩
  · rw [if_neg h0, if_neg h0]
    have z : (E != 0) = true := by simpa using h0
    go_enter Try.func65, Try.ntmps65
    go_wp2_with fail
    refine HBo.out.mono ?_
    rintro e w1 ⟨v, rfl, hq, _⟩
    have H1 := Lib.hid (hq h0)
    clear hq
    go_wp2_with fail
    go_ret2
    exact ⟨by first | rfl | trivial, H1.out⟩
def beaE (r : List Int) (ks : List (Int × Int)) (t id : Int) : Int := if bothE r ks = 0 then (if has (putAll [] ks) id then 15 else checkE [] t id) else bothE r ks
def beaB (r : List Int) (ks : List (Int × Int)) (t id : Int) : Bool := if beaE r ks t id = 0 then beatsB r (putAll [] ks) t id else false
theorem put1_ok {A : World} {X : Ast} {q b : Nat} (t id : Int) (hw : (Lit.int .i64 id).wf = true) (h : On w0 A (sep (boxA b 24 #[.int .i64 t, .int .i64 id]) (sep (quA q []) X))) :
    Calls Try.prog 92 #[.pointer (some ⟨q, 0, none⟩), .slice (some ⟨b, 0, none⟩) 1 1] A fun e w' => e = .returned (.int .i64 (checkE [] t id)) ∧ On w0 w' X := by
  by_cases hc : checkE [] t id = 0
  · have := Q_put h.sw0 (some ⟨b, 0, none⟩) 1 [(t, id)] (fun A T hA => by
      obtain ⟨F, hF, _⟩ := hA.sw0.get1
      refine keysAt_box hF fun k hk => ?_
      match k, hk with
      | 0, _ => exact ⟨rfl, rfl⟩) (by simpa using hw) (Nat.le_refl _) (by omega) (by simp) 1 (Nat.le_refl _) (fun j hj => by
        have : j = 0 := by omega
        subst this
        exact hc) 0 (by simp) (fun h => absurd h (by simp))
    exact this.mono fun e w' ⟨h1, h2⟩ => ⟨by rw [h1, hc], h2.out1.out1⟩
  · have := Q_put h.sw0 (some ⟨b, 0, none⟩) 1 [(t, id)] (fun A T hA => by
      obtain ⟨F, hF, _⟩ := hA.sw0.get1
      refine keysAt_box hF fun k hk => ?_
      match k, hk with
      | 0, _ => exact ⟨rfl, rfl⟩) (by simpa using hw) (Nat.le_refl _) (by omega) (by simp) 0 (by simp) (fun j hj => by omega) (checkE [] t id) rfl (fun _ => hc)
    exact this.mono fun e w' ⟨h1, h2⟩ => ⟨h1, h2.out1.out1⟩
set_option maxRecDepth 100000 in
set_option maxHeartbeats 8000000 in
theorem beats_ok (t id : Int) (hid : (Lit.int .i64 id).wf = true) (hT : Tame R) (h : On w0 w R) (hr : ∀ A, On w0 A R → IntsAt A ra r) (hrl : r.length < 1000000) (hrw : ∀ x ∈ r, (Lit.int .i64 x).wf = true)
    (hk : ∀ A, On w0 A R → Ke.KeysAt A a ks) (hwf : ∀ k ∈ ks, (Lit.int .i64 k.2).wf = true) (hcap : ks.length ≤ cap) (hcm : cap ≤ 9223372036854775807) (hl : ks.length < 700000) :
    Calls Try.prog 66 #[.slice ra r.length rc, .slice a ks.length cap, .agg #[.int .i64 t, .int .i64 id]] w fun e w' => e = .returned (.tuple #[.bool (beaB r ks t id), .int .i64 (beaE r ks t id)]) ∧ On w0 w' R := by
  obtain ⟨bk, hbk⟩ : ∃ b, w.heap.size = b := ⟨_, rfl⟩
  obtain ⟨W, hW⟩ : ∃ x, w.alloc (.cells #[.int .i64 t, .int .i64 id] 24) = x := ⟨_, rfl⟩
  have h1 := h.new1 24 #[.int .i64 t, .int .i64 id]
  rw [hW, hbk] at h1
  have HBo := Lib.hid (both_ok (rc := rc) h1 (fun A hA => hr A hA.out1) hrl hrw (fun A hA => hk A hA.out1) hwf hcap hcm hl)
  have hsl := putAll_length ks
  have HLt := Lib.hid (fun (A : World) (q : Nat) (X : Ast) (h0 : servE ks = 0) (hX : Tame X) (hA : On w0 A (sep (quA q (putAll [] ks)) (sep X R))) => last_ok (rc := rc) (hX.sep hT) hA (fun A hA => hr A hA.out1) hrl (putAll_sorted ks) (by omega) (serv_times h0))
  have HGt := Lib.hid (fun (A : World) (q : Nat) (X : Ast) (hA : On w0 A (sep (quA q (putAll [] ks)) X)) => Q_get hA (by omega) id hid)
  have HNw := Lib.hid (fun (A : World) (X : Ast) (hA : On w0 A X) => Q_new hA)
  have HPu := Lib.hid (fun (A : World) (X : Ast) (q b : Nat) (hA : On w0 A (sep (boxA b 24 #[.int .i64 t, .int .i64 id]) (sep (quA q []) X))) => put1_ok t id hid hA)
  obtain ⟨E, hE⟩ : ∃ E, bothE r ks = E := ⟨_, rfl⟩
  obtain ⟨S, hS⟩ : ∃ S, putAll [] ks = S := ⟨_, rfl⟩
  obtain ⟨B, hB⟩ : ∃ B, beaB r ks t id = B := ⟨_, rfl⟩
  obtain ⟨G, hG⟩ : ∃ G, beaE r ks t id = G := ⟨_, rfl⟩
  have hbe := hG
  have hbb := hB
  rw [hB, hG]
  unfold beaE at hbe
  unfold beaB at hbb
  rw [hG, hS] at hbb
  rw [hE, hS] at hbe
  rw [hE] at HBo
  rw [hS] at HBo HLt HGt
  obtain ⟨n, hn⟩ : ∃ n, r.length = n := ⟨_, rfl⟩
  rw [hn] at HBo HLt ⊢
  unfold beatsB at hbb
  obtain ⟨L, hL⟩ : ∃ L, hitS r S = L := ⟨_, rfl⟩
  rw [hL] at HLt hbb
  obtain ⟨p, hp⟩ : ∃ p, lastH L = p := ⟨_, rfl⟩
  obtain ⟨m, hm⟩ : ∃ m, L.length = m := ⟨_, rfl⟩
  rw [hp, hm] at HLt hbb
  rw [hn] at hbb
  have HE := Lib.hid hE
  have HBe := Lib.hid hbe
  have HBb := Lib.hid hbb
  have c00 := (h1).bx 0 rfl
  have c01 := (h1).bx 1 rfl
  have HBf := Lib.hid (fun A : World => before_any t id p.2 p.1 A)
  clear h h1 hr hrw hk hwf hE hS hsl hT hn hL hp hm hB hG hbe hbb
  by_cases h0 : E = 0
  · subst h0
    go_enter Try.func66, Try.ntmps66
    go_wp2_with fail
    clear hW hbk
    refine HBo.out.mono ?_
    rintro e w1 ⟨v, rfl, _, hq⟩
    obtain ⟨q, rfl, h1⟩ := hq (by first | rfl | trivial)
    have HG1 := Lib.hid (HGt.out w1 q _ h1)
    have H1 := Lib.hid h1
    have d10 := (h1.sw0).bx 0 rfl
    have d11 := (h1.sw0).bx 1 rfl
    clear hq h1
    go_wp2_with fail
    refine HG1.out.mono ?_
    rintro e w2 ⟨rfl, hb2⟩
    obtain ⟨gk, hgk⟩ : ∃ x, keyAt 0 S id = x := ⟨_, rfl⟩
    obtain ⟨gi, hgi⟩ : ∃ x, idAt S id = x := ⟨_, rfl⟩
    obtain ⟨ge, hge⟩ : ∃ x, hasE S id = x := ⟨_, rfl⟩
    rw [hgk, hgi, hge]
    obtain ⟨bg, hbg⟩ : ∃ b, w2.heap.size = b := ⟨_, rfl⟩
    obtain ⟨W2, hW2⟩ : ∃ x, w2.alloc (.cells #[.int .i64 gk, .int .i64 gi] 24) = x := ⟨_, rfl⟩
    have h2 := ((H1.out.below hb2).new1 24 #[.int .i64 gk, .int .i64 gi]).out1
    rw [hW2] at h2
    have H2 := Lib.hid h2
    clear c00 c01 d10 d11
    have d10 := (h2.sw0).bx 0 rfl
    have d11 := (h2.sw0).bx 1 rfl
    have HGe := Lib.hid hge
    clear hb2 h2 hgk hgi hge
    cases hh : has S id with
    | true =>
      have z0 : ge = 0 := by rw [← HGe.out]; unfold hasE; rw [hh]; rfl
      have hG : G = 15 := by have := HBe.out; simp [hh] at this; exact this.symm
      have hB : B = false := by have := HBb.out; simp [hG] at this; first | exact this | exact this.symm
      subst z0
      go_wp2_with fail
      go_ret2
      exact ⟨by rw [hB, hG]; rfl, H2.out.out1.out1⟩
    | false =>
      have z0 : ge = 14 := by rw [← HGe.out]; unfold hasE; rw [hh]; rfl
      subst z0
      have hG : checkE [] t id = G := by have := HBe.out; simp [hh] at this; exact this
      rw [hG] at HPu
      have H3 := Lib.hid (H2.out.below (Below.refl _ W2).drew)
      have HG' := Lib.hid hG
      clear hh hG
      by_cases hG0 : G = 0
      · subst hG0
        have hB : (decide (m < n) || bef (t, id) (p.2, p.1)) = B := by have := HBb.out; simpa using this
        go_wp2_with fail
        have d10' : W2.drew.cell? ⟨bk, 0, none⟩ = some (.int .i64 t) := d10
        have d11' : W2.drew.cell? ⟨bk, 1, none⟩ = some (.int .i64 id) := d11
        go_region_held3 (fun A0 => A0.cell? ⟨bk, 0, none⟩ = some (.int .i64 t) ∧ A0.cell? ⟨bk, 1, none⟩ = some (.int .i64 id)) (first | (refine ⟨?_, ?_⟩ <;> assumption) | go_keep)
          (first
            | (go_at_call 25; first
                | ((with_reducible refine (HNw.out _ _ H3.out).mono ?_); rintro e A1 ⟨qb, rfl, hA1⟩; (have HA1 := Lib.hid hA1); ((have u20 := (hA1.sw1.sw0).bx 0 rfl); (have u21 := (hA1.sw1.sw0).bx 1 rfl)); (have h9 := hA1.new1 24 #[.int .i64 t, .int .i64 id]); (have HB1 := Lib.hid h9); ((have v30 := (h9.sw2.sw1.sw0).bx 0 rfl); (have v31 := (h9.sw2.sw1.sw0).bx 1 rfl)); clear hA1 h9)
                | ((with_reducible refine (HNw.out _ _ ((H2.out.new1 24 #[.int .i64 t, .int .i64 id]).below (Below.refl _ _).drew)).mono ?_); rintro e A1 ⟨qb, rfl, hA1⟩; (have HA2 := Lib.hid hA1); ((have u30 := (hA1.sw2.sw1.sw0).bx 0 rfl); (have u31 := (hA1.sw2.sw1.sw0).bx 1 rfl)); clear hA1))
            | (go_at_call 92; first
                | ((with_reducible refine (HPu.out _ _ _ _ HB1.out).mono ?_); rintro e A2 ⟨rfl, hA1⟩; (have HA3 := Lib.hid hA1); ((have u10 := (hA1.sw0).bx 0 rfl); (have u11 := (hA1.sw0).bx 1 rfl)); clear hA1)
                | ((with_reducible refine (HPu.out _ _ _ _ HA2.out.sw0).mono ?_); rintro e A2 ⟨rfl, hA1⟩; (have HA3 := Lib.hid hA1); ((have u10 := (hA1.sw0).bx 0 rfl); (have u11 := (hA1.sw0).bx 1 rfl)); clear hA1)))
        all_goals
          have HL2 := Lib.hid (HLt.out A2 q _ (both_zero HE.out).2 (Plain.box _ _ _).tame HA3.out)
          go_wp2_with fail
          refine HL2.out.mono ?_
          rintro e A3 ⟨rfl, h3⟩
          obtain ⟨bv, hbv⟩ : ∃ b, A3.heap.size = b := ⟨_, rfl⟩
          obtain ⟨A4, hA4⟩ : ∃ x, A3.alloc (.cells #[.int .i64 p.2, .int .i64 p.1] 24) = x := ⟨_, rfl⟩
          have h4 := h3.new1 24 #[.int .i64 p.2, .int .i64 p.1]
          rw [hA4, hbv] at h4
          have H4 := Lib.hid h4
          have k00 := (h4).bx 0 rfl
          have k01 := (h4).bx 1 rfl
          have k20 := (h4.sw1.sw0).bx 0 rfl
          have k21 := (h4.sw1.sw0).bx 1 rfl
          have HBf4 := Lib.hid (HBf.out A4)
          clear h3 h4
          by_cases hlm : m < n
          · have hlmI : (m : Int) < (n : Int) := by omega
            have hB1 : B = true := by rw [← hB, decide_eq_true hlm]; rfl
            go_wp2_with fail
            go_ret2
            exact ⟨by rw [hB1]; first | done | rfl, H4.out.out1.out1.out1⟩
          · have hlmI : ¬ (m : Int) < (n : Int) := by omega
            have hB1 : bef (t, id) (p.2, p.1) = B := by rw [← hB, decide_eq_false hlm]; rfl
            rw [hB1] at HBf4
            go_wp2_with fail
            refine HBf4.out.mono ?_
            rintro e A5 ⟨rfl, hb5⟩
            have H5 := Lib.hid (H4.out.below hb5)
            clear hb5
            go_wp2_with fail
            go_ret2
            exact ⟨by first | done | rfl, H5.out.out1.out1.out1⟩
      · have z : (G != 0) = true := by simpa using hG0
        have hB : B = false := by have := HBb.out; simp [hG0] at this; first | exact this | exact this.symm
        go_wp2_with fail
        have d10' : W2.drew.cell? ⟨bk, 0, none⟩ = some (.int .i64 t) := d10
        have d11' : W2.drew.cell? ⟨bk, 1, none⟩ = some (.int .i64 id) := d11
        go_region_held3 (fun A0 => A0.cell? ⟨bk, 0, none⟩ = some (.int .i64 t) ∧ A0.cell? ⟨bk, 1, none⟩ = some (.int .i64 id)) (first | (refine ⟨?_, ?_⟩ <;> assumption) | go_keep)
          (first
            | (go_at_call 25; first
                | ((with_reducible refine (HNw.out _ _ H3.out).mono ?_); rintro e A1 ⟨qb, rfl, hA1⟩; (have HA1 := Lib.hid hA1); ((have u20 := (hA1.sw1.sw0).bx 0 rfl); (have u21 := (hA1.sw1.sw0).bx 1 rfl)); (have h9 := hA1.new1 24 #[.int .i64 t, .int .i64 id]); (have HB1 := Lib.hid h9); ((have v30 := (h9.sw2.sw1.sw0).bx 0 rfl); (have v31 := (h9.sw2.sw1.sw0).bx 1 rfl)); clear hA1 h9)
                | ((with_reducible refine (HNw.out _ _ ((H2.out.new1 24 #[.int .i64 t, .int .i64 id]).below (Below.refl _ _).drew)).mono ?_); rintro e A1 ⟨qb, rfl, hA1⟩; (have HA2 := Lib.hid hA1); ((have u30 := (hA1.sw2.sw1.sw0).bx 0 rfl); (have u31 := (hA1.sw2.sw1.sw0).bx 1 rfl)); clear hA1))
            | (go_at_call 92; first
                | ((with_reducible refine (HPu.out _ _ _ _ HB1.out).mono ?_); rintro e A2 ⟨rfl, hA1⟩; (have HA3 := Lib.hid hA1); ((have u10 := (hA1.sw0).bx 0 rfl); (have u11 := (hA1.sw0).bx 1 rfl)); clear hA1)
                | ((with_reducible refine (HPu.out _ _ _ _ HA2.out.sw0).mono ?_); rintro e A2 ⟨rfl, hA1⟩; (have HA3 := Lib.hid hA1); ((have u10 := (hA1.sw0).bx 0 rfl); (have u11 := (hA1.sw0).bx 1 rfl)); clear hA1)))
        all_goals
          have H4 := Lib.hid HA3.out.out1.out1
          go_wp2_with fail
          go_ret2
          exact ⟨by rw [hB]; first | done | rfl, H4.out⟩
  · have z : (E != 0) = true := by simpa using h0
    have hG : E = G := by have := HBe.out; rw [if_neg h0] at this; exact this
    have hB : B = false := by have := HBb.out; rw [if_neg (by rw [← hG]; exact h0)] at this; exact this.symm
    go_enter Try.func66, Try.ntmps66
    go_wp2_with fail
    clear hW hbk
    refine HBo.out.mono ?_
    rintro e w1 ⟨v, rfl, hq, _⟩
    have H1 := Lib.hid (hq h0).out1
    clear hq
    go_wp2_with fail
    go_ret2
    exact ⟨by rw [hB]; first | done | rfl, H1.out⟩
end
end Go.Proofs.Ytkjpkhpiojahkaa
