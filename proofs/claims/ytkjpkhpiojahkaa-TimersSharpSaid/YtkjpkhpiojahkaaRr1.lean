/-
  Walks: the document's answer for the queue: Put, Move.
-/
import Derived.Test.YtkjpkhpiojahkaaQP
import Derived.Test.YtkjpkhpiojahkaaL4
import Derived.Deep.RegionLaw
namespace Go.Proofs.Ytkjpkhpiojahkaa
set_option linter.unusedVariables false
open Go.RowKit Hp
attribute [local go_sem] Oper.semAt_some

section
variable {w0 w : World} {rb nb : Nat} {S S2 : List (It Int)} {R : Ast}
/-- one answer takes another one's list -/
theorem On.ref_move (h : On w0 w (sep (refA nb S2) (sep (refA rb S) R))) :
    ∃ a c v', w.cell? ⟨nb, 0, none⟩ = some (.slice a S2.length c) ∧ w.cell? ⟨rb, 0, none⟩ = some v' ∧ w.frozen? ⟨rb, 0, none⟩ = false ∧ On w0 (w.setCell ⟨rb, 0, none⟩ (.slice a S2.length c)) (sep (refA rb S2) R) := by
  obtain ⟨F, ⟨va, hra, hFa⟩, _⟩ := h.get1
  obtain ⟨F', ⟨vb, hrb, hFb⟩, _⟩ := h.left.get1
  obtain ⟨a, c, rfl⟩ := hra.slice
  refine ⟨a, c, vb, hra.c0, hrb.c0, hrb.f0, (h.assoc').step1 fun F0 ⟨Fa, Fb, ⟨v1, h1, h2⟩, ⟨v2, h3, h4⟩, h5, h6⟩ => ?_⟩
  have he : v1 = .slice a S2.length c := by
    have e1 := h1.c0
    rw [hra.c0] at e1
    exact (Option.some.inj e1).symm
  subst he
  have hne : ∀ j, (Value.slice a S2.length c).ownBlock = some j → ¬ j = rb := fun j hj e => h5 j ((h2 j).2 (.inr hj)) ((h4 j).2 (.inl e))
  have hst : Mod (fun j => j = rb) w (w.setCell ⟨rb, 0, none⟩ (.slice a S2.length c)) := (Mod.refl (fun j => j = rb) w).setCell (p := ⟨rb, 0, none⟩) (fun _ => rfl) _
  refine ⟨fun j => j = rb ∨ (Value.slice a S2.length c).ownBlock = some j, ⟨_, ⟨?_, own_same h1.2 fun j o hj ho _ => hst.obj ho (hne j hj)⟩, fun j => Iff.rfl⟩, hst.mono fun j hj _ => (h6 j).2 (.inr ((h4 j).2 (.inl hj))), fun j hj => ?_⟩
  · have := heap_setCell_at (k := 0) (v := .slice a S2.length c) h3.1
    simpa using this
  · rcases hj with hj | hj
    · exact .inl ((h6 j).2 (.inr ((h4 j).2 (.inl hj))))
    · exact .inl ((h6 j).2 (.inl ((h2 j).2 (.inr hj))))

set_option maxRecDepth 100000 in
set_option maxHeartbeats 4000000 in
theorem RR_put (h : On w0 w (sep (refA rb S) R)) (a : Option Addr) (cap : Nat) (ks : List (Int × Int)) (hk : ∀ A, On w0 A (sep (refA rb S) R) → Ke.KeysAt A a ks) (hl : S.length + ks.length < 800000) (i : Nat) (hi : i ≤ ks.length) (hok : ∀ j, j < i → okAt S ks j)
    (te : Int) (hte : te = if i < ks.length then checkE (addN S ks i) (kj ks i).1 (kj ks i).2 else 0) (hbad : i < ks.length → te ≠ 0) :
    Calls Try.prog 93 #[.pointer (some ⟨rb, 0, none⟩), .slice a ks.length cap] w fun e w' => e = .returned (.int .i64 te) ∧ On w0 w' (sep (refA rb (putT S ks ks.length i)) R) := by
  obtain ⟨n, hn⟩ : ∃ n, ks.length = n := ⟨_, rfl⟩
  rw [hn] at hl hi hte hbad ⊢
  obtain ⟨nb, hnb⟩ : ∃ nb, w.heap.size = nb := ⟨_, rfl⟩
  obtain ⟨x6, hx6⟩ : ∃ x6, w.alloc (.cells #[.slice none 0 0] 32) = x6 := ⟨_, rfl⟩
  have h6 : On w0 x6 (sep (refA nb []) (sep (refA rb S) R)) := by
    rw [← hx6, ← hnb]
    exact h.add ((Below.refl _ w).alloc (Nat.le_refl _) _) (refA_new w) (fun j hj => by omega)
  have h6d := h6.below ((Below.refl _ x6).drew)
  obtain ⟨F1, ⟨v1, hr1, _⟩, _⟩ := h6d.left.get1
  obtain ⟨F2, ⟨v2, hr2, _⟩, _⟩ := h6.get1
  obtain ⟨la, lcap, rfl⟩ := hr1.slice
  have t1 : x6.cell? ⟨rb, 0, none⟩ = some (.slice la S.length lcap) := hr1.c0
  have hv2 : v2 = .slice none 0 0 := by
    have h1 := hr2.c0
    rw [← hx6, ← hnb, World.cell?_alloc_at _ _ _ _ rfl] at h1
    exact (Option.some.inj h1).symm
  subst hv2
  have t2 : x6.cell? ⟨nb, 0, none⟩ = some (.slice none 0 0) := hr2.c0
  have t3 : x6.frozen? ⟨nb, 0, none⟩ = false := hr2.f0
  have hlr : rb < w.heap.size := by
    obtain ⟨F, ⟨v, hr, _⟩, _⟩ := h.get1
    exact lt_of_some hr.1
  have hn1 : ¬ rb = nb := by omega
  have hn2 : ¬ nb = rb := by omega
  have hobx : nb < x6.heap.size := lt_of_some hr2.1
  have HReads := Lib.hid (Reads.of_own hr1.2)
  have H6 := Lib.hid h6d
  have HT : Hid (x6.drew.cell? ⟨rb, 0, none⟩ = some (.slice la S.length lcap) ∧ x6.drew.cell? ⟨nb, 0, none⟩ = some (.slice none 0 0) ∧ x6.drew.frozen? ⟨nb, 0, none⟩ = false ∧ nb < x6.drew.heap.size) := Lib.hid ⟨t1, t2, t3, hobx⟩
  have hkey := keyC_one S
  have hmx : 0 + S.length ≤ maxLen := by unfold maxLen; omega
  have hby : (0 + S.length) * 16 ≤ 140737488355328 := by omega
  have HK := Lib.hid hk
  have HOk := Lib.hid hok
  have HTe := Lib.hid hte
  have HBad := Lib.hid hbad
  have HN := Lib.hid hn
  clear h h6 h6d hr1 hr2 hk hok hte hbad hn
  go_enter Try.func93, Try.ntmps93
  go_wp2_with fail
  refine wp_region_noPanic ?_
  go_region_law (first
    | (refine step_append_any (by rfl) _ _ 30 (by rfl) 24 2 16 keySlice (.slice none 0 0) 0 [] (by rfl) (World.ownsRow_nil _ _ _ _) (.slice la S.length lcap) S.length (S.flatMap keyC) (by rfl) HReads.out hkey hmx hby ?_; intro v' y1 hown hgrow hat; obtain ⟨q, nn, cc, rfl⟩ := own_form hown; have hby1 := below_grown hgrow (by intro j hj; simp [Value.ownBlock] at hj) (Nat.le_refl _); have s1 := zatB HT.out.1 hby1; have s2 := zatB HT.out.2.1 hby1; have s4 := (hby1.frozen (p := ⟨nb, 0, none⟩) HT.out.2.2.2).trans HT.out.2.2.1; have HOwn := Lib.hid hown; have HY1 := Lib.hid hby1; have HAt := Lib.hid hat; clear hown hgrow hat hby1))
  all_goals
    refine NoPanic.normal ?_
    have h7 : On w0 (y1.setCell ⟨nb, 0, none⟩ (.slice q nn cc)) (sep (refA nb S) (sep (refA rb S) R)) :=
      H6.out.step1 fun F hF => ref_set hF HY1.out HOwn.out (by omega) (by rfl) (own_new (B := x6.drew.heap.size) HAt.out (by simp [Value.ownBlock]) (Nat.le_refl _))
    have H7 := Lib.hid h7
    clear h7 t1 t2 t3 s1 s2 s4 hn1 hn2
    go_wp2_with fail
    go_loopg [6, 7] n (fun gh s6 s7 wr => ∃ j : Nat, j + gh = n ∧ s6 = .int .i64 (j : Int) ∧ j ≤ i ∧ On w0 wr (sep (refA nb (addN S ks j)) (sep (refA rb S) R)))
    case atStart => exact ⟨0, by omega, rfl, Nat.zero_le _, H7.out⟩
    case round =>
      obtain ⟨j, hj, rfl, hji, hon⟩ := hrel
      have hlA : (addN S ks j).length < 900000 := by have := addN_length (S := S) (ks := ks) j; omega
      by_cases hlt : j < n
      · have hltI : (j : Int) < (n : Int) := by omega
        have hj0 : (0 : Int) ≤ (j : Int) := by omega
        obtain ⟨b, off, rfl, hb, hc⟩ := keysAt_get (HK.out wr hon.out1) (n := n) (by omega) HN.out
        obtain ⟨p, hp⟩ : ∃ p, kj ks j = p := ⟨_, rfl⟩
        obtain ⟨q0, q1⟩ := hc j hlt
        have hp' : ks[j]?.getD (0, 0) = p := hp
        rw [hp'] at q0 q1
        have hrp := R_put hon hlA p.2 p.1
        have htm := fun w => rtime_any p.1 w
        by_cases hij : j < i
        · have hck := HOk.out j hij
          unfold okAt at hck
          rw [hp] at hck
          obtain ⟨h0, h1, h2⟩ := checkE_ok hck
          have hng : decide (p.2 < 0) = false := by simp; omega
          have hpe : putE (addN S ks j) p.2 = 0 := by unfold putE; rw [if_neg (by omega), h2]; rfl
          have hps : putS ltI (addN S ks j) p.2 p.1 = addN S ks (j + 1) := by rw [addN, hp']
          rw [hpe, hps] at hrp
          simp only [h1] at htm
          have HRp := Lib.hid hrp
          have HTm := Lib.hid htm
          clear hrp htm hck h0 h1 h2 hpe hps hp hp' hc hon
          go_wp2_with fail
          refine (HTm.out wr).mono ?_
          rintro e w3 ⟨rfl, rfl⟩
          go_wp2_with fail
          refine HRp.out.mono ?_
          rintro e w3 ⟨rfl, h3⟩
          have H3 := Lib.hid h3
          clear h3 q0 q1
          go_wp2_with fail
          go_roundg (n - (j + 1))
          case measure => omega
          case rel => exact ⟨j + 1, by omega, by go_num, by omega, H3.out⟩
        · have hje : j = i := by omega
          subst hje
          have hte := HTe.out
          rw [if_pos hlt, hp] at hte
          have hbad := HBad.out hlt
          have hend : ∀ A, On w0 A (sep (refA rb S) R) → On w0 A (sep (refA rb (putT S ks n j)) R) := fun A hA => by
            unfold putT; rw [if_pos hlt]; exact hA
          have HEnd := Lib.hid hend
          by_cases h0 : p.2 < 0
          · have hng : decide (p.2 < 0) = true := by simp; omega
            have ht1 : te = 1 := by rw [hte]; unfold checkE; rw [if_pos h0]
            have HT1 := Lib.hid ht1
            have H3 := Lib.hid (hend _ hon.out1)
            clear hrp htm hp hp' hc hon hte hbad hend ht1
            go_wp2_with fail
            rw [HT1.out]
            go_ret
            exact ⟨rfl, H3.out⟩
          · have hng : decide (p.2 < 0) = false := by simp; omega
            by_cases h1 : timeE p.1 = 0
            · have hhas : has (addN S ks j) p.2 = true := by
                cases hh : has (addN S ks j) p.2 with
                | true => rfl
                | false =>
                  rw [hte] at hbad
                  unfold checkE at hbad
                  rw [if_neg h0, if_pos h1, hh] at hbad
                  exact absurd rfl hbad
              have ht1 : te = 15 := by rw [hte]; unfold checkE; rw [if_neg h0, if_pos h1, hhas]; rfl
              have hpe : putE (addN S ks j) p.2 = 15 := by unfold putE; rw [if_neg h0, hhas]; rfl
              rw [hpe] at hrp
              simp only [h1] at htm
              have HRp := Lib.hid hrp
              have HTm := Lib.hid htm
              have HT1 := Lib.hid ht1
              clear hrp htm hp hp' hc hon hte hbad hend ht1 hpe hhas h1
              go_wp2_with fail
              refine (HTm.out wr).mono ?_
              rintro e w3 ⟨rfl, rfl⟩
              go_wp2_with fail
              refine HRp.out.mono ?_
              rintro e w3 ⟨rfl, h3⟩
              have H3 := Lib.hid (HEnd.out _ h3.out1)
              clear h3 q0 q1
              go_wp2_with fail
              rw [HT1.out]
              go_ret
              exact ⟨rfl, H3.out⟩
            · obtain ⟨tv, htv⟩ : ∃ tv, timeE p.1 = tv := ⟨_, rfl⟩
              have ht1 : te = tv := by rw [hte]; unfold checkE; rw [if_neg h0, if_neg h1, htv]
              have htv0 : (tv != 0) = true := by rw [← htv]; simpa using h1
              simp only [htv] at htm
              have HTm := Lib.hid htm
              have HT1 := Lib.hid ht1
              have H3 := Lib.hid (hend _ hon.out1)
              clear hrp htm hp hp' hc hon hte hbad hend ht1 h1 htv
              go_wp2_with fail
              refine (HTm.out wr).mono ?_
              rintro e w3 ⟨rfl, rfl⟩
              go_wp2_with fail
              rw [HT1.out]
              go_ret
              exact ⟨rfl, H3.out⟩
      · have hjn : j = n := by omega
        subst hjn
        have hij : i = j := by omega
        subst hij
        obtain ⟨a1, c1, v1, z1, z2, z3, z4⟩ := hon.ref_move
        have hte : te = 0 := by rw [HTe.out, if_neg (by omega)]
        have hpt : putT S ks i i = addN S ks i := by unfold putT; rw [if_neg (by omega)]
        have HTe0 := Lib.hid hte
        have HPt := Lib.hid hpt
        have HZ := Lib.hid z4
        clear hon z4 hte hpt
        go_wp2_with fail
        rw [HTe0.out, HPt.out]
        go_ret
        exact ⟨rfl, HZ.out⟩

set_option maxRecDepth 100000 in
set_option maxHeartbeats 4000000 in
theorem RR_move (h : On w0 w (sep (refA rb S) R)) (hd : S.Pairwise fun a b => a.1 ≠ b.1) (hl : S.length < 800000) (t id : Int) :
    Calls Try.prog 94 #[.pointer (some ⟨rb, 0, none⟩), .agg #[.int .i64 t, .int .i64 id]] w fun e w' => e = .returned (.int .i64 (moveE S t id)) ∧ On w0 w' (sep (refA rb (moveS S t id)) R) := by
  obtain ⟨b, hbb⟩ : ∃ b, w.heap.size = b := ⟨_, rfl⟩
  obtain ⟨w1, hw1⟩ : ∃ w1, w.alloc (.cells #[.int .i64 t, .int .i64 id] 24) = w1 := ⟨_, rfl⟩
  have h1 := h.new1 24 #[.int .i64 t, .int .i64 id]
  rw [hw1, hbb] at h1
  have k0 : w1.cell? ⟨b, 0, none⟩ = some (.int .i64 t) := (h1.box1 0).1
  have k1 : w1.cell? ⟨b, 1, none⟩ = some (.int .i64 id) := (h1.box1 1).1
  have hat := R_at h1.left (by omega) id
  have htm := rtime_any t w1
  have hch := R_change h1.left hd (by omega) id t
  cases hh : has S id with
  | false =>
    have he : moveE S t id = 14 := by unfold moveE; rw [hh]; rfl
    have hs : moveS S t id = S := by unfold moveS; rw [hh]; rfl
    have ha' : (if has S id = true then (idx S id : Int) else -1) = -1 := by rw [hh]; rfl
    rw [ha'] at hat
    rw [he, hs]
    have HAt := Lib.hid hat
    have H1 := Lib.hid h1.out1
    clear h h1 hat htm hch he hs ha' hh
    go_enter Try.func94, Try.ntmps94
    go_wp2_with fail
    refine HAt.out.mono ?_
    rintro e w2 ⟨rfl, rfl⟩
    go_wp2_with fail
    go_ret
    exact ⟨rfl, H1.out⟩
  | true =>
    have he : moveE S t id = timeE t := by unfold moveE; rw [hh]; rfl
    have ha' : (if has S id = true then (idx S id : Int) else -1) = (idx S id : Int) := by rw [hh]; rfl
    rw [ha'] at hat
    have hng : decide ((idx S id : Int) < 0) = false := by simp
    have hhe : hasE S id = 0 := by unfold hasE; rw [hh]; rfl
    rw [hhe] at hch
    obtain ⟨ix, hix⟩ : ∃ ix : Nat, idx S id = ix := ⟨_, rfl⟩
    rw [hix] at hat hng
    rw [he]
    by_cases ht0 : timeE t = 0
    · have hs : moveS S t id = chS ltI S id t := by unfold moveS; rw [hh, if_pos rfl, if_pos ht0]
      rw [hs, ht0]
      rw [ht0] at htm
      have HAt := Lib.hid hat
      have HTm := Lib.hid htm
      have HCh := Lib.hid hch
      clear h h1 hat htm hch he hs ha' hh ht0 hhe hix
      go_enter Try.func94, Try.ntmps94
      go_wp2_with fail
      refine HAt.out.mono ?_
      rintro e w2 ⟨rfl, rfl⟩
      go_wp2_with fail
      refine HTm.out.mono ?_
      rintro e w2 ⟨rfl, rfl⟩
      go_wp2_with fail
      refine HCh.out.mono ?_
      rintro e w2 ⟨rfl, h2⟩
      have H2 := Lib.hid h2.left.out1
      clear h2
      go_wp2_with fail
      go_ret
      exact ⟨rfl, H2.out⟩
    · have hs : moveS S t id = S := by unfold moveS; rw [hh, if_pos rfl, if_neg ht0]
      rw [hs]
      obtain ⟨tv, htv⟩ : ∃ tv, timeE t = tv := ⟨_, rfl⟩
      rw [htv] at htm ht0 ⊢
      have ht1 : (tv == 0) = false := by simpa using ht0
      have HAt := Lib.hid hat
      have HTm := Lib.hid htm
      have H1 := Lib.hid h1.out1
      clear h h1 hat htm hch he hs ha' hh ht0 hhe hix htv
      go_enter Try.func94, Try.ntmps94
      go_wp2_with fail
      refine HAt.out.mono ?_
      rintro e w2 ⟨rfl, rfl⟩
      go_wp2_with fail
      refine HTm.out.mono ?_
      rintro e w2 ⟨rfl, rfl⟩
      go_wp2_with fail
      go_ret
      exact ⟨rfl, H1.out⟩
end
end Go.Proofs.Ytkjpkhpiojahkaa
