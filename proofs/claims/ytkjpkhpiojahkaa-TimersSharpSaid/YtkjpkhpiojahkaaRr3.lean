/-
  Walks: the queue and the document's answer: any call, and that they are the same.
-/
import Derived.Test.YtkjpkhpiojahkaaRr2
namespace Go.Proofs.Ytkjpkhpiojahkaa
set_option linter.unusedVariables false
open Go.RowKit Hp
attribute [local go_sem] Oper.semAt_some

section
variable {w0 w : World} {qb rb : Nat} {S : List (It Int)} {R : Ast} {ask t id : Int} {la : Option Addr} {lc : Nat} {ks : List (Int × Int)}

theorem does4_ok (h : On w0 w (sep (quA qb S) (sep (refA rb S) R))) (hl : S.length + ks.length < 700000) (hL : Ke.KeysAt w0 la ks) (hwf : ∀ k ∈ ks, (Lit.int .i64 k.2).wf = true) (hcap : ks.length ≤ lc) (hcm : lc ≤ 9223372036854775807) (ask t id : Int) (hw : (Lit.int .i64 id).wf = true) :
    Calls Try.prog 28 #[.pointer (some ⟨qb, 0, none⟩), .pointer (some ⟨rb, 0, none⟩), .agg #[.int .i64 ask, .int .i64 t, .int .i64 id, .slice la ks.length lc]] w fun e w' => e = .returned (.bool true) ∧ On w0 w' (sep (quA qb (stepQ S ask t id ks)) (sep (refA rb (stepQ S ask t id ks)) R)) := by
  unfold stepQ
  by_cases h0 : ask = 0
  · rw [if_pos h0, h0]
    exact does4_put h hl hL hwf hcap hcm
  · rw [if_neg h0]
    by_cases h1 : ask = 1
    · rw [if_pos h1, h1]
      exact does4_move h (by omega) hw _
    · rw [if_neg h1]
      by_cases h2 : ask = 2
      · rw [if_pos h2, h2]
        exact does4_drop h (by omega) hw _
      · rw [if_neg h2]
        exact does4_get h (by omega) hw _ h0 h1 h2

theorem RefRaw.keys {v : Value} (h : RefRaw w rb v S) : ∃ a c, v = .slice a S.length c ∧ Ke.KeysAt w a (kv S) := keysAt_own h.2

theorem On.ref_open (h : On w0 w (sep (refA rb S) R)) : ∃ a c, On w0 w (sep (boxA rb 32 #[.slice a S.length c]) (sep (keysA (.slice a S.length c) S) R)) := by
  obtain ⟨F, ⟨Fa, Fb, ⟨v, hr, hF⟩, h2, h3, h4⟩, hb, hl⟩ := h
  obtain ⟨a, c, rfl⟩ := hr.slice
  refine ⟨a, c, F, ⟨fun j => j = rb, fun j => (Value.slice a S.length c).ownBlock = some j ∨ Fb j, ⟨hr.1, fun j => Iff.rfl⟩, ⟨_, Fb, ⟨hr.2, fun j => Iff.rfl⟩, h2, fun j hj hb => h3 j ((hF j).2 (.inr hj)) hb, fun j => Iff.rfl⟩, fun j hj hj2 => ?_, fun j => ?_⟩, hb, hl⟩
  · rcases hj2 with h | h
    · exact hr.ne h hj
    · exact h3 j ((hF j).2 (.inl hj)) h
  · rw [h4, hF, or_assoc]
theorem On.ref_shut {v : Value} (h : On w0 w (sep (boxA rb 32 #[v]) (sep (keysA v S) R))) : On w0 w (sep (refA rb S) R) :=
  h.mono fun F hF => sep_mono (sep_assoc' hF) fun F' ⟨Fa, Fb, ha, hb, _, h4⟩ => ⟨v, ⟨ha.1, hb.1⟩, fun j => by rw [h4, ha.2, hb.2]⟩

set_option maxRecDepth 100000 in
set_option maxHeartbeats 4000000 in
theorem same4_ok (h : On w0 w (sep (quA qb S) (sep (refA rb S) R))) (hs : Sorted ltI S) (hl : S.length < 800000) :
    Calls Try.prog 39 #[.pointer (some ⟨qb, 0, none⟩), .pointer (some ⟨rb, 0, none⟩)] w fun e w' => e = .returned (.bool true) ∧ On w0 w' (sep (quA qb S) (sep (refA rb S) R)) := by
  have hf := Q_first h hs
  obtain ⟨p1, hp1⟩ : ∃ p, (S.headD (0, 0)).2 = p := ⟨_, rfl⟩
  obtain ⟨q1, hq1⟩ : ∃ p, (S.headD (0, 0)).1 = p := ⟨_, rfl⟩
  obtain ⟨e1, he1⟩ : ∃ p, headE S = p := ⟨_, rfl⟩
  obtain ⟨p2, hp2⟩ : ∃ p, (S.reverse.headD (0, 0)).2 = p := ⟨_, rfl⟩
  obtain ⟨q2, hq2⟩ : ∃ p, (S.reverse.headD (0, 0)).1 = p := ⟨_, rfl⟩
  obtain ⟨e2, he2⟩ : ∃ p, headE S.reverse = p := ⟨_, rfl⟩
  obtain ⟨n, hn⟩ : ∃ n, S.length = n := ⟨_, rfl⟩
  rw [hp1, hq1, he1] at hf
  have HF := Lib.hid hf
  have H0 := Lib.hid h
  have HP1 := Lib.hid hp1
  have HQ1 := Lib.hid hq1
  have HE1 := Lib.hid he1
  have HP2 := Lib.hid hp2
  have HQ2 := Lib.hid hq2
  have HE2 := Lib.hid he2
  have HS := Lib.hid hs
  have HN := Lib.hid hn
  rw [hn] at hl
  clear h hf hp1 hq1 he1 hp2 hq2 he2 hs hn
  go_enter Try.func39, Try.ntmps39
  go_wp2_with fail
  refine HF.out.mono ?_
  rintro e w1 ⟨rfl, hb1⟩
  obtain ⟨ba, hba⟩ : ∃ ba, w1.heap.size = ba := ⟨_, rfl⟩
  obtain ⟨w2, hw2⟩ : ∃ w2, w1.alloc (.cells #[.int .i64 p1, .int .i64 q1] 24) = w2 := ⟨_, rfl⟩
  have h2 := (H0.out.below hb1).new1 24 #[.int .i64 p1, .int .i64 q1]
  rw [hw2, hba] at h2
  have hf := Q_last h2.left HS.out
  rw [HP2.out, HQ2.out, HE2.out] at hf
  have HF2 := Lib.hid hf
  have H2 := Lib.hid h2
  clear hf h2 hb1
  go_wp2_with fail
  clear hw2 hba
  refine HF2.out.mono ?_
  rintro e w3 ⟨rfl, hb3⟩
  obtain ⟨bb, hbb⟩ : ∃ bb, w3.heap.size = bb := ⟨_, rfl⟩
  obtain ⟨w4, hw4⟩ : ∃ w4, w3.alloc (.cells #[.int .i64 p2, .int .i64 q2] 24) = w4 := ⟨_, rfl⟩
  have h4 := (H2.out.below hb3).new1 24 #[.int .i64 p2, .int .i64 q2]
  rw [hw4, hbb] at h4
  obtain ⟨ra, rc, h5⟩ := (h4.sw2.sw1.sw0).ref_open
  rw [HN.out] at h5
  have c0' := (h5.box1 0).1
  have c0 : w4.cell? ⟨rb, 0, none⟩ = some (.slice ra n rc) := c0'
  have hd := (h5.sw3.sw2.sw1.sw0).below ((Below.refl _ w4).drew)
  have hlen := Q_len hd
  rw [HN.out] at hlen
  have hlst : Calls Try.prog 29 #[.pointer (some ⟨qb, 0, none⟩), .int .i64 ((n : Int) + 1)] w4.drew fun e w' => ∃ a c, e = .returned (.slice a n c) ∧ w'.cell? ⟨rb, 0, none⟩ = some (.slice ra n rc) ∧ Hid (Calls Try.prog 32 #[.slice a n c, .slice ra n rc] w' fun e w' => e = .returned (.bool true) ∧ w'.cell? ⟨rb, 0, none⟩ = some (.slice ra n rc) ∧ Hid (On w0 w' (sep (quA qb S) (sep (boxA rb 32 #[.slice ra n rc]) (sep (keysA (.slice ra n rc) S) (sep (boxA bb 24 #[.int .i64 p2, .int .i64 q2]) (sep (boxA ba 24 #[.int .i64 p1, .int .i64 q1]) R))))))) := by
    refine (Q_least_all hd HS.out (by rw [HN.out]; omega) ((n : Int) + 1) (by rw [HN.out]; omega)).mono fun e w' ⟨v, he, ho⟩ => ?_
    obtain ⟨a1, c1, rfl, _⟩ := ho.keys1
    rw [HN.out] at he ho
    have hc : w'.cell? ⟨rb, 0, none⟩ = some (.slice ra n rc) := ((ho.sw1.sw0).box1 0).1
    exact ⟨a1, c1, he, hc, Lib.hid (((ho.sw2.sw1).keys2_same (by rw [HN.out]; omega)).mono fun e w2 ⟨h1, h2⟩ => ⟨h1, zatB hc h2, Lib.hid (ho.below h2).out1⟩)⟩
  have HLen := Lib.hid hlen
  have HLst := Lib.hid hlst
  have hnn : ((n : Int) != (n : Int)) = false := by simp
  have hwr : IntKind.i64.wrap ((n : Int) + 1) = (n : Int) + 1 := IntWalk.i64_in _ (by omega)
  clear h4 h5 hd hlen hlst hb3 c0'
  go_wp2_with fail
  go_region_held3 (fun A0 => A0.cell? ⟨rb, 0, none⟩ = some (.slice ra n rc))
    (first | assumption | go_keep)
    (first
      | (go_at_call 30; refine HLen.out.mono ?_; rintro e A1 ⟨rfl, rfl⟩)
      | (go_at_call 29; refine HLst.out.mono ?_; rintro e A1 ⟨a1, c1, rfl, k1, HK1⟩)
      | (go_at_call 32; refine HK1.out.mono ?_; rintro e A2 ⟨rfl, k2, HK2⟩))
  by_cases h0 : n = 0
  · have hS : S = [] := List.eq_nil_of_length_eq_zero (by rw [HN.out, h0])
    have z1 : p1 = 0 := by rw [← HP1.out, hS]; rfl
    have z2 : q1 = 0 := by rw [← HQ1.out, hS]; rfl
    have z3 : p2 = 0 := by rw [← HP2.out, hS]; rfl
    have z4 : q2 = 0 := by rw [← HQ2.out, hS]; rfl
    have z5 : e1 = 14 := by rw [← HE1.out, hS]; rfl
    have z6 : e2 = 14 := by rw [← HE2.out, hS]; rfl
    subst z1 z2 z3 z4 z5 z6 h0
    have a0 : A2.cell? ⟨ba, 0, none⟩ = some (.int .i64 0) := ((HK2.out.sw3.sw2.sw1.sw0).box1 0).1
    have a1 : A2.cell? ⟨ba, 1, none⟩ = some (.int .i64 0) := ((HK2.out.sw3.sw2.sw1.sw0).box1 1).1
    have b0 : A2.cell? ⟨bb, 0, none⟩ = some (.int .i64 0) := ((HK2.out.sw2.sw1.sw0).box1 0).1
    have b1 : A2.cell? ⟨bb, 1, none⟩ = some (.int .i64 0) := ((HK2.out.sw2.sw1.sw0).box1 1).1
    have hq : ∀ w, (binOp BinOp.eql 24 (.agg #[.int .i64 0, .int .i64 0]) (.agg #[.int .i64 0, .int .i64 0])).run Try.prog w = .ok (.bool true) w := fun w => by rw [eql32]; rfl
    have H9 : Hid (On w0 A2 (sep (quA qb S) (sep (refA rb S) R))) := Lib.hid (On.left (On.ref_shut ((HK2.out.sw2.sw1.sw0.sw3.sw2.sw1.sw2.sw3).out1.out1)))
    clear hS
    go_wp2_with fail
    go_ret
    exact ⟨rfl, H9.out⟩
  · have hn0 : ((n : Int) == 0) = false := by simp; omega
    obtain ⟨m, rfl⟩ : ∃ m, n = m + 1 := ⟨n - 1, by omega⟩
    obtain ⟨x, hx⟩ : ∃ x, S[0]? = some x := ⟨_, List.getElem?_eq_getElem (by rw [HN.out]; omega)⟩
    obtain ⟨y, hy⟩ : ∃ y, S[m]? = some y := ⟨_, List.getElem?_eq_getElem (by rw [HN.out]; omega)⟩
    have hhd : S.headD (0, 0) = x := by
      cases S with
      | nil => cases hx
      | cons z S => cases hx; rfl
    have hrd : S.reverse.headD (0, 0) = y := by
      have h1 : S.reverse[0]? = some y := by
        rw [List.getElem?_reverse (by rw [HN.out]; omega), HN.out]
        simpa using hy
      cases hr : S.reverse with
      | nil => rw [hr] at h1; cases h1
      | cons z T => rw [hr] at h1; cases h1; rfl
    have hne : S ≠ [] := fun e => by rw [e] at hx; cases hx
    have z1 : p1 = x.2 := by rw [← HP1.out, hhd]
    have z2 : q1 = x.1 := by rw [← HQ1.out, hhd]
    have z3 : p2 = y.2 := by rw [← HP2.out, hrd]
    have z4 : q2 = y.1 := by rw [← HQ2.out, hrd]
    have z5 : e1 = 0 := by rw [← HE1.out]; unfold headE; rw [if_neg (by simpa using hne)]
    have z6 : e2 = 0 := by rw [← HE2.out]; unfold headE; rw [if_neg (by simpa using hne)]
    obtain ⟨ra', rc', hre, hkr⟩ := (HK2.out.sw1.sw0).keys1
    rw [HN.out] at hre
    cases hre
    obtain ⟨b, off, rfl, _, hc⟩ := keysAt_get hkr (n := m + 1) (by omega) (by rw [kv, List.length_map, HN.out])
    obtain ⟨r0, r1⟩ := hc 0 (by omega)
    obtain ⟨r2, r3⟩ := hc m (by omega)
    rw [kv, List.getElem?_map, hx] at r0 r1
    rw [kv, List.getElem?_map, hy] at r2 r3
    simp only [Option.map_some, Option.getD_some, Nat.zero_mul, Nat.add_zero] at r0 r1 r2 r3
    subst z1 z2 z3 z4 z5 z6
    have a0 : A2.cell? ⟨ba, 0, none⟩ = some (.int .i64 x.2) := ((HK2.out.sw3.sw2.sw1.sw0).box1 0).1
    have a1 : A2.cell? ⟨ba, 1, none⟩ = some (.int .i64 x.1) := ((HK2.out.sw3.sw2.sw1.sw0).box1 1).1
    have b0 : A2.cell? ⟨bb, 0, none⟩ = some (.int .i64 y.2) := ((HK2.out.sw2.sw1.sw0).box1 0).1
    have b1 : A2.cell? ⟨bb, 1, none⟩ = some (.int .i64 y.1) := ((HK2.out.sw2.sw1.sw0).box1 1).1
    have hq1 : ∀ w, (binOp BinOp.eql 24 (.agg #[.int .i64 x.2, .int .i64 x.1]) (.agg #[.int .i64 x.2, .int .i64 x.1])).run Try.prog w = .ok (.bool true) w := fun w => by rw [eql32]; simp
    have hq2 : ∀ w, (binOp BinOp.eql 24 (.agg #[.int .i64 y.2, .int .i64 y.1]) (.agg #[.int .i64 y.2, .int .i64 y.1])).run Try.prog w = .ok (.bool true) w := fun w => by rw [eql32]; simp
    have hwr2 : IntKind.i64.wrap (((m + 1 : Nat) : Int) - 1) = (m : Int) := by rw [IntWalk.i64_in _ (by omega)]; omega
    have hm1 : (0 : Int) < ((m + 1 : Nat) : Int) := by omega
    have hm2 : (m : Int) < ((m + 1 : Nat) : Int) := by omega
    have hm3 : (0 : Int) ≤ (m : Int) := by omega
    have hwr3 : IntKind.i64.wrap (m : Int) = (m : Int) := IntWalk.i64_in _ (by omega)
    have hm4 : (m : Int) < (m : Int) + 1 := by omega
    have hm5 : (0 : Int) < (m : Int) + 1 := by omega
    have H9 : Hid (On w0 A2 (sep (quA qb S) (sep (refA rb S) R))) := Lib.hid (On.left (On.ref_shut ((HK2.out.sw2.sw1.sw0.sw3.sw2.sw1.sw2.sw3).out1.out1)))
    clear hx hy hhd hrd hne hkr hc hwr hnn
    go_wp2_with fail
    refine wp_region_loose (fun A => A = A2.drew) (by kernel_rfl) (by kernel_rfl) rfl ?_
    iterate 29 (refine loose_val (v := ?_) (by rfl) ?_ ?_; rotate_left; (focus (intro A' hA'; subst hA'; go_simp; first | done | with_reducible rfl)); simp only [Act.put, List.setIfInBounds_toArray, List.set_cons_zero, List.set_cons_succ])
    refine loose_nil ?_
    intro A3 hA3
    subst hA3
    have H10 := Lib.hid (H9.out.below ((Below.refl _ A2).drew))
    go_wp2_with fail
    go_ret
    exact ⟨rfl, H10.out⟩
end
end Go.Proofs.Ytkjpkhpiojahkaa
