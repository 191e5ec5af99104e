/-
  Walks: down.
-/
import Derived.Test.YtkjpkhpiojahkaaKW
namespace Go.Proofs.Ytkjpkhpiojahkaa.Ke
set_option linter.unusedVariables false
open Go.RowKit Hp

set_option maxRecDepth 100000 in
set_option maxHeartbeats 4000000 in
theorem down_any {lf : Nat} {lt : (Int × Int) → (Int × Int) → Bool} (HL : LessI lf lt) {w : World} {hb mb n : Nat} {v : Value} {A : List (It (Int × Int))} {f : Int → Option Nat} (h : Raw w hb lf v mb A n f) {i : Nat} (hi : i < A.length)
    (hup : DownOk lt A (0, 0, 0) i) (hpos : PosBut A (0, 0, 0) i f) (hwf : ∀ x ∈ A, (Lit.int .i64 x.1).wf = true) (hn : n < maxLen) (hA : A.length < 1000000000) :
    Calls Try.prog 147 #[.pointer (some ⟨hb, 0, none⟩), .int .i64 (i : Int)] w fun e w' => e = .returned (.tuple #[]) ∧ Sifted lt w w' hb lf v mb A (if (f (A.getD i (0, 0, 0)).1).isSome then n else n + 1) := by
  obtain ⟨⟨x1, x2⟩, hx⟩ : ∃ x, A[i]? = some x := ⟨_, List.getElem?_eq_getElem hi⟩
  have hxd : A.getD i (0, 0, 0) = (x1, x2) := by rw [List.getD_eq_getElem?_getD, hx]; rfl
  have hxs : A.set i (x1, x2) = A := by
    apply List.ext_getElem?
    intro k
    by_cases hk : i = k
    · subst hk; rw [List.getElem?_set_self hi, hx]
    · rw [List.getElem?_set_ne hk]
  obtain ⟨m, hm⟩ : ∃ m, (if (f (A.getD i (0, 0, 0)).1).isSome then n else n + 1) = m := ⟨_, rfl⟩
  rw [hm]
  rw [hxd] at hm
  have hc1 := h.c1
  obtain ⟨g, cap, rfl, d0, d1, f0, f1, hg⟩ := h.cell hx
  dsimp only at d0 d1
  obtain ⟨W, hW⟩ : ∃ W, (w.alloc (.cells #[.int .i64 x1, .int .i64 x2.1, .int .i64 x2.2] 191)) = W := ⟨_, rfl⟩
  have hlt := h.lt
  have HR := Lib.hid h
  have HUp := Lib.hid hup
  have HPos := Lib.hid hpos
  have HWf := Lib.hid hwf
  have HX := Lib.hid hx
  have HXd := Lib.hid hxd
  have HXs := Lib.hid hxs
  have HM := Lib.hid hm
  clear h hup hpos hwf hx hxd hxs hm
  go_enter Try.func147, Try.ntmps147
  go_wp2_with fail
  have hbW : Below w.heap.size w W := by rw [← hW]; exact (Below.refl _ w).alloc (Nat.le_refl _) _
  have b1 : W.cell? ⟨w.heap.size, 0, none⟩ = some (.int .i64 x1) := by first | (rw [← hW, World.cell?_alloc_at _ _ _ _ rfl]; rfl) | (constructor <;> (rw [← hW, World.cell?_alloc_at _ _ _ _ rfl]; rfl))
  have b2 : (W.cell? ⟨w.heap.size, 1, none⟩ = some (.int .i64 x2.1) ∧ W.cell? ⟨w.heap.size, 2, none⟩ = some (.int .i64 x2.2)) := by first | (rw [← hW, World.cell?_alloc_at _ _ _ _ rfl]; rfl) | (constructor <;> (rw [← hW, World.cell?_alloc_at _ _ _ _ rfl]; rfl))
  have hszW : W.heap.size = w.heap.size + 1 := by rw [← hW]; simp
  have HBW := Lib.hid hbW
  have HB1 := Lib.hid b1
  have HB2 := Lib.hid b2
  clear hW hbW hc1 d0 d1 f0 f1 b1 b2
  go_loopg [1, 5] (A.length - i) (fun gh s1 s5 wr => ∃ (B : List (It (Int × Int))) (fj : Int → Option Nat) (j c : Nat), s1 = .int .i64 (j : Int) ∧ s5 = .int .i64 (c : Int) ∧ 2 * j + 1 = c ∧ gh + j = A.length ∧ B.length = A.length ∧ j < A.length ∧ Raw wr hb lf (.slice (some ⟨g, 0, none⟩) A.length cap) mb B n fj ∧
    DownOk lt (B.set j (x1, x2)) (0, 0, 0) j ∧ PosBut (B.set j (x1, x2)) (0, 0, 0) j fj ∧ (B.set j (x1, x2)).Perm A ∧ fj x1 = f x1 ∧ Mod (Foot (.slice (some ⟨g, 0, none⟩) A.length cap) mb) w wr ∧
    W.heap.size ≤ wr.heap.size ∧ wr.cell? ⟨w.heap.size, 0, none⟩ = some (.int .i64 x1) ∧ (wr.cell? ⟨w.heap.size, 1, none⟩ = some (.int .i64 x2.1) ∧ wr.cell? ⟨w.heap.size, 2, none⟩ = some (.int .i64 x2.2)))
  case atStart =>
    exact ⟨A, f, i, 2 * i + 1, rfl, by go_num, rfl, by omega, rfl, hi, HR.out.below HBW.out, by rw [HXs.out]; exact HUp.out, by rw [HXs.out]; exact HPos.out, by rw [HXs.out], rfl, Mod.of_below HBW.out, Nat.le_refl _, HB1.out, HB2.out⟩
  case round =>
    obtain ⟨B, fj, j, c, rfl, rfl, hc, hgk, hBl, hj, hraw, hup, hpos, hperm, hfx, hmod, hsz, b1, b2⟩ := hrel
    have HRaw := Lib.hid hraw
    have HUpj := Lib.hid hup
    have HPosj := Lib.hid hpos
    have HPerm := Lib.hid hperm
    have HFx := Lib.hid hfx
    have HMod := Lib.hid hmod
    have hgj : j < B.length := by omega
    have hwr1 := hraw.c1
    have hwl := hraw.lt
    have hgl := (hraw.own_ne (j := g) rfl).2.2
    have hBn : B.length < 1000000000 := by omega
    have HC0 := Lib.hid (show Below wr.heap.size wr wr.drew from (Below.refl _ wr).drew)
    have hx1m : (x1, x2) ∈ A := List.mem_of_getElem? HX.out
    have hx1w : (Lit.int .i64 x1).wf = true := HWf.out _ hx1m
    have HX1w := Lib.hid hx1w
    have hlast : ∀ A0, Below wr.heap.size wr A0 → Calls Try.prog 159 #[.pointer (some ⟨hb, 0, none⟩), .int .i64 (j : Int), .agg #[.int .i64 x1, .int .i64 x2.1, .int .i64 x2.2]] A0 fun e w' =>
        e = .returned (.tuple #[]) ∧ Raw w' hb lf (.slice (some ⟨g, 0, none⟩) A.length cap) mb (B.set j (x1, x2)) m (putN fj x1 (some j)) ∧ Mod (Foot (.slice (some ⟨g, 0, none⟩) A.length cap) mb) A0 w' := fun A0 hA0 => by
      have := set_any (HRaw.out.below hA0) hgj x1 x2 HX1w.out hn hBn
      rwa [HFx.out, HM.out] at this
    have HLast := Lib.hid hlast
    have hend : ∀ A0 w', Below wr.heap.size wr A0 → Raw w' hb lf (.slice (some ⟨g, 0, none⟩) A.length cap) mb (B.set j (x1, x2)) m (putN fj x1 (some j)) → Mod (Foot (.slice (some ⟨g, 0, none⟩) A.length cap) mb) A0 w' →
        (∀ k, 0 < k → k < (B.set j (x1, x2)).length → (k - 1) / 2 = j → Hp.ahead lt ((B.set j (x1, x2)).getD k (0, 0, 0)) ((B.set j (x1, x2)).getD j (0, 0, 0)) = false) → Sifted lt w w' hb lf (.slice (some ⟨g, 0, none⟩) A.length cap) mb A m := fun A0 w' hA0 hr hm0 hs => by
      refine ⟨_, _, hr, HPerm.out, HUpj.out.heap HL.swo hs, ?_, ?_⟩
      · have := HPosj.out.lay (by rw [List.length_set]; exact hgj)
        rwa [getD_set _ _ _ _ _ hgj, if_pos rfl] at this
      · exact (HMod.out.trans (Mod.of_below (S := (Foot (.slice (some ⟨g, 0, none⟩) A.length cap) mb)) hA0) (fun _ h _ => h)).trans hm0 (fun _ h _ => h)
    have HEnd := Lib.hid hend
    have HC := Lib.hid hc
    have hAA : (A.length : Int) < 1000000000 := by omega
    have hj0 : (0 : Int) ≤ (j : Int) := by omega
    clear hraw hup hpos hperm hfx hmod hx1m hx1w hlast hend hc
    by_cases hcl : c < A.length
    · have hclI : (c : Int) < (A.length : Int) := by omega
      have hcI0 : (0 : Int) ≤ (c : Int) := by omega
      obtain ⟨⟨y1, y2⟩, hy⟩ : ∃ y, B[c]? = some y := ⟨_, List.getElem?_eq_getElem (by omega)⟩
      have hyd : B.getD c (0, 0, 0) = (y1, y2) := by rw [List.getD_eq_getElem?_getD, hy]; rfl
      obtain ⟨q0, q1⟩ := HRaw.out.at hy
      have HYd := Lib.hid hyd
      have HY := Lib.hid hy
      clear hyd hy
      obtain ⟨d, hd⟩ : ∃ d, c + 1 = d := ⟨_, rfl⟩
      have hw1 : IntKind.i64.wrap ((c : Int) + 1) = (d : Int) := by rw [IntWalk.i64_in _ (by omega)]; omega
      have hw3 : (c : Int) + 1 = (d : Int) := by omega
      have hw4 : IntKind.i64.wrap (d : Int) = (d : Int) := IntWalk.i64_in _ (by omega)
      have hd0 : (0 : Int) ≤ (d : Int) := by omega
      -- one step, by the lesser child
      have hstep : ∀ (k : Nat) (z1 : Int) (z2 : Int × Int) (A0 : World), (k = c ∨ k = d) → k < A.length → B[k]? = some (z1, z2) → (∀ t, 0 < t → t < B.length → (t - 1) / 2 = j → Hp.ahead lt (B.getD t (0, 0, 0)) (z1, z2) = false) → Below wr.heap.size wr A0 →
          Calls Try.prog 159 #[.pointer (some ⟨hb, 0, none⟩), .int .i64 (j : Int), .agg #[.int .i64 z1, .int .i64 z2.1, .int .i64 z2.2]] A0 (fun e w' => e = .returned (.tuple #[]) ∧ Raw w' hb lf (.slice (some ⟨g, 0, none⟩) A.length cap) mb (B.set j (z1, z2)) n (putN fj z1 (some j)) ∧ Mod (Foot (.slice (some ⟨g, 0, none⟩) A.length cap) mb) A0 w') ∧
          (Hp.ahead lt (z1, z2) (x1, x2) = true → DownOk lt ((B.set j (z1, z2)).set k (x1, x2)) (0, 0, 0) k) ∧ PosBut ((B.set j (z1, z2)).set k (x1, x2)) (0, 0, 0) k (putN fj z1 (some j)) ∧ ((B.set j (z1, z2)).set k (x1, x2)).Perm A ∧ (putN fj z1 (some j)) x1 = f x1 ∧
          (Hp.ahead lt (z1, z2) (x1, x2) = false → ∀ t, 0 < t → t < (B.set j (x1, x2)).length → (t - 1) / 2 = j → Hp.ahead lt ((B.set j (x1, x2)).getD t (0, 0, 0)) ((B.set j (x1, x2)).getD j (0, 0, 0)) = false) := fun k z1 z2 A0 hk hkl hz hmin hA0 => by
        have hc := HC.out
        have hzd : B.getD k (0, 0, 0) = (z1, z2) := by rw [List.getD_eq_getElem?_getD, hz]; rfl
        have hstep := HPosj.out.step hgj (by omega : k < B.length) (by omega)
        rw [hzd] at hstep
        have hperm2 := (set_perm B (0, 0, 0) (x1, x2) j k hgj (by omega) (by omega)).trans HPerm.out
        rw [hzd] at hperm2
        have hzw : (Lit.int .i64 z1).wf = true := HWf.out _ (hperm2.mem_iff.1 (by
          apply List.mem_of_getElem? (i := j)
          rw [List.getElem?_set_ne (by omega), List.getElem?_set_self hgj]))
        have hset := set_any (HRaw.out.below hA0) hgj z1 z2 hzw hn hBn
        rw [show (fj z1).isSome = true by rw [hstep.2]; rfl, if_pos rfl] at hset
        have hx1ne : x1 ≠ z1 := by
          have := HPosj.out.2.2 k (by rw [List.length_set]; omega) (by omega)
          rw [getD_set _ _ _ _ _ hgj, getD_set _ _ _ _ _ hgj, if_pos rfl, if_neg (by omega), hzd] at this
          exact fun e => this e.symm
        refine ⟨hset, fun ha => ?_, hstep.1, hperm2, ?_, fun ha t h1 h2 h3 => ?_⟩
        · have := HUpj.out.step HL.swo (c := k) (by omega) (by omega) (by omega) (by rw [hzd]; exact hmin) (by rw [hzd]; exact ha)
          rwa [hzd] at this
        · rw [putN_other _ hx1ne]; exact HFx.out
        · rw [List.length_set] at h2
          rw [getD_set _ _ _ _ _ hgj, getD_set _ _ _ _ _ hgj, if_pos rfl, if_neg (by omega)]
          exact nahead_trans HL.swo (hmin t h1 h2 h3) ha
      have HStep := Lib.hid hstep
      have hbox : ∀ A0 w2, Below wr.heap.size wr A0 → Mod (Foot (.slice (some ⟨g, 0, none⟩) A.length cap) mb) A0 w2 → w2.cell? ⟨w.heap.size, 0, none⟩ = some (.int .i64 x1) ∧ (w2.cell? ⟨w.heap.size, 1, none⟩ = some (.int .i64 x2.1) ∧ w2.cell? ⟨w.heap.size, 2, none⟩ = some (.int .i64 x2.2)) ∧ W.heap.size ≤ w2.heap.size ∧ Mod (Foot (.slice (some ⟨g, 0, none⟩) A.length cap) mb) w w2 := fun A0 w2 h1 h2 =>
        ⟨h2.cell (zatB b1 h1) (fun hF => by have := HR.out.foot_lt hF; dsimp only at this; omega), ⟨h2.cell (zatB2 b2 h1).1 (fun hF => by have := HR.out.foot_lt hF; dsimp only at this; omega), h2.cell (zatB2 b2 h1).2 (fun hF => by have := HR.out.foot_lt hF; dsimp only at this; omega)⟩,
          by have := h2.size; have := h1.size; omega, (HMod.out.trans (Mod.of_below (S := (Foot (.slice (some ⟨g, 0, none⟩) A.length cap) mb)) h1) (fun _ h _ => h)).trans h2 (fun _ h _ => h)⟩
      have HBox := Lib.hid hbox
      have hfacts : ∀ A', Below wr.heap.size wr A' → A'.cell? ⟨hb, 1, none⟩ = some (.slice (some ⟨g, 0, none⟩) A.length cap) ∧ A'.cell? ⟨w.heap.size, 0, none⟩ = some (.int .i64 x1) ∧ (A'.cell? ⟨w.heap.size, 1, none⟩ = some (.int .i64 x2.1) ∧ A'.cell? ⟨w.heap.size, 2, none⟩ = some (.int .i64 x2.2)) ∧
          A'.cell? ⟨g, c * 3, none⟩ = some (.int .i64 y1) ∧ (A'.cell? ⟨g, c * 3 + 1, none⟩ = some (.int .i64 y2.1) ∧ A'.cell? ⟨g, c * 3 + 2, none⟩ = some (.int .i64 y2.2)) := fun A' h => ⟨(by first | exact zatB hwr1 h | exact zatB2 hwr1 h), (by first | exact zatB b1 h | exact zatB2 b1 h), (by first | exact zatB b2 h | exact zatB2 b2 h), (by first | exact zatB q0 h | exact zatB2 q0 h), (by first | exact zatB q1 h | exact zatB2 q1 h)⟩
      have hah : ∀ (a1 : Int) (a2 : Int × Int) (b1 : Int) (b2 : Int × Int) (r : Bool), Hp.ahead lt (a1, a2) (b1, b2) = r → ∀ A', Below wr.heap.size wr A' → Calls Try.prog 162 #[.pointer (some ⟨hb, 0, none⟩), .agg #[.int .i64 a1, .int .i64 a2.1, .int .i64 a2.2], .agg #[.int .i64 b1, .int .i64 b2.1, .int .i64 b2.2]] A' fun e w' => e = .returned (.bool r) ∧ Below wr.heap.size wr w' := fun a1 a2 b1 b2 r hr A' h => by
        have := ahead_any HL hb a1 a2 b1 b2 A' (HRaw.out.below h).c0
        rw [hr] at this
        exact this.mono fun e w' ⟨he, hb'⟩ => ⟨he, h.trans (hb'.mono h.size)⟩
      have HFacts := Lib.hid hfacts
      have HAh := Lib.hid hah
      clear hstep hbox hfacts hah q0 q1 HUpj HPosj HPerm HFx HMod
      by_cases hdl : d < A.length
      · have hdlI : (d : Int) < (A.length : Int) := by omega
        obtain ⟨⟨z1, z2⟩, hz⟩ : ∃ z, B[d]? = some z := ⟨_, List.getElem?_eq_getElem (by omega)⟩
        have hzd : B.getD d (0, 0, 0) = (z1, z2) := by rw [List.getD_eq_getElem?_getD, hz]; rfl
        obtain ⟨q2, q3⟩ := HRaw.out.at hz
        have hfacts2 : ∀ A', Below wr.heap.size wr A' → A'.cell? ⟨hb, 1, none⟩ = some (.slice (some ⟨g, 0, none⟩) A.length cap) ∧ A'.cell? ⟨w.heap.size, 0, none⟩ = some (.int .i64 x1) ∧ (A'.cell? ⟨w.heap.size, 1, none⟩ = some (.int .i64 x2.1) ∧ A'.cell? ⟨w.heap.size, 2, none⟩ = some (.int .i64 x2.2)) ∧
          A'.cell? ⟨g, c * 3, none⟩ = some (.int .i64 y1) ∧ (A'.cell? ⟨g, c * 3 + 1, none⟩ = some (.int .i64 y2.1) ∧ A'.cell? ⟨g, c * 3 + 2, none⟩ = some (.int .i64 y2.2)) ∧ A'.cell? ⟨g, d * 3, none⟩ = some (.int .i64 z1) ∧ (A'.cell? ⟨g, d * 3 + 1, none⟩ = some (.int .i64 z2.1) ∧ A'.cell? ⟨g, d * 3 + 2, none⟩ = some (.int .i64 z2.2)) := fun A' h => by
            obtain ⟨a, b, c, d, e⟩ := HFacts.out A' h
            exact ⟨a, b, c, d, e, (by first | exact zatB q2 h | exact zatB2 q2 h), (by first | exact zatB q3 h | exact zatB2 q3 h)⟩
        have HFacts2 := Lib.hid hfacts2
        obtain ⟨r, hr⟩ : ∃ r, Hp.ahead lt (z1, z2) (y1, y2) = r := ⟨_, rfl⟩
        have HK := Lib.hid (HAh.out z1 z2 y1 y2 r hr)
        have HRr := Lib.hid hr
        have HZd := Lib.hid hzd
        have HZ := Lib.hid hz
        clear hfacts2 hr hzd hz q2 q3
        go_wp2_with fail
        refine wp_region_loose (fun A' => Below wr.heap.size wr A') (by kernel_rfl) (by kernel_rfl) HC0.out ?_
        iterate 27 (first
          | (refine loose_skip (by rfl) ?_; simp only [Act.put, List.setIfInBounds_toArray, List.set_cons_zero, List.set_cons_succ])
          | (refine loose_val (v := ?_) (by rfl) ?_ ?_; rotate_left; (focus (intro A' hA'; obtain ⟨k0, k1, k2, k3, k4, k5, k6⟩ := HFacts2.out A' hA'; go_simp; first | done | with_reducible rfl)); simp only [Act.put, List.setIfInBounds_toArray, List.set_cons_zero, List.set_cons_succ])
          | (refine loose_call HK.out (by rfl) ?_ ?_; (focus (intro A' hA'; go_simp; done)); simp only [Act.put, List.setIfInBounds_toArray, List.set_cons_zero, List.set_cons_succ]))
        refine loose_nil ?_
        intro wz hz
        have HZz := Lib.hid hz
        obtain ⟨k0, k1, k2, k3, k4, k5, k6⟩ := HFacts2.out wz hz
        clear hz
        cases r with
        | true =>
          have hmin : ∀ t, 0 < t → t < B.length → (t - 1) / 2 = j → Hp.ahead lt (B.getD t (0, 0, 0)) (z1, z2) = false := fun t h1 h2 h3 => by
            have hc := HC.out
            rcases (by omega : t = c ∨ t = d) with rfl | rfl
            · rw [HYd.out]; exact ahead_asymm HL.swo HRr.out
            · rw [HZd.out]; exact ahead_irrefl HL.swo _
          have HSt := Lib.hid (fun A0 hA0 => HStep.out d z1 z2 A0 (.inr rfl) hdl HZ.out hmin hA0)
          clear hmin HStep
          obtain ⟨r2, hr2⟩ : ∃ r2, Hp.ahead lt (z1, z2) (x1, x2) = r2 := ⟨_, rfl⟩
          have HK2 := Lib.hid (HAh.out z1 z2 x1 x2 r2 hr2)
          have HRr2 := Lib.hid hr2
          clear hr2
          go_wp2_with fail
          refine wp_region_loose (fun A' => Below wr.heap.size wr A') (by kernel_rfl) (by kernel_rfl) (HZz.out.drew) ?_
          iterate 11 (first
            | (refine loose_skip (by rfl) ?_; simp only [Act.put, List.setIfInBounds_toArray, List.set_cons_zero, List.set_cons_succ])
            | (refine loose_val (v := ?_) (by rfl) ?_ ?_; rotate_left; (focus (intro A' hA'; obtain ⟨k0, k1, k2, k3, k4, k5, k6⟩ := HFacts2.out A' hA'; go_simp; first | done | with_reducible rfl)); simp only [Act.put, List.setIfInBounds_toArray, List.set_cons_zero, List.set_cons_succ])
            | (refine loose_call HK2.out (by rfl) ?_ ?_; (focus (intro A' hA'; go_simp; done)); simp only [Act.put, List.setIfInBounds_toArray, List.set_cons_zero, List.set_cons_succ]))
          refine loose_nil ?_
          intro wy hy
          have HWy := Lib.hid hy
          obtain ⟨n0, n1, n2, n3, n4, n5, n6⟩ := HFacts2.out wy hy
          clear hy k0 k1 k2 k3 k4 k5 k6
          cases r2 with
          | false =>
            simp only [Bool.not_false]
            have HL2 := Lib.hid (HLast.out wy HWy.out)
            go_wp2_with fail
            refine HL2.out.mono ?_
            rintro e w2 ⟨rfl, hr2, hm2⟩
            have HF := Lib.hid (HEnd.out wy w2 HWy.out hr2 hm2 ((HSt.out wy HWy.out).2.2.2.2.2 HRr2.out))
            clear hr2 hm2
            go_wp2_with fail
            go_end0
            exact ⟨rfl, HF.out⟩
          | true =>
            simp only [Bool.not_true]
            have HSet := Lib.hid (HSt.out wy HWy.out).1
            go_wp2_with fail
            refine HSet.out.mono ?_
            rintro e w2 ⟨rfl, hr2, hm2⟩
            obtain ⟨l1, l2, hsz2, hmod2⟩ := HBox.out wy w2 HWy.out hm2
            have HR2 := Lib.hid hr2
            have HM2 := Lib.hid hmod2
            clear hr2 hm2 hmod2
            go_wp2_with fail
            go_roundg (A.length - d)
            case measure => have := HC.out; omega
            case rel =>
              exact ⟨B.set j (z1, z2), putN fj z1 (some j), d, 2 * d + 1, by go_num, by go_num, rfl, by omega, by rw [List.length_set]; exact hBl, by omega, HR2.out, (HSt.out wy HWy.out).2.1 HRr2.out, (HSt.out wy HWy.out).2.2.1, (HSt.out wy HWy.out).2.2.2.1, (HSt.out wy HWy.out).2.2.2.2.1, HM2.out, hsz2, l1, l2⟩
        | false =>
          have hmin : ∀ t, 0 < t → t < B.length → (t - 1) / 2 = j → Hp.ahead lt (B.getD t (0, 0, 0)) (y1, y2) = false := fun t h1 h2 h3 => by
            have hc := HC.out
            rcases (by omega : t = c ∨ t = d) with rfl | rfl
            · rw [HYd.out]; exact ahead_irrefl HL.swo _
            · rw [HZd.out]; exact HRr.out
          have HSt := Lib.hid (fun A0 hA0 => HStep.out c y1 y2 A0 (.inl rfl) hcl HY.out hmin hA0)
          clear hmin HStep
          obtain ⟨r2, hr2⟩ : ∃ r2, Hp.ahead lt (y1, y2) (x1, x2) = r2 := ⟨_, rfl⟩
          have HK2 := Lib.hid (HAh.out y1 y2 x1 x2 r2 hr2)
          have HRr2 := Lib.hid hr2
          clear hr2
          go_wp2_with fail
          refine wp_region_loose (fun A' => Below wr.heap.size wr A') (by kernel_rfl) (by kernel_rfl) (HZz.out.drew) ?_
          iterate 11 (first
            | (refine loose_skip (by rfl) ?_; simp only [Act.put, List.setIfInBounds_toArray, List.set_cons_zero, List.set_cons_succ])
            | (refine loose_val (v := ?_) (by rfl) ?_ ?_; rotate_left; (focus (intro A' hA'; obtain ⟨k0, k1, k2, k3, k4, k5, k6⟩ := HFacts2.out A' hA'; go_simp; first | done | with_reducible rfl)); simp only [Act.put, List.setIfInBounds_toArray, List.set_cons_zero, List.set_cons_succ])
            | (refine loose_call HK2.out (by rfl) ?_ ?_; (focus (intro A' hA'; go_simp; done)); simp only [Act.put, List.setIfInBounds_toArray, List.set_cons_zero, List.set_cons_succ]))
          refine loose_nil ?_
          intro wy hy
          have HWy := Lib.hid hy
          obtain ⟨n0, n1, n2, n3, n4, n5, n6⟩ := HFacts2.out wy hy
          clear hy k0 k1 k2 k3 k4 k5 k6
          cases r2 with
          | false =>
            simp only [Bool.not_false]
            have HL2 := Lib.hid (HLast.out wy HWy.out)
            go_wp2_with fail
            refine HL2.out.mono ?_
            rintro e w2 ⟨rfl, hr2, hm2⟩
            have HF := Lib.hid (HEnd.out wy w2 HWy.out hr2 hm2 ((HSt.out wy HWy.out).2.2.2.2.2 HRr2.out))
            clear hr2 hm2
            go_wp2_with fail
            go_end0
            exact ⟨rfl, HF.out⟩
          | true =>
            simp only [Bool.not_true]
            have HSet := Lib.hid (HSt.out wy HWy.out).1
            go_wp2_with fail
            refine HSet.out.mono ?_
            rintro e w2 ⟨rfl, hr2, hm2⟩
            obtain ⟨l1, l2, hsz2, hmod2⟩ := HBox.out wy w2 HWy.out hm2
            have HR2 := Lib.hid hr2
            have HM2 := Lib.hid hmod2
            clear hr2 hm2 hmod2
            go_wp2_with fail
            go_roundg (A.length - c)
            case measure => have := HC.out; omega
            case rel =>
              exact ⟨B.set j (y1, y2), putN fj y1 (some j), c, 2 * c + 1, by go_num, by go_num, rfl, by omega, by rw [List.length_set]; exact hBl, by omega, HR2.out, (HSt.out wy HWy.out).2.1 HRr2.out, (HSt.out wy HWy.out).2.2.1, (HSt.out wy HWy.out).2.2.2.1, (HSt.out wy HWy.out).2.2.2.2.1, HM2.out, hsz2, l1, l2⟩
      · have hdlI : ¬ (d : Int) < (A.length : Int) := by omega
        have hmin : ∀ t, 0 < t → t < B.length → (t - 1) / 2 = j → Hp.ahead lt (B.getD t (0, 0, 0)) (y1, y2) = false := fun t h1 h2 h3 => by
          have hc := HC.out
          obtain rfl : t = c := by omega
          rw [HYd.out]; exact ahead_irrefl HL.swo _
        have HSt := Lib.hid (fun A0 hA0 => HStep.out c y1 y2 A0 (.inl rfl) hcl HY.out hmin hA0)
        clear hmin HStep
        go_wp2_with fail
        refine wp_region_loose (fun A' => Below wr.heap.size wr A') (by kernel_rfl) (by kernel_rfl) HC0.out ?_
        iterate 27 (first
          | (refine loose_skip (by rfl) ?_; simp only [Act.put, List.setIfInBounds_toArray, List.set_cons_zero, List.set_cons_succ])
          | (refine loose_val (v := ?_) (by rfl) ?_ ?_; rotate_left; (focus (intro A' hA'; obtain ⟨k0, k1, k2, k3, k4⟩ := HFacts.out A' hA'; go_simp; first | done | with_reducible rfl)); simp only [Act.put, List.setIfInBounds_toArray, List.set_cons_zero, List.set_cons_succ]))
        refine loose_nil ?_
        intro wz hz
        have HZz := Lib.hid hz
        obtain ⟨k0, k1, k2, k3, k4⟩ := HFacts.out wz hz
        clear hz
        obtain ⟨r2, hr2⟩ : ∃ r2, Hp.ahead lt (y1, y2) (x1, x2) = r2 := ⟨_, rfl⟩
        have HK2 := Lib.hid (HAh.out y1 y2 x1 x2 r2 hr2)
        have HRr2 := Lib.hid hr2
        clear hr2
        go_wp2_with fail
        refine wp_region_loose (fun A' => Below wr.heap.size wr A') (by kernel_rfl) (by kernel_rfl) (HZz.out.drew) ?_
        iterate 11 (first
          | (refine loose_skip (by rfl) ?_; simp only [Act.put, List.setIfInBounds_toArray, List.set_cons_zero, List.set_cons_succ])
          | (refine loose_val (v := ?_) (by rfl) ?_ ?_; rotate_left; (focus (intro A' hA'; obtain ⟨k0, k1, k2, k3, k4⟩ := HFacts.out A' hA'; go_simp; first | done | with_reducible rfl)); simp only [Act.put, List.setIfInBounds_toArray, List.set_cons_zero, List.set_cons_succ])
          | (refine loose_call HK2.out (by rfl) ?_ ?_; (focus (intro A' hA'; go_simp; done)); simp only [Act.put, List.setIfInBounds_toArray, List.set_cons_zero, List.set_cons_succ]))
        refine loose_nil ?_
        intro wy hy
        have HWy := Lib.hid hy
        obtain ⟨n0, n1, n2, n3, n4⟩ := HFacts.out wy hy
        clear hy k0 k1 k2 k3 k4
        cases r2 with
        | false =>
          simp only [Bool.not_false]
          have HL2 := Lib.hid (HLast.out wy HWy.out)
          go_wp2_with fail
          refine HL2.out.mono ?_
          rintro e w2 ⟨rfl, hr2, hm2⟩
          have HF := Lib.hid (HEnd.out wy w2 HWy.out hr2 hm2 ((HSt.out wy HWy.out).2.2.2.2.2 HRr2.out))
          clear hr2 hm2
          go_wp2_with fail
          go_end0
          exact ⟨rfl, HF.out⟩
        | true =>
          simp only [Bool.not_true]
          have HSet := Lib.hid (HSt.out wy HWy.out).1
          go_wp2_with fail
          refine HSet.out.mono ?_
          rintro e w2 ⟨rfl, hr2, hm2⟩
          obtain ⟨l1, l2, hsz2, hmod2⟩ := HBox.out wy w2 HWy.out hm2
          have HR2 := Lib.hid hr2
          have HM2 := Lib.hid hmod2
          clear hr2 hm2 hmod2
          go_wp2_with fail
          go_roundg (A.length - c)
          case measure => have := HC.out; omega
          case rel =>
            exact ⟨B.set j (y1, y2), putN fj y1 (some j), c, 2 * c + 1, by go_num, by go_num, rfl, by omega, by rw [List.length_set]; exact hBl, by omega, HR2.out, (HSt.out wy HWy.out).2.1 HRr2.out, (HSt.out wy HWy.out).2.2.1, (HSt.out wy HWy.out).2.2.2.1, (HSt.out wy HWy.out).2.2.2.2.1, HM2.out, hsz2, l1, l2⟩
    · have hclI : ¬ (c : Int) < (A.length : Int) := by omega
      have HL2 := Lib.hid (HLast.out wr (Below.refl _ _))
      have hs : ∀ k, 0 < k → k < (B.set j (x1, x2)).length → (k - 1) / 2 = j → Hp.ahead lt ((B.set j (x1, x2)).getD k (0, 0, 0)) ((B.set j (x1, x2)).getD j (0, 0, 0)) = false := fun k h1 h2 h3 => by
        rw [List.length_set] at h2
        have := HC.out
        omega
      have HS := Lib.hid hs
      clear hs
      go_wp2_with fail
      refine HL2.out.mono ?_
      rintro e w2 ⟨rfl, hr2, hm2⟩
      have HF := Lib.hid (HEnd.out wr w2 (Below.refl _ _) hr2 hm2 HS.out)
      clear hr2 hm2
      go_wp2_with fail
      go_end0
      exact ⟨rfl, HF.out⟩
end Go.Proofs.Ytkjpkhpiojahkaa.Ke
