/-
  Walk: a call with both.
-/
import Derived.Test.YtecfenoidcolfaaUR
import Derived.Deep.RegionHeld3
namespace Go.Proofs.Ytecfenoidcolfaa
set_option linter.unusedVariables false
open Go.RowKit Hp

def stepS (S : List (It Int)) (ask id k : Int) : List (It Int) :=
  if ask = 0 then putS ltI S id k else if ask = 1 then chS ltI S id k else if ask = 2 then without S id else if ask = 3 then S else if ask = 4 then S.tail else S
theorem stepS_sorted {S : List (It Int)} {ask id k : Int} (hs : Sorted ltI S) : Sorted ltI (stepS S ask id k) := by
  unfold stepS
  split
  · exact putS_sorted ltI_swo hs
  split
  · exact chS_sorted ltI_swo hs
  split
  · exact without_sorted hs
  split
  · exact hs
  split
  · exact hs.sublist (List.tail_sublist S)
  · exact hs
theorem stepS_length {S : List (It Int)} {ask id k : Int} : (stepS S ask id k).length ≤ S.length + 1 := by
  unfold stepS
  split
  · exact putS_length
  split
  · exact chS_length
  split
  · have := without_length_le (S := S) (id := id); omega
  split
  · omega
  split
  · simp; omega
  · omega

section
variable {w0 w : World} {A B R : Ast} {b t : Nat} {cs : Array Value}
theorem On.box3 (h : On w0 w (sep A (sep B (sep (boxA b t cs) R)))) (k : Nat) : w.cell? ⟨b, k, none⟩ = cs[k]? := by
  obtain ⟨F, hF, _⟩ := h.out1.out1.get1
  exact boxA_cell hF k
theorem On.box3_free (h : On w0 w (sep A (sep B (sep (boxA b t cs) R)))) (k : Nat) : w.frozen? ⟨b, k, none⟩ = false := by
  obtain ⟨F, hF, _⟩ := h.out1.out1.get1
  exact boxA_free hF k
theorem On.box3_set (h : On w0 w (sep A (sep B (sep (boxA b t cs) R)))) (k : Nat) (v : Value) : On w0 (w.setCell ⟨b, k, none⟩ v) (sep A (sep B (sep (boxA b t (cs.setIfInBounds k v)) R))) :=
  (h.third.step1 fun _ hF => boxA_set hF k v).sink2
theorem On.new3 (h : On w0 w (sep A (sep B R))) (t : Nat) (cs : Array Value) : On w0 (w.alloc (.cells cs t)) (sep A (sep B (sep (boxA w.heap.size t cs) R))) :=
  (h.add ((Below.refl _ w).alloc (Nat.le_refl _) _) (boxA_new w t cs) (fun j hj => by omega)).sink2
theorem On.drop3 (h : On w0 w (sep A (sep B (sep (boxA b t cs) R)))) : On w0 w (sep A (sep B R)) := h.third.out1
theorem On.ref2 {rb : Nat} {S : List (It Int)} (h : On w0 w (sep A (sep (refA rb S) R))) : ∃ v, RefRaw w rb v S := by
  obtain ⟨F, ⟨v, hr, _⟩, _⟩ := h.out1.get1
  exact ⟨v, hr⟩
end

section
variable {w0 w : World} {hb rb : Nat} {S : List (It Int)} {R : Ast} {ask id k : Int}

set_option maxRecDepth 100000 in
set_option maxHeartbeats 2000000 in
theorem does_put (h : On w0 w (sep (H hb S) (sep (refA rb S) R))) (hs : Sorted ltI S) (hl : S.length < 800000) (hw : (Lit.int .i64 id).wf = true) :
    Calls Try.prog 34 #[.pointer (some ⟨hb, 0, none⟩), .pointer (some ⟨rb, 0, none⟩), .agg #[.int .i64 0, .int .i64 k, .int .i64 id]] w fun e w' => e = .returned (.bool true) ∧ On w0 w' (sep (H hb (putS ltI S id k)) (sep (refA rb (putS ltI S id k)) R)) := by
  have hn := h.distinct
  obtain ⟨w1, hw1⟩ : ∃ w1, w.alloc (.cells #[.int .i64 0, .int .i64 k, .int .i64 id] 59) = w1 := ⟨_, rfl⟩
  obtain ⟨b, hb'⟩ : ∃ b, w.heap.size = b := ⟨_, rfl⟩
  have h1 : On w0 w1 (sep (H hb S) (sep (refA rb S) (sep (boxA b 59 #[.int .i64 0, .int .i64 k, .int .i64 id]) R))) := by
    rw [← hw1, ← hb']
    exact h.new3 59 _
  have c0 := h1.box3 0
  have c1 := h1.box3 1
  have c2 := h1.box3 2
  have e0 : (#[Value.int .i64 0, .int .i64 k, .int .i64 id])[0]? = some (.int .i64 0) := rfl
  have e1 : (#[Value.int .i64 0, .int .i64 k, .int .i64 id])[1]? = some (.int .i64 k) := rfl
  have e2 : (#[Value.int .i64 0, .int .i64 k, .int .i64 id])[2]? = some (.int .i64 id) := rfl
  rw [e0] at c0
  rw [e1] at c1
  rw [e2] at c2
  clear e0 e1 e2 h
  have hd := h1.below ((Below.refl _ w1).drew)
  have hput := U_put hd (by omega) id k hw
  have hrput : ∀ A : World, On w0 A (sep (H hb (putS ltI S id k)) (sep (refA rb S) (sep (boxA b 59 #[.int .i64 0, .int .i64 k, .int .i64 id]) R))) →
      Calls Try.prog 83 #[.pointer (some ⟨rb, 0, none⟩), .agg #[.int .i64 k, .int .i64 id]] A fun e w' => e = .returned (.int .i64 (putE S id)) ∧ On w0 w' (sep (H hb (putS ltI S id k)) (sep (refA rb (putS ltI S id k)) (sep (boxA b 59 #[.int .i64 0, .int .i64 k, .int .i64 id]) R))) := fun A hA =>
    (R_put hA.left (by omega) id k).mono fun e w' ⟨he, ho⟩ => ⟨he, ho.left⟩
  have hcl : ∀ (A : World) S1 S2, On w0 A (sep (H hb S1) (sep (refA rb S2) (sep (boxA b 59 #[.int .i64 0, .int .i64 k, .int .i64 id]) R))) → A.cell? ⟨b, 1, none⟩ = some (.int .i64 k) ∧ A.cell? ⟨b, 2, none⟩ = some (.int .i64 id) := fun A S1 S2 hA => ⟨hA.box3 1, hA.box3 2⟩
  obtain ⟨ee, hee⟩ : ∃ ee, putE S id = ee := ⟨_, rfl⟩
  rw [hee] at hput
  simp only [hee] at hrput
  have HPut := Lib.hid hput
  have HRput := Lib.hid hrput
  have HCl := Lib.hid hcl
  clear h1 hd hput hrput hcl hee hn hs
  go_enter Try.func34, Try.ntmps34
  go_wp2_with fail
  go_region_held3 (fun A0 => A0.cell? ⟨b, 1, none⟩ = some (.int .i64 k) ∧ A0.cell? ⟨b, 2, none⟩ = some (.int .i64 id))
    (first | (refine ⟨?_, ?_⟩ <;> assumption) | go_keep)
    (first
      | (go_at_call 22; refine HPut.out.mono ?_; rintro e A1 ⟨rfl, h1⟩; obtain ⟨k0, k1⟩ := HCl.out A1 _ _ h1; have H1 := Lib.hid h1; clear h1)
      | (go_at_call 83; refine (HRput.out _ H1.out).mono ?_; rintro e A2 ⟨rfl, h2⟩; obtain ⟨l0, l1⟩ := HCl.out A2 _ _ h2; have H2 := Lib.hid h2; clear h2))
  go_wp2
  go_ret
  exact ⟨rfl, H2.out.drop3⟩

set_option maxRecDepth 100000 in
set_option maxHeartbeats 2000000 in
theorem does_change (h : On w0 w (sep (H hb S) (sep (refA rb S) R))) (hs : Sorted ltI S) (hl : S.length < 800000) (hw : (Lit.int .i64 id).wf = true) :
    Calls Try.prog 34 #[.pointer (some ⟨hb, 0, none⟩), .pointer (some ⟨rb, 0, none⟩), .agg #[.int .i64 1, .int .i64 k, .int .i64 id]] w fun e w' => e = .returned (.bool true) ∧ On w0 w' (sep (H hb (chS ltI S id k)) (sep (refA rb (chS ltI S id k)) R)) := by
  have hn := h.distinct
  obtain ⟨w1, hw1⟩ : ∃ w1, w.alloc (.cells #[.int .i64 1, .int .i64 k, .int .i64 id] 59) = w1 := ⟨_, rfl⟩
  obtain ⟨b, hb'⟩ : ∃ b, w.heap.size = b := ⟨_, rfl⟩
  have h1 : On w0 w1 (sep (H hb S) (sep (refA rb S) (sep (boxA b 59 #[.int .i64 1, .int .i64 k, .int .i64 id]) R))) := by
    rw [← hw1, ← hb']
    exact h.new3 59 _
  have c0 := h1.box3 0
  have c1 := h1.box3 1
  have c2 := h1.box3 2
  have e0 : (#[Value.int .i64 1, .int .i64 k, .int .i64 id])[0]? = some (.int .i64 1) := rfl
  have e1 : (#[Value.int .i64 1, .int .i64 k, .int .i64 id])[1]? = some (.int .i64 k) := rfl
  have e2 : (#[Value.int .i64 1, .int .i64 k, .int .i64 id])[2]? = some (.int .i64 id) := rfl
  rw [e0] at c0
  rw [e1] at c1
  rw [e2] at c2
  clear e0 e1 e2 h
  have hd := h1.below ((Below.refl _ w1).drew)
  have hput := U_change hd (by omega) id k hw
  have hrput : ∀ A : World, On w0 A (sep (H hb (chS ltI S id k)) (sep (refA rb S) (sep (boxA b 59 #[.int .i64 1, .int .i64 k, .int .i64 id]) R))) →
      Calls Try.prog 84 #[.pointer (some ⟨rb, 0, none⟩), .agg #[.int .i64 k, .int .i64 id]] A fun e w' => e = .returned (.int .i64 (hasE S id)) ∧ On w0 w' (sep (H hb (chS ltI S id k)) (sep (refA rb (chS ltI S id k)) (sep (boxA b 59 #[.int .i64 1, .int .i64 k, .int .i64 id]) R))) := fun A hA =>
    (R_change hA.left hn (by omega) id k).mono fun e w' ⟨he, ho⟩ => ⟨he, ho.left⟩
  have hcl : ∀ (A : World) S1 S2, On w0 A (sep (H hb S1) (sep (refA rb S2) (sep (boxA b 59 #[.int .i64 1, .int .i64 k, .int .i64 id]) R))) → A.cell? ⟨b, 1, none⟩ = some (.int .i64 k) ∧ A.cell? ⟨b, 2, none⟩ = some (.int .i64 id) := fun A S1 S2 hA => ⟨hA.box3 1, hA.box3 2⟩
  obtain ⟨ee, hee⟩ : ∃ ee, hasE S id = ee := ⟨_, rfl⟩
  rw [hee] at hput
  simp only [hee] at hrput
  have HPut := Lib.hid hput
  have HRput := Lib.hid hrput
  have HCl := Lib.hid hcl
  clear h1 hd hput hrput hcl hee hn hs
  go_enter Try.func34, Try.ntmps34
  go_wp2_with fail
  go_region_held3 (fun A0 => A0.cell? ⟨b, 1, none⟩ = some (.int .i64 k) ∧ A0.cell? ⟨b, 2, none⟩ = some (.int .i64 id))
    (first | (refine ⟨?_, ?_⟩ <;> assumption) | go_keep)
    (first
      | (go_at_call 37; refine HPut.out.mono ?_; rintro e A1 ⟨rfl, h1⟩; obtain ⟨k0, k1⟩ := HCl.out A1 _ _ h1; have H1 := Lib.hid h1; clear h1)
      | (go_at_call 84; refine (HRput.out _ H1.out).mono ?_; rintro e A2 ⟨rfl, h2⟩; obtain ⟨l0, l1⟩ := HCl.out A2 _ _ h2; have H2 := Lib.hid h2; clear h2))
  go_wp2
  go_ret
  exact ⟨rfl, H2.out.drop3⟩

set_option maxRecDepth 100000 in
set_option maxHeartbeats 2000000 in
theorem does_drop (h : On w0 w (sep (H hb S) (sep (refA rb S) R))) (hs : Sorted ltI S) (hl : S.length < 800000) (hw : (Lit.int .i64 id).wf = true) :
    Calls Try.prog 34 #[.pointer (some ⟨hb, 0, none⟩), .pointer (some ⟨rb, 0, none⟩), .agg #[.int .i64 2, .int .i64 k, .int .i64 id]] w fun e w' => e = .returned (.bool true) ∧ On w0 w' (sep (H hb (without S id)) (sep (refA rb (without S id)) R)) := by
  have hn := h.distinct
  obtain ⟨w1, hw1⟩ : ∃ w1, w.alloc (.cells #[.int .i64 2, .int .i64 k, .int .i64 id] 59) = w1 := ⟨_, rfl⟩
  obtain ⟨b, hb'⟩ : ∃ b, w.heap.size = b := ⟨_, rfl⟩
  have h1 : On w0 w1 (sep (H hb S) (sep (refA rb S) (sep (boxA b 59 #[.int .i64 2, .int .i64 k, .int .i64 id]) R))) := by
    rw [← hw1, ← hb']
    exact h.new3 59 _
  have c0 := h1.box3 0
  have c1 := h1.box3 1
  have c2 := h1.box3 2
  have e0 : (#[Value.int .i64 2, .int .i64 k, .int .i64 id])[0]? = some (.int .i64 2) := rfl
  have e1 : (#[Value.int .i64 2, .int .i64 k, .int .i64 id])[1]? = some (.int .i64 k) := rfl
  have e2 : (#[Value.int .i64 2, .int .i64 k, .int .i64 id])[2]? = some (.int .i64 id) := rfl
  rw [e0] at c0
  rw [e1] at c1
  rw [e2] at c2
  clear e0 e1 e2 h
  have hdr := U_drop h1 (by omega) id hw
  obtain ⟨ee, hee⟩ : ∃ ee, hasE S id = ee := ⟨_, rfl⟩
  obtain ⟨kk, hkk⟩ : ∃ kk, keyAt 0 S id = kk := ⟨_, rfl⟩
  rw [hee, hkk] at hdr
  have HDr := Lib.hid hdr
  have HN := Lib.hid hn
  have HEe := Lib.hid hee
  have HKk := Lib.hid hkk
  clear h1 hdr hn hs hee hkk
  go_enter Try.func34, Try.ntmps34
  go_wp2_with fail
  refine HDr.out.mono ?_
  rintro e w2 ⟨rfl, h2⟩
  have d2 := h2.box3 2
  have e2 : (#[Value.int .i64 2, .int .i64 k, .int .i64 id])[2]? = some (.int .i64 id) := rfl
  rw [e2] at d2
  have hrd := R_drop h2.left HN.out (by omega) id
  rw [HEe.out, HKk.out] at hrd
  have HRd := Lib.hid hrd
  clear h2 hrd e2
  go_wp2_with fail
  refine HRd.out.mono ?_
  rintro e w3 ⟨rfl, h3⟩
  have H3 := Lib.hid h3.left.drop3
  clear h3
  go_wp2
  go_ret
  exact ⟨rfl, H3.out⟩

set_option maxRecDepth 100000 in
set_option maxHeartbeats 2000000 in
theorem does_get (h : On w0 w (sep (H hb S) (sep (refA rb S) R))) (hs : Sorted ltI S) (hl : S.length < 800000) (hw : (Lit.int .i64 id).wf = true) :
    Calls Try.prog 34 #[.pointer (some ⟨hb, 0, none⟩), .pointer (some ⟨rb, 0, none⟩), .agg #[.int .i64 3, .int .i64 k, .int .i64 id]] w fun e w' => e = .returned (.bool true) ∧ On w0 w' (sep (H hb (S)) (sep (refA rb (S)) R)) := by
  have hn := h.distinct
  obtain ⟨w1, hw1⟩ : ∃ w1, w.alloc (.cells #[.int .i64 3, .int .i64 k, .int .i64 id] 59) = w1 := ⟨_, rfl⟩
  obtain ⟨b, hb'⟩ : ∃ b, w.heap.size = b := ⟨_, rfl⟩
  have h1 : On w0 w1 (sep (H hb S) (sep (refA rb S) (sep (boxA b 59 #[.int .i64 3, .int .i64 k, .int .i64 id]) R))) := by
    rw [← hw1, ← hb']
    exact h.new3 59 _
  have c0 := h1.box3 0
  have c1 := h1.box3 1
  have c2 := h1.box3 2
  have e0 : (#[Value.int .i64 3, .int .i64 k, .int .i64 id])[0]? = some (.int .i64 3) := rfl
  have e1 : (#[Value.int .i64 3, .int .i64 k, .int .i64 id])[1]? = some (.int .i64 k) := rfl
  have e2 : (#[Value.int .i64 3, .int .i64 k, .int .i64 id])[2]? = some (.int .i64 id) := rfl
  rw [e0] at c0
  rw [e1] at c1
  rw [e2] at c2
  clear e0 e1 e2 h
  have hg := U_get h1 (by omega) id hw
  have hat := R_at h1.left (by omega) id
  obtain ⟨v, hraw⟩ := h1.ref2
  have rc0 := hraw.c0
  obtain ⟨la, lcap, rfl⟩ := hraw.slice
  unfold hasE at hg
  have H1 := Lib.hid h1.drop3
  cases hh : has S id with
  | true =>
    obtain ⟨kk, hk⟩ := idx_some hh
    obtain ⟨g, cap, he, hlc, d0, d1, hgg⟩ := hraw.at hk
    injection he with e1 e2 e3
    subst e1
    dsimp only at d0 d1
    rw [hh, if_pos rfl, keyAt_mem hn (List.mem_of_getElem? hk)] at hg
    rw [hh, if_pos rfl] at hat
    have hil := idx_lt.2 hh
    have hi0 : (0 : Int) ≤ (idx S id : Int) := by omega
    have hiI : (idx S id : Int) < (S.length : Int) := by omega
    have HG := Lib.hid hg
    have HAt := Lib.hid hat
    clear h1 hg hat hraw hn hs hk hh e2 e3
    go_enter Try.func34, Try.ntmps34
    go_wp2_with fail
    refine HG.out.mono ?_
    rintro e w' ⟨rfl, rfl⟩
    go_wp2_with fail
    refine HAt.out.mono ?_
    rintro e w' ⟨rfl, rfl⟩
    go_wp2
    go_ret
    exact ⟨rfl, H1.out⟩
  | false =>
    rw [hh, if_neg (by simp), keyAt_none hh] at hg
    rw [hh, if_neg (by simp)] at hat
    have HG := Lib.hid hg
    have HAt := Lib.hid hat
    clear h1 hg hat hraw hn hs hh
    go_enter Try.func34, Try.ntmps34
    go_wp2_with fail
    refine HG.out.mono ?_
    rintro e w' ⟨rfl, rfl⟩
    go_wp2_with fail
    refine HAt.out.mono ?_
    rintro e w' ⟨rfl, rfl⟩
    go_wp2
    go_ret
    exact ⟨rfl, H1.out⟩

theorem On.ref_ne {v : Value} {b t g : Nat} {cs : Array Value} (h : On w0 w (sep (refA rb S) (sep (boxA b t cs) R))) (hr : RefRaw w rb v S) (hg : v.ownBlock = some g) : g ≠ b := by
  obtain ⟨F, ⟨Fa, Fb, ⟨v', hr', hFa⟩, ⟨Fc, Fd, hc, _, _, hFb⟩, hdis, _⟩, _⟩ := h
  have : v' = v := Option.some.inj (hr'.c0.symm.trans hr.c0)
  subst this
  intro e
  subst e
  exact hdis g ((hFa g).2 (.inr hg)) ((hFb g).2 (.inl ((hc.2 g).2 rfl)))
theorem U_take8 (h : On w0 w (sep (H hb S) R)) (hs : Sorted ltI S) (hl : S.length < 800000) :
    Calls Try.prog 23 #[.pointer (some ⟨hb, 0, none⟩)] w fun e w' => e = .returned (.tuple #[.int .i64 (S.headD (0, 0)).1, .int .i64 (S.headD (0, 0)).2, .int .i64 (headE S)]) ∧ On w0 w' (sep (H hb S.tail) R) := U_take h hs (by omega)
theorem U_peek8 (h : On w0 w (sep (H hb S) R)) (hs : Sorted ltI S) (_hl : S.length < 800000) :
    Calls Try.prog 74 #[.pointer (some ⟨hb, 0, none⟩)] w fun e w' => e = .returned (.tuple #[.int .i64 (S.headD (0, 0)).1, .int .i64 (S.headD (0, 0)).2, .int .i64 (headE S)]) ∧ Below w.heap.size w w' := U_peek h hs
theorem without_head {x : It Int} {S : List (It Int)} (hn : (x :: S).Pairwise fun a b => a.1 ≠ b.1) : without (x :: S) x.1 = S := by
  rw [List.pairwise_cons] at hn
  have : without S x.1 = S := without_none (has_none.2 fun y hy => (hn.1 y hy).symm)
  simpa [without] using this

set_option maxRecDepth 100000 in
set_option maxHeartbeats 2000000 in
theorem does_take (h : On w0 w (sep (H hb S) (sep (refA rb S) R))) (hs : Sorted ltI S) (hl : S.length < 800000) :
    Calls Try.prog 34 #[.pointer (some ⟨hb, 0, none⟩), .pointer (some ⟨rb, 0, none⟩), .agg #[.int .i64 4, .int .i64 k, .int .i64 id]] w fun e w' => e = .returned (.bool true) ∧ On w0 w' (sep (H hb (S.tail)) (sep (refA rb (S.tail)) R)) := by
  have hn := h.distinct
  obtain ⟨w1, hw1⟩ : ∃ w1, w.alloc (.cells #[.int .i64 4, .int .i64 k, .int .i64 id] 59) = w1 := ⟨_, rfl⟩
  obtain ⟨b, hb'⟩ : ∃ b, w.heap.size = b := ⟨_, rfl⟩
  have h1 : On w0 w1 (sep (H hb S) (sep (refA rb S) (sep (boxA b 59 #[.int .i64 4, .int .i64 k, .int .i64 id]) R))) := by
    rw [← hw1, ← hb']
    exact h.new3 59 _
  have c0 := h1.box3 0
  have c1 := h1.box3 1
  have c2 := h1.box3 2
  have e0 : (#[Value.int .i64 4, .int .i64 k, .int .i64 id])[0]? = some (.int .i64 4) := rfl
  have e1 : (#[Value.int .i64 4, .int .i64 k, .int .i64 id])[1]? = some (.int .i64 k) := rfl
  have e2 : (#[Value.int .i64 4, .int .i64 k, .int .i64 id])[2]? = some (.int .i64 id) := rfl
  rw [e0] at c0
  rw [e1] at c1
  rw [e2] at c2
  clear e0 e1 e2 h
  obtain ⟨w2, hw2⟩ : ∃ w2, w1.alloc (.cells #[.int .i64 0, .int .i64 0] 32) = w2 := ⟨_, rfl⟩
  obtain ⟨b2, hb2⟩ : ∃ b2, w1.heap.size = b2 := ⟨_, rfl⟩
  have h2 : On w0 w2 (sep (H hb S) (sep (refA rb S) (sep (boxA b2 32 #[.int .i64 0, .int .i64 0]) (sep (boxA b 59 #[.int .i64 4, .int .i64 k, .int .i64 id]) R)))) := by
    rw [← hw2, ← hb2]
    exact h1.new3 32 _
  have hbb : b ≠ b2 := by
    have := World.block_lt_of_cell? w1 _ c0
    dsimp only at this
    omega
  have hcl : ∀ (A : World) S1 S2 cs, On w0 A (sep (H hb S1) (sep (refA rb S2) (sep (boxA b2 32 cs) (sep (boxA b 59 #[.int .i64 4, .int .i64 k, .int .i64 id]) R)))) → A.cell? ⟨b, 0, none⟩ = some (.int .i64 (4)) ∧ A.cell? ⟨b2, 0, none⟩ = cs[0]? ∧ A.cell? ⟨b2, 1, none⟩ = cs[1]? ∧ A.frozen? ⟨b2, 0, none⟩ = false ∧ A.frozen? ⟨b2, 1, none⟩ = false := fun A S1 S2 cs hA => by
    obtain ⟨F, hF, _⟩ := hA.out1.out1.out1.get1
    exact ⟨boxA_cell hF 0, hA.box3 0, hA.box3 1, hA.box3_free 0, hA.box3_free 1⟩
  obtain ⟨q0, q1, q2, q3, q4⟩ := hcl _ _ _ _ h2
  have e0 : (#[Value.int .i64 0, .int .i64 0])[0]? = some (.int .i64 0) := rfl
  have e1 : (#[Value.int .i64 0, .int .i64 0])[1]? = some (.int .i64 0) := rfl
  rw [e0] at q1
  rw [e1] at q2
  obtain ⟨v, hraw⟩ := h2.ref2
  have rc0 := hraw.c0
  have HCl := Lib.hid hcl
  clear e0 e1 hcl h1
  cases S with
  | nil =>
    rcases own_parts hraw.2 with ⟨rfl, _⟩ | ⟨g0, cap0, cur, rfl, _⟩
    all_goals
      have hk := U_take8 h2 hs (by simp)
      have HK := Lib.hid hk
      have HQ := Lib.hid (show headE ([] : List (It Int)) = 14 from rfl)
      have H2 := Lib.hid h2
      clear h2 hk hraw hn hs
      go_enter Try.func34, Try.ntmps34
      go_wp2_with fail
      refine HK.out.mono ?_
      rw [HQ.out]
      rintro e w3 ⟨rfl, h3⟩
      have H3 := Lib.hid h3
      obtain ⟨p0, p1, p2, _, _⟩ := HCl.out _ _ _ _ h3
      have e0 : (#[Value.int .i64 0, .int .i64 0])[0]? = some (.int .i64 0) := rfl
      have e1 : (#[Value.int .i64 0, .int .i64 0])[1]? = some (.int .i64 0) := rfl
      rw [e0] at p1
      rw [e1] at p2
      clear e0 e1
      clear h3
      go_wp2
      go_ret
      exact ⟨rfl, H3.out.drop3.drop3⟩
  | cons x S =>
    obtain ⟨x1, x2⟩ := x
    obtain ⟨g, cap, rfl, hlc, d0, d1, hgg⟩ := hraw.at (i := 0) rfl
    simp only [Nat.zero_mul, Nat.zero_add] at d0 d1
    rw [List.length_cons] at hl hlc rc0
    have hlI : (0 : Int) < ((S.length + 1 : Nat) : Int) := by omega
    have hgb : g ≠ b2 := h2.out1.ref_ne hraw rfl
    have hset : On w0 ((w2.setCell ⟨b2, 0, none⟩ (.int .i64 x2)).setCell ⟨b2, 1, none⟩ (.int .i64 x1)) (sep (H hb ((x1, x2) :: S)) (sep (refA rb ((x1, x2) :: S)) (sep (boxA b2 32 #[.int .i64 x2, .int .i64 x1]) (sep (boxA b 59 #[.int .i64 4, .int .i64 k, .int .i64 id]) R)))) := (h2.box3_set 0 _).box3_set 1 _
    have hk := U_take8 hset hs (by rw [List.length_cons]; omega)
    have HK := Lib.hid hk
    have HN := Lib.hid hn
    have HQ := Lib.hid (show headE ((x1, x2) :: S) = 0 from rfl)
    have H2 := Lib.hid hset
    clear h2 hk hraw hn hs hset
    go_enter Try.func34, Try.ntmps34
    go_wp2_with fail
    refine HK.out.mono ?_
    rw [HQ.out]
    rintro e w3 ⟨rfl, h3⟩
    obtain ⟨p0, p1, p2, _, _⟩ := HCl.out _ _ _ _ h3
    have e0 : (#[Value.int .i64 x2, .int .i64 x1])[0]? = some (.int .i64 x2) := rfl
    have e1 : (#[Value.int .i64 x2, .int .i64 x1])[1]? = some (.int .i64 x1) := rfl
    rw [e0] at p1
    rw [e1] at p2
    clear e0 e1
    have hrd := R_drop h3.left HN.out (by rw [List.length_cons]; omega) x1
    rw [without_head HN.out] at hrd
    have HRd := Lib.hid hrd
    clear h3 hrd
    go_wp2_with fail
    refine HRd.out.mono ?_
    rintro e w5 ⟨rfl, h5⟩
    have H5 := Lib.hid h5.left
    clear p0 p1 p2
    obtain ⟨p0, p1, p2, _, _⟩ := HCl.out _ _ _ _ h5.left
    have e0 : (#[Value.int .i64 x2, .int .i64 x1])[0]? = some (.int .i64 x2) := rfl
    have e1 : (#[Value.int .i64 x2, .int .i64 x1])[1]? = some (.int .i64 x1) := rfl
    rw [e0] at p1
    rw [e1] at p2
    clear e0 e1
    clear h5
    go_wp2
    go_ret
    exact ⟨rfl, H5.out.drop3.drop3⟩
set_option maxRecDepth 100000 in
set_option maxHeartbeats 2000000 in
theorem does_peek (h : On w0 w (sep (H hb S) (sep (refA rb S) R))) (hs : Sorted ltI S) (hl : S.length < 800000) (a0 : ask ≠ 0) (a1 : ask ≠ 1) (a2 : ask ≠ 2) (a3 : ask ≠ 3) (a4 : ask ≠ 4) :
    Calls Try.prog 34 #[.pointer (some ⟨hb, 0, none⟩), .pointer (some ⟨rb, 0, none⟩), .agg #[.int .i64 ask, .int .i64 k, .int .i64 id]] w fun e w' => e = .returned (.bool true) ∧ On w0 w' (sep (H hb (S)) (sep (refA rb (S)) R)) := by
  have hn := h.distinct
  have b0 : (ask == 0) = false := by simp [a0]
  have b1 : (ask == 1) = false := by simp [a1]
  have b2' : (ask == 2) = false := by simp [a2]
  have b3 : (ask == 3) = false := by simp [a3]
  have b4 : (ask == 4) = false := by simp [a4]
  obtain ⟨w1, hw1⟩ : ∃ w1, w.alloc (.cells #[.int .i64 ask, .int .i64 k, .int .i64 id] 59) = w1 := ⟨_, rfl⟩
  obtain ⟨b, hb'⟩ : ∃ b, w.heap.size = b := ⟨_, rfl⟩
  have h1 : On w0 w1 (sep (H hb S) (sep (refA rb S) (sep (boxA b 59 #[.int .i64 ask, .int .i64 k, .int .i64 id]) R))) := by
    rw [← hw1, ← hb']
    exact h.new3 59 _
  have c0 := h1.box3 0
  have c1 := h1.box3 1
  have c2 := h1.box3 2
  have e0 : (#[Value.int .i64 ask, .int .i64 k, .int .i64 id])[0]? = some (.int .i64 ask) := rfl
  have e1 : (#[Value.int .i64 ask, .int .i64 k, .int .i64 id])[1]? = some (.int .i64 k) := rfl
  have e2 : (#[Value.int .i64 ask, .int .i64 k, .int .i64 id])[2]? = some (.int .i64 id) := rfl
  rw [e0] at c0
  rw [e1] at c1
  rw [e2] at c2
  clear e0 e1 e2 h
  obtain ⟨w2, hw2⟩ : ∃ w2, w1.alloc (.cells #[.int .i64 0, .int .i64 0] 32) = w2 := ⟨_, rfl⟩
  obtain ⟨b2, hb2⟩ : ∃ b2, w1.heap.size = b2 := ⟨_, rfl⟩
  have h2 : On w0 w2 (sep (H hb S) (sep (refA rb S) (sep (boxA b2 32 #[.int .i64 0, .int .i64 0]) (sep (boxA b 59 #[.int .i64 ask, .int .i64 k, .int .i64 id]) R)))) := by
    rw [← hw2, ← hb2]
    exact h1.new3 32 _
  have hbb : b ≠ b2 := by
    have := World.block_lt_of_cell? w1 _ c0
    dsimp only at this
    omega
  have hcl : ∀ (A : World) S1 S2 cs, On w0 A (sep (H hb S1) (sep (refA rb S2) (sep (boxA b2 32 cs) (sep (boxA b 59 #[.int .i64 ask, .int .i64 k, .int .i64 id]) R)))) → A.cell? ⟨b, 0, none⟩ = some (.int .i64 (ask)) ∧ A.cell? ⟨b2, 0, none⟩ = cs[0]? ∧ A.cell? ⟨b2, 1, none⟩ = cs[1]? ∧ A.frozen? ⟨b2, 0, none⟩ = false ∧ A.frozen? ⟨b2, 1, none⟩ = false := fun A S1 S2 cs hA => by
    obtain ⟨F, hF, _⟩ := hA.out1.out1.out1.get1
    exact ⟨boxA_cell hF 0, hA.box3 0, hA.box3 1, hA.box3_free 0, hA.box3_free 1⟩
  obtain ⟨q0, q1, q2, q3, q4⟩ := hcl _ _ _ _ h2
  have e0 : (#[Value.int .i64 0, .int .i64 0])[0]? = some (.int .i64 0) := rfl
  have e1 : (#[Value.int .i64 0, .int .i64 0])[1]? = some (.int .i64 0) := rfl
  rw [e0] at q1
  rw [e1] at q2
  obtain ⟨v, hraw⟩ := h2.ref2
  have rc0 := hraw.c0
  have HCl := Lib.hid hcl
  clear e0 e1 hcl h1
  cases S with
  | nil =>
    rcases own_parts hraw.2 with ⟨rfl, _⟩ | ⟨g0, cap0, cur, rfl, _⟩
    all_goals
      have hk := U_peek8 h2 hs (by simp)
      have HK := Lib.hid hk
      have HQ := Lib.hid (show headE ([] : List (It Int)) = 14 from rfl)
      have H2 := Lib.hid h2
      clear h2 hk hraw hn hs
      go_enter Try.func34, Try.ntmps34
      go_wp2_with fail
      refine HK.out.mono ?_
      rw [HQ.out]
      rintro e w3 ⟨rfl, h3⟩
      have H3 := Lib.hid (H2.out.below h3)
      obtain ⟨p0, p1, p2, _, _⟩ := HCl.out _ _ _ _ H3.out
      have e0 : (#[Value.int .i64 0, .int .i64 0])[0]? = some (.int .i64 0) := rfl
      have e1 : (#[Value.int .i64 0, .int .i64 0])[1]? = some (.int .i64 0) := rfl
      rw [e0] at p1
      rw [e1] at p2
      clear e0 e1
      clear h3
      go_wp2
      go_ret
      exact ⟨rfl, H3.out.drop3.drop3⟩
  | cons x S =>
    obtain ⟨x1, x2⟩ := x
    obtain ⟨g, cap, rfl, hlc, d0, d1, hgg⟩ := hraw.at (i := 0) rfl
    simp only [Nat.zero_mul, Nat.zero_add] at d0 d1
    rw [List.length_cons] at hl hlc rc0
    have hlI : (0 : Int) < ((S.length + 1 : Nat) : Int) := by omega
    have hgb : g ≠ b2 := h2.out1.ref_ne hraw rfl
    have hset : On w0 ((w2.setCell ⟨b2, 0, none⟩ (.int .i64 x2)).setCell ⟨b2, 1, none⟩ (.int .i64 x1)) (sep (H hb ((x1, x2) :: S)) (sep (refA rb ((x1, x2) :: S)) (sep (boxA b2 32 #[.int .i64 x2, .int .i64 x1]) (sep (boxA b 59 #[.int .i64 ask, .int .i64 k, .int .i64 id]) R)))) := (h2.box3_set 0 _).box3_set 1 _
    have hk := U_peek8 hset hs (by rw [List.length_cons]; omega)
    have HK := Lib.hid hk
    have HN := Lib.hid hn
    have HQ := Lib.hid (show headE ((x1, x2) :: S) = 0 from rfl)
    have H2 := Lib.hid hset
    clear h2 hk hraw hn hs hset
    go_enter Try.func34, Try.ntmps34
    go_wp2_with fail
    refine HK.out.mono ?_
    rw [HQ.out]
    rintro e w5 ⟨rfl, h5⟩
    have H5 := Lib.hid (H2.out.below h5)
    obtain ⟨p0, p1, p2, _, _⟩ := HCl.out _ _ _ _ H5.out
    have e0 : (#[Value.int .i64 x2, .int .i64 x1])[0]? = some (.int .i64 x2) := rfl
    have e1 : (#[Value.int .i64 x2, .int .i64 x1])[1]? = some (.int .i64 x1) := rfl
    rw [e0] at p1
    rw [e1] at p2
    clear e0 e1
    clear h5
    go_wp2
    go_ret
    exact ⟨rfl, H5.out.drop3.drop3⟩

theorem does_ok (h : On w0 w (sep (H hb S) (sep (refA rb S) R))) (hs : Sorted ltI S) (hl : S.length < 800000) (ask id k : Int) (hw : (Lit.int .i64 id).wf = true) :
    Calls Try.prog 34 #[.pointer (some ⟨hb, 0, none⟩), .pointer (some ⟨rb, 0, none⟩), .agg #[.int .i64 ask, .int .i64 k, .int .i64 id]] w fun e w' => e = .returned (.bool true) ∧ On w0 w' (sep (H hb (stepS S ask id k)) (sep (refA rb (stepS S ask id k)) R)) := by
  unfold stepS
  by_cases a0 : ask = 0
  · subst a0; exact does_put h hs hl hw
  by_cases a1 : ask = 1
  · subst a1; exact does_change h hs hl hw
  by_cases a2 : ask = 2
  · subst a2; exact does_drop h hs hl hw
  by_cases a3 : ask = 3
  · subst a3; exact does_get h hs hl hw
  by_cases a4 : ask = 4
  · subst a4; exact does_take h hs hl
  simp only [if_neg a0, if_neg a1, if_neg a2, if_neg a3, if_neg a4]
  exact does_peek h hs hl a0 a1 a2 a3 a4
end
end Go.Proofs.Ytecfenoidcolfaa
