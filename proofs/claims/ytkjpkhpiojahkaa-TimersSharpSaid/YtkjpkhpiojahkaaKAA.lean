/-
  Walks: All and its iterator.
  Walks: the iterators of a heap of keys, whose blocks are told as they come.
-/
import Derived.Test.YtkjpkhpiojahkaaKCC
import Derived.Test.YtkjpkhpiojahkaaSame
import Derived.Test.YtkjpkhpiojahkaaBase
/-! ### Walks: All and its iterator. -/
namespace Go.Proofs.Ytkjpkhpiojahkaa.Ke
set_option linter.unusedVariables false
open Go.RowKit Hp
attribute [local go_sem] Oper.semAt_some

set_option maxHeartbeats 400000 in
theorem taken_any (hb : Nat) (w : World) : Calls Try.prog 144 #[.pointer (some ⟨hb, 0, none⟩)] w fun e w' => e = .returned (.func (.func 160) #[] #[.pointer (some ⟨w.heap.size, 0, none⟩)]) ∧ w' = w.alloc (.cells #[.pointer (some ⟨hb, 0, none⟩)] 133) := by
  go_enter Try.func144, Try.ntmps144
  go_wp2
  go_ret
  exact ⟨rfl, rfl⟩

set_option maxRecDepth 100000 in
set_option maxHeartbeats 1000000 in
theorem All_new {w : World} {hb lf : Nat} {lt : (Int × Int) → (Int × Int) → Bool} {F : Nat → Prop} {M : List (It (Int × Int))} (h : HeapAt w hb lf lt F M) (hM : M.length < 1000000) :
    Calls Try.prog 98 #[.pointer (some ⟨hb, 0, none⟩)] w fun e w' => ∃ B hb' F', e = .returned (.func (.func 143) #[] #[.pointer (some ⟨B, 0, none⟩)]) ∧ w'.cell? ⟨B, 0, none⟩ = some (.pointer (some ⟨hb', 0, none⟩)) ∧
      HeapAt w' hb' lf lt F' M ∧ Below w.heap.size w w' ∧ w.heap.size ≤ B ∧ ∀ j, F' j → w.heap.size ≤ j := by
  have HC := Lib.hid (Copy_ok h hM)
  clear h
  go_enter Try.func98, Try.ntmps98
  go_wp2_with fail
  refine HC.out.mono ?_
  rintro e w1 ⟨hb1, F1, rfl, h1, hb, hF⟩
  have H1 := Lib.hid h1
  have HB := Lib.hid hb
  have HF := Lib.hid hF
  clear h1 hb hF
  go_wp2_with fail
  go_ret
  have hbA : Below w1.heap.size w1 (w1.alloc (.cells #[.pointer (some ⟨hb1, 0, none⟩)] 133)) := (Below.refl _ w1).alloc (Nat.le_refl _) _
  exact ⟨w1.heap.size, hb1, F1, rfl, by rw [World.cell?_alloc_at _ _ _ _ rfl]; rfl, H1.out.below hbA, HB.out.trans (hbA.mono HB.out.size), HB.out.size, HF.out⟩
end Go.Proofs.Ytkjpkhpiojahkaa.Ke

/-! ### Walks: the iterators of a heap of keys, whose blocks are told as they come. -/
namespace Go.Proofs.Ytkjpkhpiojahkaa.Ke
set_option linter.unusedVariables false
open Go.RowKit Hp
attribute [local go_sem] Oper.semAt_some

set_option maxRecDepth 100000 in
set_option maxHeartbeats 8000000 in
theorem taken_iter2 {lf : Nat} {lt : (Int × Int) → (Int × Int) → Bool} (HL : LessI lf lt) (n : Nat) (B hb : Nat) (F : Nat → Prop) (S : List (It (Int × Int))) (w : World) (hbox : w.cell? ⟨B, 0, none⟩ = some (.pointer (some ⟨hb, 0, none⟩)))
    (h : HeapAt w hb lf lt F S) (hs : Sorted lt S) (hl : S.length < 999999) (hBF : ¬ F B) :
    Iter2 Fence.wide n Try.prog 160 #[.pointer (some ⟨B, 0, none⟩)] (fun (x : It (Int × Int)) => #[.agg #[.int .i64 x.1, .int .i64 x.2.1, .int .i64 x.2.2]]) (fun j => j = B) F S w := by
  intro l J Jx W hk hsz hJ hJx hY h0
  have c1 := hk.cell hbox (.inl rfl)
  have hBw : B < w.heap.size := World.block_lt_of_cell? w _ hbox
  have hW := h.keeps hk (fun j hj => .inr hj)
  have HJ := Lib.hid hJ
  have HJx := Lib.hid hJx
  have HY := Lib.hid hY
  have HS := Lib.hid hs
  -- the next one is taken
  have htake : ∀ (R : List (It (Int × Int))) (A : World) (F1 : Nat → Prop), (∃ pre, S = pre ++ R) → HeapAt A hb lf lt F1 R →
      Calls Try.prog 161 #[.pointer (some ⟨hb, 0, none⟩)] A fun e A' => ∃ id k1 k2 g F2, e = .returned (.tuple #[.int .i64 id, .agg #[.int .i64 k1, .int .i64 k2], .int .i64 g]) ∧ Mod F1 A A' ∧ (∀ j, F2 j → F1 j ∨ A.heap.size ≤ j) ∧
        ((R = [] ∧ g = 14 ∧ HeapAt A' hb lf lt F2 []) ∨ ∃ R', R = (id, (k1, k2)) :: R' ∧ g = 0 ∧ HeapAt A' hb lf lt F2 R') := fun R A F1 ⟨pre, hp⟩ hA => by
    have hsR : Sorted lt R := by rw [hp] at hs; exact (List.pairwise_append.1 hs).2.1
    have hlR : R.length < 999999 := by rw [hp, List.length_append] at hl; omega
    match R with
    | [] => exact (Take_none hA).mono fun e A' ⟨he, hb⟩ => ⟨0, 0, 0, 14, F1, he, Mod.of_below hb, fun _ h => .inl h, .inl ⟨rfl, rfl, hA.below hb⟩⟩
    | (id, k) :: R' => exact (Take_some HL hA hsR (by simp at hlR; omega)).mono fun e A' ⟨he, F2, h1, h2, h3⟩ => ⟨id, k.1, k.2, 0, F2, he, h2, h3, .inr ⟨R', rfl, rfl, h1⟩⟩
  have HT := Lib.hid htake
  have HFw := Lib.hid (fun j (hj : F j) => h.lt_F hj)
  clear hJ hJx hY hs htake h hbox
  refine callsIn_of_wp Try.func160 rfl trivial ?_ rfl
  simp only [Try.ntmps160, List.size_toArray, List.length_cons, List.length_nil, Nat.reduceAdd, Nat.reduceSub, Array.replicate_succ, Array.replicate_zero, List.push_toArray, List.append_toArray, List.nil_append, List.cons_append]
  gi_wp2_with (refine ⟨trivial, fun h => (by cases h), ?_⟩; gi_at_call 161; refine (callsIn_wide.2 (HT.out S W F ⟨[], rfl⟩ hW)).mono ?_; rintro e w1 ⟨id, k1, k2, g, F1, rfl, hm1, hF1, hcase⟩)
  have hs1 := hm1.size
  have HMk := Lib.hid (hm1.keeps (R := fun j => j = B) (fun j hj _ hF => hBF (by rw [← hj]; exact hF)))
  obtain ⟨w2, hw2⟩ : ∃ w2, w1.alloc (.cells #[.int .i64 k1, .int .i64 k2] 24) = w2 := ⟨_, rfl⟩
  have hb2 : Below w1.heap.size w1 w2 := by rw [← hw2]; exact (Below.refl _ w1).alloc (Nat.le_refl _) _
  have o2 : w2.heap[w1.heap.size]? = some (.cells #[.int .i64 k1, .int .i64 k2] 24 (0, 0)) := by rw [← hw2]; exact heap_alloc_new w1 _
  have c2 := zatB (HMk.out.cell c1 rfl) hb2
  have HC := Lib.hid hcase
  have HFlt := Lib.hid (show ∀ j, (F1 j ∨ j = w1.heap.size) → j < w2.heap.size from fun j hj => by
    have hz2 : w2.heap.size = w1.heap.size + 1 := by rw [← hw2]; simp
    rcases hj with hj | hj
    · rcases hcase with ⟨_, _, h3⟩ | ⟨R4, _, _, h3⟩ <;> (have := h3.lt_F hj; omega)
    · omega)
  have HJ0 := Lib.hid (HJ.out F (fun j => F1 j ∨ j = w1.heap.size) _ _ _ h0 ((hm1.trans' ((Mod.of_below hb2))).mv _) (fun j hj => hj.elim (hF1 j) (fun e => .inr (by omega))))
  have HO2 := Lib.hid o2
  have HF1 := Lib.hid hF1
  have HB2 := Lib.hid hb2
  rw [hw2]
  clear hm1 hcase hb2 o2 hF1 hw2
  gi_loopg [3, 4, 5] (S.length + 1) (fun m s3 s4 s5 wr => ∃ (O : Nat → Prop) (pre : List (It (Int × Int))) (x1 y1 y2 g : Int) (kb : Nat), s3 = .int .i64 x1 ∧ s4 = .pointer (some ⟨kb, 0, none⟩) ∧ s5 = .int .i64 g ∧ J O pre wr ∧ (∀ j, O j → F j ∨ W.heap.size ≤ j) ∧ wr.cell? ⟨B, 0, none⟩ = some (.pointer (some ⟨hb, 0, none⟩)) ∧
    wr.heap[kb]? = some (.cells #[.int .i64 y1, .int .i64 y2] 24 (0, 0)) ∧ O kb ∧ W.heap.size ≤ kb ∧ (∀ j, O j → j < wr.heap.size) ∧
    ((g = 14 ∧ S = pre) ∨ ∃ R' F1, g = 0 ∧ S = pre ++ (x1, (y1, y2)) :: R' ∧ HeapAt wr hb lf lt F1 R' ∧ (∀ j, F1 j → O j) ∧ R'.length + 1 ≤ m))
  case atStart =>
    refine ⟨_, [], id, k1, k2, g, w1.heap.size, rfl, rfl, rfl, HJ0.out, fun j hj => hj.elim (HF1.out j) (fun e => .inr (by omega)), c2, HO2.out, .inr rfl, by omega, HFlt.out, ?_⟩
    rcases HC.out with ⟨h1, h2, h3⟩ | ⟨R', h1, h2, h3⟩
    · exact .inl ⟨h2, h1⟩
    · exact .inr ⟨R', F1, h2, h1, h3.below HB2.out, fun j hj => .inl hj, by rw [h1]; simp⟩
  case round =>
    obtain ⟨O, pre, x1, y1, y2, g', kb, rfl, rfl, rfl, hj, hO, hcb, hok, hOk, hkb, hOl, hcs⟩ := hrel
    have q1 : wr.cell? ⟨kb, 0, none⟩ = some (.int .i64 y1) := by simp [World.cell?, hok]
    have q2 : wr.cell? ⟨kb, 1, none⟩ = some (.int .i64 y2) := by simp [World.cell?, hok]
    rcases hcs with ⟨rfl, hSp⟩ | ⟨R', F1, rfl, hSp, hA, hF, hm⟩
    · have HSp := Lib.hid hSp
      clear hSp hok
      gi_wp2
      all_goals refine ⟨fun _ h => (by cases h), ?_⟩
      all_goals gi_wp2
      all_goals go_end0
      all_goals refine ⟨⟨_, rfl⟩, .inl ?_⟩
      all_goals rw [HSp.out]
      all_goals exact ⟨_, hj⟩
    · have hpre : pre ++ [(x1, (y1, y2))] <+: S := by rw [hSp]; exact ⟨R', by simp⟩
      obtain ⟨fn, tmps, assign, body, hy, hR⟩ := HY.out O pre (x1, (y1, y2)) wr hj (fun j hj => ⟨hO j hj, hOl j hj⟩) hpre
      have HR' := Lib.hid hR
      have HSp := Lib.hid hSp
      have HA := Lib.hid hA
      have HF := Lib.hid hF
      have HO := Lib.hid hO
      clear hR hSp hA hF hok hO
      gi_wp2
      refine ⟨fun h => (by cases h), HR'.out.mono ?_⟩
      rintro e W3 (⟨rfl, hJ3, hk3, _⟩ | ⟨rfl, hJx3, _, _⟩)
      · have c3 := hk3.cell hcb (.inl rfl)
        have q3 := hk3.cell q1 (.inr hOk)
        have q4 := hk3.cell q2 (.inr hOk)
        have hA3 := HA.out.keeps hk3 (fun j hj => .inr (HF.out j hj))
        have hsz3 := hk3.size
        have hkb3 : W.heap.size ≤ W3.heap.size := by have := World.block_lt_of_cell? wr _ q1; dsimp only at this; omega
        obtain ⟨W4, hW4⟩ : ∃ W4, W3.alloc (.cells #[.int .i64 y1, .int .i64 y2] 24) = W4 := ⟨_, rfl⟩
        have hb4 : Below W3.heap.size W3 W4 := by rw [← hW4]; exact (Below.refl _ W3).alloc (Nat.le_refl _) _
        have o4 : W4.heap[W3.heap.size]? = some (.cells #[.int .i64 y1, .int .i64 y2] 24 (0, 0)) := by rw [← hW4]; exact heap_alloc_new W3 _
        have hz4 : W4.heap.size = W3.heap.size + 1 := by rw [← hW4]; simp
        have HT3 := Lib.hid (HT.out R' W4 F1 ⟨pre ++ [(x1, (y1, y2))], by rw [HSp.out]; simp⟩ (hA3.below hb4))
        have HJ3 := Lib.hid hJ3
        have HLt := Lib.hid (fun j (hj : F1 j) => hA3.lt_F hj)
        have c4 := zatB c3 hb4
        have HB4 := Lib.hid hb4
        have HO4 := Lib.hid o4
        have HW4 := Lib.hid hW4
        clear hk3 hA3 hJ3 hb4 o4 q1 q2
        gi_wp2_with fail
        refine ⟨trivial, fun h => (by cases h), ?_⟩
        refine (callsIn_wide.2 HT3.out).mono ?_
        rintro e w4 ⟨id4, k4, k5, g4, F4, rfl, hm4, hF4, hcase4⟩
        have hnk : ¬ F1 W3.heap.size := fun hh => by have := HLt.out _ hh; omega
        have hok4 := hm4.obj HO4.out hnk
        have u1 : w4.cell? ⟨W3.heap.size, 0, none⟩ = some (.int .i64 y1) := by simp [World.cell?, hok4]
        have u2 : w4.cell? ⟨W3.heap.size, 1, none⟩ = some (.int .i64 y2) := by simp [World.cell?, hok4]
        have u3 : w4.frozen? ⟨W3.heap.size, 0, none⟩ = false := by simp [World.frozen?, hok4]
        have u4 : w4.frozen? ⟨W3.heap.size, 1, none⟩ = false := by simp [World.frozen?, hok4]
        have HM4 := Lib.hid hm4
        have HF4 := Lib.hid hF4
        have HCase4 := Lib.hid hcase4
        have HOk4 := Lib.hid hok4
        clear hm4 hF4 hcase4 hok4
        gi_wp2_with fail
        have hst : Mod (fun j => j = W3.heap.size) w4 ((w4.setCell ⟨W3.heap.size, 0, none⟩ (.int .i64 k4)).setCell ⟨W3.heap.size, 1, none⟩ (.int .i64 k5)) :=
          ((Mod.refl (fun j => j = W3.heap.size) w4).setCell (p := ⟨W3.heap.size, 0, none⟩) (fun _ => rfl) _).setCell (p := ⟨W3.heap.size, 1, none⟩) (fun _ => rfl) _
        have hall : Mod O W3 ((w4.setCell ⟨W3.heap.size, 0, none⟩ (.int .i64 k4)).setCell ⟨W3.heap.size, 1, none⟩ (.int .i64 k5)) :=
          ((Mod.of_below (S := O) HB4.out).trans HM4.out (fun j hj _ => HF.out j hj)).trans hst (fun j hj hl => by omega)
        have hBn : ¬ F1 B := fun hh => by
          rcases HO.out _ (HF.out _ hh) with h | h
          · exact hBF h
          · omega
        have c5 := hst.cell (HM4.out.cell c4 hBn) (fun e => by have := World.block_lt_of_cell? W3 _ c3; dsimp only at this e; omega)
        gi_roundg (gk - 1)
        case measure => omega
        case rel =>
          have hgr : ∀ j, (F4 j ∨ j = W3.heap.size) → O j ∨ W3.heap.size ≤ j := fun j hj => by
            rcases hj with hj | hj
            · rcases HF4.out _ hj with h | h
              · exact .inl (HF.out _ h)
              · exact .inr (by omega)
            · exact .inr (by omega)
          refine ⟨fun j => F4 j ∨ j = W3.heap.size, pre ++ [(x1, (y1, y2))], id4, k4, k5, g4, W3.heap.size, rfl, rfl, rfl, HJ.out O _ _ _ _ HJ3.out (hall.mv _) hgr, fun j hj => (hgr j hj).elim (HO.out j) (fun h => .inr (by omega)), c5, ?_, .inr rfl, by omega, ?_, ?_⟩
          · rw [heap_setCell_at (heap_setCell_at HOk4.out)]
            rfl
          · have hz5 := hst.size
            have hz6 := HM4.out.size
            rintro j (hj | hj)
            · rcases HCase4.out with ⟨_, _, h3⟩ | ⟨R4, _, _, h3⟩ <;> (have := h3.lt_F hj; omega)
            · omega
          · rcases HCase4.out with ⟨h1, h2, _⟩ | ⟨R4, h1, h2, h3⟩
            · exact .inl ⟨h2, by rw [HSp.out, h1]⟩
            · refine .inr ⟨R4, F4, h2, by rw [HSp.out, h1]; simp, h3.mod hst (fun j hj e => ?_), fun j hj => .inl hj, ?_⟩
              · rcases HF4.out _ hj with h | h
                · have := HLt.out _ h; omega
                · omega
              · rw [h1] at hm; simp at hm; omega
      · gi_wp2
        go_end0
        exact ⟨⟨_, rfl⟩, .inr ⟨O, pre ++ [(x1, (y1, y2))], hpre, hJx3⟩⟩
set_option maxRecDepth 100000 in
set_option maxHeartbeats 4000000 in
theorem All1_iter2 {lf : Nat} {lt : (Int × Int) → (Int × Int) → Bool} (HL : LessI lf lt) (n : Nat) (B hb : Nat) (F : Nat → Prop) (S : List (It (Int × Int))) (w : World) (hbox : w.cell? ⟨B, 0, none⟩ = some (.pointer (some ⟨hb, 0, none⟩)))
    (h : HeapAt w hb lf lt F S) (hs : Sorted lt S) (hl : S.length < 999999) :
    Iter2 Fence.wide n Try.prog 143 #[.pointer (some ⟨B, 0, none⟩)] (fun (x : It (Int × Int)) => #[.int .i64 x.1, .agg #[.int .i64 x.2.1, .int .i64 x.2.2]]) (fun j => F j ∨ j = B) none' S w := by
  intro l J Jx W hk hsz hJ hJx hY h0
  refine callsIn_wide.2 ((callsIn_wide (n := 9)).1 ?_)
  have c1 := hk.cell hbox (.inl (.inr rfl))
  have hW := h.keeps hk (fun j hj => .inl (.inl hj))
  obtain ⟨W1, hW1⟩ : ∃ W1, W.alloc (.cells #[.func (.yield l) #[] #[]] 186) = W1 := ⟨_, rfl⟩
  have hm1 : Mod none' W W1 := by rw [← hW1]; exact (Mod.refl _ W).alloc _
  have hb1 : Below W.heap.size W W1 := hm1.to_below
  have y1 : W1.cell? ⟨W.heap.size, 0, none⟩ = some (.func (.yield l) #[] #[]) := by rw [← hW1, World.cell?_alloc_at _ _ _ _ rfl]; rfl
  have hc := Copy_ok (hW.below hb1) (by omega)
  have d1 := zatB c1 hb1
  have HC := Lib.hid hc
  have HJ := Lib.hid hJ
  have HJx := Lib.hid hJx
  have HY := Lib.hid hY
  have HH0 := Lib.hid h0
  have HM1 := Lib.hid hm1
  clear hc hJ hJx hY h0 hk h hbox hW hm1 hb1
  refine callsIn_of_wp_marks Try.func143 rfl trivial ?_ rfl
  simp only [Try.ntmps143, List.size_toArray, List.length_cons, List.length_nil, Nat.reduceAdd, Nat.reduceSub, Array.replicate_succ, Array.replicate_zero, List.push_toArray, List.append_toArray, List.nil_append, List.cons_append]
  gi_wp2_with fail
  refine ⟨trivial, ?_⟩
  refine (callsIn_wide.2 HC.out).mono ?_
  rintro e W2 ⟨hb2, F2, rfl, h2, hbl2, hF2⟩
  have HH2 := Lib.hid h2
  have HB2 := Lib.hid hbl2
  have HF2 := Lib.hid hF2
  clear h2 hbl2 hF2
  gi_wp2_with fail
  refine ⟨trivial, ?_⟩
  refine (callsIn_wide.2 (taken_any _ _)).mono ?_
  rintro e W3 ⟨rfl, hW3⟩
  subst hW3
  gi_wp2_with fail
  have hs1 := HM1.out.size
  have hs2 := HB2.out.size
  have hz1 : W1.heap.size = W.heap.size + 1 := by rw [← hW1]; simp
  obtain ⟨W3, hW3⟩ : ∃ W3, W2.alloc (.cells #[.pointer (some ⟨hb2, 0, none⟩)] 133) = W3 := ⟨_, rfl⟩
  have hm3 : Mod none' W2 W3 := by rw [← hW3]; exact (Mod.refl _ W2).alloc _
  have hz3 : W3.heap.size = W2.heap.size + 1 := by rw [← hW3]; simp
  have p3 : W3.cell? ⟨W2.heap.size, 0, none⟩ = some (.pointer (some ⟨hb2, 0, none⟩)) := by rw [← hW3, World.cell?_alloc_at _ _ _ _ rfl]; rfl
  have y3 : W3.cell? ⟨W.heap.size, 0, none⟩ = some (.func (.yield l) #[] #[]) := hm3.cell (zatB y1 HB2.out) (fun h => h)
  have hmW : Mod none' W W3 := (HM1.out.trans' (Mod.of_below HB2.out)).trans' hm3
  have hF2 := HF2.out
  have hnF : ¬ F2 W2.heap.size := fun h => by have := HH2.out.lt_F h; omega
  rw [hW3]
  clear hW3
  obtain ⟨ext, hext⟩ : ∃ ext : (Nat → Prop) → Nat → Prop, ext = fun O j => O j ∨ j = W.heap.size ∨ j = W2.heap.size := ⟨_, rfl⟩
  have hxo : ∀ O j, ext O j ↔ O j ∨ j = W.heap.size ∨ j = W2.heap.size := fun O j => by rw [hext]
  refine wpIn_range2 rfl (by omega) (gf := 160) (lb := #[.pointer (some ⟨W2.heap.size, 0, none⟩)]) rfl trivial (enters_of Try.func160 (by kernel_rfl) rfl)
    (taken_iter2 HL _ W2.heap.size hb2 F2 S W3 p3 (HH2.out.mod hm3 (fun _ _ h => h)) hs hl hnF) (Keeps.refl _ _) (fun _ => rfl)
    (fun O pre A => J (ext O) pre A ∧ A.cell? ⟨W.heap.size, 0, none⟩ = some (.func (.yield l) #[] #[]) ∧ (∀ j, O j → F2 j ∨ W3.heap.size ≤ j) ∧ W3.heap.size ≤ A.heap.size)
    (fun c O pre A => c = .ret ∧ Jx (ext O) pre A)
    (fun O O' s A A' h hm' hg => ⟨HJ.out _ _ _ _ _ h.1 (hm'.mono (fun i hi _ => (hxo _ _).2 (.inl hi)) (by omega)) (fun j hj => ((hxo _ _).1 hj).elim (fun h1 => (hg j h1).imp (fun h2 => (hxo _ _).2 (.inl h2)) (fun h => h)) (fun h1 => .inl ((hxo _ _).2 (.inr h1)))),
      hm'.cell h.2.1 (fun h1 => by { have h2 := h.2.2.1 _ h1; rcases h2 with h3 | h3; (have := hF2 _ h3; dsimp only at this; omega); (dsimp only at h3; omega) }),
      fun j hj => (hg j hj).elim (h.2.2.1 j) (fun h1 => .inr (by have := h.2.2.2; omega)), by have := h.2.2.2; have := hm'.size; omega⟩)
    (fun c O O' s A A' h hm' hg => ⟨h.1, HJx.out _ _ _ _ _ h.2 (hm'.mono (fun i hi _ => (hxo _ _).2 (.inl hi)) (by omega)) (fun j hj => ((hxo _ _).1 hj).elim (fun h1 => (hg j h1).imp (fun h2 => (hxo _ _).2 (.inl h2)) (fun h => h)) (fun h1 => .inl ((hxo _ _).2 (.inr h1))))⟩)
    ⟨HJ.out none' _ _ _ _ HH0.out (hmW.mv _) (fun j hj => .inr (by { rcases (hxo _ _).1 hj with h1 | h1 | h1; (have := hF2 j h1; omega); omega; omega })), y3, fun j hj => .inl hj, Nat.le_refl _⟩ ?round ?done ?stop
  case round =>
    rintro l' O pre ⟨x1, x2⟩ A hlA _ ⟨h1, h2, hO1, hA3⟩ hO hpre
    have hY := HY.out (ext O) pre (x1, x2)
    have H1 := Lib.hid h1
    clear h1
    have hmA : Mod none' A (A.alloc (.cells #[.int .i64 x1, .int .i64 x2.1, .int .i64 x2.2] 191)) := (Mod.refl _ A).alloc _
    have e1 : (A.alloc (.cells #[.int .i64 x1, .int .i64 x2.1, .int .i64 x2.2] 191)).cell? ⟨A.heap.size, 0, none⟩ = some (.int .i64 x1) := by rw [World.cell?_alloc_at _ _ _ _ rfl]; rfl
    have e2 : (A.alloc (.cells #[.int .i64 x1, .int .i64 x2.1, .int .i64 x2.2] 191)).cell? ⟨A.heap.size, 1, none⟩ = some (.int .i64 x2.1) := by rw [World.cell?_alloc_at _ _ _ _ rfl]; rfl
    have e4 : (A.alloc (.cells #[.int .i64 x1, .int .i64 x2.1, .int .i64 x2.2] 191)).cell? ⟨A.heap.size, 2, none⟩ = some (.int .i64 x2.2) := by rw [World.cell?_alloc_at _ _ _ _ rfl]; rfl
    have e3 := hmA.cell h2 (fun h => h)
    have HmA := Lib.hid hmA
    have E1 := Lib.hid e1
    have E2 := Lib.hid e2
    have E3 := Lib.hid e3
    have E4 := Lib.hid e4
    have HXo := Lib.hid hxo
    have HHext := Lib.hid hext
    have HO1 := Lib.hid hO1
    have HOl := Lib.hid (show ∀ j, O j → j < A.heap.size from fun j hj => (hO j hj).2)
    clear h2 hmA e1 e2 e3 e4 hF2 hmW p3 y3 d1 c1 hxo hext hO1 hO
    gi_wp2
    refine ⟨HmA.out.ctl _, HmA.out.keeps (fun _ _ _ h => h), fun Wb hmb r hr => ?_⟩
    have f1 := hmb.cell E1.out (fun h => h)
    have f2 := hmb.cell E2.out (fun h => h)
    have f3 := hmb.cell E3.out (fun h => h)
    have f4 := hmb.cell E4.out (fun h => h)
    have hj := HJ.out _ _ _ _ _ H1.out ((HmA.out.mv _).trans (hmb.mono (C := W.heap.size) (fun _ h _ => h) (by omega)) |>.mono (fun i h _ => h.elim) (Nat.le_refl _)) (fun _ h => .inl h)
    have hoj : ∀ j, ext O j → (none' j ∨ W.heap.size ≤ j) ∧ j < Wb.heap.size := fun j hj => by
      have hzb := hmb.size
      have hzA := HmA.out.size
      rcases (HXo.out _ _).1 hj with h1 | h1 | h1
      · have := HOl.out j h1
        rcases HO1.out j h1 with h2 | h2
        · have := HF2.out j h2; exact ⟨.inr (by omega), by omega⟩
        · exact ⟨.inr (by omega), by omega⟩
      · exact ⟨.inr (by omega), by omega⟩
      · exact ⟨.inr (by omega), by omega⟩
    obtain ⟨fn, tmps, assign, body, hy, hR⟩ := hY Wb hj hoj hpre
    have hmb' : Keeps none' A Wb := ⟨Nat.le_trans HmA.out.size hmb.size, fun _ _ _ _ h => h.elim⟩
    have HR := Lib.hid (round_wide (m' := 7 - 1) (l' := l') hR)
    clear hR hr hj hmb hY
    gi_wp2
    refine HR.out.mono ?_
    rintro e W5 (⟨rfl, hJ5, hk5, hc5⟩ | ⟨rfl, hJx5, hk5, hc5⟩)
    · gi_wp2
      exact ⟨hc5.mono (by omega), hk5.mono (fun j hj => .inr ((HXo.out _ _).2 (hj.elim (fun h => .inr (.inr h)) .inl))), hJ5, hk5.cell f3 (.inr ((HXo.out _ _).2 (.inr (.inl rfl)))), fun j hj => (HO1.out j hj).imp (fun h => h) (fun h => by omega), by have := HmA.out.size; have := hmb'.size; have := hk5.size; omega⟩
    · gi_wp2
      exact ⟨hc5.mono (by omega), hk5.mono (fun j hj => .inr ((HXo.out _ _).2 (hj.elim (fun h => .inr (.inr h)) .inl))), rfl, hJx5⟩
  case done =>
    rintro D O A hD ⟨h1, h2, _, _⟩ hK
    have hj := HJ.out _ _ _ _ _ h1 ((Mv.putObj (S := none') (B := W.heap.size) A D _ (.deferred none) hK rfl (by omega)).mono (fun i h _ => h.elim) (Nat.le_refl _)) (fun _ h => .inl h)
    refine ⟨by simp, .inl ⟨_, _, rfl, run_takeDeferred hK, ?_⟩⟩
    exact ⟨_, results_none rfl _ _ _, ⟨_, rfl⟩, .inl ⟨_, hj⟩⟩
  case stop =>
    rintro D c O pre A hD hpre ⟨rfl, h1⟩ hK
    have hj := HJx.out _ _ _ _ _ h1 ((Mv.putObj (S := none') (B := W.heap.size) A D _ (.deferred none) hK rfl (by omega)).mono (fun i h _ => h.elim) (Nat.le_refl _)) (fun _ h => .inl h)
    have HJ' := Lib.hid hj
    clear hj h1
    gi_wp2
    refine ⟨by simp, .inl ⟨_, _, rfl, run_takeDeferred hK, ?_⟩⟩
    exact ⟨_, results_none rfl _ _ _, ⟨_, rfl⟩, .inr ⟨_, pre, hpre, HJ'.out⟩⟩

end Go.Proofs.Ytkjpkhpiojahkaa.Ke
