/-
  Walks: slices.Clone, maps.Clone, Copy.
  Walks: Copy; the iterators taken and All.
  Walks: All and its iterator.
  Walks: the iterators of a heap of keys, whose blocks are told as they come.
  Walk: Change.
  Heaps of keys, as pieces of memory: one contract for each call.
-/
import Derived.Test.YtkjpkhpiojahkaaLow
import Derived.Test.YtkjpkhpiojahkaaKWH
import Derived.Shelf.RegionOpen
import Derived.OwnWalkIn
import Derived.TacticsInMore
import Derived.LoopNIn
import Derived.LoopIn
import Derived.Sort.LoopGhostIn
import Derived.Test.YtkjpkhpiojahkaaCRU
import Derived.Test.YtkjpkhpiojahkaaBase0
import Derived.Deep.RegionHeld3
/-! ### Walks: slices.Clone, maps.Clone, Copy.
  Walks: Copy; the iterators taken and All. -/
/-! ### Walks: slices.Clone, maps.Clone, Copy. -/
namespace Go.Proofs.Ytkjpkhpiojahkaa.Ke
set_option linter.unusedVariables false
open Go.RowKit Hp

set_option maxRecDepth 100000 in
set_option maxHeartbeats 1000000 in
theorem clone_items {w : World} {v : Value} {A : List (It (Int × Int))} (h : w.ownsRow 0 191 3 v A.length (A.flatMap itC)) (hA : A.length < 1000000) :
    Calls Try.prog 148 #[v] w fun e w' => ∃ q nn cc, e = .returned (.slice q nn cc) ∧ w'.ownsRow 0 191 3 (.slice q nn cc) A.length (A.flatMap itC) ∧ Below w.heap.size w w' ∧ ∀ j, (Value.slice q nn cc).ownBlock = some j → w.heap.size ≤ j := by
  obtain ⟨i0, hi0, hz0, hz1, hz2⟩ := info_parts2 info125
  have hq1 := eql_slice_nil (P := Try.prog) (t := 183) Try.underlying183 none 0 0
  rcases own_parts h with ⟨rfl, h0⟩ | ⟨g, cap, cur, rfl, _, hg, hlc, hcm, _, _⟩
  · have H0 := Lib.hid h
    clear h
    go_enter Try.func148, Try.ntmps148
    go_wp2
    go_ret
    exact ⟨_, _, _, rfl, H0.out, Below.refl _ _, fun j hj => by simp [Value.ownBlock] at hj⟩
  · have H0 := Lib.hid h
    have hq := eql_slice_nil (P := Try.prog) (t := 183) Try.underlying183 (some ⟨g, 0, none⟩) A.length cap
    clear hq1
    have hone : ∀ u ∈ A.flatMap itC, u.oneCell' = true := by
      intro u hu
      obtain ⟨x, _, hx⟩ := List.mem_flatMap.1 hu
      simp [itC] at hx
      rcases hx with rfl | rfl | rfl <;> rfl
    have hnl := flat_length itC 3 itC_len A
    have hbW : ∀ o, Below w.heap.size w (w.alloc o) := fun o => (Below.refl _ w).alloc (Nat.le_refl _) _
    have hnews : ∀ (o : Obj) (j : Nat) (u : Value), (A.flatMap itC)[j]? = some u → (w.alloc o).cell? ((⟨g, 0, none⟩ : Addr).add j) = some u := fun o j u hu => by
      have ha : (⟨g, 0, none⟩ : Addr).add j = ⟨g, 0 + j, none⟩ := by unfold Addr.add; split <;> simp_all
      rw [ha, Nat.zero_add]
      exact zatB (own_cellG h hu) (hbW o)
    have HNews := Lib.hid hnews
    have HB := Lib.hid hbW
    have hmx : 0 + A.length ≤ maxLen := by unfold maxLen; omega
    have hby : (0 + A.length) * 24 ≤ 140737488355328 := by omega
    clear h hnews hbW hg
    go_enter Try.func148, Try.ntmps148
    have hown0 : (w.alloc (.cells #[] 191)).ownsRow 0 191 3 (.slice (some ⟨w.heap.size, 0, none⟩) 0 0) 0 [] :=
      ⟨by simp, .inr ⟨w.heap.size, 0, #[], rfl, Nat.zero_le _, heap_alloc_new w _, Nat.le_refl _, Nat.zero_le _, by simp, by simp⟩⟩
    have HO0 := Lib.hid hown0
    clear hown0
    go_wp2_with (at_builtin; refine wpList_append_own_at _ rfl _ _ 183 rfl 0 191 i0 (.agg #[.int .i64 0, .int .i64 0, .int .i64 0]) 3 24 Try.underlying183 hi0 hz0 hz1 hz2 rfl (by decide) (.slice (some ⟨w.heap.size, 0, none⟩) 0 0) 0 [] rfl HO0.out ⟨g, 0, none⟩ A.length cap (A.flatMap itC) rfl hnl (HNews.out _) hone hmx hby (Nat.zero_le _) ?_; intro v' w1 hown hgrow _ hat; rw [Nat.zero_add, List.nil_append] at hown; have HOwn := Lib.hid hown; have HGrow := Lib.hid hgrow; have HAt := Lib.hid hat; clear hown hgrow hat)
    go_ret
    have hb1 : Below w.heap.size w w1 := by
      have hg := HGrow.out
      have h0 := HB.out (.cells #[] 191)
      refine ⟨by rw [hg.os, h0.os], by rw [hg.tape, h0.tape], by rw [hg.output, h0.output], Nat.le_trans h0.size hg.size, fun k hk => ?_⟩
      rw [hg.block k (Nat.lt_of_lt_of_le hk h0.size) (by simp [Value.ownBlock]; omega), h0.block k hk]
    obtain ⟨q, nn, cc, rfl⟩ : ∃ q nn cc, v' = .slice q nn cc := by
      rcases own_parts HOwn.out with ⟨h1, _⟩ | ⟨_, _, _, h1, _⟩ <;> exact ⟨_, _, _, h1⟩
    refine ⟨q, nn, cc, rfl, HOwn.out, hb1, fun j hj => ?_⟩
    rcases HAt.out with h1 | h1 <;> rw [h1] at hj <;> simp [Value.ownBlock] at hj <;> omega

end Go.Proofs.Ytkjpkhpiojahkaa.Ke

/-! ### Walks: Copy; the iterators taken and All. -/
namespace Go.Proofs.Ytkjpkhpiojahkaa.Ke
set_option linter.unusedVariables false
open Go.RowKit Hp

section
variable {w : World} {hb lf : Nat} {lt : (Int × Int) → (Int × Int) → Bool} {F : Nat → Prop} {M : List (It (Int × Int))}

set_option maxRecDepth 100000 in
set_option maxHeartbeats 2000000 in
theorem Copy_ok (h : HeapAt w hb lf lt F M) (hM : M.length < 1000000) :
    Calls Try.prog 105 #[.pointer (some ⟨hb, 0, none⟩)] w fun e w' => ∃ hb' F', e = .returned (.pointer (some ⟨hb', 0, none⟩)) ∧ HeapAt w' hb' lf lt F' M ∧ Below w.heap.size w w' ∧ ∀ j, F' j → w.heap.size ≤ j := by
  obtain ⟨v, mb, A, f, hraw, hheap, hpos, hperm, hids, _⟩ := h
  have hAl : A.length < 1000000 := by rw [hperm.length_eq]; exact hM
  have hcl : ∀ A0, Below w.heap.size w A0 → A0.cell? ⟨hb, 0, none⟩ = some (.func (.func lf) #[] #[]) ∧ A0.cell? ⟨hb, 1, none⟩ = some v ∧ A0.cell? ⟨hb, 2, none⟩ = some (.map (some mb)) := fun A0 hA => by
    have := hraw.below hA
    exact ⟨this.c0, this.c1, this.c2⟩
  have hc1 : ∀ A0, Below w.heap.size w A0 → Calls Try.prog 148 #[v] A0 fun e w' => ∃ q nn cc, e = .returned (.slice q nn cc) ∧ w'.ownsRow 0 191 3 (.slice q nn cc) A.length (A.flatMap itC) ∧ Below A0.heap.size A0 w' ∧ ∀ j, (Value.slice q nn cc).ownBlock = some j → A0.heap.size ≤ j := fun A0 hA => clone_items (hraw.below hA).row hAl
  have hc2 : ∀ A0, Below w.heap.size w A0 → Calls Try.prog 149 #[.map (some mb)] A0 fun e w' => e = .returned (.map (some A0.heap.size)) ∧ mapT w' Try.prog 3 A0.heap.size A.length f ∧ Below A0.heap.size A0 w' := fun A0 hA => clone_map (hraw.below hA).map
  obtain ⟨q0, q1, q2⟩ := hcl w (Below.refl _ _)
  have HCl := Lib.hid hcl
  have HC1 := Lib.hid hc1
  have HC2 := Lib.hid hc2
  have HHeap := Lib.hid hheap
  have HPos := Lib.hid hpos
  have HPerm := Lib.hid hperm
  have HIds := Lib.hid hids
  clear hcl hc1 hc2 hheap hpos hperm hids hraw
  go_enter Try.func105, Try.ntmps105
  go_wp2_with fail
  go_region_held3 (fun A0 => A0.cell? ⟨hb, 0, none⟩ = some (.func (.func lf) #[] #[]) ∧ A0.cell? ⟨hb, 1, none⟩ = some v ∧ A0.cell? ⟨hb, 2, none⟩ = some (.map (some mb)))
    (first | assumption | (refine ⟨?_, ?_, ?_⟩ <;> assumption) | go_keep)
    (first
      | (go_at_call 148; refine (HC1.out _ ((Below.refl _ w).drew)).mono ?_; rintro e A1 ⟨q, nn, cc, rfl, hown, hbl, hge⟩; have hB1 : Below w.heap.size w A1 := ((Below.refl _ w).drew).trans hbl; obtain ⟨k0, k1, k2⟩ := HCl.out A1 hB1)
      | (go_at_call 149; refine (HC2.out _ hB1).mono ?_; rintro e A2 ⟨rfl, hmap2, hbl2⟩; have hB2 : Below w.heap.size w A2 := hB1.trans (hbl2.mono hB1.size); obtain ⟨l0, l1, l2⟩ := HCl.out A2 hB2))
  go_wp2
  go_ret
  have hbA : Below A2.heap.size A2 (A2.alloc (.cells #[.func (.func lf) #[] #[], .slice q nn cc, .map (some A1.heap.size)] 185)) := (Below.refl _ A2).alloc (Nat.le_refl _) _
  have hall := hB2.trans (hbA.mono hB2.size)
  refine ⟨_, fun j => w.heap.size ≤ j ∧ j ≤ A2.heap.size, rfl, ⟨.slice q nn cc, A1.heap.size, A, f, ⟨heap_alloc_new A2 _, ?_, ?_⟩, HHeap.out, HPos.out, HPerm.out, HIds.out, ⟨hB2.size, Nat.le_refl _⟩, ?_, ?_⟩, hall, fun j hj => hj.1⟩
  · exact own_same hown fun j o _ ho _ => ((Mod.of_below (S := none') hbl2).trans' ((Mod.of_below hbA))).obj ho (fun h => h)
  · exact hmap2.mod (Mod.of_below (S := none') hbA) (fun h => h)
  · rintro j (hj | rfl)
    · have := own_parts hown
      have h2 := hge j hj
      refine ⟨h2, ?_⟩
      rcases this with ⟨hv, _⟩ | ⟨g, cap, cur, hv, _, hg, _⟩
      · rw [hv] at hj; simp [Value.ownBlock] at hj
      · rw [hv] at hj; simp [Value.ownBlock] at hj; subst hj
        have := lt_of_some hg
        have := hbl2.size
        omega
    · exact ⟨hB1.size, hbl2.size⟩
  · intro j hj
    simp only [World.size_alloc]
    omega
end

theorem HeapAt.keeps {w w' : World} {hb lf : Nat} {lt : (Int × Int) → (Int × Int) → Bool} {F R : Nat → Prop} {M : List (It (Int × Int))} (h : HeapAt w hb lf lt F M) (hk : Keeps R w w') (hR : ∀ j, F j → R j) : HeapAt w' hb lf lt F M := by
  obtain ⟨v, mb, A, f, h1, h2, h3, h4, h5, h6, h7, h8⟩ := h
  exact ⟨v, mb, A, f, ⟨hk.block _ _ h1.st rfl (hR _ h6), own_same h1.row fun j o hj ho hc => hk.block _ _ ho hc (hR _ (h7 j (.inl hj))), h1.map.of_obj fun o ho hc => hk.block _ _ ho hc (hR _ (h7 _ (.inr rfl)))⟩,
    h2, h3, h4, h5, h6, h7, fun j hj => Nat.lt_of_lt_of_le (h8 j hj) hk.size⟩

attribute [local go_sem] Oper.semAt_some

end Go.Proofs.Ytkjpkhpiojahkaa.Ke

/-! ### Walks: All and its iterator.
  Walks: the iterators of a heap of keys, whose blocks are told as they come. -/
/-! ### Walks: All and its iterator. -/
namespace Go.Proofs.Ytkjpkhpiojahkaa.Ke
set_option linter.unusedVariables false
open Go.RowKit Hp
attribute [local go_sem] Oper.semAt_some

set_option maxHeartbeats 400000 in
theorem taken_any (hb : Nat) (w : World) : Calls Try.prog 144 #[.pointer (some ⟨hb, 0, none⟩)] w fun e w' => e = .returned (.func (.func 160) #[] #[.pointer (some ⟨w.heap.size, 0, none⟩)]) ∧ w' = w.alloc (.cells #[.pointer (some ⟨hb, 0, none⟩)] 133) := by
  go_enter Try.func144, Try.ntmps144
  go_wp2
  go_ret
  exact ⟨rfl, rfl⟩

set_option maxRecDepth 100000 in
set_option maxHeartbeats 1000000 in
theorem All_new {w : World} {hb lf : Nat} {lt : (Int × Int) → (Int × Int) → Bool} {F : Nat → Prop} {M : List (It (Int × Int))} (h : HeapAt w hb lf lt F M) (hM : M.length < 1000000) :
    Calls Try.prog 98 #[.pointer (some ⟨hb, 0, none⟩)] w fun e w' => ∃ B hb' F', e = .returned (.func (.func 143) #[] #[.pointer (some ⟨B, 0, none⟩)]) ∧ w'.cell? ⟨B, 0, none⟩ = some (.pointer (some ⟨hb', 0, none⟩)) ∧
      HeapAt w' hb' lf lt F' M ∧ Below w.heap.size w w' ∧ w.heap.size ≤ B ∧ ∀ j, F' j → w.heap.size ≤ j := by
  have HC := Lib.hid (Copy_ok h hM)
  clear h
  go_enter Try.func98, Try.ntmps98
  go_wp2_with fail
  refine HC.out.mono ?_
  rintro e w1 ⟨hb1, F1, rfl, h1, hb, hF⟩
  have H1 := Lib.hid h1
  have HB := Lib.hid hb
  have HF := Lib.hid hF
  clear h1 hb hF
  go_wp2_with fail
  go_ret
  have hbA : Below w1.heap.size w1 (w1.alloc (.cells #[.pointer (some ⟨hb1, 0, none⟩)] 133)) := (Below.refl _ w1).alloc (Nat.le_refl _) _
  exact ⟨w1.heap.size, hb1, F1, rfl, by rw [World.cell?_alloc_at _ _ _ _ rfl]; rfl, H1.out.below hbA, HB.out.trans (hbA.mono HB.out.size), HB.out.size, HF.out⟩
end Go.Proofs.Ytkjpkhpiojahkaa.Ke

/-! ### Walks: the iterators of a heap of keys, whose blocks are told as they come. -/
namespace Go.Proofs.Ytkjpkhpiojahkaa.Ke
set_option linter.unusedVariables false
open Go.RowKit Hp
attribute [local go_sem] Oper.semAt_some

set_option maxRecDepth 100000 in
set_option maxHeartbeats 8000000 in
theorem taken_iter2 {lf : Nat} {lt : (Int × Int) → (Int × Int) → Bool} (HL : LessI lf lt) (n : Nat) (B hb : Nat) (F : Nat → Prop) (S : List (It (Int × Int))) (w : World) (hbox : w.cell? ⟨B, 0, none⟩ = some (.pointer (some ⟨hb, 0, none⟩)))
    (h : HeapAt w hb lf lt F S) (hs : Sorted lt S) (hl : S.length < 999999) (hBF : ¬ F B) :
    Iter2 Fence.wide n Try.prog 160 #[.pointer (some ⟨B, 0, none⟩)] (fun (x : It (Int × Int)) => #[.agg #[.int .i64 x.1, .int .i64 x.2.1, .int .i64 x.2.2]]) (fun j => j = B) F S w := by
  intro l J Jx W hk hsz hJ hJx hY h0
  have c1 := hk.cell hbox (.inl rfl)
  have hBw : B < w.heap.size := World.block_lt_of_cell? w _ hbox
  have hW := h.keeps hk (fun j hj => .inr hj)
  have HJ := Lib.hid hJ
  have HJx := Lib.hid hJx
  have HY := Lib.hid hY
  have HS := Lib.hid hs
  -- the next one is taken
  have htake : ∀ (R : List (It (Int × Int))) (A : World) (F1 : Nat → Prop), (∃ pre, S = pre ++ R) → HeapAt A hb lf lt F1 R →
      Calls Try.prog 161 #[.pointer (some ⟨hb, 0, none⟩)] A fun e A' => ∃ id k1 k2 g F2, e = .returned (.tuple #[.int .i64 id, .agg #[.int .i64 k1, .int .i64 k2], .int .i64 g]) ∧ Mod F1 A A' ∧ (∀ j, F2 j → F1 j ∨ A.heap.size ≤ j) ∧
        ((R = [] ∧ g = 14 ∧ HeapAt A' hb lf lt F2 []) ∨ ∃ R', R = (id, (k1, k2)) :: R' ∧ g = 0 ∧ HeapAt A' hb lf lt F2 R') := fun R A F1 ⟨pre, hp⟩ hA => by
    have hsR : Sorted lt R := by rw [hp] at hs; exact (List.pairwise_append.1 hs).2.1
    have hlR : R.length < 999999 := by rw [hp, List.length_append] at hl; omega
    match R with
    | [] => exact (Take_none hA).mono fun e A' ⟨he, hb⟩ => ⟨0, 0, 0, 14, F1, he, Mod.of_below hb, fun _ h => .inl h, .inl ⟨rfl, rfl, hA.below hb⟩⟩
    | (id, k) :: R' => exact (Take_some HL hA hsR (by simp at hlR; omega)).mono fun e A' ⟨he, F2, h1, h2, h3⟩ => ⟨id, k.1, k.2, 0, F2, he, h2, h3, .inr ⟨R', rfl, rfl, h1⟩⟩
  have HT := Lib.hid htake
  have HFw := Lib.hid (fun j (hj : F j) => h.lt_F hj)
  clear hJ hJx hY hs htake h hbox
  refine callsIn_of_wp Try.func160 rfl trivial ?_ rfl
  simp only [Try.ntmps160, List.size_toArray, List.length_cons, List.length_nil, Nat.reduceAdd, Nat.reduceSub, Array.replicate_succ, Array.replicate_zero, List.push_toArray, List.append_toArray, List.nil_append, List.cons_append]
  gi_wp2_with (refine ⟨trivial, fun h => (by cases h), ?_⟩; gi_at_call 161; refine (callsIn_wide.2 (HT.out S W F ⟨[], rfl⟩ hW)).mono ?_; rintro e w1 ⟨id, k1, k2, g, F1, rfl, hm1, hF1, hcase⟩)
  have hs1 := hm1.size
  have HMk := Lib.hid (hm1.keeps (R := fun j => j = B) (fun j hj _ hF => hBF (by rw [← hj]; exact hF)))
  obtain ⟨w2, hw2⟩ : ∃ w2, w1.alloc (.cells #[.int .i64 k1, .int .i64 k2] 24) = w2 := ⟨_, rfl⟩
  have hb2 : Below w1.heap.size w1 w2 := by rw [← hw2]; exact (Below.refl _ w1).alloc (Nat.le_refl _) _
  have o2 : w2.heap[w1.heap.size]? = some (.cells #[.int .i64 k1, .int .i64 k2] 24 (0, 0)) := by rw [← hw2]; exact heap_alloc_new w1 _
  have c2 := zatB (HMk.out.cell c1 rfl) hb2
  have HC := Lib.hid hcase
  have HFlt := Lib.hid (show ∀ j, (F1 j ∨ j = w1.heap.size) → j < w2.heap.size from fun j hj => by
    have hz2 : w2.heap.size = w1.heap.size + 1 := by rw [← hw2]; simp
    rcases hj with hj | hj
    · rcases hcase with ⟨_, _, h3⟩ | ⟨R4, _, _, h3⟩ <;> (have := h3.lt_F hj; omega)
    · omega)
  have HJ0 := Lib.hid (HJ.out F (fun j => F1 j ∨ j = w1.heap.size) _ _ _ h0 ((hm1.trans' ((Mod.of_below hb2))).mv _) (fun j hj => hj.elim (hF1 j) (fun e => .inr (by omega))))
  have HO2 := Lib.hid o2
  have HF1 := Lib.hid hF1
  have HB2 := Lib.hid hb2
  rw [hw2]
  clear hm1 hcase hb2 o2 hF1 hw2
  gi_loopg [3, 4, 5] (S.length + 1) (fun m s3 s4 s5 wr => ∃ (O : Nat → Prop) (pre : List (It (Int × Int))) (x1 y1 y2 g : Int) (kb : Nat), s3 = .int .i64 x1 ∧ s4 = .pointer (some ⟨kb, 0, none⟩) ∧ s5 = .int .i64 g ∧ J O pre wr ∧ (∀ j, O j → F j ∨ W.heap.size ≤ j) ∧ wr.cell? ⟨B, 0, none⟩ = some (.pointer (some ⟨hb, 0, none⟩)) ∧
    wr.heap[kb]? = some (.cells #[.int .i64 y1, .int .i64 y2] 24 (0, 0)) ∧ O kb ∧ W.heap.size ≤ kb ∧ (∀ j, O j → j < wr.heap.size) ∧
    ((g = 14 ∧ S = pre) ∨ ∃ R' F1, g = 0 ∧ S = pre ++ (x1, (y1, y2)) :: R' ∧ HeapAt wr hb lf lt F1 R' ∧ (∀ j, F1 j → O j) ∧ R'.length + 1 ≤ m))
  case atStart =>
    refine ⟨_, [], id, k1, k2, g, w1.heap.size, rfl, rfl, rfl, HJ0.out, fun j hj => hj.elim (HF1.out j) (fun e => .inr (by omega)), c2, HO2.out, .inr rfl, by omega, HFlt.out, ?_⟩
    rcases HC.out with ⟨h1, h2, h3⟩ | ⟨R', h1, h2, h3⟩
    · exact .inl ⟨h2, h1⟩
    · exact .inr ⟨R', F1, h2, h1, h3.below HB2.out, fun j hj => .inl hj, by rw [h1]; simp⟩
  case round =>
    obtain ⟨O, pre, x1, y1, y2, g', kb, rfl, rfl, rfl, hj, hO, hcb, hok, hOk, hkb, hOl, hcs⟩ := hrel
    have q1 : wr.cell? ⟨kb, 0, none⟩ = some (.int .i64 y1) := by simp [World.cell?, hok]
    have q2 : wr.cell? ⟨kb, 1, none⟩ = some (.int .i64 y2) := by simp [World.cell?, hok]
    rcases hcs with ⟨rfl, hSp⟩ | ⟨R', F1, rfl, hSp, hA, hF, hm⟩
    · have HSp := Lib.hid hSp
      clear hSp hok
      gi_wp2
      all_goals refine ⟨fun _ h => (by cases h), ?_⟩
      all_goals gi_wp2
      all_goals go_end0
      all_goals refine ⟨⟨_, rfl⟩, .inl ?_⟩
      all_goals rw [HSp.out]
      all_goals exact ⟨_, hj⟩
    · have hpre : pre ++ [(x1, (y1, y2))] <+: S := by rw [hSp]; exact ⟨R', by simp⟩
      obtain ⟨fn, tmps, assign, body, hy, hR⟩ := HY.out O pre (x1, (y1, y2)) wr hj (fun j hj => ⟨hO j hj, hOl j hj⟩) hpre
      have HR' := Lib.hid hR
      have HSp := Lib.hid hSp
      have HA := Lib.hid hA
      have HF := Lib.hid hF
      have HO := Lib.hid hO
      clear hR hSp hA hF hok hO
      gi_wp2
      refine ⟨fun h => (by cases h), HR'.out.mono ?_⟩
      rintro e W3 (⟨rfl, hJ3, hk3, _⟩ | ⟨rfl, hJx3, _, _⟩)
      · have c3 := hk3.cell hcb (.inl rfl)
        have q3 := hk3.cell q1 (.inr hOk)
        have q4 := hk3.cell q2 (.inr hOk)
        have hA3 := HA.out.keeps hk3 (fun j hj => .inr (HF.out j hj))
        have hsz3 := hk3.size
        have hkb3 : W.heap.size ≤ W3.heap.size := by have := World.block_lt_of_cell? wr _ q1; dsimp only at this; omega
        obtain ⟨W4, hW4⟩ : ∃ W4, W3.alloc (.cells #[.int .i64 y1, .int .i64 y2] 24) = W4 := ⟨_, rfl⟩
        have hb4 : Below W3.heap.size W3 W4 := by rw [← hW4]; exact (Below.refl _ W3).alloc (Nat.le_refl _) _
        have o4 : W4.heap[W3.heap.size]? = some (.cells #[.int .i64 y1, .int .i64 y2] 24 (0, 0)) := by rw [← hW4]; exact heap_alloc_new W3 _
        have hz4 : W4.heap.size = W3.heap.size + 1 := by rw [← hW4]; simp
        have HT3 := Lib.hid (HT.out R' W4 F1 ⟨pre ++ [(x1, (y1, y2))], by rw [HSp.out]; simp⟩ (hA3.below hb4))
        have HJ3 := Lib.hid hJ3
        have HLt := Lib.hid (fun j (hj : F1 j) => hA3.lt_F hj)
        have c4 := zatB c3 hb4
        have HB4 := Lib.hid hb4
        have HO4 := Lib.hid o4
        have HW4 := Lib.hid hW4
        clear hk3 hA3 hJ3 hb4 o4 q1 q2
        gi_wp2_with fail
        refine ⟨trivial, fun h => (by cases h), ?_⟩
        refine (callsIn_wide.2 HT3.out).mono ?_
        rintro e w4 ⟨id4, k4, k5, g4, F4, rfl, hm4, hF4, hcase4⟩
        have hnk : ¬ F1 W3.heap.size := fun hh => by have := HLt.out _ hh; omega
        have hok4 := hm4.obj HO4.out hnk
        have u1 : w4.cell? ⟨W3.heap.size, 0, none⟩ = some (.int .i64 y1) := by simp [World.cell?, hok4]
        have u2 : w4.cell? ⟨W3.heap.size, 1, none⟩ = some (.int .i64 y2) := by simp [World.cell?, hok4]
        have u3 : w4.frozen? ⟨W3.heap.size, 0, none⟩ = false := by simp [World.frozen?, hok4]
        have u4 : w4.frozen? ⟨W3.heap.size, 1, none⟩ = false := by simp [World.frozen?, hok4]
        have HM4 := Lib.hid hm4
        have HF4 := Lib.hid hF4
        have HCase4 := Lib.hid hcase4
        have HOk4 := Lib.hid hok4
        clear hm4 hF4 hcase4 hok4
        gi_wp2_with fail
        have hst : Mod (fun j => j = W3.heap.size) w4 ((w4.setCell ⟨W3.heap.size, 0, none⟩ (.int .i64 k4)).setCell ⟨W3.heap.size, 1, none⟩ (.int .i64 k5)) :=
          ((Mod.refl (fun j => j = W3.heap.size) w4).setCell (p := ⟨W3.heap.size, 0, none⟩) (fun _ => rfl) _).setCell (p := ⟨W3.heap.size, 1, none⟩) (fun _ => rfl) _
        have hall : Mod O W3 ((w4.setCell ⟨W3.heap.size, 0, none⟩ (.int .i64 k4)).setCell ⟨W3.heap.size, 1, none⟩ (.int .i64 k5)) :=
          ((Mod.of_below (S := O) HB4.out).trans HM4.out (fun j hj _ => HF.out j hj)).trans hst (fun j hj hl => by omega)
        have hBn : ¬ F1 B := fun hh => by
          rcases HO.out _ (HF.out _ hh) with h | h
          · exact hBF h
          · omega
        have c5 := hst.cell (HM4.out.cell c4 hBn) (fun e => by have := World.block_lt_of_cell? W3 _ c3; dsimp only at this e; omega)
        gi_roundg (gk - 1)
        case measure => omega
        case rel =>
          have hgr : ∀ j, (F4 j ∨ j = W3.heap.size) → O j ∨ W3.heap.size ≤ j := fun j hj => by
            rcases hj with hj | hj
            · rcases HF4.out _ hj with h | h
              · exact .inl (HF.out _ h)
              · exact .inr (by omega)
            · exact .inr (by omega)
          refine ⟨fun j => F4 j ∨ j = W3.heap.size, pre ++ [(x1, (y1, y2))], id4, k4, k5, g4, W3.heap.size, rfl, rfl, rfl, HJ.out O _ _ _ _ HJ3.out (hall.mv _) hgr, fun j hj => (hgr j hj).elim (HO.out j) (fun h => .inr (by omega)), c5, ?_, .inr rfl, by omega, ?_, ?_⟩
          · rw [heap_setCell_at (heap_setCell_at HOk4.out)]
            rfl
          · have hz5 := hst.size
            have hz6 := HM4.out.size
            rintro j (hj | hj)
            · rcases HCase4.out with ⟨_, _, h3⟩ | ⟨R4, _, _, h3⟩ <;> (have := h3.lt_F hj; omega)
            · omega
          · rcases HCase4.out with ⟨h1, h2, _⟩ | ⟨R4, h1, h2, h3⟩
            · exact .inl ⟨h2, by rw [HSp.out, h1]⟩
            · refine .inr ⟨R4, F4, h2, by rw [HSp.out, h1]; simp, h3.mod hst (fun j hj e => ?_), fun j hj => .inl hj, ?_⟩
              · rcases HF4.out _ hj with h | h
                · have := HLt.out _ h; omega
                · omega
              · rw [h1] at hm; simp at hm; omega
      · gi_wp2
        go_end0
        exact ⟨⟨_, rfl⟩, .inr ⟨O, pre ++ [(x1, (y1, y2))], hpre, hJx3⟩⟩
set_option maxRecDepth 100000 in
set_option maxHeartbeats 4000000 in
theorem All1_iter2 {lf : Nat} {lt : (Int × Int) → (Int × Int) → Bool} (HL : LessI lf lt) (n : Nat) (B hb : Nat) (F : Nat → Prop) (S : List (It (Int × Int))) (w : World) (hbox : w.cell? ⟨B, 0, none⟩ = some (.pointer (some ⟨hb, 0, none⟩)))
    (h : HeapAt w hb lf lt F S) (hs : Sorted lt S) (hl : S.length < 999999) :
    Iter2 Fence.wide n Try.prog 143 #[.pointer (some ⟨B, 0, none⟩)] (fun (x : It (Int × Int)) => #[.int .i64 x.1, .agg #[.int .i64 x.2.1, .int .i64 x.2.2]]) (fun j => F j ∨ j = B) none' S w := by
  intro l J Jx W hk hsz hJ hJx hY h0
  refine callsIn_wide.2 ((callsIn_wide (n := 9)).1 ?_)
  have c1 := hk.cell hbox (.inl (.inr rfl))
  have hW := h.keeps hk (fun j hj => .inl (.inl hj))
  obtain ⟨W1, hW1⟩ : ∃ W1, W.alloc (.cells #[.func (.yield l) #[] #[]] 186) = W1 := ⟨_, rfl⟩
  have hm1 : Mod none' W W1 := by rw [← hW1]; exact (Mod.refl _ W).alloc _
  have hb1 : Below W.heap.size W W1 := hm1.to_below
  have y1 : W1.cell? ⟨W.heap.size, 0, none⟩ = some (.func (.yield l) #[] #[]) := by rw [← hW1, World.cell?_alloc_at _ _ _ _ rfl]; rfl
  have hc := Copy_ok (hW.below hb1) (by omega)
  have d1 := zatB c1 hb1
  have HC := Lib.hid hc
  have HJ := Lib.hid hJ
  have HJx := Lib.hid hJx
  have HY := Lib.hid hY
  have HH0 := Lib.hid h0
  have HM1 := Lib.hid hm1
  clear hc hJ hJx hY h0 hk h hbox hW hm1 hb1
  refine callsIn_of_wp_marks Try.func143 rfl trivial ?_ rfl
  simp only [Try.ntmps143, List.size_toArray, List.length_cons, List.length_nil, Nat.reduceAdd, Nat.reduceSub, Array.replicate_succ, Array.replicate_zero, List.push_toArray, List.append_toArray, List.nil_append, List.cons_append]
  gi_wp2_with fail
  refine ⟨trivial, ?_⟩
  refine (callsIn_wide.2 HC.out).mono ?_
  rintro e W2 ⟨hb2, F2, rfl, h2, hbl2, hF2⟩
  have HH2 := Lib.hid h2
  have HB2 := Lib.hid hbl2
  have HF2 := Lib.hid hF2
  clear h2 hbl2 hF2
  gi_wp2_with fail
  refine ⟨trivial, ?_⟩
  refine (callsIn_wide.2 (taken_any _ _)).mono ?_
  rintro e W3 ⟨rfl, hW3⟩
  subst hW3
  gi_wp2_with fail
  have hs1 := HM1.out.size
  have hs2 := HB2.out.size
  have hz1 : W1.heap.size = W.heap.size + 1 := by rw [← hW1]; simp
  obtain ⟨W3, hW3⟩ : ∃ W3, W2.alloc (.cells #[.pointer (some ⟨hb2, 0, none⟩)] 133) = W3 := ⟨_, rfl⟩
  have hm3 : Mod none' W2 W3 := by rw [← hW3]; exact (Mod.refl _ W2).alloc _
  have hz3 : W3.heap.size = W2.heap.size + 1 := by rw [← hW3]; simp
  have p3 : W3.cell? ⟨W2.heap.size, 0, none⟩ = some (.pointer (some ⟨hb2, 0, none⟩)) := by rw [← hW3, World.cell?_alloc_at _ _ _ _ rfl]; rfl
  have y3 : W3.cell? ⟨W.heap.size, 0, none⟩ = some (.func (.yield l) #[] #[]) := hm3.cell (zatB y1 HB2.out) (fun h => h)
  have hmW : Mod none' W W3 := (HM1.out.trans' (Mod.of_below HB2.out)).trans' hm3
  have hF2 := HF2.out
  have hnF : ¬ F2 W2.heap.size := fun h => by have := HH2.out.lt_F h; omega
  rw [hW3]
  clear hW3
  obtain ⟨ext, hext⟩ : ∃ ext : (Nat → Prop) → Nat → Prop, ext = fun O j => O j ∨ j = W.heap.size ∨ j = W2.heap.size := ⟨_, rfl⟩
  have hxo : ∀ O j, ext O j ↔ O j ∨ j = W.heap.size ∨ j = W2.heap.size := fun O j => by rw [hext]
  refine wpIn_range2 rfl (by omega) (gf := 160) (lb := #[.pointer (some ⟨W2.heap.size, 0, none⟩)]) rfl trivial (enters_of Try.func160 (by kernel_rfl) rfl)
    (taken_iter2 HL _ W2.heap.size hb2 F2 S W3 p3 (HH2.out.mod hm3 (fun _ _ h => h)) hs hl hnF) (Keeps.refl _ _) (fun _ => rfl)
    (fun O pre A => J (ext O) pre A ∧ A.cell? ⟨W.heap.size, 0, none⟩ = some (.func (.yield l) #[] #[]) ∧ (∀ j, O j → F2 j ∨ W3.heap.size ≤ j) ∧ W3.heap.size ≤ A.heap.size)
    (fun c O pre A => c = .ret ∧ Jx (ext O) pre A)
    (fun O O' s A A' h hm' hg => ⟨HJ.out _ _ _ _ _ h.1 (hm'.mono (fun i hi _ => (hxo _ _).2 (.inl hi)) (by omega)) (fun j hj => ((hxo _ _).1 hj).elim (fun h1 => (hg j h1).imp (fun h2 => (hxo _ _).2 (.inl h2)) (fun h => h)) (fun h1 => .inl ((hxo _ _).2 (.inr h1)))),
      hm'.cell h.2.1 (fun h1 => by { have h2 := h.2.2.1 _ h1; rcases h2 with h3 | h3; (have := hF2 _ h3; dsimp only at this; omega); (dsimp only at h3; omega) }),
      fun j hj => (hg j hj).elim (h.2.2.1 j) (fun h1 => .inr (by have := h.2.2.2; omega)), by have := h.2.2.2; have := hm'.size; omega⟩)
    (fun c O O' s A A' h hm' hg => ⟨h.1, HJx.out _ _ _ _ _ h.2 (hm'.mono (fun i hi _ => (hxo _ _).2 (.inl hi)) (by omega)) (fun j hj => ((hxo _ _).1 hj).elim (fun h1 => (hg j h1).imp (fun h2 => (hxo _ _).2 (.inl h2)) (fun h => h)) (fun h1 => .inl ((hxo _ _).2 (.inr h1))))⟩)
    ⟨HJ.out none' _ _ _ _ HH0.out (hmW.mv _) (fun j hj => .inr (by { rcases (hxo _ _).1 hj with h1 | h1 | h1; (have := hF2 j h1; omega); omega; omega })), y3, fun j hj => .inl hj, Nat.le_refl _⟩ ?round ?done ?stop
  case round =>
    rintro l' O pre ⟨x1, x2⟩ A hlA _ ⟨h1, h2, hO1, hA3⟩ hO hpre
    have hY := HY.out (ext O) pre (x1, x2)
    have H1 := Lib.hid h1
    clear h1
    have hmA : Mod none' A (A.alloc (.cells #[.int .i64 x1, .int .i64 x2.1, .int .i64 x2.2] 191)) := (Mod.refl _ A).alloc _
    have e1 : (A.alloc (.cells #[.int .i64 x1, .int .i64 x2.1, .int .i64 x2.2] 191)).cell? ⟨A.heap.size, 0, none⟩ = some (.int .i64 x1) := by rw [World.cell?_alloc_at _ _ _ _ rfl]; rfl
    have e2 : (A.alloc (.cells #[.int .i64 x1, .int .i64 x2.1, .int .i64 x2.2] 191)).cell? ⟨A.heap.size, 1, none⟩ = some (.int .i64 x2.1) := by rw [World.cell?_alloc_at _ _ _ _ rfl]; rfl
    have e4 : (A.alloc (.cells #[.int .i64 x1, .int .i64 x2.1, .int .i64 x2.2] 191)).cell? ⟨A.heap.size, 2, none⟩ = some (.int .i64 x2.2) := by rw [World.cell?_alloc_at _ _ _ _ rfl]; rfl
    have e3 := hmA.cell h2 (fun h => h)
    have HmA := Lib.hid hmA
    have E1 := Lib.hid e1
    have E2 := Lib.hid e2
    have E3 := Lib.hid e3
    have E4 := Lib.hid e4
    have HXo := Lib.hid hxo
    have HHext := Lib.hid hext
    have HO1 := Lib.hid hO1
    have HOl := Lib.hid (show ∀ j, O j → j < A.heap.size from fun j hj => (hO j hj).2)
    clear h2 hmA e1 e2 e3 e4 hF2 hmW p3 y3 d1 c1 hxo hext hO1 hO
    gi_wp2
    refine ⟨HmA.out.ctl _, HmA.out.keeps (fun _ _ _ h => h), fun Wb hmb r hr => ?_⟩
    have f1 := hmb.cell E1.out (fun h => h)
    have f2 := hmb.cell E2.out (fun h => h)
    have f3 := hmb.cell E3.out (fun h => h)
    have f4 := hmb.cell E4.out (fun h => h)
    have hj := HJ.out _ _ _ _ _ H1.out ((HmA.out.mv _).trans (hmb.mono (C := W.heap.size) (fun _ h _ => h) (by omega)) |>.mono (fun i h _ => h.elim) (Nat.le_refl _)) (fun _ h => .inl h)
    have hoj : ∀ j, ext O j → (none' j ∨ W.heap.size ≤ j) ∧ j < Wb.heap.size := fun j hj => by
      have hzb := hmb.size
      have hzA := HmA.out.size
      rcases (HXo.out _ _).1 hj with h1 | h1 | h1
      · have := HOl.out j h1
        rcases HO1.out j h1 with h2 | h2
        · have := HF2.out j h2; exact ⟨.inr (by omega), by omega⟩
        · exact ⟨.inr (by omega), by omega⟩
      · exact ⟨.inr (by omega), by omega⟩
      · exact ⟨.inr (by omega), by omega⟩
    obtain ⟨fn, tmps, assign, body, hy, hR⟩ := hY Wb hj hoj hpre
    have hmb' : Keeps none' A Wb := ⟨Nat.le_trans HmA.out.size hmb.size, fun _ _ _ _ h => h.elim⟩
    have HR := Lib.hid (round_wide (m' := 7 - 1) (l' := l') hR)
    clear hR hr hj hmb hY
    gi_wp2
    refine HR.out.mono ?_
    rintro e W5 (⟨rfl, hJ5, hk5, hc5⟩ | ⟨rfl, hJx5, hk5, hc5⟩)
    · gi_wp2
      exact ⟨hc5.mono (by omega), hk5.mono (fun j hj => .inr ((HXo.out _ _).2 (hj.elim (fun h => .inr (.inr h)) .inl))), hJ5, hk5.cell f3 (.inr ((HXo.out _ _).2 (.inr (.inl rfl)))), fun j hj => (HO1.out j hj).imp (fun h => h) (fun h => by omega), by have := HmA.out.size; have := hmb'.size; have := hk5.size; omega⟩
    · gi_wp2
      exact ⟨hc5.mono (by omega), hk5.mono (fun j hj => .inr ((HXo.out _ _).2 (hj.elim (fun h => .inr (.inr h)) .inl))), rfl, hJx5⟩
  case done =>
    rintro D O A hD ⟨h1, h2, _, _⟩ hK
    have hj := HJ.out _ _ _ _ _ h1 ((Mv.putObj (S := none') (B := W.heap.size) A D _ (.deferred none) hK rfl (by omega)).mono (fun i h _ => h.elim) (Nat.le_refl _)) (fun _ h => .inl h)
    refine ⟨by simp, .inl ⟨_, _, rfl, run_takeDeferred hK, ?_⟩⟩
    exact ⟨_, results_none rfl _ _ _, ⟨_, rfl⟩, .inl ⟨_, hj⟩⟩
  case stop =>
    rintro D c O pre A hD hpre ⟨rfl, h1⟩ hK
    have hj := HJx.out _ _ _ _ _ h1 ((Mv.putObj (S := none') (B := W.heap.size) A D _ (.deferred none) hK rfl (by omega)).mono (fun i h _ => h.elim) (Nat.le_refl _)) (fun _ h => .inl h)
    have HJ' := Lib.hid hj
    clear hj h1
    gi_wp2
    refine ⟨by simp, .inl ⟨_, _, rfl, run_takeDeferred hK, ?_⟩⟩
    exact ⟨_, results_none rfl _ _ _, ⟨_, rfl⟩, .inr ⟨_, pre, hpre, HJ'.out⟩⟩

end Go.Proofs.Ytkjpkhpiojahkaa.Ke

/-! ### Walk: Change.
  Heaps of keys, as pieces of memory: one contract for each call. -/
/-! ### Walk: Change. -/
namespace Go.Proofs.Ytkjpkhpiojahkaa.Ke
set_option linter.unusedVariables false
open Go.RowKit Hp

theorem Raw.set_key {w : World} {A : List (It (Int × Int))} {g cap : Nat} (h : w.ownsRow 0 191 3 (.slice (some ⟨g, 0, none⟩) A.length cap) A.length (A.flatMap itC)) {i : Nat} {id : Int} {k0 : Int × Int} (hi : A[i]? = some (id, k0)) (k : Int × Int) :
    ((w.setCell ⟨g, i * 3 + 1, none⟩ (.int .i64 k.1)).setCell ⟨g, i * 3 + 2, none⟩ (.int .i64 k.2)).ownsRow 0 191 3 (.slice (some ⟨g, 0, none⟩) A.length cap) A.length ((A.set i (id, k)).flatMap itC) := by
  have hil := (List.getElem?_eq_some_iff.1 hi).1
  have h2 := own_setG (i := i * 3 + 2) (y := .int .i64 k.2) (own_setG (i := i * 3 + 1) (y := .int .i64 k.1) h)
  have hl := flat_length itC 3 itC_len A
  have e := flat_set itC 3 itC_len A i (id, k) hil (((A.flatMap itC).set (i * 3 + 1) (.int .i64 k.1)).set (i * 3 + 2) (.int .i64 k.2)) (by simp [hl]) (fun j hj => by
    rw [List.getElem?_set, List.getElem?_set]
    by_cases h1 : i * 3 + 2 = j
    · subst h1
      simp [hl, hj, itC]
    · rw [if_neg h1]
      by_cases h2 : i * 3 + 1 = j
      · subst h2
        simp [hl, hj, itC]
      · rw [if_neg h2]
        by_cases h3 : i * 3 = j
        · subst h3
          have := flat_at itC 3 itC_len A i 0 _ hi (by omega)
          rw [Nat.add_zero] at this
          rw [this]
          simp [itC]
        · rw [if_neg (by omega)])
  rw [← e]
  exact h2

section
variable {w : World} {hb lf : Nat} {lt : (Int × Int) → (Int × Int) → Bool} {F : Nat → Prop} {M : List (It (Int × Int))}

set_option maxRecDepth 100000 in
set_option maxHeartbeats 4000000 in
theorem Change_some {u : World} (HL : LessI lf lt) (h0 : HeapAt u hb lf lt F M) {id : Int} {k0 : Int × Int} (hm : (id, k0) ∈ M) (k : Int × Int) (hM : M.length < 1000000) :
    Calls Try.prog 103 #[.pointer (some ⟨hb, 0, none⟩), .int .i64 id, .agg #[.int .i64 k.1, .int .i64 k.2]] u fun e w' => e = .returned (.int .i64 0) ∧ HeapTo u w' hb lf lt F ((id, k) :: M.erase (id, k0)) := by
  obtain ⟨w, hw⟩ : ∃ w, u.alloc (.cells #[.int .i64 k.1, .int .i64 k.2] 24) = w := ⟨_, rfl⟩
  have hbu : Below u.heap.size u w := by rw [← hw]; exact (Below.refl _ u).alloc (Nat.le_refl _) _
  have p0 : w.cell? ⟨u.heap.size, 0, none⟩ = some (.int .i64 k.1) := by rw [← hw, World.cell?_alloc_at _ _ _ _ rfl]; rfl
  have p1 : w.cell? ⟨u.heap.size, 1, none⟩ = some (.int .i64 k.2) := by rw [← hw, World.cell?_alloc_at _ _ _ _ rfl]; rfl
  have h := h0.below hbu
  have hltF : ∀ j, F j → j < u.heap.size := fun j hj => h0.lt_F hj
  have hwf := (h.ids _ hm).2
  obtain ⟨v, mb, A, f, hraw, hheap, hpos, hperm, hids, hF1, hF2, hF3⟩ := h
  obtain ⟨i, hi, hf⟩ := HeapAt.place hraw hpos hperm hm
  have hth := there_some hraw hwf hf
  have hc1 := hraw.c1
  have hlt := hraw.lt
  have hil := (List.getElem?_eq_some_iff.1 hi).1
  have hAl : A.length < 1000000 := by rw [hperm.length_eq]; exact hM
  have hyd : A.getD i (0, 0, 0) = (id, k0) := by rw [getD_of (by omega)]; rw [List.getElem?_eq_getElem (by omega)] at hi; exact Option.some.inj hi
  obtain ⟨g, cap, rfl, d0, ⟨d1, d2⟩, f0, ⟨f1, f2⟩, hg⟩ := hraw.cell hi
  dsimp only at d0 d1 d2
  have hgg := hraw.own_ne (j := g) rfl
  obtain ⟨W, hW⟩ : ∃ W, (w.setCell ⟨g, i * 3 + 1, none⟩ (.int .i64 k.1)).setCell ⟨g, i * 3 + 2, none⟩ (.int .i64 k.2) = W := ⟨_, rfl⟩
  have hset : Mod (fun j => j = g) w W := by rw [← hW]; exact ((Mod.refl (fun j => j = g) w).setCell (p := ⟨g, i * 3 + 1, none⟩) (fun _ => rfl) _).setCell (p := ⟨g, i * 3 + 2, none⟩) (fun _ => rfl) _
  have hrW : Raw W.drew hb lf (.slice (some ⟨g, 0, none⟩) A.length cap) mb (A.set i (id, k)) A.length f :=
    ⟨hset.obj hraw.st (fun e => hgg.1 e.symm), by rw [List.length_set]; have := Raw.set_key hraw.row hi k; rw [hW] at this; exact own_same this fun j o _ ho _ => ho, hraw.map.mod hset.drew (fun e => hgg.2.1 e.symm)⟩
  have hpos1 : Pos (A.set i (id, k)) (0, 0, 0) f := by
    have := hpos.change hil k
    rwa [hyd] at this
  have hcp := change_perm hil (0, 0, 0) (id, k)
  rw [hyd] at hcp
  have hids2 : ∀ y ∈ A.set i (id, k), 0 ≤ y.1 ∧ (Lit.int .i64 y.1).wf = true := fun y hy => by
    rcases List.mem_cons.1 (hcp.mem_iff.1 hy) with rfl | h
    · exact hids (id, k0) hm
    · exact hids y (hperm.mem_iff.1 (List.mem_of_mem_erase h))
  have hup := up_then HL hrW hil hheap hpos1 (fun y hy => (hids2 y hy).2) (by unfold maxLen; omega) (by omega)
  have hfoot : ∀ j, Foot (.slice (some ⟨g, 0, none⟩) A.length cap) mb j → F j := hF2
  have hfin : ∀ (w' : World) (A' : List (It (Int × Int))) (f' : Int → Option Nat), Mod F w w' → Raw w' hb lf (.slice (some ⟨g, 0, none⟩) A.length cap) mb A' A.length f' → A'.Perm (A.set i (id, k)) → IsHeap lt A' (0, 0, 0) → Pos A' (0, 0, 0) f' →
      HeapTo u w' hb lf lt F ((id, k) :: M.erase (id, k0)) := fun w' A' f' h1 h2 h3 h4 h5 => by
    have hl : A'.length = A.length := by rw [h3.length_eq, List.length_set]
    have hp : A'.Perm ((id, k) :: M.erase (id, k0)) := h3.trans (hcp.trans ((hperm.erase _).cons _))
    exact ⟨F, ⟨_, mb, A', f', by rw [hl]; exact h2, h4, h5, hp, fun x hx => hids2 x (h3.mem_iff.1 (hp.mem_iff.2 hx)), hF1, hF2, fun j hj => Nat.lt_of_lt_of_le (hF3 j hj) h1.size⟩, (Mod.of_below (S := F) hbu).trans h1 (fun _ h _ => h), fun _ h => .inl h⟩
  have hMs : Mod F w W.drew := (hset.mono (fun j hj _ => by rw [hj]; exact hF2 g (.inl rfl))).drew
  have hi0 : (0 : Int) ≤ (i : Int) := by omega
  have hilI : (i : Int) < (A.length : Int) := by omega
  have hgu : ¬ g = u.heap.size := fun e => by have := hltF g (hF2 g (.inl rfl)); omega
  have hgu2 : ¬ u.heap.size = g := fun e => hgu e.symm
  have hgh : ¬ g = hb := hgg.1
  have hgh2 : ¬ hb = g := fun e => hgg.1 e.symm
  have wc1 : W.cell? ⟨hb, 1, none⟩ = some (.slice (some ⟨g, 0, none⟩) A.length cap) := hset.cell hc1 hgh2
  have wc2 : W.cell? ⟨u.heap.size, 0, none⟩ = some (.int .i64 k.1) := hset.cell p0 hgu2
  have wc3 : W.cell? ⟨u.heap.size, 1, none⟩ = some (.int .i64 k.2) := hset.cell p1 hgu2
  have HTh := Lib.hid hth
  have HUp := Lib.hid hup
  have HFin := Lib.hid hfin
  have HFoot := Lib.hid hfoot
  have HIds := Lib.hid hids2
  have HMs := Lib.hid hMs
  clear hth hup hfin hfoot hids2 hMs hids hF1 hF2 hF3 hcp hpos1 hrW hset hgg hyd hf hi hm hwf hperm hpos hheap hraw h0 hbu hltF
  go_enter Try.func103, Try.ntmps103
  go_wp2_with (first | (go_at_call 145; refine HTh.out.mono ?_; rintro e w' ⟨rfl, rfl⟩))
  go_region_held3 (fun A0 => A0.cell? ⟨hb, 1, none⟩ = some (.slice (some ⟨g, 0, none⟩) A.length cap) ∧ A0.cell? ⟨u.heap.size, 0, none⟩ = some (.int .i64 k.1) ∧ A0.cell? ⟨u.heap.size, 1, none⟩ = some (.int .i64 k.2))
    (first | (refine ⟨?_, ?_, ?_⟩ <;> assumption) | go_keep) (first | fail)
  go_wp2_with fail
  refine HUp.out.mono ?_
  rintro e w4 ⟨rfl, A', f', i', hr4, hp4, hpos4, hm4, hi4, hfx4, hxe4, hdn4⟩
  have c4 := hr4.c2
  have hA'l : A'.length = A.length := by rw [hp4.length_eq, List.length_set]
  have hlk : (Instr.lookup 182 (.map (some mb)) (.int .i64 id) false).run Try.prog w4 = .ok (.int .i64 (i' : Int)) w4 := by
    have := hr4.map.toI.lookup (t := 182) (e := 3) Try.underlying3 Try.underlying182 (zero3 w4) (x := id) (HIds.out (id, k) (List.mem_of_getElem? (i := i) (by rw [List.getElem?_set_self hil]))).2
    rw [lift_some hfx4] at this
    exact this
  have hdown := down_any HL hr4 hi4 hdn4 (hpos4.but hi4) (fun y hy => (HIds.out y (hp4.mem_iff.1 hy)).2) (by unfold maxLen; omega) (by omega)
  rw [hxe4, hfx4, show (some i').isSome = true from rfl, if_pos rfl] at hdown
  have HDown := Lib.hid hdown
  have HM4 := Lib.hid (HMs.out.trans hm4 (fun j hj _ => HFoot.out j hj))
  have HP4 := Lib.hid hp4
  clear hr4 hp4 hpos4 hm4 hi4 hfx4 hxe4 hdn4 hdown hA'l
  go_wp2_with (first | (go_at_call 147; refine HDown.out.mono ?_; rintro e w5 ⟨rfl, A5, f5, hr5, hp5, hh5, hpos5, hm5⟩; have HTo := Lib.hid (HFin.out w5 A5 f5 (HM4.out.trans hm5 (fun j hj _ => HFoot.out j hj)) hr5 (hp5.trans HP4.out) hh5 hpos5); clear hr5 hp5 hh5 hpos5 hm5))
  go_ret
  exact ⟨rfl, HTo.out⟩
end
end Go.Proofs.Ytkjpkhpiojahkaa.Ke

/-! ### Heaps of keys, as pieces of memory: one contract for each call. -/
namespace Go.Proofs.Ytkjpkhpiojahkaa.Ke
set_option linter.unusedVariables false
open Go.RowKit Hp

/-- a heap of keys, as a piece of memory -/
def HK (hb lf : Nat) (lt : (Int × Int) → (Int × Int) → Bool) (M : List (It (Int × Int))) : Ast where
  holds w F := HeapAt w hb lf lt F M
  stable := fun h hm hS => h.mod hm hS
  lt := fun h hj => h.lt_F hj

/-- the order that goes the other way -/
def feb (a b : Int × Int) : Bool := bef b a
theorem feb_swo : Swo feb := ⟨fun a => by unfold feb; rw [nbef_iff]; omega, fun a b c h1 h2 => by unfold feb at *; rw [bef_iff] at *; omega, fun a b c h1 h2 => by unfold feb at *; rw [nbef_iff] at *; omega⟩
set_option maxHeartbeats 1000000 in
theorem feb_any (a1 a2 b1 b2 : Int) (w : World) : Calls Try.prog 91 #[.agg #[.int .i64 a1, .int .i64 a2], .agg #[.int .i64 b1, .int .i64 b2]] w fun e w' => e = .returned (.bool (feb (a1, a2) (b1, b2))) ∧ Below w.heap.size w w' := by
  obtain ⟨w1, hw1⟩ : ∃ w1, (w.alloc (.cells #[.int .i64 a1, .int .i64 a2] 24)).alloc (.cells #[.int .i64 b1, .int .i64 b2] 24) = w1 := ⟨_, rfl⟩
  have hb1 : Below w.heap.size w w1 := by rw [← hw1]; exact ((Below.refl _ w).alloc (Nat.le_refl _) _).alloc (by simp) _
  have p0 : w1.cell? ⟨w.heap.size, 0, none⟩ = some (.int .i64 a1) := by rw [← hw1, World.cell?_alloc_past _ _ _ (by simp), World.cell?_alloc_at _ _ _ _ rfl]; rfl
  have p1 : w1.cell? ⟨w.heap.size, 1, none⟩ = some (.int .i64 a2) := by rw [← hw1, World.cell?_alloc_past _ _ _ (by simp), World.cell?_alloc_at _ _ _ _ rfl]; rfl
  have p2 : w1.cell? ⟨w.heap.size + 1, 0, none⟩ = some (.int .i64 b1) := by rw [← hw1, World.cell?_alloc_at _ _ _ _ (by simp)]; rfl
  have p3 : w1.cell? ⟨w.heap.size + 1, 1, none⟩ = some (.int .i64 b2) := by rw [← hw1, World.cell?_alloc_at _ _ _ _ (by simp)]; rfl
  have HC := Lib.hid (before_any b1 b2 a1 a2 w1)
  have HB := Lib.hid hb1
  clear hb1
  go_enter Try.func91, Try.ntmps91
  go_wp2_with fail
  refine HC.out.mono ?_
  rintro e w2 ⟨rfl, hb2⟩
  have HB2 := Lib.hid (HB.out.trans (hb2.mono HB.out.size))
  clear hb2
  go_wp2
  go_ret
  exact ⟨rfl, HB2.out⟩
theorem lessF : LessI 91 feb := ⟨enters_of Try.func91 (by kernel_rfl) rfl, fun x y w => feb_any x.1 x.2 y.1 y.2 w, feb_swo⟩

def putM (S : List (It (Int × Int))) (id : Int) (k : Int × Int) : List (It (Int × Int)) := if id < 0 then S else if has S id then S else (id, k) :: S
def chM (S : List (It (Int × Int))) (id : Int) (k : Int × Int) : List (It (Int × Int)) := if has S id then (id, k) :: without S id else S

section
variable {w0 w : World} {hb lf : Nat} {lt : (Int × Int) → (Int × Int) → Bool} {S : List (It (Int × Int))} {R : Ast} {id : Int} {k : Int × Int}
theorem distinctK (h : On w0 w (sep (HK hb lf lt S) R)) : S.Pairwise fun a b => a.1 ≠ b.1 := by
  obtain ⟨F, hF, _⟩ := h.get1
  exact HeapAt.distinct hF
theorem permK {M' : List (It (Int × Int))} (hp : S.Perm M') (F : Nat → Prop) (h : (HK hb lf lt S).holds w F) : (HK hb lf lt M').holds w F := HeapAt.perm h hp
theorem KU_new (h : On w0 w R) (lf : Nat) (lt : (Int × Int) → (Int × Int) → Bool) : Calls Try.prog 90 #[.func (.func lf) #[] #[]] w fun e w' => ∃ hb, e = .returned (.tuple #[.pointer (some ⟨hb, 0, none⟩), .int .i64 0]) ∧ On w0 w' (sep (HK hb lf lt []) R) :=
  (New_ok lt w).mono fun _ _ ⟨hb, F, he, h1, h2, h3⟩ => ⟨hb, he, h.add (B := HK hb lf lt []) h2 h1 h3⟩
theorem KU_put (HL : LessI lf lt) (h : On w0 w (sep (HK hb lf lt S) R)) (hl : S.length < 900000) (id : Int) (k : Int × Int) (hw : (Lit.int .i64 id).wf = true) :
    Calls Try.prog 139 #[.pointer (some ⟨hb, 0, none⟩), .int .i64 id, .agg #[.int .i64 k.1, .int .i64 k.2]] w fun e w' => e = .returned (.int .i64 (putE S id)) ∧ On w0 w' (sep (HK hb lf lt (putM S id k)) R) := by
  unfold putE putM
  obtain ⟨F, hF, _⟩ := h.get1
  by_cases h0 : id < 0
  · rw [if_pos h0, if_pos h0]
    exact (Put_bad hF hw h0).mono fun e w' ⟨he, hb⟩ => ⟨he, h.below hb⟩
  · rw [if_neg h0, if_neg h0]
    cases hh : has S id with
    | true =>
      obtain ⟨k0, hk⟩ := has_some hh
      rw [if_pos rfl, if_pos rfl]
      exact (Put_there hF hk).mono fun e w' ⟨he, hb⟩ => ⟨he, h.below hb⟩
    | false =>
      rw [if_neg (by simp), if_neg (by simp)]
      exact h.call1 (B := HK hb lf lt ((id, k) :: S)) fun F hF => Put_ok HL hF id k (by omega) hw (has_none.1 hh) (by omega)
theorem KU_change (HL : LessI lf lt) (h : On w0 w (sep (HK hb lf lt S) R)) (hl : S.length < 900000) (id : Int) (k : Int × Int) (hw : (Lit.int .i64 id).wf = true) :
    Calls Try.prog 103 #[.pointer (some ⟨hb, 0, none⟩), .int .i64 id, .agg #[.int .i64 k.1, .int .i64 k.2]] w fun e w' => e = .returned (.int .i64 (hasE S id)) ∧ On w0 w' (sep (HK hb lf lt (chM S id k)) R) := by
  unfold hasE chM
  obtain ⟨F, hF, _⟩ := h.get1
  cases hh : has S id with
  | true =>
    obtain ⟨k0, hk⟩ := has_some hh
    rw [if_pos rfl, if_pos rfl, without_erase (distinctK h) hk]
    exact h.call1 (B := HK hb lf lt ((id, k) :: S.erase (id, k0))) fun F hF => Change_some HL hF hk k (by omega)
  | false =>
    rw [if_neg (by simp), if_neg (by simp)]
    exact (Change_none hF hw (has_none.1 hh)).mono fun e w' ⟨he, hb⟩ => ⟨he, h.below hb⟩
theorem KU_drop (HL : LessI lf lt) (h : On w0 w (sep (HK hb lf lt S) R)) (hl : S.length < 900000) (id : Int) (hw : (Lit.int .i64 id).wf = true) :
    Calls Try.prog 142 #[.pointer (some ⟨hb, 0, none⟩), .int .i64 id] w fun e w' => e = .returned (.tuple #[.agg #[.int .i64 (keyAt (0, 0) S id).1, .int .i64 (keyAt (0, 0) S id).2], .int .i64 (hasE S id)]) ∧ On w0 w' (sep (HK hb lf lt (without S id)) R) := by
  unfold hasE
  obtain ⟨F, hF, _⟩ := h.get1
  cases hh : has S id with
  | true =>
    obtain ⟨k0, hk⟩ := has_some hh
    rw [if_pos rfl, without_erase (distinctK h) hk, keyAt_mem (distinctK h) hk]
    exact h.call1 (B := HK hb lf lt (S.erase (id, k0))) fun F hF => Drop_some HL hF hk (by omega)
  | false =>
    rw [if_neg (by simp), without_none hh, keyAt_none hh]
    exact (Drop_none hF hw (has_none.1 hh)).mono fun e w' ⟨he, hb⟩ => ⟨he, h.below hb⟩
theorem KU_get (h : On w0 w (sep (HK hb lf lt S) R)) (hl : S.length < 900000) (id : Int) (hw : (Lit.int .i64 id).wf = true) :
    Calls Try.prog 101 #[.pointer (some ⟨hb, 0, none⟩), .int .i64 id] w fun e w' => e = .returned (.tuple #[.agg #[.int .i64 (keyAt (0, 0) S id).1, .int .i64 (keyAt (0, 0) S id).2], .int .i64 (hasE S id)]) ∧ Below w.heap.size w w' := by
  unfold hasE
  obtain ⟨F, hF, _⟩ := h.get1
  cases hh : has S id with
  | true =>
    obtain ⟨k0, hk⟩ := has_some hh
    rw [if_pos rfl, keyAt_mem (distinctK h) hk]
    exact Get_some hF hk (by omega)
  | false =>
    rw [if_neg (by simp), keyAt_none hh]
    exact Get_none hF hw (has_none.1 hh)
theorem KU_peek (HL : LessI lf lt) (h : On w0 w (sep (HK hb lf lt S) R)) {T : List (It (Int × Int))} (hp : S.Perm T) (hs : Sorted lt T) :
    Calls Try.prog 100 #[.pointer (some ⟨hb, 0, none⟩)] w fun e w' => e = .returned (.tuple #[.int .i64 (T.headD (0, 0, 0)).1, .agg #[.int .i64 (T.headD (0, 0, 0)).2.1, .int .i64 (T.headD (0, 0, 0)).2.2], .int .i64 (headE T)]) ∧ Below w.heap.size w w' := by
  obtain ⟨F, hF, _⟩ := h.get1
  have hF := HeapAt.perm hF hp
  cases T with
  | nil => exact Peek_none hF
  | cons x T => exact Peek_some HL hF hs
theorem KU_len (h : On w0 w (sep (HK hb lf lt S) R)) :
    Calls Try.prog 99 #[.pointer (some ⟨hb, 0, none⟩)] w fun e w' => e = .returned (.int .i64 (S.length : Int)) ∧ w = w' := by
  obtain ⟨F, hF, _⟩ := h.get1
  exact Len_ok hF
theorem KU_copy (h : On w0 w (sep (HK hb lf lt S) R)) (hl : S.length < 900000) :
    Calls Try.prog 105 #[.pointer (some ⟨hb, 0, none⟩)] w fun e w' => ∃ hc, e = .returned (.pointer (some ⟨hc, 0, none⟩)) ∧ On w0 w' (sep (HK hc lf lt S) (sep (HK hb lf lt S) R)) := by
  obtain ⟨F, hF, _⟩ := h.get1
  refine (Copy_ok hF (by omega)).mono ?_
  rintro e w' ⟨hb', F', he, h1, h2, h3⟩
  exact ⟨hb', he, h.add h2 (B := HK hb' lf lt S) h1 h3⟩
end
end Go.Proofs.Ytkjpkhpiojahkaa.Ke
