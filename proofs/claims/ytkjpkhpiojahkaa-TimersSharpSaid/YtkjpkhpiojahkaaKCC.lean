/-
  Walks: slices.Clone, maps.Clone, Copy.
  Walks: Copy; the iterators taken and All.
-/
import Derived.Test.YtkjpkhpiojahkaaCA
import Derived.Test.YtkjpkhpiojahkaaKHO
import Derived.Test.YtkjpkhpiojahkaaL3
import Derived.Shelf.RegionOpen
import Derived.OwnWalkIn
import Derived.TacticsInMore
import Derived.LoopNIn
import Derived.LoopIn
import Derived.Sort.LoopGhostIn
/-! ### Walks: slices.Clone, maps.Clone, Copy. -/
namespace Go.Proofs.Ytkjpkhpiojahkaa.Ke
set_option linter.unusedVariables false
open Go.RowKit Hp

set_option maxRecDepth 100000 in
set_option maxHeartbeats 1000000 in
theorem clone_items {w : World} {v : Value} {A : List (It (Int × Int))} (h : w.ownsRow 0 191 3 v A.length (A.flatMap itC)) (hA : A.length < 1000000) :
    Calls Try.prog 148 #[v] w fun e w' => ∃ q nn cc, e = .returned (.slice q nn cc) ∧ w'.ownsRow 0 191 3 (.slice q nn cc) A.length (A.flatMap itC) ∧ Below w.heap.size w w' ∧ ∀ j, (Value.slice q nn cc).ownBlock = some j → w.heap.size ≤ j := by
  obtain ⟨i0, hi0, hz0, hz1, hz2⟩ := info_parts2 info125
  have hq1 := eql_slice_nil (P := Try.prog) (t := 183) Try.underlying183 none 0 0
  rcases own_parts h with ⟨rfl, h0⟩ | ⟨g, cap, cur, rfl, _, hg, hlc, hcm, _, _⟩
  · have H0 := Lib.hid h
    clear h
    go_enter Try.func148, Try.ntmps148
    go_wp2
    go_ret
    exact ⟨_, _, _, rfl, H0.out, Below.refl _ _, fun j hj => by simp [Value.ownBlock] at hj⟩
  · have H0 := Lib.hid h
    have hq := eql_slice_nil (P := Try.prog) (t := 183) Try.underlying183 (some ⟨g, 0, none⟩) A.length cap
    clear hq1
    have hone : ∀ u ∈ A.flatMap itC, u.oneCell' = true := by
      intro u hu
      obtain ⟨x, _, hx⟩ := List.mem_flatMap.1 hu
      simp [itC] at hx
      rcases hx with rfl | rfl | rfl <;> rfl
    have hnl := flat_length itC 3 itC_len A
    have hbW : ∀ o, Below w.heap.size w (w.alloc o) := fun o => (Below.refl _ w).alloc (Nat.le_refl _) _
    have hnews : ∀ (o : Obj) (j : Nat) (u : Value), (A.flatMap itC)[j]? = some u → (w.alloc o).cell? ((⟨g, 0, none⟩ : Addr).add j) = some u := fun o j u hu => by
      have ha : (⟨g, 0, none⟩ : Addr).add j = ⟨g, 0 + j, none⟩ := by unfold Addr.add; split <;> simp_all
      rw [ha, Nat.zero_add]
      exact zatB (own_cellG h hu) (hbW o)
    have HNews := Lib.hid hnews
    have HB := Lib.hid hbW
    have hmx : 0 + A.length ≤ maxLen := by unfold maxLen; omega
    have hby : (0 + A.length) * 24 ≤ 140737488355328 := by omega
    clear h hnews hbW hg
    go_enter Try.func148, Try.ntmps148
    have hown0 : (w.alloc (.cells #[] 191)).ownsRow 0 191 3 (.slice (some ⟨w.heap.size, 0, none⟩) 0 0) 0 [] :=
      ⟨by simp, .inr ⟨w.heap.size, 0, #[], rfl, Nat.zero_le _, heap_alloc_new w _, Nat.le_refl _, Nat.zero_le _, by simp, by simp⟩⟩
    have HO0 := Lib.hid hown0
    clear hown0
    go_wp2_with (at_builtin; refine wpList_append_own_at _ rfl _ _ 183 rfl 0 191 i0 (.agg #[.int .i64 0, .int .i64 0, .int .i64 0]) 3 24 Try.underlying183 hi0 hz0 hz1 hz2 rfl (by decide) (.slice (some ⟨w.heap.size, 0, none⟩) 0 0) 0 [] rfl HO0.out ⟨g, 0, none⟩ A.length cap (A.flatMap itC) rfl hnl (HNews.out _) hone hmx hby (Nat.zero_le _) ?_; intro v' w1 hown hgrow _ hat; rw [Nat.zero_add, List.nil_append] at hown; have HOwn := Lib.hid hown; have HGrow := Lib.hid hgrow; have HAt := Lib.hid hat; clear hown hgrow hat)
    go_ret
    have hb1 : Below w.heap.size w w1 := by
      have hg := HGrow.out
      have h0 := HB.out (.cells #[] 191)
      refine ⟨by rw [hg.os, h0.os], by rw [hg.tape, h0.tape], by rw [hg.output, h0.output], Nat.le_trans h0.size hg.size, fun k hk => ?_⟩
      rw [hg.block k (Nat.lt_of_lt_of_le hk h0.size) (by simp [Value.ownBlock]; omega), h0.block k hk]
    obtain ⟨q, nn, cc, rfl⟩ : ∃ q nn cc, v' = .slice q nn cc := by
      rcases own_parts HOwn.out with ⟨h1, _⟩ | ⟨_, _, _, h1, _⟩ <;> exact ⟨_, _, _, h1⟩
    refine ⟨q, nn, cc, rfl, HOwn.out, hb1, fun j hj => ?_⟩
    rcases HAt.out with h1 | h1 <;> rw [h1] at hj <;> simp [Value.ownBlock] at hj <;> omega

end Go.Proofs.Ytkjpkhpiojahkaa.Ke

/-! ### Walks: Copy; the iterators taken and All. -/
namespace Go.Proofs.Ytkjpkhpiojahkaa.Ke
set_option linter.unusedVariables false
open Go.RowKit Hp

section
variable {w : World} {hb lf : Nat} {lt : (Int × Int) → (Int × Int) → Bool} {F : Nat → Prop} {M : List (It (Int × Int))}

set_option maxRecDepth 100000 in
set_option maxHeartbeats 2000000 in
theorem Copy_ok (h : HeapAt w hb lf lt F M) (hM : M.length < 1000000) :
    Calls Try.prog 105 #[.pointer (some ⟨hb, 0, none⟩)] w fun e w' => ∃ hb' F', e = .returned (.pointer (some ⟨hb', 0, none⟩)) ∧ HeapAt w' hb' lf lt F' M ∧ Below w.heap.size w w' ∧ ∀ j, F' j → w.heap.size ≤ j := by
  obtain ⟨v, mb, A, f, hraw, hheap, hpos, hperm, hids, _⟩ := h
  have hAl : A.length < 1000000 := by rw [hperm.length_eq]; exact hM
  have hcl : ∀ A0, Below w.heap.size w A0 → A0.cell? ⟨hb, 0, none⟩ = some (.func (.func lf) #[] #[]) ∧ A0.cell? ⟨hb, 1, none⟩ = some v ∧ A0.cell? ⟨hb, 2, none⟩ = some (.map (some mb)) := fun A0 hA => by
    have := hraw.below hA
    exact ⟨this.c0, this.c1, this.c2⟩
  have hc1 : ∀ A0, Below w.heap.size w A0 → Calls Try.prog 148 #[v] A0 fun e w' => ∃ q nn cc, e = .returned (.slice q nn cc) ∧ w'.ownsRow 0 191 3 (.slice q nn cc) A.length (A.flatMap itC) ∧ Below A0.heap.size A0 w' ∧ ∀ j, (Value.slice q nn cc).ownBlock = some j → A0.heap.size ≤ j := fun A0 hA => clone_items (hraw.below hA).row hAl
  have hc2 : ∀ A0, Below w.heap.size w A0 → Calls Try.prog 149 #[.map (some mb)] A0 fun e w' => e = .returned (.map (some A0.heap.size)) ∧ mapT w' Try.prog 3 A0.heap.size A.length f ∧ Below A0.heap.size A0 w' := fun A0 hA => clone_map (hraw.below hA).map
  obtain ⟨q0, q1, q2⟩ := hcl w (Below.refl _ _)
  have HCl := Lib.hid hcl
  have HC1 := Lib.hid hc1
  have HC2 := Lib.hid hc2
  have HHeap := Lib.hid hheap
  have HPos := Lib.hid hpos
  have HPerm := Lib.hid hperm
  have HIds := Lib.hid hids
  clear hcl hc1 hc2 hheap hpos hperm hids hraw
  go_enter Try.func105, Try.ntmps105
  go_wp2_with fail
  go_region_held3 (fun A0 => A0.cell? ⟨hb, 0, none⟩ = some (.func (.func lf) #[] #[]) ∧ A0.cell? ⟨hb, 1, none⟩ = some v ∧ A0.cell? ⟨hb, 2, none⟩ = some (.map (some mb)))
    (first | assumption | (refine ⟨?_, ?_, ?_⟩ <;> assumption) | go_keep)
    (first
      | (go_at_call 148; refine (HC1.out _ ((Below.refl _ w).drew)).mono ?_; rintro e A1 ⟨q, nn, cc, rfl, hown, hbl, hge⟩; have hB1 : Below w.heap.size w A1 := ((Below.refl _ w).drew).trans hbl; obtain ⟨k0, k1, k2⟩ := HCl.out A1 hB1)
      | (go_at_call 149; refine (HC2.out _ hB1).mono ?_; rintro e A2 ⟨rfl, hmap2, hbl2⟩; have hB2 : Below w.heap.size w A2 := hB1.trans (hbl2.mono hB1.size); obtain ⟨l0, l1, l2⟩ := HCl.out A2 hB2))
  go_wp2
  go_ret
  have hbA : Below A2.heap.size A2 (A2.alloc (.cells #[.func (.func lf) #[] #[], .slice q nn cc, .map (some A1.heap.size)] 185)) := (Below.refl _ A2).alloc (Nat.le_refl _) _
  have hall := hB2.trans (hbA.mono hB2.size)
  refine ⟨_, fun j => w.heap.size ≤ j ∧ j ≤ A2.heap.size, rfl, ⟨.slice q nn cc, A1.heap.size, A, f, ⟨heap_alloc_new A2 _, ?_, ?_⟩, HHeap.out, HPos.out, HPerm.out, HIds.out, ⟨hB2.size, Nat.le_refl _⟩, ?_, ?_⟩, hall, fun j hj => hj.1⟩
  · exact own_same hown fun j o _ ho _ => ((Mod.of_below (S := none') hbl2).trans' ((Mod.of_below hbA))).obj ho (fun h => h)
  · exact hmap2.mod (Mod.of_below (S := none') hbA) (fun h => h)
  · rintro j (hj | rfl)
    · have := own_parts hown
      have h2 := hge j hj
      refine ⟨h2, ?_⟩
      rcases this with ⟨hv, _⟩ | ⟨g, cap, cur, hv, _, hg, _⟩
      · rw [hv] at hj; simp [Value.ownBlock] at hj
      · rw [hv] at hj; simp [Value.ownBlock] at hj; subst hj
        have := lt_of_some hg
        have := hbl2.size
        omega
    · exact ⟨hB1.size, hbl2.size⟩
  · intro j hj
    simp only [World.size_alloc]
    omega
end

theorem HeapAt.keeps {w w' : World} {hb lf : Nat} {lt : (Int × Int) → (Int × Int) → Bool} {F R : Nat → Prop} {M : List (It (Int × Int))} (h : HeapAt w hb lf lt F M) (hk : Keeps R w w') (hR : ∀ j, F j → R j) : HeapAt w' hb lf lt F M := by
  obtain ⟨v, mb, A, f, h1, h2, h3, h4, h5, h6, h7, h8⟩ := h
  exact ⟨v, mb, A, f, ⟨hk.block _ _ h1.st rfl (hR _ h6), own_same h1.row fun j o hj ho hc => hk.block _ _ ho hc (hR _ (h7 j (.inl hj))), h1.map.of_obj fun o ho hc => hk.block _ _ ho hc (hR _ (h7 _ (.inr rfl)))⟩,
    h2, h3, h4, h5, h6, h7, fun j hj => Nat.lt_of_lt_of_le (h8 j hj) hk.size⟩

attribute [local go_sem] Oper.semAt_some

end Go.Proofs.Ytkjpkhpiojahkaa.Ke
