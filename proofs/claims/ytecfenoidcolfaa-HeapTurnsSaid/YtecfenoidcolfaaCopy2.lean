/-
  Walks: Copy; the iterators taken and All.
-/
import Derived.Test.YtecfenoidcolfaaCopy
import Derived.Shelf.RegionOpen
import Derived.OwnWalkIn
import Derived.TacticsInMore
import Derived.LoopNIn
import Derived.LoopIn
import Derived.Sort.LoopGhostIn
namespace Go.Proofs.Ytecfenoidcolfaa
set_option linter.unusedVariables false
open Go.RowKit Hp

section
variable {w : World} {hb lf : Nat} {lt : Int → Int → Bool} {F : Nat → Prop} {M : List (It Int)}

set_option maxRecDepth 100000 in
set_option maxHeartbeats 2000000 in
theorem Copy_ok (h : HeapAt w hb lf lt F M) (hM : M.length < 1000000) :
    Calls Try.prog 36 #[.pointer (some ⟨hb, 0, none⟩)] w fun e w' => ∃ hb' F', e = .returned (.pointer (some ⟨hb', 0, none⟩)) ∧ HeapAt w' hb' lf lt F' M ∧ Below w.heap.size w w' ∧ ∀ j, F' j → w.heap.size ≤ j := by
  obtain ⟨v, mb, A, f, hraw, hheap, hpos, hperm, hids, _⟩ := h
  have hAl : A.length < 1000000 := by rw [hperm.length_eq]; exact hM
  have hcl : ∀ A0, Below w.heap.size w A0 → A0.cell? ⟨hb, 0, none⟩ = some (.func (.func lf) #[] #[]) ∧ A0.cell? ⟨hb, 1, none⟩ = some v ∧ A0.cell? ⟨hb, 2, none⟩ = some (.map (some mb)) := fun A0 hA => by
    have := hraw.below hA
    exact ⟨this.c0, this.c1, this.c2⟩
  have hc1 : ∀ A0, Below w.heap.size w A0 → Calls Try.prog 87 #[v] A0 fun e w' => ∃ q nn cc, e = .returned (.slice q nn cc) ∧ w'.ownsRow 0 119 2 (.slice q nn cc) A.length (A.flatMap itC) ∧ Below A0.heap.size A0 w' ∧ ∀ j, (Value.slice q nn cc).ownBlock = some j → A0.heap.size ≤ j := fun A0 hA => clone_items (hraw.below hA).row hAl
  have hc2 : ∀ A0, Below w.heap.size w A0 → Calls Try.prog 88 #[.map (some mb)] A0 fun e w' => e = .returned (.map (some A0.heap.size)) ∧ mapT w' Try.prog 3 A0.heap.size A.length f ∧ Below A0.heap.size A0 w' := fun A0 hA => clone_map (hraw.below hA).map
  obtain ⟨q0, q1, q2⟩ := hcl w (Below.refl _ _)
  have HCl := Lib.hid hcl
  have HC1 := Lib.hid hc1
  have HC2 := Lib.hid hc2
  have HHeap := Lib.hid hheap
  have HPos := Lib.hid hpos
  have HPerm := Lib.hid hperm
  have HIds := Lib.hid hids
  clear hcl hc1 hc2 hheap hpos hperm hids hraw
  go_enter Try.func36, Try.ntmps36
  go_wp2_with fail
  go_region_held3 (fun A0 => A0.cell? ⟨hb, 0, none⟩ = some (.func (.func lf) #[] #[]) ∧ A0.cell? ⟨hb, 1, none⟩ = some v ∧ A0.cell? ⟨hb, 2, none⟩ = some (.map (some mb)))
    (first | assumption | (refine ⟨?_, ?_, ?_⟩ <;> assumption) | go_keep)
    (first
      | (go_at_call 87; refine (HC1.out _ ((Below.refl _ w).drew)).mono ?_; rintro e A1 ⟨q, nn, cc, rfl, hown, hbl, hge⟩; have hB1 : Below w.heap.size w A1 := ((Below.refl _ w).drew).trans hbl; obtain ⟨k0, k1, k2⟩ := HCl.out A1 hB1)
      | (go_at_call 88; refine (HC2.out _ hB1).mono ?_; rintro e A2 ⟨rfl, hmap2, hbl2⟩; have hB2 : Below w.heap.size w A2 := hB1.trans (hbl2.mono hB1.size); obtain ⟨l0, l1, l2⟩ := HCl.out A2 hB2))
  go_wp2
  go_ret
  have hbA : Below A2.heap.size A2 (A2.alloc (.cells #[.func (.func lf) #[] #[], .slice q nn cc, .map (some A1.heap.size)] 117)) := (Below.refl _ A2).alloc (Nat.le_refl _) _
  have hall := hB2.trans (hbA.mono hB2.size)
  refine ⟨_, fun j => w.heap.size ≤ j ∧ j ≤ A2.heap.size, rfl, ⟨.slice q nn cc, A1.heap.size, A, f, ⟨heap_alloc_new A2 _, ?_, ?_⟩, HHeap.out, HPos.out, HPerm.out, HIds.out, ⟨hB2.size, Nat.le_refl _⟩, ?_, ?_⟩, hall, fun j hj => hj.1⟩
  · exact own_same hown fun j o _ ho _ => ((Mod.of_below (S := none') hbl2).trans' ((Mod.of_below hbA))).obj ho (fun h => h)
  · exact hmap2.mod (Mod.of_below (S := none') hbA) (fun h => h)
  · rintro j (hj | rfl)
    · have := own_parts hown
      have h2 := hge j hj
      refine ⟨h2, ?_⟩
      rcases this with ⟨hv, _⟩ | ⟨g, cap, cur, hv, _, hg, _⟩
      · rw [hv] at hj; simp [Value.ownBlock] at hj
      · rw [hv] at hj; simp [Value.ownBlock] at hj; subst hj
        have := lt_of_some hg
        have := hbl2.size
        omega
    · exact ⟨hB1.size, hbl2.size⟩
  · intro j hj
    simp only [World.size_alloc]
    omega
end

theorem HeapAt.keeps {w w' : World} {hb lf : Nat} {lt : Int → Int → Bool} {F R : Nat → Prop} {M : List (It Int)} (h : HeapAt w hb lf lt F M) (hk : Keeps R w w') (hR : ∀ j, F j → R j) : HeapAt w' hb lf lt F M := by
  obtain ⟨v, mb, A, f, h1, h2, h3, h4, h5, h6, h7, h8⟩ := h
  exact ⟨v, mb, A, f, ⟨hk.block _ _ h1.st rfl (hR _ h6), own_same h1.row fun j o hj ho hc => hk.block _ _ ho hc (hR _ (h7 j (.inl hj))), h1.map.of_obj fun o ho hc => hk.block _ _ ho hc (hR _ (h7 _ (.inr rfl)))⟩,
    h2, h3, h4, h5, h6, h7, fun j hj => Nat.lt_of_lt_of_le (h8 j hj) hk.size⟩

attribute [local go_sem] Oper.semAt_some

set_option maxRecDepth 100000 in
set_option maxHeartbeats 4000000 in
theorem taken_iter {lf : Nat} {lt : Int → Int → Bool} (HL : LessI lf lt) (n : Nat) (B hb : Nat) (F : Nat → Prop) (S : List (It Int)) (w : World) (hbox : w.cell? ⟨B, 0, none⟩ = some (.pointer (some ⟨hb, 0, none⟩)))
    (h : HeapAt w hb lf lt F S) (hs : Sorted lt S) (hl : S.length < 999999) (hBF : ¬ F B) :
    Iter Fence.wide n Try.prog 107 #[.pointer (some ⟨B, 0, none⟩)] (fun (x : It Int) => #[.agg #[.int .i64 x.1, .int .i64 x.2]]) (fun j => F j ∨ j = B) F S w := by
  intro l J Jx W hk hsz hJ hJx hY h0
  have c1 := hk.cell hbox (.inr rfl)
  have hW := h.keeps hk (fun j hj => .inl hj)
  have HJ := Lib.hid hJ
  have HJx := Lib.hid hJx
  have HY := Lib.hid hY
  have HS := Lib.hid hs
  -- the next one is taken
  have htake : ∀ (R : List (It Int)) (A : World), (∃ pre, S = pre ++ R) → HeapAt A hb lf lt F R →
      Calls Try.prog 23 #[.pointer (some ⟨hb, 0, none⟩)] A fun e A' => ∃ id k g, e = .returned (.tuple #[.int .i64 id, .int .i64 k, .int .i64 g]) ∧ Mod F A A' ∧
        ((R = [] ∧ g = 14 ∧ HeapAt A' hb lf lt F []) ∨ ∃ R', R = (id, k) :: R' ∧ g = 0 ∧ HeapAt A' hb lf lt F R') := fun R A ⟨pre, hp⟩ hA => by
    have hsR : Sorted lt R := by rw [hp] at hs; exact (List.pairwise_append.1 hs).2.1
    have hlR : R.length < 999999 := by rw [hp, List.length_append] at hl; omega
    match R with
    | [] => exact (Take_none hA).mono fun e A' ⟨he, hb⟩ => ⟨0, 0, 14, he, Mod.of_below hb, .inl ⟨rfl, rfl, hA.below hb⟩⟩
    | (id, k) :: R' => exact (Take_same HL hA hsR (by simp at hlR; omega)).mono fun e A' ⟨he, h1, h2⟩ => ⟨id, k, 0, he, h2, .inr ⟨R', rfl, rfl, h1⟩⟩
  have HT := Lib.hid htake
  clear hJ hJx hY hs htake h hbox
  refine callsIn_of_wp Try.func107 rfl trivial ?_ rfl
  simp only [Try.ntmps107, List.size_toArray, List.length_cons, List.length_nil, Nat.reduceAdd, Nat.reduceSub, Array.replicate_succ, Array.replicate_zero, List.push_toArray, List.append_toArray, List.nil_append, List.cons_append]
  gi_wp2_with (refine ⟨trivial, fun h => (by cases h), ?_⟩; gi_at_call 23; refine (callsIn_wide.2 (HT.out S W ⟨[], rfl⟩ hW)).mono ?_; rintro e w1 ⟨id, k, g, rfl, hm1, hcase⟩)
  have HMk := Lib.hid (hm1.keeps (R := fun j => j = B) (fun j hj _ hF => hBF (by rw [← hj]; exact hF)))
  have c2 := HMk.out.cell c1 rfl
  have HC := Lib.hid hcase
  have HJ0 := Lib.hid (HJ.out _ _ _ h0 (hm1.mv _))
  clear hm1 hcase
  gi_loopg [3, 4, 5] (S.length + 1) (fun m s3 s4 s5 wr => ∃ (pre : List (It Int)) (x1 x2 g : Int), s3 = .int .i64 x1 ∧ s4 = .int .i64 x2 ∧ s5 = .int .i64 g ∧ J pre wr ∧ wr.cell? ⟨B, 0, none⟩ = some (.pointer (some ⟨hb, 0, none⟩)) ∧
    ((g = 14 ∧ S = pre) ∨ ∃ R', g = 0 ∧ S = pre ++ (x1, x2) :: R' ∧ HeapAt wr hb lf lt F R' ∧ R'.length + 1 ≤ m))
  case atStart =>
    refine ⟨[], id, k, g, rfl, rfl, rfl, HJ0.out, c2, ?_⟩
    rcases HC.out with ⟨h1, h2, h3⟩ | ⟨R', h1, h2, h3⟩
    · exact .inl ⟨h2, h1⟩
    · exact .inr ⟨R', h2, h1, h3, by rw [h1]; simp⟩
  case round =>
    obtain ⟨pre, x1, x2, g', rfl, rfl, rfl, hj, hcb, hcs⟩ := hrel
    rcases hcs with ⟨rfl, hSp⟩ | ⟨R', rfl, hSp, hA, hm⟩
    · have HSp := Lib.hid hSp
      clear hSp
      gi_wp2
      all_goals refine ⟨fun _ h => (by cases h), ?_⟩
      all_goals gi_wp2
      all_goals go_end0
      all_goals refine ⟨⟨_, rfl⟩, .inl ?_⟩
      all_goals rw [HSp.out]
      all_goals exact hj
    · have hpre : pre ++ [(x1, x2)] <+: S := by rw [hSp]; exact ⟨R', by simp⟩
      obtain ⟨fn, tmps, assign, body, hy, hR⟩ := HY.out pre (x1, x2) wr hj hpre
      have HR' := Lib.hid hR
      have HSp := Lib.hid hSp
      have HA := Lib.hid hA
      clear hR hSp hA
      gi_wp2
      refine ⟨fun h => (by cases h), HR'.out.mono ?_⟩
      rintro e W3 (⟨rfl, hJ3, hk3, _⟩ | ⟨rfl, hJx3, _, _⟩)
      · have c3 := hk3.cell hcb (.inr rfl)
        have hA3 := HA.out.keeps hk3 (fun j hj => .inl hj)
        have HT3 := Lib.hid (HT.out R' W3 ⟨pre ++ [(x1, x2)], by rw [HSp.out]; simp⟩ hA3)
        have HJ3 := Lib.hid hJ3
        have hsz3 := hk3.size
        clear hk3 hA3 hJ3
        gi_wp2_with (refine ⟨trivial, fun h => (by cases h), ?_⟩; gi_at_call 23; refine (callsIn_wide.2 HT3.out).mono ?_; rintro e w4 ⟨id4, k4, g4, rfl, hm4, hcase4⟩)
        have c4 := (hm4.keeps (R := fun j => j = B) (fun j hj _ hF => hBF (by rw [← hj]; exact hF))).cell c3 rfl
        gi_roundg (gk - 1)
        case measure => omega
        case rel =>
          refine ⟨pre ++ [(x1, x2)], id4, k4, g4, rfl, rfl, rfl, HJ.out _ _ _ HJ3.out (hm4.mv _), c4, ?_⟩
          rcases hcase4 with ⟨h1, h2, _⟩ | ⟨R4, h1, h2, h3⟩
          · exact .inl ⟨h2, by rw [HSp.out, h1]⟩
          · refine .inr ⟨R4, h2, by rw [HSp.out, h1]; simp, h3, ?_⟩
            rw [h1] at hm; simp at hm; omega
      · gi_wp2
        go_end0
        exact ⟨⟨_, rfl⟩, .inr ⟨pre ++ [(x1, x2)], hpre, hJx3⟩⟩
end Go.Proofs.Ytecfenoidcolfaa
