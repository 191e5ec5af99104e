/-
  Walks: slices.Clone, maps.Clone, Copy.
  Walks: Copy; the iterators taken and All.
  Walks: All and its iterator.
-/
import Derived.Test.YtecfenoidcolfaaAwake
import Derived.Shelf.SlMaps.Clone
import Derived.Shelf.RegionOpen
import Derived.OwnWalkIn
import Derived.TacticsInMore
import Derived.LoopNIn
import Derived.LoopIn
import Derived.Sort.LoopGhostIn
/-! ### Walks: slices.Clone, maps.Clone, Copy. -/
namespace Go.Proofs.Ytecfenoidcolfaa
set_option linter.unusedVariables false
open Go.RowKit Hp

theorem eql_slice_nil {P : Program} {t e : TypeId} (h : P.underlying t = some (.slice e)) (a : Option Addr) (l c : Nat) (w : World) : (binOp .eql t (.slice a l c) (.slice none 0 0)).run P w = .ok (.bool a.isNone) w := by
  have h1 : ∀ d : Nat, (Op.equalIn (d + 1) t (.slice a l c) (.slice none 0 0)).run P w = .ok a.isNone w := fun d => by
    cases a <;> simp [Op.equalIn, run_underlying h]
  simp only [binOp]
  simp [Op.equal, Op.maxDepth, h1 9999]

set_option maxRecDepth 100000 in
set_option maxHeartbeats 1000000 in
theorem clone_items {w : World} {v : Value} {A : List (It Int)} (h : w.ownsRow 0 119 2 v A.length (A.flatMap itC)) (hA : A.length < 1000000) :
    Calls Try.prog 87 #[v] w fun e w' => ∃ q nn cc, e = .returned (.slice q nn cc) ∧ w'.ownsRow 0 119 2 (.slice q nn cc) A.length (A.flatMap itC) ∧ Below w.heap.size w w' ∧ ∀ j, (Value.slice q nn cc).ownBlock = some j → w.heap.size ≤ j := by
  obtain ⟨i0, hi0, hz0, hz1, hz2⟩ := info_parts2 Try.info119
  have hq1 := eql_slice_nil (P := Try.prog) (t := 115) Try.underlying115 none 0 0
  rcases own_parts h with ⟨rfl, h0⟩ | ⟨g, cap, cur, rfl, _, hg, hlc, hcm, _, _⟩
  · have H0 := Lib.hid h
    clear h
    go_enter Try.func87, Try.ntmps87
    go_wp2
    go_ret
    exact ⟨_, _, _, rfl, H0.out, Below.refl _ _, fun j hj => by simp [Value.ownBlock] at hj⟩
  · have H0 := Lib.hid h
    have hq := eql_slice_nil (P := Try.prog) (t := 115) Try.underlying115 (some ⟨g, 0, none⟩) A.length cap
    clear hq1
    have hone : ∀ u ∈ A.flatMap itC, u.oneCell' = true := by
      intro u hu
      obtain ⟨x, _, hx⟩ := List.mem_flatMap.1 hu
      simp [itC] at hx
      rcases hx with rfl | rfl <;> rfl
    have hnl := flat_length itC 2 itC_len A
    have hbW : ∀ o, Below w.heap.size w (w.alloc o) := fun o => (Below.refl _ w).alloc (Nat.le_refl _) _
    have hnews : ∀ (o : Obj) (j : Nat) (u : Value), (A.flatMap itC)[j]? = some u → (w.alloc o).cell? ((⟨g, 0, none⟩ : Addr).add j) = some u := fun o j u hu => by
      have ha : (⟨g, 0, none⟩ : Addr).add j = ⟨g, 0 + j, none⟩ := by unfold Addr.add; split <;> simp_all
      rw [ha, Nat.zero_add]
      exact zatB (own_cellG h hu) (hbW o)
    have HNews := Lib.hid hnews
    have HB := Lib.hid hbW
    have hmx : 0 + A.length ≤ maxLen := by unfold maxLen; omega
    have hby : (0 + A.length) * 16 ≤ 140737488355328 := by omega
    clear h hnews hbW hg
    go_enter Try.func87, Try.ntmps87
    have hown0 : (w.alloc (.cells #[] 119)).ownsRow 0 119 2 (.slice (some ⟨w.heap.size, 0, none⟩) 0 0) 0 [] :=
      ⟨by simp, .inr ⟨w.heap.size, 0, #[], rfl, Nat.zero_le _, heap_alloc_new w _, Nat.le_refl _, Nat.zero_le _, by simp, by simp⟩⟩
    have HO0 := Lib.hid hown0
    clear hown0
    go_wp2_with (at_builtin; refine wpList_append_own_at _ rfl _ _ 115 rfl 0 119 i0 (.agg #[.int .i64 0, .int .i64 0]) 2 16 Try.underlying115 hi0 hz0 hz1 hz2 rfl (by decide) (.slice (some ⟨w.heap.size, 0, none⟩) 0 0) 0 [] rfl HO0.out ⟨g, 0, none⟩ A.length cap (A.flatMap itC) rfl hnl (HNews.out _) hone hmx hby (Nat.zero_le _) ?_; intro v' w1 hown hgrow _ hat; rw [Nat.zero_add, List.nil_append] at hown; have HOwn := Lib.hid hown; have HGrow := Lib.hid hgrow; have HAt := Lib.hid hat; clear hown hgrow hat)
    go_ret
    have hb1 : Below w.heap.size w w1 := by
      have hg := HGrow.out
      have h0 := HB.out (.cells #[] 119)
      refine ⟨by rw [hg.os, h0.os], by rw [hg.tape, h0.tape], by rw [hg.output, h0.output], Nat.le_trans h0.size hg.size, fun k hk => ?_⟩
      rw [hg.block k (Nat.lt_of_lt_of_le hk h0.size) (by simp [Value.ownBlock]; omega), h0.block k hk]
    obtain ⟨q, nn, cc, rfl⟩ : ∃ q nn cc, v' = .slice q nn cc := by
      rcases own_parts HOwn.out with ⟨h1, _⟩ | ⟨_, _, _, h1, _⟩ <;> exact ⟨_, _, _, h1⟩
    refine ⟨q, nn, cc, rfl, HOwn.out, hb1, fun j hj => ?_⟩
    rcases HAt.out with h1 | h1 <;> rw [h1] at hj <;> simp [Value.ownBlock] at hj <;> omega

set_option maxRecDepth 100000 in
set_option maxHeartbeats 1000000 in
theorem clone_map {w : World} {b n : Nat} {f : Int → Option Nat} (h : mapT w Try.prog 3 b n f) :
    Calls Try.prog 88 #[.map (some b)] w fun e w' => e = .returned (.map (some w.heap.size)) ∧ mapT w' Try.prog 3 w.heap.size n f ∧ Below w.heap.size w w' := by
  obtain ⟨D, ⟨es, clock, hb, r1⟩, r2⟩ := h
  have hq := fun w => run_eql_map_nil_sl (P := Try.prog) w 114 _ _ (some b) Try.underlying114
  go_enter Try.func88, Try.ntmps88
  go_wp2
  rw [run_callFunc_extern Try.func109 (by kernel_rfl) (by kernel_rfl) (by kernel_rfl) (e := Extern.MapsClone.clone) (by kernel_rfl), run_maps_clone_sl w 114 hb]
  simp only [Result.andThen]
  rw [Oper.upon_value]
  go_wp2
  rw [run_typeAssert_map_sl _ 114 20 _ _ _ Try.underlying114]
  simp only [Result.andThen]
  rw [Oper.upon_value]
  go_wp2
  go_ret
  exact ⟨rfl, ⟨D, ⟨es, clock, heap_alloc_new w _, r1⟩, r2⟩, (Below.refl _ w).alloc (Nat.le_refl _) _⟩
end Go.Proofs.Ytecfenoidcolfaa

/-! ### Walks: Copy; the iterators taken and All. -/
namespace Go.Proofs.Ytecfenoidcolfaa
set_option linter.unusedVariables false
open Go.RowKit Hp

section
variable {w : World} {hb lf : Nat} {lt : Int → Int → Bool} {F : Nat → Prop} {M : List (It Int)}

set_option maxRecDepth 100000 in
set_option maxHeartbeats 2000000 in
theorem Copy_ok (h : HeapAt w hb lf lt F M) (hM : M.length < 1000000) :
    Calls Try.prog 36 #[.pointer (some ⟨hb, 0, none⟩)] w fun e w' => ∃ hb' F', e = .returned (.pointer (some ⟨hb', 0, none⟩)) ∧ HeapAt w' hb' lf lt F' M ∧ Below w.heap.size w w' ∧ ∀ j, F' j → w.heap.size ≤ j := by
  obtain ⟨v, mb, A, f, hraw, hheap, hpos, hperm, hids, _⟩ := h
  have hAl : A.length < 1000000 := by rw [hperm.length_eq]; exact hM
  have hcl : ∀ A0, Below w.heap.size w A0 → A0.cell? ⟨hb, 0, none⟩ = some (.func (.func lf) #[] #[]) ∧ A0.cell? ⟨hb, 1, none⟩ = some v ∧ A0.cell? ⟨hb, 2, none⟩ = some (.map (some mb)) := fun A0 hA => by
    have := hraw.below hA
    exact ⟨this.c0, this.c1, this.c2⟩
  have hc1 : ∀ A0, Below w.heap.size w A0 → Calls Try.prog 87 #[v] A0 fun e w' => ∃ q nn cc, e = .returned (.slice q nn cc) ∧ w'.ownsRow 0 119 2 (.slice q nn cc) A.length (A.flatMap itC) ∧ Below A0.heap.size A0 w' ∧ ∀ j, (Value.slice q nn cc).ownBlock = some j → A0.heap.size ≤ j := fun A0 hA => clone_items (hraw.below hA).row hAl
  have hc2 : ∀ A0, Below w.heap.size w A0 → Calls Try.prog 88 #[.map (some mb)] A0 fun e w' => e = .returned (.map (some A0.heap.size)) ∧ mapT w' Try.prog 3 A0.heap.size A.length f ∧ Below A0.heap.size A0 w' := fun A0 hA => clone_map (hraw.below hA).map
  obtain ⟨q0, q1, q2⟩ := hcl w (Below.refl _ _)
  have HCl := Lib.hid hcl
  have HC1 := Lib.hid hc1
  have HC2 := Lib.hid hc2
  have HHeap := Lib.hid hheap
  have HPos := Lib.hid hpos
  have HPerm := Lib.hid hperm
  have HIds := Lib.hid hids
  clear hcl hc1 hc2 hheap hpos hperm hids hraw
  go_enter Try.func36, Try.ntmps36
  go_wp2_with fail
  go_region_held3 (fun A0 => A0.cell? ⟨hb, 0, none⟩ = some (.func (.func lf) #[] #[]) ∧ A0.cell? ⟨hb, 1, none⟩ = some v ∧ A0.cell? ⟨hb, 2, none⟩ = some (.map (some mb)))
    (first | assumption | (refine ⟨?_, ?_, ?_⟩ <;> assumption) | go_keep)
    (first
      | (go_at_call 87; refine (HC1.out _ ((Below.refl _ w).drew)).mono ?_; rintro e A1 ⟨q, nn, cc, rfl, hown, hbl, hge⟩; have hB1 : Below w.heap.size w A1 := ((Below.refl _ w).drew).trans hbl; obtain ⟨k0, k1, k2⟩ := HCl.out A1 hB1)
      | (go_at_call 88; refine (HC2.out _ hB1).mono ?_; rintro e A2 ⟨rfl, hmap2, hbl2⟩; have hB2 : Below w.heap.size w A2 := hB1.trans (hbl2.mono hB1.size); obtain ⟨l0, l1, l2⟩ := HCl.out A2 hB2))
  go_wp2
  go_ret
  have hbA : Below A2.heap.size A2 (A2.alloc (.cells #[.func (.func lf) #[] #[], .slice q nn cc, .map (some A1.heap.size)] 117)) := (Below.refl _ A2).alloc (Nat.le_refl _) _
  have hall := hB2.trans (hbA.mono hB2.size)
  refine ⟨_, fun j => w.heap.size ≤ j ∧ j ≤ A2.heap.size, rfl, ⟨.slice q nn cc, A1.heap.size, A, f, ⟨heap_alloc_new A2 _, ?_, ?_⟩, HHeap.out, HPos.out, HPerm.out, HIds.out, ⟨hB2.size, Nat.le_refl _⟩, ?_, ?_⟩, hall, fun j hj => hj.1⟩
  · exact own_same hown fun j o _ ho _ => ((Mod.of_below (S := none') hbl2).trans' ((Mod.of_below hbA))).obj ho (fun h => h)
  · exact hmap2.mod (Mod.of_below (S := none') hbA) (fun h => h)
  · rintro j (hj | rfl)
    · have := own_parts hown
      have h2 := hge j hj
      refine ⟨h2, ?_⟩
      rcases this with ⟨hv, _⟩ | ⟨g, cap, cur, hv, _, hg, _⟩
      · rw [hv] at hj; simp [Value.ownBlock] at hj
      · rw [hv] at hj; simp [Value.ownBlock] at hj; subst hj
        have := lt_of_some hg
        have := hbl2.size
        omega
    · exact ⟨hB1.size, hbl2.size⟩
  · intro j hj
    simp only [World.size_alloc]
    omega
end

theorem HeapAt.keeps {w w' : World} {hb lf : Nat} {lt : Int → Int → Bool} {F R : Nat → Prop} {M : List (It Int)} (h : HeapAt w hb lf lt F M) (hk : Keeps R w w') (hR : ∀ j, F j → R j) : HeapAt w' hb lf lt F M := by
  obtain ⟨v, mb, A, f, h1, h2, h3, h4, h5, h6, h7, h8⟩ := h
  exact ⟨v, mb, A, f, ⟨hk.block _ _ h1.st rfl (hR _ h6), own_same h1.row fun j o hj ho hc => hk.block _ _ ho hc (hR _ (h7 j (.inl hj))), h1.map.of_obj fun o ho hc => hk.block _ _ ho hc (hR _ (h7 _ (.inr rfl)))⟩,
    h2, h3, h4, h5, h6, h7, fun j hj => Nat.lt_of_lt_of_le (h8 j hj) hk.size⟩

attribute [local go_sem] Oper.semAt_some

set_option maxRecDepth 100000 in
set_option maxHeartbeats 4000000 in
theorem taken_iter {lf : Nat} {lt : Int → Int → Bool} (HL : LessI lf lt) (n : Nat) (B hb : Nat) (F : Nat → Prop) (S : List (It Int)) (w : World) (hbox : w.cell? ⟨B, 0, none⟩ = some (.pointer (some ⟨hb, 0, none⟩)))
    (h : HeapAt w hb lf lt F S) (hs : Sorted lt S) (hl : S.length < 999999) (hBF : ¬ F B) :
    Iter Fence.wide n Try.prog 107 #[.pointer (some ⟨B, 0, none⟩)] (fun (x : It Int) => #[.agg #[.int .i64 x.1, .int .i64 x.2]]) (fun j => F j ∨ j = B) F S w := by
  intro l J Jx W hk hsz hJ hJx hY h0
  have c1 := hk.cell hbox (.inr rfl)
  have hW := h.keeps hk (fun j hj => .inl hj)
  have HJ := Lib.hid hJ
  have HJx := Lib.hid hJx
  have HY := Lib.hid hY
  have HS := Lib.hid hs
  -- the next one is taken
  have htake : ∀ (R : List (It Int)) (A : World), (∃ pre, S = pre ++ R) → HeapAt A hb lf lt F R →
      Calls Try.prog 23 #[.pointer (some ⟨hb, 0, none⟩)] A fun e A' => ∃ id k g, e = .returned (.tuple #[.int .i64 id, .int .i64 k, .int .i64 g]) ∧ Mod F A A' ∧
        ((R = [] ∧ g = 14 ∧ HeapAt A' hb lf lt F []) ∨ ∃ R', R = (id, k) :: R' ∧ g = 0 ∧ HeapAt A' hb lf lt F R') := fun R A ⟨pre, hp⟩ hA => by
    have hsR : Sorted lt R := by rw [hp] at hs; exact (List.pairwise_append.1 hs).2.1
    have hlR : R.length < 999999 := by rw [hp, List.length_append] at hl; omega
    match R with
    | [] => exact (Take_none hA).mono fun e A' ⟨he, hb⟩ => ⟨0, 0, 14, he, Mod.of_below hb, .inl ⟨rfl, rfl, hA.below hb⟩⟩
    | (id, k) :: R' => exact (Take_same HL hA hsR (by simp at hlR; omega)).mono fun e A' ⟨he, h1, h2⟩ => ⟨id, k, 0, he, h2, .inr ⟨R', rfl, rfl, h1⟩⟩
  have HT := Lib.hid htake
  clear hJ hJx hY hs htake h hbox
  refine callsIn_of_wp Try.func107 rfl trivial ?_ rfl
  simp only [Try.ntmps107, List.size_toArray, List.length_cons, List.length_nil, Nat.reduceAdd, Nat.reduceSub, Array.replicate_succ, Array.replicate_zero, List.push_toArray, List.append_toArray, List.nil_append, List.cons_append]
  gi_wp2_with (refine ⟨trivial, fun h => (by cases h), ?_⟩; gi_at_call 23; refine (callsIn_wide.2 (HT.out S W ⟨[], rfl⟩ hW)).mono ?_; rintro e w1 ⟨id, k, g, rfl, hm1, hcase⟩)
  have HMk := Lib.hid (hm1.keeps (R := fun j => j = B) (fun j hj _ hF => hBF (by rw [← hj]; exact hF)))
  have c2 := HMk.out.cell c1 rfl
  have HC := Lib.hid hcase
  have HJ0 := Lib.hid (HJ.out _ _ _ h0 (hm1.mv _))
  clear hm1 hcase
  gi_loopg [3, 4, 5] (S.length + 1) (fun m s3 s4 s5 wr => ∃ (pre : List (It Int)) (x1 x2 g : Int), s3 = .int .i64 x1 ∧ s4 = .int .i64 x2 ∧ s5 = .int .i64 g ∧ J pre wr ∧ wr.cell? ⟨B, 0, none⟩ = some (.pointer (some ⟨hb, 0, none⟩)) ∧
    ((g = 14 ∧ S = pre) ∨ ∃ R', g = 0 ∧ S = pre ++ (x1, x2) :: R' ∧ HeapAt wr hb lf lt F R' ∧ R'.length + 1 ≤ m))
  case atStart =>
    refine ⟨[], id, k, g, rfl, rfl, rfl, HJ0.out, c2, ?_⟩
    rcases HC.out with ⟨h1, h2, h3⟩ | ⟨R', h1, h2, h3⟩
    · exact .inl ⟨h2, h1⟩
    · exact .inr ⟨R', h2, h1, h3, by rw [h1]; simp⟩
  case round =>
    obtain ⟨pre, x1, x2, g', rfl, rfl, rfl, hj, hcb, hcs⟩ := hrel
    rcases hcs with ⟨rfl, hSp⟩ | ⟨R', rfl, hSp, hA, hm⟩
    · have HSp := Lib.hid hSp
      clear hSp
      gi_wp2
      all_goals refine ⟨fun _ h => (by cases h), ?_⟩
      all_goals gi_wp2
      all_goals go_end0
      all_goals refine ⟨⟨_, rfl⟩, .inl ?_⟩
      all_goals rw [HSp.out]
      all_goals exact hj
    · have hpre : pre ++ [(x1, x2)] <+: S := by rw [hSp]; exact ⟨R', by simp⟩
      obtain ⟨fn, tmps, assign, body, hy, hR⟩ := HY.out pre (x1, x2) wr hj hpre
      have HR' := Lib.hid hR
      have HSp := Lib.hid hSp
      have HA := Lib.hid hA
      clear hR hSp hA
      gi_wp2
      refine ⟨fun h => (by cases h), HR'.out.mono ?_⟩
      rintro e W3 (⟨rfl, hJ3, hk3, _⟩ | ⟨rfl, hJx3, _, _⟩)
      · have c3 := hk3.cell hcb (.inr rfl)
        have hA3 := HA.out.keeps hk3 (fun j hj => .inl hj)
        have HT3 := Lib.hid (HT.out R' W3 ⟨pre ++ [(x1, x2)], by rw [HSp.out]; simp⟩ hA3)
        have HJ3 := Lib.hid hJ3
        have hsz3 := hk3.size
        clear hk3 hA3 hJ3
        gi_wp2_with (refine ⟨trivial, fun h => (by cases h), ?_⟩; gi_at_call 23; refine (callsIn_wide.2 HT3.out).mono ?_; rintro e w4 ⟨id4, k4, g4, rfl, hm4, hcase4⟩)
        have c4 := (hm4.keeps (R := fun j => j = B) (fun j hj _ hF => hBF (by rw [← hj]; exact hF))).cell c3 rfl
        gi_roundg (gk - 1)
        case measure => omega
        case rel =>
          refine ⟨pre ++ [(x1, x2)], id4, k4, g4, rfl, rfl, rfl, HJ.out _ _ _ HJ3.out (hm4.mv _), c4, ?_⟩
          rcases hcase4 with ⟨h1, h2, _⟩ | ⟨R4, h1, h2, h3⟩
          · exact .inl ⟨h2, by rw [HSp.out, h1]⟩
          · refine .inr ⟨R4, h2, by rw [HSp.out, h1]; simp, h3, ?_⟩
            rw [h1] at hm; simp at hm; omega
      · gi_wp2
        go_end0
        exact ⟨⟨_, rfl⟩, .inr ⟨pre ++ [(x1, x2)], hpre, hJx3⟩⟩
end Go.Proofs.Ytecfenoidcolfaa

/-! ### Walks: All and its iterator. -/
namespace Go.Proofs.Ytecfenoidcolfaa
set_option linter.unusedVariables false
open Go.RowKit Hp
attribute [local go_sem] Oper.semAt_some

theorem round_wide {m m' l l' : Nat} {P : Program} {fn : FuncId} {tmps : Array Value} {assign body : Code} {w : World} {R : Ending → World → Prop} (h : RoundIn Fence.wide m P l fn tmps assign body w R) :
    RoundIn (Fence.wide.inRound l') m' P l fn tmps assign body w R := ⟨trivial, fun c cs _ => h.2 c cs (room_wide _)⟩

set_option maxHeartbeats 400000 in
theorem taken_any (hb : Nat) (w : World) : Calls Try.prog 82 #[.pointer (some ⟨hb, 0, none⟩)] w fun e w' => e = .returned (.func (.func 107) #[] #[.pointer (some ⟨w.heap.size, 0, none⟩)]) ∧ w' = w.alloc (.cells #[.pointer (some ⟨hb, 0, none⟩)] 23) := by
  go_enter Try.func82, Try.ntmps82
  go_wp2
  go_ret
  exact ⟨rfl, rfl⟩

set_option maxRecDepth 100000 in
set_option maxHeartbeats 4000000 in
theorem All1_iter {lf : Nat} {lt : Int → Int → Bool} (HL : LessI lf lt) (n : Nat) (B hb : Nat) (F : Nat → Prop) (S : List (It Int)) (w : World) (hbox : w.cell? ⟨B, 0, none⟩ = some (.pointer (some ⟨hb, 0, none⟩)))
    (h : HeapAt w hb lf lt F S) (hs : Sorted lt S) (hl : S.length < 999999) :
    Iter Fence.wide n Try.prog 81 #[.pointer (some ⟨B, 0, none⟩)] (fun (x : It Int) => #[.int .i64 x.1, .int .i64 x.2]) (fun j => F j ∨ j = B ∨ w.heap.size ≤ j) (fun j => w.heap.size ≤ j) S w := by
  intro l J Jx W hk hsz hJ hJx hY h0
  refine callsIn_wide.2 ((callsIn_wide (n := 9)).1 ?_)
  have c1 := hk.cell hbox (.inr (.inl rfl))
  have hW := h.keeps hk (fun j hj => .inl hj)
  obtain ⟨W1, hW1⟩ : ∃ W1, W.alloc (.cells #[.func (.yield l) #[] #[]] 27) = W1 := ⟨_, rfl⟩
  have hm1 : Mod none' W W1 := by rw [← hW1]; exact (Mod.refl _ W).alloc _
  have hb1 : Below W.heap.size W W1 := hm1.to_below
  have y1 : W1.cell? ⟨W.heap.size, 0, none⟩ = some (.func (.yield l) #[] #[]) := by rw [← hW1, World.cell?_alloc_at _ _ _ _ rfl]; rfl
  have hc := Copy_ok (hW.below hb1) (by omega)
  have d1 := zatB c1 hb1
  have HC := Lib.hid hc
  have HJ := Lib.hid hJ
  have HJx := Lib.hid hJx
  have HY := Lib.hid hY
  have HH0 := Lib.hid h0
  have HM1 := Lib.hid hm1
  clear hc hJ hJx hY h0 hk h hbox hW hm1 hb1
  refine callsIn_of_wp_marks Try.func81 rfl trivial ?_ rfl
  simp only [Try.ntmps81, List.size_toArray, List.length_cons, List.length_nil, Nat.reduceAdd, Nat.reduceSub, Array.replicate_succ, Array.replicate_zero, List.push_toArray, List.append_toArray, List.nil_append, List.cons_append]
  gi_wp2_with (first
    | (refine ⟨trivial, ?_⟩; gi_at_call 36; refine (callsIn_wide.2 HC.out).mono ?_; rintro e W2 ⟨hb2, F2, rfl, h2, hbl2, hF2⟩; have HH2 := Lib.hid h2; have HB2 := Lib.hid hbl2; have HF2 := Lib.hid hF2; clear h2 hbl2 hF2)
    | (refine ⟨trivial, ?_⟩; gi_at_call 82; refine (callsIn_wide.2 (taken_any _ _)).mono ?_; rintro e W3 ⟨rfl, hW3⟩))
  subst hW3
  have hs1 := HM1.out.size
  have hs2 := HB2.out.size
  have hz1 : W1.heap.size = W.heap.size + 1 := by rw [← hW1]; simp
  obtain ⟨W3, hW3⟩ : ∃ W3, W2.alloc (.cells #[.pointer (some ⟨hb2, 0, none⟩)] 23) = W3 := ⟨_, rfl⟩
  have hm3 : Mod none' W2 W3 := by rw [← hW3]; exact (Mod.refl _ W2).alloc _
  have hz3 : W3.heap.size = W2.heap.size + 1 := by rw [← hW3]; simp
  have p3 : W3.cell? ⟨W2.heap.size, 0, none⟩ = some (.pointer (some ⟨hb2, 0, none⟩)) := by rw [← hW3, World.cell?_alloc_at _ _ _ _ rfl]; rfl
  have y3 : W3.cell? ⟨W.heap.size, 0, none⟩ = some (.func (.yield l) #[] #[]) := hm3.cell (zatB y1 HB2.out) (fun h => h)
  have hmW : Mod none' W W3 := (HM1.out.trans' (Mod.of_below HB2.out)).trans' hm3
  have hF2 := HF2.out
  have hnF : ¬ F2 W2.heap.size := fun h => by have := HH2.out.lt_F h; omega
  rw [hW3]
  clear hW3
  refine wpIn_range rfl (by omega) (gf := 107) (lb := #[.pointer (some ⟨W2.heap.size, 0, none⟩)]) rfl trivial (enters_of Try.func107 (by kernel_rfl) rfl)
    (taken_iter HL _ W2.heap.size hb2 F2 S W3 p3 (HH2.out.mod hm3 (fun _ _ h => h)) hs hl hnF) (Keeps.refl _ _) (fun _ => rfl)
    (fun pre A => J pre A ∧ A.cell? ⟨W.heap.size, 0, none⟩ = some (.func (.yield l) #[] #[]))
    (fun c pre A => c = .ret ∧ Jx pre A)
    (fun s A A' h hm' => ⟨HJ.out _ _ _ h.1 (hm'.mono (fun i hi _ => by have := hF2 i hi; omega) (by omega)), hm'.cell h.2 (fun h => by have := hF2 _ h; dsimp only at this; omega)⟩)
    (fun c s A A' h hm' => ⟨h.1, HJx.out _ _ _ h.2 (hm'.mono (fun i hi _ => by have := hF2 i hi; omega) (by omega))⟩)
    ⟨HJ.out _ _ _ HH0.out (hmW.mv _ |>.mono (fun i h _ => h.elim) (Nat.le_refl _)), y3⟩ ?round ?done ?stop
  case round =>
    rintro l' pre ⟨x1, x2⟩ A hlA _ ⟨h1, h2⟩ hpre
    have hY := HY.out pre (x1, x2)
    have H1 := Lib.hid h1
    clear h1
    have hmA : Mod none' A (A.alloc (.cells #[.int .i64 x1, .int .i64 x2] 119)) := (Mod.refl _ A).alloc _
    have e1 : (A.alloc (.cells #[.int .i64 x1, .int .i64 x2] 119)).cell? ⟨A.heap.size, 0, none⟩ = some (.int .i64 x1) := by rw [World.cell?_alloc_at _ _ _ _ rfl]; rfl
    have e2 : (A.alloc (.cells #[.int .i64 x1, .int .i64 x2] 119)).cell? ⟨A.heap.size, 1, none⟩ = some (.int .i64 x2) := by rw [World.cell?_alloc_at _ _ _ _ rfl]; rfl
    have e3 := hmA.cell h2 (fun h => h)
    have HmA := Lib.hid hmA
    have E1 := Lib.hid e1
    have E2 := Lib.hid e2
    have E3 := Lib.hid e3
    clear h2 hmA e1 e2 e3 hF2 hmW p3 y3 d1 c1
    gi_wp2
    refine ⟨HmA.out.ctl _, HmA.out.keeps (fun _ _ _ h => h), fun Wb hmb r hr => ?_⟩
    have f1 := hmb.cell E1.out (fun h => h)
    have f2 := hmb.cell E2.out (fun h => h)
    have f3 := hmb.cell E3.out (fun h => h)
    have hj := HJ.out _ _ _ H1.out ((HmA.out.mv _).trans (hmb.mono (C := W.heap.size) (fun _ h _ => h) (by omega)) |>.mono (fun i h _ => h.elim) (Nat.le_refl _))
    obtain ⟨fn, tmps, assign, body, hy, hR⟩ := hY Wb hj hpre
    have HR := Lib.hid (round_wide (m' := 7 - 1) (l' := l') hR)
    clear hR hr hj hmb hY
    gi_wp2
    refine HR.out.mono ?_
    rintro e W5 (⟨rfl, hJ5, hk5, hc5⟩ | ⟨rfl, hJx5, hk5, hc5⟩)
    · gi_wp2
      exact ⟨hc5.mono (by omega), hk5.mono (fun j hj => by rcases hj with hj | rfl; have := HF2.out j hj; exact .inr (.inr (by omega)); exact .inr (.inr (by omega))), hJ5, hk5.cell f3 (.inr (.inr hsz))⟩
    · gi_wp2
      exact ⟨hc5.mono (by omega), hk5.mono (fun j hj => by rcases hj with hj | rfl; have := HF2.out j hj; exact .inr (.inr (by omega)); exact .inr (.inr (by omega))), rfl, hJx5⟩
  case done =>
    rintro D A hD ⟨h1, h2⟩ hK
    have hj := HJ.out _ _ _ h1 ((Mv.putObj (S := none') (B := W.heap.size) A D _ (.deferred none) hK rfl (by omega)).mono (fun i h _ => h.elim) (Nat.le_refl _))
    refine ⟨by simp, .inl ⟨_, _, rfl, run_takeDeferred hK, ?_⟩⟩
    exact ⟨_, results_none rfl _ _ _, ⟨_, rfl⟩, .inl hj⟩
  case stop =>
    rintro D c pre A hD hpre ⟨rfl, h1⟩ hK
    have hj := HJx.out _ _ _ h1 ((Mv.putObj (S := none') (B := W.heap.size) A D _ (.deferred none) hK rfl (by omega)).mono (fun i h _ => h.elim) (Nat.le_refl _))
    have HJ' := Lib.hid hj
    clear hj h1
    gi_wp2
    refine ⟨by simp, .inl ⟨_, _, rfl, run_takeDeferred hK, ?_⟩⟩
    exact ⟨_, results_none rfl _ _ _, ⟨_, rfl⟩, .inr ⟨pre, hpre, HJ'.out⟩⟩

set_option maxRecDepth 100000 in
set_option maxHeartbeats 1000000 in
theorem All_any {w : World} {hb lf : Nat} {lt : Int → Int → Bool} {F : Nat → Prop} {M : List (It Int)} (h : HeapAt w hb lf lt F M) (hM : M.length < 1000000) :
    Calls Try.prog 32 #[.pointer (some ⟨hb, 0, none⟩)] w fun e w' => ∃ B hb' F', e = .returned (.func (.func 81) #[] #[.pointer (some ⟨B, 0, none⟩)]) ∧ w'.cell? ⟨B, 0, none⟩ = some (.pointer (some ⟨hb', 0, none⟩)) ∧
      HeapAt w' hb' lf lt F' M ∧ Below w.heap.size w w' := by
  have HC := Lib.hid (Copy_ok h hM)
  clear h
  go_enter Try.func32, Try.ntmps32
  go_wp2_with fail
  refine HC.out.mono ?_
  rintro e w1 ⟨hb1, F1, rfl, h1, hb, hF⟩
  have H1 := Lib.hid h1
  have HB := Lib.hid hb
  clear h1 hb hF
  go_wp2_with fail
  go_ret
  have hbA : Below w1.heap.size w1 (w1.alloc (.cells #[.pointer (some ⟨hb1, 0, none⟩)] 23)) := (Below.refl _ w1).alloc (Nat.le_refl _) _
  exact ⟨w1.heap.size, hb1, F1, rfl, by rw [World.cell?_alloc_at _ _ _ _ rfl]; rfl, H1.out.below hbA, HB.out.trans (hbA.mono HB.out.size)⟩
end Go.Proofs.Ytecfenoidcolfaa
