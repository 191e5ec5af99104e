/-
  Walks: the document's answer for heaps: lay, Put, Change.
-/
import Derived.Test.YtkjpkhpiojahkaaCR
namespace Go.Proofs.Ytkjpkhpiojahkaa
set_option linter.unusedVariables false
open Go.RowKit Hp

theorem bef_eq (x y : It Int) : bef (x.2, x.1) (y.2, y.1) = Hp.ahead ltI x y := by
  rw [Bool.eq_iff_iff, ahead_iff]
  simp [bef, ltI]
  omega
theorem ins_at (x : It Int) : ∀ (S : List (It Int)), ∃ i, i ≤ S.length ∧ (∀ j, j < i → Hp.ahead ltI (S.getD j (0, 0)) x = true) ∧ (∀ y, S[i]? = some y → Hp.ahead ltI y x = false) ∧ ins ltI x S = S.take i ++ x :: S.drop i
  | [] => ⟨0, Nat.le_refl _, fun j h => by omega, fun y h => by simp at h, rfl⟩
  | y :: S => by
    by_cases hy : Hp.ahead ltI y x = true
    · obtain ⟨i, h1, h2, h3, h4⟩ := ins_at x S
      refine ⟨i + 1, by simpa using h1, fun j hj => ?_, fun z hz => h3 z (by simpa using hz), by rw [ins, if_pos hy, h4]; rfl⟩
      match j with
      | 0 => simpa using hy
      | j + 1 => simpa using h2 j (by omega)
    · refine ⟨0, by simp, fun j h => by omega, fun z hz => ?_, by rw [ins, if_neg hy]; rfl⟩
      simp at hz
      rw [← hz]
      simpa using hy

theorem push_key {w w1 : World} {v v' : Value} {n B : Nat} {xs : List Value} {o : Obj} (hown : w1.ownsRow 0 24 2 v' (n + 1) xs) (hg : (w.alloc o).grownBy w1 v.ownBlock)
    (hat : v'.ownBlock = v.ownBlock ∨ v'.ownBlock = some (w.alloc o).heap.size) (hv : ∀ j, v.ownBlock = some j → B ≤ j) (hB : B ≤ w.heap.size) :
    ∃ q nn cc, v' = .slice q nn cc ∧ Below B w w1 ∧ ∀ j, v'.ownBlock = some j → B ≤ j := by
  obtain ⟨q, nn, cc, rfl⟩ := own_form hown
  have hz : B ≤ (w.alloc o).heap.size := by rw [World.size_alloc]; omega
  exact ⟨q, nn, cc, rfl, ((Below.refl _ w).alloc hB _).trans (below_grown hg hv hz), own_new2 hat hv hz⟩

theorem run_append_nilx {P : Program} {w : World} (t ty e : TypeId) (i : TypeInfo) (ht : P.underlying t = some (.slice e)) (hi : P.info? e = some i) {base size n : Nat} {v : Value} {xs : List Value} (hown : w.ownsRow base e size v n xs) :
    (Builtin.append_ #[t, t] ty #[v, .slice none 0 0]).run P w = .ok v w := by
  rcases own_parts hown with ⟨rfl, rfl⟩ | ⟨g, cap, cur, rfl, _, _, hlc, _⟩
  · simp [Builtin.append_, run_underlying ht, sizeOf, typeInfo, hi, Builtin.lenOf, Builtin.firstCells]
  · simp [Builtin.append_, run_underlying ht, sizeOf, typeInfo, hi, Builtin.lenOf, Builtin.firstCells, loadCells, hlc, storeCells]
theorem wpList_append_nilx {P : Program} {w : World} {ops : Array Oper} {rest : List Oper} {o : Oper} {a : Act} {Q : Exit → Act → World → Prop} (hgd : o.guard = none) (s x : Operand) (t e : TypeId) (i : TypeInfo)
    (ho : o.op = .call { callee := .builtin .append, args := #[s, x], argTypes := #[t, t] }) (ht : P.underlying t = some (.slice e)) (hi : P.info? e = some i) {base size n : Nat} {v : Value} {xs : List Value} (hown : w.ownsRow base e size v n xs)
    (hs : a.eval s = v) (hx : a.eval x = .slice none 0 0) (h : wpList P ops Q rest (a.put o.dst v) w) : wpList P ops Q (o :: rest) a w := by
  refine wpList_plain hgd fun K hK => ?_
  have hr := run_append_nilx (P := P) t o.type e i ht hi hown
  unfold Oper.wp execOp
  simp only [ho, resolve, invoke, builtin, Sem.run_bind, Sem.run_pure, Result.andThen_ok, List.map_toArray, List.map_cons, List.map_nil, hs, hx, hr]
  exact hK _ _ h

section
variable {w : World} {rb : Nat} {S : List (It Int)} {F : Nat → Prop}

set_option maxRecDepth 100000 in
set_option maxHeartbeats 4000000 in
theorem lay_ok (h : (refA rb S).holds w F) (hS : S.length < 1000000) (id k : Int) :
    Calls Try.prog 158 #[.pointer (some ⟨rb, 0, none⟩), .agg #[.int .i64 k, .int .i64 id]] w fun e w' => e = .returned (.tuple #[]) ∧ Step F w w' (refA rb (ins ltI (id, k) S)) := by
  obtain ⟨i0, hi0, hz0, hz1, hz2⟩ := info_parts2 Try.info24
  obtain ⟨i, hil, hah, hna, hins⟩ := ins_at (id, k) S
  rw [hins]
  have HH := Lib.hid h
  obtain ⟨v, hraw, hF⟩ := h
  have c0 := hraw.c0
  have f0 := hraw.f0
  have hrl : rb < w.heap.size := lt_of_some hraw.1
  obtain ⟨la, lcap, rfl⟩ := hraw.slice
  obtain ⟨w1, hw1⟩ : ∃ w1, w.alloc (.cells #[.int .i64 k, .int .i64 id] 24) = w1 := ⟨_, rfl⟩
  have hb1 : Below w.heap.size w w1 := by rw [← hw1]; exact (Below.refl _ w).alloc (Nat.le_refl _) _
  have hs1 : w1.heap.size = w.heap.size + 1 := by rw [← hw1]; simp
  have x0 : w1.cell? ⟨w.heap.size, 0, none⟩ = some (.int .i64 k) := by rw [← hw1, World.cell?_alloc_at _ _ _ _ rfl]; rfl
  have x1 : w1.cell? ⟨w.heap.size, 1, none⟩ = some (.int .i64 id) := by rw [← hw1, World.cell?_alloc_at _ _ _ _ rfl]; rfl
  have hraw1 := hraw.below hb1
  have hcl : ∀ A, Below w1.heap.size w1 A → A.cell? ⟨rb, 0, none⟩ = some (.slice la S.length lcap) ∧ A.frozen? ⟨rb, 0, none⟩ = false ∧ A.cell? ⟨w.heap.size, 0, none⟩ = some (.int .i64 k) ∧ A.cell? ⟨w.heap.size, 1, none⟩ = some (.int .i64 id) := fun A hA => by
    have := hraw1.below hA
    exact ⟨this.c0, this.f0, zatB x0 hA, zatB x1 hA⟩
  have hat : ∀ A, Below w1.heap.size w1 A → ∀ j y, S[j]? = some y → ∃ g cap, la = some ⟨g, 0, none⟩ ∧ A.cell? ⟨g, j * 2, none⟩ = some (.int .i64 y.2) ∧ A.cell? ⟨g, j * 2 + 1, none⟩ = some (.int .i64 y.1) ∧ g < w1.heap.size ∧ (lcap = cap ∧ S.length ≤ cap) := fun A hA j y hy => by
    obtain ⟨g, cap, he, hlc, d0, d1, hg⟩ := hraw1.at hy
    injection he with e1 e2 e3
    exact ⟨g, cap, e1, zatB d0 hA, zatB d1 hA, hg, e3, hlc⟩
  have hlcI : (S.length : Int) ≤ (lcap : Int) := by
    rcases own_parts hraw.2 with ⟨h1, h2⟩ | ⟨_, _, _, h1, _, _, h2, _⟩
    · omega
    · injection h1 with _ _ e3; omega
  have HCl := Lib.hid hcl
  have HAt := Lib.hid hat
  have HRaw := Lib.hid hraw1
  have HAh := Lib.hid hah
  have HNa := Lib.hid hna
  have HB1 := Lib.hid hb1
  have hilI : (i : Int) ≤ (S.length : Int) := by omega
  obtain ⟨q0, q1, q2, q3⟩ := hcl w1 (Below.refl _ _)
  clear hcl hat hraw hraw1 hah hna hins hF x0 x1 hb1
  go_enter Try.func158, Try.ntmps158
  go_wp2
  go_loopg [4, 5] (S.length + 1) (fun gh s4 s5 wr => ∃ (j : Nat) (q : Option Addr) (nn cc : Nat), j + gh = S.length + 1 ∧ j ≤ i ∧ s4 = .slice q nn cc ∧ s5 = .int .i64 (j : Int) ∧
    wr.ownsRow 0 24 2 (.slice q nn cc) j ((S.take j).flatMap keyC) ∧ Below w1.heap.size w1 wr ∧ ∀ m, (Value.slice q nn cc).ownBlock = some m → w1.heap.size ≤ m)
  case atStart => exact ⟨0, none, 0, 0, by omega, by omega, rfl, rfl, World.ownsRow_nil _ _ _ _, Below.refl _ _, by simp [Value.ownBlock]⟩
  case round =>
    obtain ⟨j, q, nn, cc, hj, hji, rfl, rfl, hown, hbr, hqn⟩ := hrel
    obtain ⟨p0, p1, p2, p3⟩ := HCl.out wr hbr
    have HOwn := Lib.hid hown
    have HBr := Lib.hid hbr
    have HQn := Lib.hid hqn
    have hszr := hbr.size
    have hj0 : (0 : Int) ≤ (j : Int) := by omega
    clear hown hbr hqn
    by_cases hji2 : j < i
    · have hjl : j < S.length := by omega
      obtain ⟨⟨y1, y2⟩, hy⟩ : ∃ y, S[j]? = some y := ⟨_, List.getElem?_eq_getElem hjl⟩
      obtain ⟨g, cap, rfl, d0, d1, hg, hcap⟩ := HAt.out wr HBr.out j _ hy
      dsimp only at d0 d1
      have hjlI : (j : Int) < (S.length : Int) := by omega
      have hahj := HAh.out j hji2
      rw [getD_of hjl, (List.getElem?_eq_some_iff.1 hy).2, ← bef_eq] at hahj
      have hgr : g < wr.heap.size := by omega
      have hrr : rb < wr.heap.size := by omega
      have hxr : w.heap.size < wr.heap.size := by omega
      have HY := Lib.hid hy
      have HHa := Lib.hid hahj
      clear hy hahj
      go_wp2_with fail
      have hcall : ∀ A, Below wr.heap.size wr A → Calls Try.prog 122 #[.agg #[.int .i64 y2, .int .i64 y1], .agg #[.int .i64 k, .int .i64 id]] A fun e w' => e = .returned (.bool true) ∧ Below wr.heap.size wr w' := fun A hA => by
        have := Ahead_any y2 y1 k id A
        rw [HHa.out] at this
        exact this.mono fun e w' ⟨he, hb⟩ => ⟨he, hA.trans (hb.mono hA.size)⟩
      have HCall := Lib.hid hcall
      clear hcall
      refine wp_region_loose (fun A => Below wr.heap.size wr A) (by kernel_rfl) (by kernel_rfl) ((Below.refl _ wr).drew) ?_
      iterate 16 (refine loose_val (v := ?_) (by rfl) ?_ ?_; rotate_left; (focus (intro A' hA'; have r0 := zatB p0 hA'; have r2 := zatB p2 hA'; have r3 := zatB p3 hA'; have r4 := zatB d0 hA'; have r5 := zatB d1 hA'; go_simp; first | done | with_reducible rfl)); simp only [Act.put, List.setIfInBounds_toArray, List.set_cons_zero, List.set_cons_succ])
      refine loose_call HCall.out (by rfl) ?_ ?_
      · intro A hA
        go_simp
        done
      simp only [Act.put, List.setIfInBounds_toArray, List.set_cons_zero, List.set_cons_succ]
      iterate 1 (refine loose_val (v := ?_) (by rfl) ?_ ?_; rotate_left; (focus (intro A' hA'; have r0 := zatB p0 hA'; have r2 := zatB p2 hA'; have r3 := zatB p3 hA'; have r4 := zatB d0 hA'; have r5 := zatB d1 hA'; go_simp; first | done | with_reducible rfl)); simp only [Act.put, List.setIfInBounds_toArray, List.set_cons_zero, List.set_cons_succ])
      refine loose_nil ?_
      intro wz hz
      have hszz : w1.heap.size ≤ wz.heap.size := by have := hz.size; omega
      have HBz := Lib.hid (HBr.out.trans (hz.mono hszr))
      have HOz := Lib.hid ((own_same HOwn.out fun m o hm ho _ => (Mod.of_below (S := none') hz).obj ho (fun h => h)).alloc (.cells #[.int .i64 y2, .int .i64 y1] 24))
      have HQz := HQn
      have s0 := zatB p0 hz
      have s4 := zatB d0 hz
      have s5 := zatB d1 hz
      have HNews := Lib.hid (World.news_of_block (cs := #[.int .i64 y2, .int .i64 y1]) (t := 24) (fr := (0, 0)) (heap_alloc_new wz _))
      have hone : ∀ u ∈ [Value.int .i64 y2, .int .i64 y1], u.oneCell' = true := by simp [Value.oneCell']
      have hj6 : (j : Int) + 1 ≤ 1000000 := by omega
      clear p0 p1 p2 p3 d0 d1 hz
      go_wp2_with (at_builtin; refine wpList_append_own_at _ rfl _ _ 30 rfl 0 24 i0 (.agg #[.int .i64 0, .int .i64 0]) 2 16 Try.underlying30 hi0 hz0 hz1 hz2 rfl (by decide) (.slice q nn cc) j ((S.take j).flatMap keyC) rfl HOz.out ⟨wz.heap.size, 0, none⟩ 1 1 [.int .i64 y2, .int .i64 y1] rfl rfl HNews.out hone (by unfold maxLen; omega) (by omega) (Nat.zero_le _) ?_; intro v' wn hown hgrow _ hat; obtain ⟨q', nn', cc', rfl, hbn, hqn'⟩ := push_key hown hgrow hat HQz.out hszz; have HOwn' := Lib.hid hown; have HBn := Lib.hid hbn; have HQn' := Lib.hid hqn'; clear hown hgrow hat hbn hqn'; skip)
      go_roundg (S.length + 1 - (j + 1))
      case measure => omega
      case rel =>
        refine ⟨j + 1, q', nn', cc', by omega, by omega, rfl, by go_num, ?_, HBz.out.trans (HBn.out.mono (Nat.le_refl _)), HQn'.out⟩
        have e : (S.take (j + 1)).flatMap keyC = (S.take j).flatMap keyC ++ [.int .i64 y2, .int .i64 y1] := by rw [List.take_add_one, HY.out, List.flatMap_append]; rfl
        rw [e]
        exact HOwn'.out
    · have hjeq : j = i := by omega
      subst hjeq
      have HLen := Lib.hid (show S.length + 0 = S.length from rfl)
      by_cases hjl : j < S.length
      · obtain ⟨⟨y1, y2⟩, hy⟩ : ∃ y, S[j]? = some y := ⟨_, List.getElem?_eq_getElem hjl⟩
        obtain ⟨g, cap, rfl, d0, d1, hg, hcap⟩ := HAt.out wr HBr.out j _ hy
        dsimp only at d0 d1
        have hjlI : (j : Int) < (S.length : Int) := by omega
        have hnaj := HNa.out _ hy
        rw [← bef_eq] at hnaj
        have HHa := Lib.hid hnaj
        have hl2 : ((S.drop j).flatMap keyC).length = (S.length - j) * 2 := by rw [flat_length keyC 2 keyC_len, List.length_drop]
        have hgr : g < wr.heap.size := by omega
        have hrr : rb < wr.heap.size := by omega
        have hxr : w.heap.size < wr.heap.size := by omega
        obtain ⟨rfl, hlc⟩ := hcap
        have hjc : j < lcap := by omega
        have hjcI : (j : Int) ≤ (lcap : Int) := by omega
        have hn2 := keys_at HRaw.out j (S.drop j) ⟨[], by simp⟩
        have HN2 := Lib.hid hn2
        clear hy hnaj hn2
        go_wp2_with fail
        have hcall : ∀ A, Below wr.heap.size wr A → Calls Try.prog 122 #[.agg #[.int .i64 y2, .int .i64 y1], .agg #[.int .i64 k, .int .i64 id]] A fun e w' => e = .returned (.bool false) ∧ Below wr.heap.size wr w' := fun A hA => by
          have := Ahead_any y2 y1 k id A
          rw [HHa.out] at this
          exact this.mono fun e w' ⟨he, hb⟩ => ⟨he, hA.trans (hb.mono hA.size)⟩
        have HCall := Lib.hid hcall
        clear hcall
        refine wp_region_loose (fun A => Below wr.heap.size wr A) (by kernel_rfl) (by kernel_rfl) ((Below.refl _ wr).drew) ?_
        iterate 16 (refine loose_val (v := ?_) (by rfl) ?_ ?_; rotate_left; (focus (intro A' hA'; have r0 := zatB p0 hA'; have r2 := zatB p2 hA'; have r3 := zatB p3 hA'; have r4 := zatB d0 hA'; have r5 := zatB d1 hA'; go_simp; first | done | with_reducible rfl)); simp only [Act.put, List.setIfInBounds_toArray, List.set_cons_zero, List.set_cons_succ])
        refine loose_call HCall.out (by rfl) ?_ ?_
        · intro A hA
          go_simp
          done
        simp only [Act.put, List.setIfInBounds_toArray, List.set_cons_zero, List.set_cons_succ]
        iterate 1 (refine loose_val (v := ?_) (by rfl) ?_ ?_; rotate_left; (focus (intro A' hA'; have r0 := zatB p0 hA'; have r2 := zatB p2 hA'; have r3 := zatB p3 hA'; have r4 := zatB d0 hA'; have r5 := zatB d1 hA'; go_simp; first | done | with_reducible rfl)); simp only [Act.put, List.setIfInBounds_toArray, List.set_cons_zero, List.set_cons_succ])
        refine loose_nil ?_
        intro wz hz
        have hszz : w1.heap.size ≤ wz.heap.size := by have := hz.size; omega
        have hbz := HBr.out.trans (hz.mono hszr)
        have HBz := Lib.hid hbz
        obtain ⟨s0, s1, s2, s3⟩ := HCl.out wz hbz
        have HOz := Lib.hid ((own_same HOwn.out fun m o hm ho _ => (Mod.of_below (S := none') hz).obj ho (fun h => h)).alloc (.cells #[.int .i64 k, .int .i64 id] 24))
        have HQz := HQn
        have HNews := Lib.hid (World.news_of_block (cs := #[.int .i64 k, .int .i64 id]) (t := 24) (fr := (0, 0)) (heap_alloc_new wz _))
        have hone : ∀ u ∈ [Value.int .i64 k, .int .i64 id], u.oneCell' = true := by simp [Value.oneCell']
        clear d0 d1
        clear p0 p1 p2 p3 hz hbz
        go_wp2_with (first | (at_builtin; refine wpList_append_own_at _ rfl _ _ 30 rfl 0 24 i0 (.agg #[.int .i64 0, .int .i64 0]) 2 16 Try.underlying30 hi0 hz0 hz1 hz2 rfl (by decide) (.slice q nn cc) j ((S.take j).flatMap keyC) rfl HOz.out ⟨wz.heap.size, 0, none⟩ 1 1 [.int .i64 k, .int .i64 id] rfl rfl HNews.out hone (by unfold maxLen; omega) (by omega) (Nat.zero_le _) ?_; intro v' wn hown hgrow _ hat; obtain ⟨q', nn', cc', rfl, hbn, hqn'⟩ := push_key hown hgrow hat HQz.out hszz; have HOwn' := Lib.hid hown; have HBn := Lib.hid hbn; have HQn' := Lib.hid hqn'; clear hown hgrow hat hbn hqn'; have hbn2 := HBz.out.trans (HBn.out.mono (Nat.le_refl _)); have HBn2 := Lib.hid hbn2; obtain ⟨t0, t1, _, _⟩ := HCl.out _ hbn2; clear hbn2) | (at_builtin; refine wpList_append_own_at _ rfl _ _ 30 rfl 0 24 i0 (.agg #[.int .i64 0, .int .i64 0]) 2 16 Try.underlying30 hi0 hz0 hz1 hz2 rfl (by decide) (.slice q' nn' cc') (j + 1) ((S.take j).flatMap keyC ++ [.int .i64 k, .int .i64 id]) rfl HOwn'.out ⟨g, j * 2, none⟩ (S.length - j) (lcap - j) ((S.drop j).flatMap keyC) rfl hl2 (fun m u hu => zatB (HN2.out m u hu) HBn2.out) (keyC_one _) (by unfold maxLen; omega) (by omega) (Nat.zero_le _) ?_; intro v2 w2 hown2 hgrow2 _ hat2; have hb2 := below_grown (B := w1.heap.size) hgrow2 HQn'.out HBn2.out.size; have hb3 := HBn2.out.trans hb2; obtain ⟨t2, t3, _, _⟩ := HCl.out _ hb3; obtain ⟨q2, nn2, cc2, rfl⟩ := own_form hown2; have HOwn2 := Lib.hid hown2; have HB2 := Lib.hid hb3; have HA2 := Lib.hid (own_new2 (B := w1.heap.size) hat2 HQn'.out HBn2.out.size); clear hown2 hgrow2 hat2 hb2 hb3))
        go_end0
        refine ⟨rfl, ref_set HH.out (HB1.out.trans (HB2.out.mono (by omega))) HOwn2.out ?_ ?_ (fun m hm => Nat.le_trans (by omega) (HA2.out m hm))⟩
        · rw [List.length_append, List.length_cons, List.length_take, List.length_drop]; omega
        · rw [List.flatMap_append, List.flatMap_cons, List.append_assoc]; rfl
      · have hjl2 : S.length = j := by omega
        have hjlI : ¬ ((j : Int) < (S.length : Int)) := by omega
        have hdn := Lib.hid (show (S.drop j).flatMap keyC = [] by rw [List.drop_eq_nil_of_le (by omega)]; rfl)
        have hl2 : ((S.drop j).flatMap keyC).length = (S.length - j) * 2 := by rw [flat_length keyC 2 keyC_len, List.length_drop]
        have HL2 := Lib.hid hjl2
        clear hjl2
        rcases own_parts HRaw.out.2 with ⟨hv, hS0⟩ | ⟨g, cap, cur, hv, _, hgc, hlc, _⟩
        · injection hv with e1 e2 e3
          subst e1 e3
          have hj00 : j = 0 := by omega
          subst hj00
          clear hjl hjlI
          go_wp2_with fail
          refine wp_region_loose (fun A => Below wr.heap.size wr A) (by kernel_rfl) (by kernel_rfl) ((Below.refl _ wr).drew) ?_
          iterate 8 (refine loose_val (v := ?_) (by rfl) ?_ ?_; rotate_left; (focus (intro A' hA'; have r0 := zatB p0 hA'; have r2 := zatB p2 hA'; have r3 := zatB p3 hA';  go_simp; first | done | with_reducible rfl)); simp only [Act.put, List.setIfInBounds_toArray, List.set_cons_zero, List.set_cons_succ])
          iterate 9 (refine loose_skip (by rfl) ?_; simp only [Act.put, List.setIfInBounds_toArray, List.set_cons_zero, List.set_cons_succ])
          iterate 1 (refine loose_val (v := ?_) (by rfl) ?_ ?_; rotate_left; (focus (intro A' hA'; have r0 := zatB p0 hA'; have r2 := zatB p2 hA'; have r3 := zatB p3 hA';  go_simp; first | done | with_reducible rfl)); simp only [Act.put, List.setIfInBounds_toArray, List.set_cons_zero, List.set_cons_succ])
          refine loose_nil ?_
          intro wz hz
          have hszz : w1.heap.size ≤ wz.heap.size := by have := hz.size; omega
          have hbz := HBr.out.trans (hz.mono hszr)
          have HBz := Lib.hid hbz
          obtain ⟨s0, s1, s2, s3⟩ := HCl.out wz hbz
          have HOz := Lib.hid ((own_same HOwn.out fun m o hm ho _ => (Mod.of_below (S := none') hz).obj ho (fun h => h)).alloc (.cells #[.int .i64 k, .int .i64 id] 24))
          have HQz := HQn
          have HNews := Lib.hid (World.news_of_block (cs := #[.int .i64 k, .int .i64 id]) (t := 24) (fr := (0, 0)) (heap_alloc_new wz _))
          have hone : ∀ u ∈ [Value.int .i64 k, .int .i64 id], u.oneCell' = true := by simp [Value.oneCell']
          clear p0 p1 p2 p3 hz hbz
          go_wp2_with (first | (at_builtin; refine wpList_append_own_at _ rfl _ _ 30 rfl 0 24 i0 (.agg #[.int .i64 0, .int .i64 0]) 2 16 Try.underlying30 hi0 hz0 hz1 hz2 rfl (by decide) (.slice q nn cc) 0 ((S.take 0).flatMap keyC) rfl HOz.out ⟨wz.heap.size, 0, none⟩ 1 1 [.int .i64 k, .int .i64 id] rfl rfl HNews.out hone (by unfold maxLen; omega) (by omega) (Nat.zero_le _) ?_; intro v' wn hown hgrow _ hat; obtain ⟨q', nn', cc', rfl, hbn, hqn'⟩ := push_key hown hgrow hat HQz.out hszz; have HOwn' := Lib.hid hown; have HBn := Lib.hid hbn; have HQn' := Lib.hid hqn'; clear hown hgrow hat hbn hqn'; have hbn2 := HBz.out.trans (HBn.out.mono (Nat.le_refl _)); have HBn2 := Lib.hid hbn2; obtain ⟨t0, t1, _, _⟩ := HCl.out _ hbn2; clear hbn2) | (at_builtin; refine wpList_append_nilx rfl _ _ 30 24 i0 rfl Try.underlying30 hi0 HOwn'.out rfl rfl ?_))
          go_end0
          refine ⟨rfl, ref_set HH.out (HB1.out.trans (HBn2.out.mono (by omega))) HOwn'.out ?_ ?_ (fun m hm => Nat.le_trans (by omega) (HQn'.out m hm))⟩
          · simp only [List.length_cons]; omega
          · rw [List.length_eq_zero_iff.1 hS0]; rfl
        · injection hv with e1 e2 e3
          subst e1 e3
          have hg := lt_of_some hgc
          have hgr : g < wr.heap.size := by omega
          have hrr : rb < wr.heap.size := by omega
          have hxr : w.heap.size < wr.heap.size := by omega
          clear hgc
          by_cases hjc : lcap = j
          · go_wp2_with fail
            refine wp_region_loose (fun A => Below wr.heap.size wr A) (by kernel_rfl) (by kernel_rfl) ((Below.refl _ wr).drew) ?_
            iterate 8 (refine loose_val (v := ?_) (by rfl) ?_ ?_; rotate_left; (focus (intro A' hA'; have r0 := zatB p0 hA'; have r2 := zatB p2 hA'; have r3 := zatB p3 hA';  go_simp; first | done | with_reducible rfl)); simp only [Act.put, List.setIfInBounds_toArray, List.set_cons_zero, List.set_cons_succ])
            iterate 9 (refine loose_skip (by rfl) ?_; simp only [Act.put, List.setIfInBounds_toArray, List.set_cons_zero, List.set_cons_succ])
            iterate 1 (refine loose_val (v := ?_) (by rfl) ?_ ?_; rotate_left; (focus (intro A' hA'; have r0 := zatB p0 hA'; have r2 := zatB p2 hA'; have r3 := zatB p3 hA';  go_simp; first | done | with_reducible rfl)); simp only [Act.put, List.setIfInBounds_toArray, List.set_cons_zero, List.set_cons_succ])
            refine loose_nil ?_
            intro wz hz
            have hszz : w1.heap.size ≤ wz.heap.size := by have := hz.size; omega
            have hbz := HBr.out.trans (hz.mono hszr)
            have HBz := Lib.hid hbz
            obtain ⟨s0, s1, s2, s3⟩ := HCl.out wz hbz
            have HOz := Lib.hid ((own_same HOwn.out fun m o hm ho _ => (Mod.of_below (S := none') hz).obj ho (fun h => h)).alloc (.cells #[.int .i64 k, .int .i64 id] 24))
            have HQz := HQn
            have HNews := Lib.hid (World.news_of_block (cs := #[.int .i64 k, .int .i64 id]) (t := 24) (fr := (0, 0)) (heap_alloc_new wz _))
            have hone : ∀ u ∈ [Value.int .i64 k, .int .i64 id], u.oneCell' = true := by simp [Value.oneCell']
            clear p0 p1 p2 p3 hz hbz
            go_wp2_with (first | (at_builtin; refine wpList_append_own_at _ rfl _ _ 30 rfl 0 24 i0 (.agg #[.int .i64 0, .int .i64 0]) 2 16 Try.underlying30 hi0 hz0 hz1 hz2 rfl (by decide) (.slice q nn cc) j ((S.take j).flatMap keyC) rfl HOz.out ⟨wz.heap.size, 0, none⟩ 1 1 [.int .i64 k, .int .i64 id] rfl rfl HNews.out hone (by unfold maxLen; omega) (by omega) (Nat.zero_le _) ?_; intro v' wn hown hgrow _ hat; obtain ⟨q', nn', cc', rfl, hbn, hqn'⟩ := push_key hown hgrow hat HQz.out hszz; have HOwn' := Lib.hid hown; have HBn := Lib.hid hbn; have HQn' := Lib.hid hqn'; clear hown hgrow hat hbn hqn'; have hbn2 := HBz.out.trans (HBn.out.mono (Nat.le_refl _)); have HBn2 := Lib.hid hbn2; obtain ⟨t0, t1, _, _⟩ := HCl.out _ hbn2; clear hbn2) | (at_builtin; refine wpList_append_own_at _ rfl _ _ 30 rfl 0 24 i0 (.agg #[.int .i64 0, .int .i64 0]) 2 16 Try.underlying30 hi0 hz0 hz1 hz2 rfl (by decide) (.slice q' nn' cc') (j + 1) ((S.take j).flatMap keyC ++ [.int .i64 k, .int .i64 id]) rfl HOwn'.out ⟨g, 0, none⟩ (S.length - j) 0 ((S.drop j).flatMap keyC) rfl hl2 (fun m u hu => by rw [hdn.out] at hu; simp at hu) (keyC_one _) (by unfold maxLen; omega) (by omega) (Nat.zero_le _) ?_; intro v2 w2 hown2 hgrow2 _ hat2; have hb2 := below_grown (B := w1.heap.size) hgrow2 HQn'.out HBn2.out.size; have hb3 := HBn2.out.trans hb2; obtain ⟨t2, t3, _, _⟩ := HCl.out _ hb3; obtain ⟨q2, nn2, cc2, rfl⟩ := own_form hown2; have HOwn2 := Lib.hid hown2; have HB2 := Lib.hid hb3; have HA2 := Lib.hid (own_new2 (B := w1.heap.size) hat2 HQn'.out HBn2.out.size); clear hown2 hgrow2 hat2 hb2 hb3))
            go_end0
            refine ⟨rfl, ref_set HH.out (HB1.out.trans (HB2.out.mono (by omega))) HOwn2.out ?_ ?_ (fun m hm => Nat.le_trans (by omega) (HA2.out m hm))⟩
            · rw [List.length_append, List.length_cons, List.length_take, List.length_drop]; omega
            · rw [List.flatMap_append, List.flatMap_cons, List.append_assoc]; rfl
          · have hjc2 : j < lcap := by have := HL2.out; omega
            have hjcI : (j : Int) ≤ (lcap : Int) := by omega
            go_wp2_with fail
            refine wp_region_loose (fun A => Below wr.heap.size wr A) (by kernel_rfl) (by kernel_rfl) ((Below.refl _ wr).drew) ?_
            iterate 8 (refine loose_val (v := ?_) (by rfl) ?_ ?_; rotate_left; (focus (intro A' hA'; have r0 := zatB p0 hA'; have r2 := zatB p2 hA'; have r3 := zatB p3 hA';  go_simp; first | done | with_reducible rfl)); simp only [Act.put, List.setIfInBounds_toArray, List.set_cons_zero, List.set_cons_succ])
            iterate 9 (refine loose_skip (by rfl) ?_; simp only [Act.put, List.setIfInBounds_toArray, List.set_cons_zero, List.set_cons_succ])
            iterate 1 (refine loose_val (v := ?_) (by rfl) ?_ ?_; rotate_left; (focus (intro A' hA'; have r0 := zatB p0 hA'; have r2 := zatB p2 hA'; have r3 := zatB p3 hA';  go_simp; first | done | with_reducible rfl)); simp only [Act.put, List.setIfInBounds_toArray, List.set_cons_zero, List.set_cons_succ])
            refine loose_nil ?_
            intro wz hz
            have hszz : w1.heap.size ≤ wz.heap.size := by have := hz.size; omega
            have hbz := HBr.out.trans (hz.mono hszr)
            have HBz := Lib.hid hbz
            obtain ⟨s0, s1, s2, s3⟩ := HCl.out wz hbz
            have HOz := Lib.hid ((own_same HOwn.out fun m o hm ho _ => (Mod.of_below (S := none') hz).obj ho (fun h => h)).alloc (.cells #[.int .i64 k, .int .i64 id] 24))
            have HQz := HQn
            have HNews := Lib.hid (World.news_of_block (cs := #[.int .i64 k, .int .i64 id]) (t := 24) (fr := (0, 0)) (heap_alloc_new wz _))
            have hone : ∀ u ∈ [Value.int .i64 k, .int .i64 id], u.oneCell' = true := by simp [Value.oneCell']
            clear p0 p1 p2 p3 hz hbz
            go_wp2_with (first | (at_builtin; refine wpList_append_own_at _ rfl _ _ 30 rfl 0 24 i0 (.agg #[.int .i64 0, .int .i64 0]) 2 16 Try.underlying30 hi0 hz0 hz1 hz2 rfl (by decide) (.slice q nn cc) j ((S.take j).flatMap keyC) rfl HOz.out ⟨wz.heap.size, 0, none⟩ 1 1 [.int .i64 k, .int .i64 id] rfl rfl HNews.out hone (by unfold maxLen; omega) (by omega) (Nat.zero_le _) ?_; intro v' wn hown hgrow _ hat; obtain ⟨q', nn', cc', rfl, hbn, hqn'⟩ := push_key hown hgrow hat HQz.out hszz; have HOwn' := Lib.hid hown; have HBn := Lib.hid hbn; have HQn' := Lib.hid hqn'; clear hown hgrow hat hbn hqn'; have hbn2 := HBz.out.trans (HBn.out.mono (Nat.le_refl _)); have HBn2 := Lib.hid hbn2; obtain ⟨t0, t1, _, _⟩ := HCl.out _ hbn2; clear hbn2) | (at_builtin; refine wpList_append_own_at _ rfl _ _ 30 rfl 0 24 i0 (.agg #[.int .i64 0, .int .i64 0]) 2 16 Try.underlying30 hi0 hz0 hz1 hz2 rfl (by decide) (.slice q' nn' cc') (j + 1) ((S.take j).flatMap keyC ++ [.int .i64 k, .int .i64 id]) rfl HOwn'.out ⟨g, j * 2, none⟩ (S.length - j) (lcap - j) ((S.drop j).flatMap keyC) rfl hl2 (fun m u hu => by rw [hdn.out] at hu; simp at hu) (keyC_one _) (by unfold maxLen; omega) (by omega) (Nat.zero_le _) ?_; intro v2 w2 hown2 hgrow2 _ hat2; have hb2 := below_grown (B := w1.heap.size) hgrow2 HQn'.out HBn2.out.size; have hb3 := HBn2.out.trans hb2; obtain ⟨t2, t3, _, _⟩ := HCl.out _ hb3; obtain ⟨q2, nn2, cc2, rfl⟩ := own_form hown2; have HOwn2 := Lib.hid hown2; have HB2 := Lib.hid hb3; have HA2 := Lib.hid (own_new2 (B := w1.heap.size) hat2 HQn'.out HBn2.out.size); clear hown2 hgrow2 hat2 hb2 hb3))
            go_end0
            refine ⟨rfl, ref_set HH.out (HB1.out.trans (HB2.out.mono (by omega))) HOwn2.out ?_ ?_ (fun m hm => Nat.le_trans (by omega) (HA2.out m hm))⟩
            · rw [List.length_append, List.length_cons, List.length_take, List.length_drop]; omega
            · rw [List.flatMap_append, List.flatMap_cons, List.append_assoc]; rfl
end
end Go.Proofs.Ytkjpkhpiojahkaa
