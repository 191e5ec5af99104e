/-
  Walks: Len, Peek, Get, Drop, Take, New.
-/
import Derived.Test.YtecfenoidcolfaaKHeapAt
import Derived.Test.YtecfenoidcolfaaHeap3
import Derived.Handy
namespace Go.Proofs.Ytecfenoidcolfaa.Ke
set_option linter.unusedVariables false
open Go.RowKit Hp

theorem new_free (w : World) (cs : Array Value) (t k : Nat) : (w.alloc (.cells cs t)).frozen? ⟨w.heap.size, k, none⟩ = false := by
  have := heap_alloc_new w (.cells cs t)
  simp only [World.frozen?, this]
  simp
theorem box2_0 {W : World} {s : Nat} {z0 : Value} (h0 : W.cell? ⟨s, 0, none⟩ = some z0) (a b : Value) : ((W.setCell ⟨s, 0, none⟩ a).setCell ⟨s, 1, none⟩ b).cell? ⟨s, 0, none⟩ = some a := by
  rw [World.cell?_setCell_other _ _ _ _ (by simp)]
  exact World.cell?_setCell_same' _ _ _ (by rw [h0]; rfl)
theorem box2_1 {W : World} {s : Nat} {z1 : Value} (h1 : W.cell? ⟨s, 1, none⟩ = some z1) (a b : Value) : ((W.setCell ⟨s, 0, none⟩ a).setCell ⟨s, 1, none⟩ b).cell? ⟨s, 1, none⟩ = some b :=
  World.cell?_setCell_same' _ _ _ (by rw [World.cell?_setCell_other _ _ _ _ (by simp), h1]; rfl)

section
variable {P : Program} (w : World) {ops : Array Oper} {rest : List Oper} {o : Oper} {a : Act} {Q : Exit → Act → World → Prop}
theorem wpList_delete_T (hg : o.guard = none) (m x : Operand) (t k : TypeId) (hop : o.op = Op.call { callee := Callee.builtin Builtin.delete, args := #[m, x], argTypes := #[t, k] })
    (e : TypeId) (hk : P.underlying k = some (.int .i64)) (ht : P.underlying t = some (.map k e)) (b n : Nat) (f : Int → Option Nat)
    (hm : a.eval m = .map (some b)) (hown : mapT w P k b n f) (xv : Int) (hx : a.eval x = .int .i64 xv) (hwf : (Lit.int .i64 xv).wf = true)
    (hK : ∀ w', mapT w' P k b (if (f xv).isSome then n - 1 else n) (putN f xv none) → Mod (fun j => j = b) w w' → wpList P ops Q rest (a.put o.dst (.tuple #[])) w') :
    wpList P ops Q (o :: rest) a w := by
  refine wpList_plain hg fun K' hK' => ?_
  obtain ⟨w', hrun, r1, r2⟩ := hown.drop hk ht hwf o.type
  unfold Oper.wp
  simp [execOp, hop, resolve, invoke, builtin, hm, hx, hrun, Result.andThen]
  exact hK' _ _ (hK w' r1 r2)
end

section
variable {w : World} {hb lf : Nat} {lt : (Int × Int) → (Int × Int) → Bool} {F : Nat → Prop} {M : List (It (Int × Int))}

theorem slice_len {w : World} {hb lf mb n : Nat} {v : Value} {A : List (It (Int × Int))} {f : Int → Option Nat} (h : Raw w hb lf v mb A n f) : ∃ a cap, v = .slice a A.length cap ∧ w.cell? ⟨hb, 1, none⟩ = some (.slice a A.length cap) := by
  have hc := h.c1
  rcases own_parts h.row with ⟨rfl, h0⟩ | ⟨g, cap, cur, rfl, _⟩
  · exact ⟨none, 0, by rw [h0], by rw [h0]; exact hc⟩
  · exact ⟨_, _, rfl, hc⟩

set_option maxHeartbeats 400000 in
theorem Len_ok (h : HeapAt w hb lf lt F M) : Calls Try.prog 29 #[.pointer (some ⟨hb, 0, none⟩)] w fun e w' => e = .returned (.int .i64 (M.length : Int)) ∧ w = w' := by
  obtain ⟨v, mb, A, f, hraw, _, _, hperm, _⟩ := h
  obtain ⟨a, cap, rfl, hc⟩ := slice_len hraw
  rw [← hperm.length_eq]
  clear hraw hperm
  go_enter Try.func29, Try.ntmps29
  go_wp2
  go_ret
  exact ⟨rfl, rfl⟩

set_option maxRecDepth 100000 in
set_option maxHeartbeats 1000000 in
theorem Peek_none (h : HeapAt w hb lf lt F []) : Calls Try.prog 77 #[.pointer (some ⟨hb, 0, none⟩)] w fun e w' => e = .returned (.tuple #[.int .i64 0, .agg #[.int .i64 0, .int .i64 0], .int .i64 14]) ∧ Below w.heap.size w w' := by
  obtain ⟨v, mb, A, f, hraw, _, _, hperm, _⟩ := h
  obtain ⟨W, hW⟩ : ∃ W, w.alloc (.cells #[.int .i64 0, .int .i64 0] 32) = W := ⟨_, rfl⟩
  have hbW : Below w.heap.size w W := by rw [← hW]; exact (Below.refl _ w).alloc (Nat.le_refl _) _
  have p0 : W.cell? ⟨w.heap.size, 0, none⟩ = some (.int .i64 0) := by rw [← hW, World.cell?_alloc_at _ _ _ _ rfl]; rfl
  have p1 : W.cell? ⟨w.heap.size, 1, none⟩ = some (.int .i64 0) := by rw [← hW, World.cell?_alloc_at _ _ _ _ rfl]; rfl
  have pf : ∀ k, W.frozen? ⟨w.heap.size, k, none⟩ = false := fun k => by rw [← hW]; exact new_free w _ _ k
  have pf0 := pf 0
  have pf1 := pf 1
  obtain ⟨a, cap, rfl, hc⟩ := slice_len (hraw.below hbW)
  have hA : A = [] := by rw [← List.length_eq_zero_iff, hperm.length_eq]; rfl
  subst hA
  clear hraw hperm pf
  go_enter Try.func77, Try.ntmps77
  go_wp2_with fail
  clear hW
  go_region
  all_goals go_wp2_with fail
  all_goals refine bodyPost_ret (by simp [results, Try.results77, go_sem, box2_0 p0, box2_1 p1]; try rfl) rfl ?_
  all_goals exact ⟨rfl, by go_grown⟩

set_option maxRecDepth 100000 in
set_option maxHeartbeats 1000000 in
theorem Peek_some (HL : LessI lf lt) {x1 : Int} {x2 : Int × Int} {R : List (It (Int × Int))} (h : HeapAt w hb lf lt F ((x1, x2) :: R)) (hs : Sorted lt ((x1, x2) :: R)) :
    Calls Try.prog 77 #[.pointer (some ⟨hb, 0, none⟩)] w fun e w' => e = .returned (.tuple #[.int .i64 x1, .agg #[.int .i64 x2.1, .int .i64 x2.2], .int .i64 0]) ∧ Below w.heap.size w w' := by
  obtain ⟨v, mb, A, f, hraw, hheap, _, hperm, _⟩ := h
  obtain ⟨W, hW⟩ : ∃ W, w.alloc (.cells #[.int .i64 0, .int .i64 0] 32) = W := ⟨_, rfl⟩
  have hbW : Below w.heap.size w W := by rw [← hW]; exact (Below.refl _ w).alloc (Nat.le_refl _) _
  have p0 : W.cell? ⟨w.heap.size, 0, none⟩ = some (.int .i64 0) := by rw [← hW, World.cell?_alloc_at _ _ _ _ rfl]; rfl
  have p1 : W.cell? ⟨w.heap.size, 1, none⟩ = some (.int .i64 0) := by rw [← hW, World.cell?_alloc_at _ _ _ _ rfl]; rfl
  have pf : ∀ k, W.frozen? ⟨w.heap.size, k, none⟩ = false := fun k => by rw [← hW]; exact new_free w _ _ k
  have pf0 := pf 0
  have pf1 := pf 1
  have hx := hheap.head HL.swo hperm hs
  have hl : 0 < A.length := by rw [hperm.length_eq]; simp
  have hx0 : A[0]? = some (x1, x2) := by rw [getD_of hl] at hx; rw [List.getElem?_eq_getElem hl, hx]
  have hrW := hraw.below hbW
  have hc1 := hrW.c1
  obtain ⟨g, cap, rfl, d0, d1, _⟩ := hrW.cell hx0
  simp only [Nat.zero_mul, Nat.zero_add] at d0 d1
  obtain ⟨d1, d2⟩ := d1
  have hlI : (0 : Int) < (A.length : Int) := by omega
  have hne : ¬ ((A.length : Int) = 0) := by omega
  have hlt := hrW.lt
  have hnil : A ≠ [] := by intro e; rw [e] at hl; simp at hl
  clear hraw hheap hperm hx hx0 hs pf hrW
  go_enter Try.func77, Try.ntmps77
  go_wp2_with fail
  clear hW
  go_region
  all_goals go_wp2_with fail
  all_goals refine bodyPost_ret (by simp [results, Try.results77, go_sem, box2_0 p0, box2_1 p1]; try rfl) rfl ?_
  all_goals exact ⟨rfl, by go_grown⟩

set_option maxHeartbeats 400000 in
theorem Get_none (h : HeapAt w hb lf lt F M) {id : Int} (hwf : (Lit.int .i64 id).wf = true) (hn : ∀ x ∈ M, x.1 ≠ id) : Calls Try.prog 94 #[.pointer (some ⟨hb, 0, none⟩), .int .i64 id] w fun e w' => e = .returned (.tuple #[.agg #[.int .i64 0, .int .i64 0], .int .i64 14]) ∧ Below w.heap.size w w' := by
  obtain ⟨v, mb, A, f, hraw, _, hpos, hperm, _⟩ := h
  obtain ⟨W, hW⟩ : ∃ W, w.alloc (.cells #[.int .i64 0, .int .i64 0] 32) = W := ⟨_, rfl⟩
  have hbW : Below w.heap.size w W := by rw [← hW]; exact (Below.refl _ w).alloc (Nat.le_refl _) _
  have p0 : W.cell? ⟨w.heap.size, 0, none⟩ = some (.int .i64 0) := by rw [← hW, World.cell?_alloc_at _ _ _ _ rfl]; rfl
  have p1 : W.cell? ⟨w.heap.size, 1, none⟩ = some (.int .i64 0) := by rw [← hW, World.cell?_alloc_at _ _ _ _ rfl]; rfl
  have pf : ∀ k, W.frozen? ⟨w.heap.size, k, none⟩ = false := fun k => by rw [← hW]; exact new_free w _ _ k
  have pf0 := pf 0
  have pf1 := pf 1
  have hth := there_none (hraw.below hbW) hwf (hpos.none_iff.2 fun x hx => hn x (hperm.mem_iff.1 hx))
  have HTh := Lib.hid hth
  clear hraw hpos hperm hth pf
  go_enter Try.func94, Try.ntmps94
  go_wp2_with (first | (go_at_call 75; refine HTh.out.mono ?_; rintro e w' ⟨rfl, rfl⟩))
  refine bodyPost_ret (by simp [results, Try.results94, go_sem, box2_0 p0, box2_1 p1]; try rfl) rfl ?_
  exact ⟨rfl, by go_grown⟩

theorem HeapAt.place {id : Int} {k : Int × Int} {v : Value} {mb : Nat} {A : List (It (Int × Int))} {f : Int → Option Nat} (_hraw : Raw w hb lf v mb A A.length f) (hpos : Pos A (0, 0, 0) f) (hperm : A.Perm M) (hm : (id, k) ∈ M) : ∃ i, A[i]? = some (id, k) ∧ f id = some i := by
  obtain ⟨i, hi, e⟩ := List.mem_iff_getElem.1 (hperm.mem_iff.2 hm)
  refine ⟨i, by rw [List.getElem?_eq_getElem hi, e], ?_⟩
  have := hpos.1 i hi
  rwa [getD_of hi, e] at this

set_option maxHeartbeats 400000 in
theorem Get_some (h : HeapAt w hb lf lt F M) {id : Int} {k : Int × Int} (hm : (id, k) ∈ M) (hM : M.length < 1000000) : Calls Try.prog 94 #[.pointer (some ⟨hb, 0, none⟩), .int .i64 id] w fun e w' => e = .returned (.tuple #[.agg #[.int .i64 k.1, .int .i64 k.2], .int .i64 0]) ∧ Below w.heap.size w w' := by
  have hwf := (h.ids _ hm).2
  obtain ⟨v, mb, A, f, hraw, _, hpos, hperm, _⟩ := h
  obtain ⟨W, hW⟩ : ∃ W, w.alloc (.cells #[.int .i64 0, .int .i64 0] 32) = W := ⟨_, rfl⟩
  have hbW : Below w.heap.size w W := by rw [← hW]; exact (Below.refl _ w).alloc (Nat.le_refl _) _
  have p0 : W.cell? ⟨w.heap.size, 0, none⟩ = some (.int .i64 0) := by rw [← hW, World.cell?_alloc_at _ _ _ _ rfl]; rfl
  have p1 : W.cell? ⟨w.heap.size, 1, none⟩ = some (.int .i64 0) := by rw [← hW, World.cell?_alloc_at _ _ _ _ rfl]; rfl
  have pf : ∀ k, W.frozen? ⟨w.heap.size, k, none⟩ = false := fun k => by rw [← hW]; exact new_free w _ _ k
  have pf0 := pf 0
  have pf1 := pf 1
  obtain ⟨i, hi, hf⟩ := HeapAt.place hraw hpos hperm hm
  have hrW := hraw.below hbW
  have hth := there_some hrW hwf hf
  have hc1 := hrW.c1
  have hil := (List.getElem?_eq_some_iff.1 hi).1
  have hAl : A.length < 1000000 := by rw [hperm.length_eq]; exact hM
  obtain ⟨g, cap, rfl, d0, d1, _⟩ := hrW.cell hi
  dsimp only at d0 d1
  obtain ⟨d1, d2⟩ := d1
  have hi0 : (0 : Int) ≤ (i : Int) := by omega
  have hil2 : (i : Int) < (A.length : Int) := by omega
  have HTh := Lib.hid hth
  clear hraw hpos hperm hth hi hf pf hrW
  go_enter Try.func94, Try.ntmps94
  go_wp2_with (first | (go_at_call 75; refine HTh.out.mono ?_; rintro e w' ⟨rfl, rfl⟩))
  refine bodyPost_ret (by simp [results, Try.results94, go_sem, box2_0 p0, box2_1 p1]; try rfl) rfl ?_
  exact ⟨rfl, by go_grown⟩

set_option maxHeartbeats 400000 in
theorem Drop_none (h : HeapAt w hb lf lt F M) {id : Int} (hwf : (Lit.int .i64 id).wf = true) (hn : ∀ x ∈ M, x.1 ≠ id) : Calls Try.prog 78 #[.pointer (some ⟨hb, 0, none⟩), .int .i64 id] w fun e w' => e = .returned (.tuple #[.agg #[.int .i64 0, .int .i64 0], .int .i64 14]) ∧ Below w.heap.size w w' := by
  obtain ⟨v, mb, A, f, hraw, _, hpos, hperm, _⟩ := h
  obtain ⟨W, hW⟩ : ∃ W, w.alloc (.cells #[.int .i64 0, .int .i64 0] 32) = W := ⟨_, rfl⟩
  have hbW : Below w.heap.size w W := by rw [← hW]; exact (Below.refl _ w).alloc (Nat.le_refl _) _
  have p0 : W.cell? ⟨w.heap.size, 0, none⟩ = some (.int .i64 0) := by rw [← hW, World.cell?_alloc_at _ _ _ _ rfl]; rfl
  have p1 : W.cell? ⟨w.heap.size, 1, none⟩ = some (.int .i64 0) := by rw [← hW, World.cell?_alloc_at _ _ _ _ rfl]; rfl
  have pf : ∀ k, W.frozen? ⟨w.heap.size, k, none⟩ = false := fun k => by rw [← hW]; exact new_free w _ _ k
  have pf0 := pf 0
  have pf1 := pf 1
  have hth := there_none (hraw.below hbW) hwf (hpos.none_iff.2 fun x hx => hn x (hperm.mem_iff.1 hx))
  have HTh := Lib.hid hth
  clear hraw hpos hperm hth pf
  go_enter Try.func78, Try.ntmps78
  go_wp2_with (first | (go_at_call 75; refine HTh.out.mono ?_; rintro e w' ⟨rfl, rfl⟩))
  refine bodyPost_ret (by simp [results, Try.results78, go_sem, box2_0 p0, box2_1 p1]; try rfl) rfl ?_
  exact ⟨rfl, by go_grown⟩

theorem func_eq (lf : Nat) (w : World) : (binOp BinOp.eql 42 (.func (.func lf) #[] #[]) .nilFunc).run Try.prog w = .ok (.bool false) w := by kernel_rfl

set_option maxRecDepth 100000 in
set_option maxHeartbeats 400000 in
theorem New_ok {lf : Nat} (lt : (Int × Int) → (Int × Int) → Bool) (w : World) : Calls Try.prog 26 #[.func (.func lf) #[] #[]] w fun e w' => ∃ hb F, e = .returned (.tuple #[.pointer (some ⟨hb, 0, none⟩), .int .i64 0]) ∧ HeapAt w' hb lf lt F [] ∧ Below w.heap.size w w' ∧ ∀ j, F j → w.heap.size ≤ j := by
  have hmm := @run_makeMap Try.prog
  have hfe := func_eq lf
  go_enter Try.func26, Try.ntmps26
  go_wp2
  go_ret2
  refine ⟨w.heap.size + 1, fun j => j = w.heap.size + 1 ∨ j = w.heap.size, ?_, ⟨.slice none 0 0, w.heap.size, [], fun _ => none, ⟨?_, World.ownsRow_nil _ _ _ _, ?_⟩, ?_, ?_, List.Perm.refl _, by simp, .inl rfl, ?_, ?_⟩, ?_, ?_⟩
  · rfl
  · have e : w.heap.size + 1 = (w.alloc (.map #[] 0)).heap.size := by simp
    rw [e]
    exact heap_alloc_new _ _
  · exact (mapT_made w Try.prog 3).of_same (by rw [Below.heap_alloc _ _ _ (by simp)])
  · intro j h0 hj; simp at hj
  · exact ⟨fun k hk => by simp at hk, fun y v hy => by cases hy⟩
  · rintro j (hj | rfl)
    · simp [Value.ownBlock] at hj
    · exact .inr rfl
  · rintro j (rfl | rfl)
    · simp
    · simp; omega
  · exact ((Below.refl _ w).alloc (Nat.le_refl _) _).alloc (by simp) _
  · rintro j (rfl | rfl) <;> omega

set_option maxHeartbeats 400000 in
theorem Change_none (h : HeapAt w hb lf lt F M) {id : Int} {k : Int × Int} (hwf : (Lit.int .i64 id).wf = true) (hn : ∀ x ∈ M, x.1 ≠ id) : Calls Try.prog 96 #[.pointer (some ⟨hb, 0, none⟩), .int .i64 id, .agg #[.int .i64 k.1, .int .i64 k.2]] w fun e w' => e = .returned (.int .i64 14) ∧ Below w.heap.size w w' := by
  obtain ⟨v, mb, A, f, hraw, _, hpos, hperm, _⟩ := h
  obtain ⟨W, hW⟩ : ∃ W, w.alloc (.cells #[.int .i64 k.1, .int .i64 k.2] 32) = W := ⟨_, rfl⟩
  have hbW : Below w.heap.size w W := by rw [← hW]; exact (Below.refl _ w).alloc (Nat.le_refl _) _
  have hth := there_none (hraw.below hbW) hwf (hpos.none_iff.2 fun x hx => hn x (hperm.mem_iff.1 hx))
  have HTh := Lib.hid hth
  clear hraw hpos hperm hth
  go_enter Try.func96, Try.ntmps96
  go_wp2_with (first | (go_at_call 75; refine HTh.out.mono ?_; rintro e w' ⟨rfl, rfl⟩))
  go_ret
  exact ⟨rfl, hbW⟩
set_option maxHeartbeats 400000 in
theorem Put_there (h : HeapAt w hb lf lt F M) {id : Int} {k0 k : Int × Int} (hm : (id, k0) ∈ M) : Calls Try.prog 27 #[.pointer (some ⟨hb, 0, none⟩), .int .i64 id, .agg #[.int .i64 k.1, .int .i64 k.2]] w fun e w' => e = .returned (.int .i64 15) ∧ Below w.heap.size w w' := by
  have hwf := (h.ids _ hm).2
  have h0 := (h.ids _ hm).1
  dsimp only at h0
  obtain ⟨v, mb, A, f, hraw, _, hpos, hperm, _⟩ := h
  obtain ⟨i, hi, hf⟩ := HeapAt.place hraw hpos hperm hm
  obtain ⟨W, hW⟩ : ∃ W, w.alloc (.cells #[.int .i64 k.1, .int .i64 k.2] 32) = W := ⟨_, rfl⟩
  have hbW : Below w.heap.size w W := by rw [← hW]; exact (Below.refl _ w).alloc (Nat.le_refl _) _
  have hth := there_some (hraw.below hbW) hwf hf
  have hbad : (id < 0) = False := by simp; exact h0
  have HTh := Lib.hid hth
  clear hraw hpos hperm hth hi hf
  go_enter Try.func27, Try.ntmps27
  go_wp2_with (first | (go_at_call 75; refine HTh.out.mono ?_; rintro e w' ⟨rfl, rfl⟩))
  go_ret
  exact ⟨rfl, hbW⟩
set_option maxHeartbeats 400000 in
theorem Put_bad (h : HeapAt w hb lf lt F M) {id : Int} {k : Int × Int} (hwf : (Lit.int .i64 id).wf = true) (hn : id < 0) : Calls Try.prog 27 #[.pointer (some ⟨hb, 0, none⟩), .int .i64 id, .agg #[.int .i64 k.1, .int .i64 k.2]] w fun e w' => e = .returned (.int .i64 1) ∧ Below w.heap.size w w' := by
  have hids := h.ids
  obtain ⟨v, mb, A, f, hraw, _, hpos, hperm, _⟩ := h
  obtain ⟨W, hW⟩ : ∃ W, w.alloc (.cells #[.int .i64 k.1, .int .i64 k.2] 32) = W := ⟨_, rfl⟩
  have hbW : Below w.heap.size w W := by rw [← hW]; exact (Below.refl _ w).alloc (Nat.le_refl _) _
  have hth := there_none (hraw.below hbW) hwf (hpos.none_iff.2 fun x hx e => by have := (hids x (hperm.mem_iff.1 hx)).1; omega)
  have HTh := Lib.hid hth
  clear hraw hpos hperm hth
  go_enter Try.func27, Try.ntmps27
  go_wp2_with (first | (go_at_call 75; refine HTh.out.mono ?_; rintro e w' ⟨rfl, rfl⟩))
  go_ret
  exact ⟨rfl, hbW⟩
end
end Go.Proofs.Ytecfenoidcolfaa.Ke
