/-
  Walks: Len, Peek, Get, Drop, Take, New.
-/
import Derived.Test.YtecfenoidcolfaaHeapAt
import Derived.Test.YtecfenoidcolfaaHeap3
namespace Go.Proofs.Ytecfenoidcolfaa
set_option linter.unusedVariables false
open Go.RowKit Hp

section
variable {P : Program} (w : World) {ops : Array Oper} {rest : List Oper} {o : Oper} {a : Act} {Q : Exit → Act → World → Prop}
theorem wpList_delete_T (hg : o.guard = none) (m x : Operand) (t k : TypeId) (hop : o.op = Op.call { callee := Callee.builtin Builtin.delete, args := #[m, x], argTypes := #[t, k] })
    (e : TypeId) (hk : P.underlying k = some (.int .i64)) (ht : P.underlying t = some (.map k e)) (b n : Nat) (f : Int → Option Nat)
    (hm : a.eval m = .map (some b)) (hown : mapT w P k b n f) (xv : Int) (hx : a.eval x = .int .i64 xv) (hwf : (Lit.int .i64 xv).wf = true)
    (hK : ∀ w', mapT w' P k b (if (f xv).isSome then n - 1 else n) (putN f xv none) → Mod (fun j => j = b) w w' → wpList P ops Q rest (a.put o.dst (.tuple #[])) w') :
    wpList P ops Q (o :: rest) a w := by
  refine wpList_plain hg fun K' hK' => ?_
  obtain ⟨w', hrun, r1, r2⟩ := hown.drop hk ht hwf o.type
  unfold Oper.wp
  simp [execOp, hop, resolve, invoke, builtin, hm, hx, hrun, Result.andThen]
  exact hK' _ _ (hK w' r1 r2)
end

section
variable {w : World} {hb lf : Nat} {lt : Int → Int → Bool} {F : Nat → Prop} {M : List (It Int)}

theorem slice_len {w : World} {hb lf mb n : Nat} {v : Value} {A : List (It Int)} {f : Int → Option Nat} (h : Raw w hb lf v mb A n f) : ∃ a cap, v = .slice a A.length cap ∧ w.cell? ⟨hb, 1, none⟩ = some (.slice a A.length cap) := by
  have hc := h.c1
  rcases own_parts h.row with ⟨rfl, h0⟩ | ⟨g, cap, cur, rfl, _⟩
  · exact ⟨none, 0, by rw [h0], by rw [h0]; exact hc⟩
  · exact ⟨_, _, rfl, hc⟩

set_option maxHeartbeats 400000 in
theorem Len_ok (h : HeapAt w hb lf lt F M) : Calls Try.prog 25 #[.pointer (some ⟨hb, 0, none⟩)] w fun e w' => e = .returned (.int .i64 (M.length : Int)) ∧ w = w' := by
  obtain ⟨v, mb, A, f, hraw, _, _, hperm, _⟩ := h
  obtain ⟨a, cap, rfl, hc⟩ := slice_len hraw
  rw [← hperm.length_eq]
  clear hraw hperm
  go_enter Try.func25, Try.ntmps25
  go_wp2
  go_ret
  exact ⟨rfl, rfl⟩

set_option maxHeartbeats 400000 in
theorem Peek_none (h : HeapAt w hb lf lt F []) : Calls Try.prog 74 #[.pointer (some ⟨hb, 0, none⟩)] w fun e w' => e = .returned (.tuple #[.int .i64 0, .int .i64 0, .int .i64 14]) ∧ Below w.heap.size w w' := by
  obtain ⟨v, mb, A, f, hraw, _, _, hperm, _⟩ := h
  obtain ⟨a, cap, rfl, hc⟩ := slice_len hraw
  have hA : A = [] := by rw [← List.length_eq_zero_iff, hperm.length_eq]; rfl
  subst hA
  clear hraw hperm
  go_enter Try.func74, Try.ntmps74
  go_wp2
  go_ret3
  exact ⟨rfl, Below.refl _ _⟩

set_option maxRecDepth 100000 in
set_option maxHeartbeats 1000000 in
theorem Peek_some (HL : LessI lf lt) {x1 x2 : Int} {R : List (It Int)} (h : HeapAt w hb lf lt F ((x1, x2) :: R)) (hs : Sorted lt ((x1, x2) :: R)) :
    Calls Try.prog 74 #[.pointer (some ⟨hb, 0, none⟩)] w fun e w' => e = .returned (.tuple #[.int .i64 x1, .int .i64 x2, .int .i64 0]) ∧ Below w.heap.size w w' := by
  obtain ⟨v, mb, A, f, hraw, hheap, _, hperm, _⟩ := h
  have hx := hheap.head HL.swo hperm hs
  have hl : 0 < A.length := by rw [hperm.length_eq]; simp
  have hx0 : A[0]? = some (x1, x2) := by rw [getD_of hl] at hx; rw [List.getElem?_eq_getElem hl, hx]
  have hc1 := hraw.c1
  obtain ⟨g, cap, rfl, d0, d1, _⟩ := hraw.cell hx0
  simp only [Nat.zero_mul, Nat.zero_add] at d0 d1
  have hlI : (0 : Int) < (A.length : Int) := by omega
  have hne : ¬ ((A.length : Int) = 0) := by omega
  have hlt := hraw.lt
  have hnil : A ≠ [] := by intro e; rw [e] at hl; simp at hl
  clear hraw hheap hperm hx hx0 hs
  go_enter Try.func74, Try.ntmps74
  go_wp2_with fail
  refine wp_region_loose (fun A' => Below w.heap.size w A') (by kernel_rfl) (by kernel_rfl) ((Below.refl _ w).drew) ?_
  iterate 17 (first
    | (refine loose_val (v := ?_) (by rfl) ?_ ?_; rotate_left; (focus (intro A' hA'; have q1 := zatB hc1 hA'; have q2 := zatB d0 hA'; have q3 := zatB d1 hA'; go_simp; first | done | with_reducible rfl)); simp only [Act.put, List.setIfInBounds_toArray, List.set_cons_zero, List.set_cons_succ]))
  refine loose_nil ?_
  intro wz hz
  go_wp2_with fail
  go_ret3
  exact ⟨rfl, hz⟩

set_option maxHeartbeats 400000 in
theorem Get_none (h : HeapAt w hb lf lt F M) {id : Int} (hwf : (Lit.int .i64 id).wf = true) (hn : ∀ x ∈ M, x.1 ≠ id) : Calls Try.prog 31 #[.pointer (some ⟨hb, 0, none⟩), .int .i64 id] w fun e w' => e = .returned (.tuple #[.int .i64 0, .int .i64 14]) ∧ w = w' := by
  obtain ⟨v, mb, A, f, hraw, _, hpos, hperm, _⟩ := h
  have hth := there_none hraw hwf (hpos.none_iff.2 fun x hx => hn x (hperm.mem_iff.1 hx))
  have HTh := Lib.hid hth
  clear hraw hpos hperm hth
  go_enter Try.func31, Try.ntmps31
  go_wp2_with (first | (go_at_call 72; refine HTh.out.mono ?_; rintro e w' ⟨rfl, rfl⟩))
  go_ret2
  exact ⟨rfl, rfl⟩

theorem HeapAt.place {id k : Int} {v : Value} {mb : Nat} {A : List (It Int)} {f : Int → Option Nat} (_hraw : Raw w hb lf v mb A A.length f) (hpos : Pos A (0, 0) f) (hperm : A.Perm M) (hm : (id, k) ∈ M) : ∃ i, A[i]? = some (id, k) ∧ f id = some i := by
  obtain ⟨i, hi, e⟩ := List.mem_iff_getElem.1 (hperm.mem_iff.2 hm)
  refine ⟨i, by rw [List.getElem?_eq_getElem hi, e], ?_⟩
  have := hpos.1 i hi
  rwa [getD_of hi, e] at this

set_option maxHeartbeats 400000 in
theorem Get_some (h : HeapAt w hb lf lt F M) {id k : Int} (hm : (id, k) ∈ M) (hM : M.length < 1000000) : Calls Try.prog 31 #[.pointer (some ⟨hb, 0, none⟩), .int .i64 id] w fun e w' => e = .returned (.tuple #[.int .i64 k, .int .i64 0]) ∧ w = w' := by
  have hwf := (h.ids _ hm).2
  obtain ⟨v, mb, A, f, hraw, _, hpos, hperm, _⟩ := h
  obtain ⟨i, hi, hf⟩ := HeapAt.place hraw hpos hperm hm
  have hth := there_some hraw hwf hf
  have hc1 := hraw.c1
  have hil := (List.getElem?_eq_some_iff.1 hi).1
  have hAl : A.length < 1000000 := by rw [hperm.length_eq]; exact hM
  obtain ⟨g, cap, rfl, d0, d1, _⟩ := hraw.cell hi
  dsimp only at d0 d1
  have hi0 : (0 : Int) ≤ (i : Int) := by omega
  have hil2 : (i : Int) < (A.length : Int) := by omega
  have HTh := Lib.hid hth
  clear hraw hpos hperm hth hi hf
  go_enter Try.func31, Try.ntmps31
  go_wp2_with (first | (go_at_call 72; refine HTh.out.mono ?_; rintro e w' ⟨rfl, rfl⟩))
  go_ret2
  exact ⟨rfl, rfl⟩

set_option maxHeartbeats 400000 in
theorem Drop_none (h : HeapAt w hb lf lt F M) {id : Int} (hwf : (Lit.int .i64 id).wf = true) (hn : ∀ x ∈ M, x.1 ≠ id) : Calls Try.prog 30 #[.pointer (some ⟨hb, 0, none⟩), .int .i64 id] w fun e w' => e = .returned (.tuple #[.int .i64 0, .int .i64 14]) ∧ w = w' := by
  obtain ⟨v, mb, A, f, hraw, _, hpos, hperm, _⟩ := h
  have hth := there_none hraw hwf (hpos.none_iff.2 fun x hx => hn x (hperm.mem_iff.1 hx))
  have HTh := Lib.hid hth
  clear hraw hpos hperm hth
  go_enter Try.func30, Try.ntmps30
  go_wp2_with (first | (go_at_call 72; refine HTh.out.mono ?_; rintro e w' ⟨rfl, rfl⟩))
  go_ret2
  exact ⟨rfl, rfl⟩

theorem func_eq (lf : Nat) (w : World) : (binOp BinOp.eql 27 (.func (.func lf) #[] #[]) .nilFunc).run Try.prog w = .ok (.bool false) w := by kernel_rfl

set_option maxRecDepth 100000 in
set_option maxHeartbeats 400000 in
theorem New_ok {lf : Nat} (lt : Int → Int → Bool) (w : World) : Calls Try.prog 19 #[.func (.func lf) #[] #[]] w fun e w' => ∃ hb F, e = .returned (.tuple #[.pointer (some ⟨hb, 0, none⟩), .int .i64 0]) ∧ HeapAt w' hb lf lt F [] ∧ Below w.heap.size w w' ∧ ∀ j, F j → w.heap.size ≤ j := by
  have hmm := @run_makeMap Try.prog
  have hfe := func_eq lf
  go_enter Try.func19, Try.ntmps19
  go_wp2
  go_ret2
  refine ⟨w.heap.size + 1, fun j => j = w.heap.size + 1 ∨ j = w.heap.size, ?_, ⟨.slice none 0 0, w.heap.size, [], fun _ => none, ⟨?_, World.ownsRow_nil _ _ _ _, ?_⟩, ?_, ?_, List.Perm.refl _, by simp, .inl rfl, ?_, ?_⟩, ?_, ?_⟩
  · rfl
  · have e : w.heap.size + 1 = (w.alloc (.map #[] 0)).heap.size := by simp
    rw [e]
    exact heap_alloc_new _ _
  · exact (mapT_made w Try.prog 3).of_same (by rw [Below.heap_alloc _ _ _ (by simp)])
  · intro j h0 hj; simp at hj
  · exact ⟨fun k hk => by simp at hk, fun y v hy => by cases hy⟩
  · rintro j (hj | rfl)
    · simp [Value.ownBlock] at hj
    · exact .inr rfl
  · rintro j (rfl | rfl)
    · simp
    · simp; omega
  · exact ((Below.refl _ w).alloc (Nat.le_refl _) _).alloc (by simp) _
  · rintro j (rfl | rfl) <;> omega

set_option maxHeartbeats 400000 in
theorem Change_none (h : HeapAt w hb lf lt F M) {id k : Int} (hwf : (Lit.int .i64 id).wf = true) (hn : ∀ x ∈ M, x.1 ≠ id) : Calls Try.prog 37 #[.pointer (some ⟨hb, 0, none⟩), .int .i64 id, .int .i64 k] w fun e w' => e = .returned (.int .i64 14) ∧ w = w' := by
  obtain ⟨v, mb, A, f, hraw, _, hpos, hperm, _⟩ := h
  have hth := there_none hraw hwf (hpos.none_iff.2 fun x hx => hn x (hperm.mem_iff.1 hx))
  have HTh := Lib.hid hth
  clear hraw hpos hperm hth
  go_enter Try.func37, Try.ntmps37
  go_wp2_with (first | (go_at_call 72; refine HTh.out.mono ?_; rintro e w' ⟨rfl, rfl⟩))
  go_ret
  exact ⟨rfl, rfl⟩
set_option maxHeartbeats 400000 in
theorem Put_there (h : HeapAt w hb lf lt F M) {id k0 k : Int} (hm : (id, k0) ∈ M) : Calls Try.prog 22 #[.pointer (some ⟨hb, 0, none⟩), .int .i64 id, .int .i64 k] w fun e w' => e = .returned (.int .i64 15) ∧ w = w' := by
  have hwf := (h.ids _ hm).2
  have h0 := (h.ids _ hm).1
  dsimp only at h0
  obtain ⟨v, mb, A, f, hraw, _, hpos, hperm, _⟩ := h
  obtain ⟨i, hi, hf⟩ := HeapAt.place hraw hpos hperm hm
  have hth := there_some hraw hwf hf
  have hbad : (id < 0) = False := by simp; exact h0
  have HTh := Lib.hid hth
  clear hraw hpos hperm hth hi hf
  go_enter Try.func22, Try.ntmps22
  go_wp2_with (first | (go_at_call 72; refine HTh.out.mono ?_; rintro e w' ⟨rfl, rfl⟩))
  go_ret
  exact ⟨rfl, rfl⟩
set_option maxHeartbeats 400000 in
theorem Put_bad (h : HeapAt w hb lf lt F M) {id k : Int} (hwf : (Lit.int .i64 id).wf = true) (hn : id < 0) : Calls Try.prog 22 #[.pointer (some ⟨hb, 0, none⟩), .int .i64 id, .int .i64 k] w fun e w' => e = .returned (.int .i64 1) ∧ w = w' := by
  have hids := h.ids
  obtain ⟨v, mb, A, f, hraw, _, hpos, hperm, _⟩ := h
  have hth := there_none hraw hwf (hpos.none_iff.2 fun x hx e => by have := (hids x (hperm.mem_iff.1 hx)).1; omega)
  have HTh := Lib.hid hth
  clear hraw hpos hperm hth
  go_enter Try.func22, Try.ntmps22
  go_wp2_with (first | (go_at_call 72; refine HTh.out.mono ?_; rintro e w' ⟨rfl, rfl⟩))
  go_ret
  exact ⟨rfl, rfl⟩
end
end Go.Proofs.Ytecfenoidcolfaa
