/-
  A heap for whoever uses it: what is in it, and which blocks are its own.
  Walks: Len, Peek, Get, Drop, Take, New.
  Walks: Drop, Take.
-/
import Derived.Test.YtkjpkhpiojahkaaW4
import Derived.Maps.AppendAt
import Derived.WalkSpells
import Derived.Deep.AppendLies
import Derived.Test.YtkjpkhpiojahkaaBase
/-! ### A heap for whoever uses it: what is in it, and which blocks are its own. -/
namespace Go.Proofs.Ytkjpkhpiojahkaa
set_option linter.unusedVariables false
open Go.RowKit Hp

/-- block hb is a heap of the numbers and keys M; its blocks are among F -/
def HeapAt (w : World) (hb lf : Nat) (lt : Int → Int → Bool) (F : Nat → Prop) (M : List (It Int)) : Prop :=
  ∃ v mb A f, Raw w hb lf v mb A A.length f ∧ IsHeap lt A (0, 0) ∧ Pos A (0, 0) f ∧ A.Perm M ∧ (∀ x ∈ M, 0 ≤ x.1 ∧ (Lit.int .i64 x.1).wf = true) ∧
    F hb ∧ (∀ j, Foot v mb j → F j) ∧ (∀ j, F j → j < w.heap.size)

/-- what a call on a heap leaves -/
def HeapTo (w w' : World) (hb lf : Nat) (lt : Int → Int → Bool) (F : Nat → Prop) (M : List (It Int)) : Prop :=
  ∃ F', HeapAt w' hb lf lt F' M ∧ Mod F w w' ∧ ∀ j, F' j → F j ∨ w.heap.size ≤ j

section
variable {w w' : World} {hb lf : Nat} {lt : Int → Int → Bool} {F : Nat → Prop} {M M' : List (It Int)}
theorem HeapAt.perm (h : HeapAt w hb lf lt F M) (hp : M.Perm M') : HeapAt w hb lf lt F M' := by
  obtain ⟨v, mb, A, f, h1, h2, h3, h4, h5, h6⟩ := h
  exact ⟨v, mb, A, f, h1, h2, h3, h4.trans hp, fun x hx => h5 x (hp.mem_iff.2 hx), h6⟩
theorem HeapAt.lt_hb (h : HeapAt w hb lf lt F M) : hb < w.heap.size := by
  obtain ⟨v, mb, A, f, h1, _⟩ := h
  exact h1.lt
theorem HeapAt.lt_F (h : HeapAt w hb lf lt F M) {j : Nat} (hj : F j) : j < w.heap.size := by
  obtain ⟨v, mb, A, f, _, _, _, _, _, _, _, h8⟩ := h
  exact h8 j hj
theorem HeapAt.distinct (h : HeapAt w hb lf lt F M) : M.Pairwise fun a b => a.1 ≠ b.1 := by
  obtain ⟨v, mb, A, f, _, _, h3, h4, _⟩ := h
  exact distinct_perm h4 h3.distinct
theorem HeapAt.ids (h : HeapAt w hb lf lt F M) : ∀ x ∈ M, 0 ≤ x.1 ∧ (Lit.int .i64 x.1).wf = true := by
  obtain ⟨v, mb, A, f, _, _, _, _, h5, _⟩ := h
  exact h5
theorem HeapAt.mod (h : HeapAt w hb lf lt F M) {S : Nat → Prop} (hm : Mod S w w') (hS : ∀ j, F j → ¬ S j) : HeapAt w' hb lf lt F M := by
  obtain ⟨v, mb, A, f, h1, h2, h3, h4, h5, h6, h7, h8⟩ := h
  exact ⟨v, mb, A, f, h1.mod hm (hS _ h6) (fun j hj => hS j (h7 j hj)), h2, h3, h4, h5, h6, h7, fun j hj => Nat.lt_of_lt_of_le (h8 j hj) hm.size⟩
theorem HeapAt.below (h : HeapAt w hb lf lt F M) (hm : Below w.heap.size w w') : HeapAt w' hb lf lt F M :=
  h.mod (Mod.of_below (S := none') hm) (fun _ _ h => h)
theorem HeapAt.to_below (h : HeapAt w hb lf lt F M) (hm : Below w.heap.size w w') : HeapTo w w' hb lf lt F M :=
  ⟨F, h.below hm, Mod.of_below hm, fun _ h => .inl h⟩
theorem HeapTo.perm (h : HeapTo w w' hb lf lt F M) (hp : M.Perm M') : HeapTo w w' hb lf lt F M' := by
  obtain ⟨F', h1, h2⟩ := h
  exact ⟨F', h1.perm hp, h2⟩
end

/-- the last of a list that is a heap but for it -/
theorem upOk_snoc {lt : Int → Int → Bool} {A : List (It Int)} {d x : It Int} (h : IsHeap lt A d) : UpOk lt (A ++ [x]) d A.length := by
  have e : ∀ j, j < A.length → (A ++ [x]).getD j d = A.getD j d := fun j hj => by
    rw [List.getD_eq_getElem?_getD, List.getElem?_append_left hj, List.getD_eq_getElem?_getD]
  refine ⟨fun j h0 hj hne => ?_, fun _ j h0 hj hp => ?_⟩
  · rw [List.length_append] at hj
    simp at hj
    rw [e j (by omega), e _ (by omega)]
    exact h j h0 (by omega)
  · rw [List.length_append] at hj
    simp at hj
    omega
theorem posBut_snoc {A : List (It Int)} {d x : It Int} {f : Int → Option Nat} (h : Pos A d f) (hx : f x.1 = none) : PosBut (A ++ [x]) d A.length f := by
  have e : ∀ j, j < A.length → (A ++ [x]).getD j d = A.getD j d := fun j hj => by
    rw [List.getD_eq_getElem?_getD, List.getElem?_append_left hj, List.getD_eq_getElem?_getD]
  have e2 : (A ++ [x]).getD A.length d = x := by simp [List.getD]
  refine ⟨fun k hk hne => ?_, fun y v hy => ?_, fun k hk hne => ?_⟩
  · rw [List.length_append] at hk
    simp at hk
    rw [e k (by omega)]
    exact h.1 k (by omega)
  · obtain ⟨k, hk, he⟩ := h.2 y v hy
    exact ⟨k, by rw [List.length_append]; omega, by rw [e k hk]; exact he⟩
  · rw [List.length_append] at hk
    simp at hk
    rw [e k (by omega), e2]
    intro heq
    have := h.1 k (by omega)
    rw [heq, hx] at this
    cases this

theorem Try.info202 : (Try.prog.info? 202).map (fun i => (i.zero, i.size, i.bytes)) = some (some (.agg #[.int .i64 0, .int .i64 0]), 2, 16) := by kernel_rfl
theorem info_parts2 {i : Option TypeInfo} {z : Value} {size bytes : Nat} (h : i.map (fun i => (i.zero, i.size, i.bytes)) = some (some z, size, bytes)) : ∃ i0, i = some i0 ∧ i0.zero = some z ∧ i0.size = size ∧ i0.bytes = bytes := by
  cases i with
  | none => cases h
  | some i0 => simp at h; exact ⟨i0, rfl, h.1, h.2.1, h.2.2⟩

set_option maxRecDepth 100000 in
set_option maxHeartbeats 2000000 in
theorem Put_ok {lf : Nat} {lt : Int → Int → Bool} (HL : LessI lf lt) {w : World} {hb : Nat} {F : Nat → Prop} {M : List (It Int)} (h : HeapAt w hb lf lt F M) (id k : Int) (hid : 0 ≤ id) (hwf : (Lit.int .i64 id).wf = true) (hnew : ∀ x ∈ M, x.1 ≠ id) (hM : M.length < 1000000) :
    Calls Try.prog 116 #[.pointer (some ⟨hb, 0, none⟩), .int .i64 id, .int .i64 k] w fun e w' => e = .returned (.int .i64 0) ∧ HeapTo w w' hb lf lt F ((id, k) :: M) := by
  obtain ⟨v, mb, A, f, hraw, hheap, hpos, hperm, hids, hF1, hF2, hF3⟩ := h
  obtain ⟨i0, hi0, hz0, hz1, hz2⟩ := info_parts2 Try.info202
  have hAl : A.length < 1000000 := by rw [hperm.length_eq]; exact hM
  have hfn : f id = none := hpos.none_iff.2 fun x hx => hnew x (hperm.mem_iff.1 hx)
  have hth := there_none hraw hwf hfn
  have hbad : (id < 0) = False := by simp; exact hid
  have hc1 := hraw.c1
  have hlt := hraw.lt
  have HTh := Lib.hid hth
  have HRaw := Lib.hid hraw
  have HHeap := Lib.hid hheap
  have HPos := Lib.hid hpos
  have HPerm := Lib.hid hperm
  have HIds := Lib.hid hids
  have HF1 := Lib.hid hF1
  have HF2 := Lib.hid hF2
  have HF3 := Lib.hid hF3
  have HWf := Lib.hid hwf
  have HFn := Lib.hid hfn
  clear hth hraw hheap hpos hperm hids hF1 hF2 hF3 hwf hfn hnew
  go_enter Try.func116, Try.ntmps116
  have hafter : ∀ (v' : Value) (w1 : World), (w.alloc (.cells #[.int .i64 id, .int .i64 k] 202)).grownBy w1 v.ownBlock → w1.ownsRow 0 202 2 v' (A.length + 1) (A.flatMap itC ++ [.int .i64 id, .int .i64 k]) → (v'.ownBlock = v.ownBlock ∨ v'.ownBlock = some (w.alloc (.cells #[.int .i64 id, .int .i64 k] 202)).heap.size) →
      ∃ g cap, v' = .slice (some ⟨g, 0, none⟩) (A.length + 1) cap ∧ w1.cell? ⟨hb, 1, none⟩ = some v ∧ w1.frozen? ⟨hb, 1, none⟩ = false ∧
        Calls Try.prog 153 #[.pointer (some ⟨hb, 0, none⟩), .int .i64 (A.length : Int)] (w1.setCell ⟨hb, 1, none⟩ v') fun e w' => e = .returned (.tuple #[]) ∧ HeapTo w w' hb lf lt F ((id, k) :: M) := fun v' w1 hgrow hown hat => by
    have hb0 : Below w.heap.size w (w.alloc (.cells #[.int .i64 id, .int .i64 k] 202)) := (Below.refl _ w).alloc (Nat.le_refl _) _
    have hr0 := HRaw.out.below hb0
    have hm1 : Mod (fun j => v.ownBlock = some j) (w.alloc (.cells #[.int .i64 id, .int .i64 k] 202)) w1 := (Mod.refl _ _).grown hgrow (fun j hj _ => ⟨hj, fun o ho => by
      rcases own_parts hr0.row with ⟨rfl, _⟩ | ⟨g, cap, cur, rfl, _, hg, _⟩
      · simp [Value.ownBlock] at hj
      · simp [Value.ownBlock] at hj
        subst hj
        rw [hg] at ho
        cases ho
        rfl⟩)
    have hst1 := hm1.obj hr0.st (fun e => (hr0.own_ne e).1 rfl)
    have hmap1 := hr0.map.mod hm1 (fun e => (hr0.own_ne e).2.1 rfl)
    obtain ⟨g, cap, rfl, hg, hgo⟩ := own_slice hown (by omega)
    refine ⟨g, cap, rfl, by simp [World.cell?, hst1], by simp [World.frozen?, hst1], ?_⟩
    have hgc : v.ownBlock = some g ∨ g = w.heap.size + 1 := by
      rcases hat with h | h
      · exact .inl (h.symm.trans hgo)
      · exact .inr (by rw [hgo] at h; have := Option.some.inj h; simpa using this)
    have hgb : g ≠ hb ∧ g ≠ mb := by
      rcases hgc with h | h
      · have := HRaw.out.own_ne h
        exact ⟨this.1, this.2.1⟩
      · have := HRaw.out.lt
        have := HRaw.out.mb_lt
        omega
    have hset : Mod (fun j => j = hb) w1 (w1.setCell ⟨hb, 1, none⟩ (.slice (some ⟨g, 0, none⟩) (A.length + 1) cap)) := (Mod.refl (fun j => j = hb) w1).setCell (p := ⟨hb, 1, none⟩) (fun _ => rfl) _
    have hr2 : Raw (w1.setCell ⟨hb, 1, none⟩ (.slice (some ⟨g, 0, none⟩) (A.length + 1) cap)) hb lf (.slice (some ⟨g, 0, none⟩) (A.length + 1) cap) mb (A ++ [(id, k)]) A.length f := by
      refine ⟨?_, ?_, hmap1.mod hset (fun e => HRaw.out.hb_mb e.symm)⟩
      · simp [World.setCell, Array.getElem?_modify, hst1]
      · rw [List.flatMap_append, List.length_append]
        exact own_same hown fun j o hj ho _ => hset.obj ho (by simp [Value.ownBlock] at hj; subst hj; exact hgb.1)
    have hup := up_any HL hr2 (i := A.length) (by simp) (upOk_snoc HHeap.out) (posBut_snoc HPos.out HFn.out) (fun x hx => by
      rw [List.mem_append, List.mem_singleton] at hx
      rcases hx with hx | rfl
      · exact (HIds.out x (HPerm.out.mem_iff.1 hx)).2
      · exact HWf.out) (by unfold maxLen; omega) (by rw [List.length_append]; simp; omega)
    rw [show ((A ++ [(id, k)]).getD A.length (0, 0)) = (id, k) by simp [List.getD], show (f id).isSome = false by rw [HFn.out]; rfl, if_neg (by simp)] at hup
    refine hup.mono ?_
    rintro e w' ⟨rfl, A', f', hr', hp', hh', hpos', hmod'⟩
    refine ⟨rfl, fun j => F j ∨ j = g, ⟨.slice (some ⟨g, 0, none⟩) (A.length + 1) cap, mb, A', f', ?_, hh', hpos', ?_, ?_, .inl HF1.out, ?_, ?_⟩, ?_, ?_⟩
    · have : A'.length = A.length + 1 := by rw [hp'.length_eq, List.length_append]; rfl
      rw [this]; exact hr'
    · exact hp'.trans ((List.perm_append_comm).trans ((HPerm.out.cons (id, k))))
    · intro x hx
      rcases List.mem_cons.1 hx with rfl | hx
      · exact ⟨hid, HWf.out⟩
      · exact HIds.out x hx
    · rintro j (hj | rfl)
      · simp [Value.ownBlock] at hj
        exact .inr hj.symm
      · exact .inl (HF2.out _ (.inr rfl))
    · rintro j (hj | rfl)
      · have h1 := HF3.out j hj
        have h2 := hb0.size
        have h3 := hm1.size
        have h4 := hset.size
        have h5 := hmod'.size
        omega
      · exact hr'.foot_lt (.inl rfl)
    · have a1 : Mod F w w1 := (Mod.of_below (S := F) hb0).trans hm1 (fun j hj _ => HF2.out j (.inl hj))
      have a2 := a1.trans hset (fun j hj _ => by rw [hj]; exact HF1.out)
      refine a2.trans hmod' (fun j hj hjl => ?_)
      rcases hj with hj | rfl
      · simp [Value.ownBlock] at hj
        subst hj
        rcases hgc with h | h
        · exact HF2.out _ (.inl h)
        · omega
      · exact HF2.out _ (.inr rfl)
    · rintro j (hj | rfl)
      · exact .inl hj
      · rcases hgc with h | h
        · exact .inl (HF2.out _ (.inl h))
        · exact .inr (by omega)
  have HAfter := Lib.hid hafter
  have hnews : ∀ (j : Nat) (u : Value), [Value.int .i64 id, .int .i64 k][j]? = some u → (w.alloc (.cells #[.int .i64 id, .int .i64 k] 202)).cell? ((⟨w.heap.size, 0, none⟩ : Addr).add j) = some u :=
    World.news_of_block (cs := #[.int .i64 id, .int .i64 k]) (t := 202) (fr := (0, 0)) (heap_alloc_new w _)
  have HNews := Lib.hid hnews
  have hone : ∀ u ∈ [Value.int .i64 id, .int .i64 k], u.oneCell' = true := by simp [Value.oneCell']
  have hmx : A.length + 1 ≤ maxLen := by unfold maxLen; omega
  have hby : (A.length + 1) * 16 ≤ 140737488355328 := by omega
  have hown := HRaw.out.row.alloc (.cells #[.int .i64 id, .int .i64 k] 202)
  have HOwn := Lib.hid hown
  clear hnews hown
  have hsl : ∃ a ln cp, v = .slice a ln cp ∧ w.cell? ⟨hb, 1, none⟩ = some (.slice a ln cp) := by
    rcases own_parts HRaw.out.row with ⟨rfl, _⟩ | ⟨g, cap, cur, rfl, _⟩
    · exact ⟨_, _, _, rfl, hc1⟩
    · exact ⟨_, _, _, rfl, hc1⟩
  clear hafter
  go_wp2_with (first | (go_at_call 152; refine HTh.out.mono ?_; rintro e w' ⟨rfl, rfl⟩) | (at_builtin; refine wpList_append_own_at _ rfl _ _ 197 rfl 0 202 i0 (.agg #[.int .i64 0, .int .i64 0]) 2 16 Try.underlying197 hi0 hz0 hz1 hz2 rfl (by decide) v A.length (A.flatMap itC) rfl HOwn.out ⟨w.heap.size, 0, none⟩ 1 1 [.int .i64 id, .int .i64 k] rfl rfl HNews.out hone hmx hby (Nat.zero_le _) ?_; intro v' w1 hown hgrow _ hat; obtain ⟨g, cap, rfl, e1, e2, hup⟩ := HAfter.out v' w1 hgrow hown hat; have HUp := Lib.hid hup; clear hown hgrow hat hup) | (go_at_call 153; refine HUp.out.mono ?_; rintro e w3 ⟨rfl, hto⟩; have HTo := Lib.hid hto; clear hto))
  go_ret
  exact ⟨rfl, HTo.out⟩
end Go.Proofs.Ytkjpkhpiojahkaa

/-! ### Walks: Len, Peek, Get, Drop, Take, New. -/
namespace Go.Proofs.Ytkjpkhpiojahkaa
set_option linter.unusedVariables false
open Go.RowKit Hp

section
variable {P : Program} (w : World) {ops : Array Oper} {rest : List Oper} {o : Oper} {a : Act} {Q : Exit → Act → World → Prop}
theorem wpList_delete_T (hg : o.guard = none) (m x : Operand) (t k : TypeId) (hop : o.op = Op.call { callee := Callee.builtin Builtin.delete, args := #[m, x], argTypes := #[t, k] })
    (e : TypeId) (hk : P.underlying k = some (.int .i64)) (ht : P.underlying t = some (.map k e)) (b n : Nat) (f : Int → Option Nat)
    (hm : a.eval m = .map (some b)) (hown : mapT w P k b n f) (xv : Int) (hx : a.eval x = .int .i64 xv) (hwf : (Lit.int .i64 xv).wf = true)
    (hK : ∀ w', mapT w' P k b (if (f xv).isSome then n - 1 else n) (putN f xv none) → Mod (fun j => j = b) w w' → wpList P ops Q rest (a.put o.dst (.tuple #[])) w') :
    wpList P ops Q (o :: rest) a w := by
  refine wpList_plain hg fun K' hK' => ?_
  obtain ⟨w', hrun, r1, r2⟩ := hown.drop hk ht hwf o.type
  unfold Oper.wp
  simp [execOp, hop, resolve, invoke, builtin, hm, hx, hrun, Result.andThen]
  exact hK' _ _ (hK w' r1 r2)
end

section
variable {w : World} {hb lf : Nat} {lt : Int → Int → Bool} {F : Nat → Prop} {M : List (It Int)}

theorem slice_len {w : World} {hb lf mb n : Nat} {v : Value} {A : List (It Int)} {f : Int → Option Nat} (h : Raw w hb lf v mb A n f) : ∃ a cap, v = .slice a A.length cap ∧ w.cell? ⟨hb, 1, none⟩ = some (.slice a A.length cap) := by
  have hc := h.c1
  rcases own_parts h.row with ⟨rfl, h0⟩ | ⟨g, cap, cur, rfl, _⟩
  · exact ⟨none, 0, by rw [h0], by rw [h0]; exact hc⟩
  · exact ⟨_, _, rfl, hc⟩

set_option maxHeartbeats 400000 in
theorem Peek_none (h : HeapAt w hb lf lt F []) : Calls Try.prog 154 #[.pointer (some ⟨hb, 0, none⟩)] w fun e w' => e = .returned (.tuple #[.int .i64 0, .int .i64 0, .int .i64 14]) ∧ Below w.heap.size w w' := by
  obtain ⟨v, mb, A, f, hraw, _, _, hperm, _⟩ := h
  obtain ⟨a, cap, rfl, hc⟩ := slice_len hraw
  have hA : A = [] := by rw [← List.length_eq_zero_iff, hperm.length_eq]; rfl
  subst hA
  clear hraw hperm
  go_enter Try.func154, Try.ntmps154
  go_wp2
  go_ret3
  exact ⟨rfl, Below.refl _ _⟩

set_option maxRecDepth 100000 in
set_option maxHeartbeats 1000000 in
theorem Peek_some (HL : LessI lf lt) {x1 x2 : Int} {R : List (It Int)} (h : HeapAt w hb lf lt F ((x1, x2) :: R)) (hs : Sorted lt ((x1, x2) :: R)) :
    Calls Try.prog 154 #[.pointer (some ⟨hb, 0, none⟩)] w fun e w' => e = .returned (.tuple #[.int .i64 x1, .int .i64 x2, .int .i64 0]) ∧ Below w.heap.size w w' := by
  obtain ⟨v, mb, A, f, hraw, hheap, _, hperm, _⟩ := h
  have hx := hheap.head HL.swo hperm hs
  have hl : 0 < A.length := by rw [hperm.length_eq]; simp
  have hx0 : A[0]? = some (x1, x2) := by rw [getD_of hl] at hx; rw [List.getElem?_eq_getElem hl, hx]
  have hc1 := hraw.c1
  obtain ⟨g, cap, rfl, d0, d1, _⟩ := hraw.cell hx0
  simp only [Nat.zero_mul, Nat.zero_add] at d0 d1
  have hlI : (0 : Int) < (A.length : Int) := by omega
  have hne : ¬ ((A.length : Int) = 0) := by omega
  have hlt := hraw.lt
  have hnil : A ≠ [] := by intro e; rw [e] at hl; simp at hl
  clear hraw hheap hperm hx hx0 hs
  go_enter Try.func154, Try.ntmps154
  go_wp2_with fail
  refine wp_region_loose (fun A' => Below w.heap.size w A') (by kernel_rfl) (by kernel_rfl) ((Below.refl _ w).drew) ?_
  iterate 17 (first
    | (refine loose_val (v := ?_) (by rfl) ?_ ?_; rotate_left; (focus (intro A' hA'; have q1 := zatB hc1 hA'; have q2 := zatB d0 hA'; have q3 := zatB d1 hA'; go_simp; first | done | with_reducible rfl)); simp only [Act.put, List.setIfInBounds_toArray, List.set_cons_zero, List.set_cons_succ]))
  refine loose_nil ?_
  intro wz hz
  go_wp2_with fail
  go_ret3
  exact ⟨rfl, hz⟩

theorem HeapAt.place {id k : Int} {v : Value} {mb : Nat} {A : List (It Int)} {f : Int → Option Nat} (_hraw : Raw w hb lf v mb A A.length f) (hpos : Pos A (0, 0) f) (hperm : A.Perm M) (hm : (id, k) ∈ M) : ∃ i, A[i]? = some (id, k) ∧ f id = some i := by
  obtain ⟨i, hi, e⟩ := List.mem_iff_getElem.1 (hperm.mem_iff.2 hm)
  refine ⟨i, by rw [List.getElem?_eq_getElem hi, e], ?_⟩
  have := hpos.1 i hi
  rwa [getD_of hi, e] at this

set_option maxHeartbeats 400000 in
theorem Drop_none (h : HeapAt w hb lf lt F M) {id : Int} (hwf : (Lit.int .i64 id).wf = true) (hn : ∀ x ∈ M, x.1 ≠ id) : Calls Try.prog 155 #[.pointer (some ⟨hb, 0, none⟩), .int .i64 id] w fun e w' => e = .returned (.tuple #[.int .i64 0, .int .i64 14]) ∧ w = w' := by
  obtain ⟨v, mb, A, f, hraw, _, hpos, hperm, _⟩ := h
  have hth := there_none hraw hwf (hpos.none_iff.2 fun x hx => hn x (hperm.mem_iff.1 hx))
  have HTh := Lib.hid hth
  clear hraw hpos hperm hth
  go_enter Try.func155, Try.ntmps155
  go_wp2_with (first | (go_at_call 152; refine HTh.out.mono ?_; rintro e w' ⟨rfl, rfl⟩))
  go_ret2
  exact ⟨rfl, rfl⟩

theorem func_eq (lf : Nat) (w : World) : (binOp BinOp.eql 156 (.func (.func lf) #[] #[]) .nilFunc).run Try.prog w = .ok (.bool false) w := by kernel_rfl

set_option maxRecDepth 100000 in
set_option maxHeartbeats 400000 in
theorem New_ok {lf : Nat} (lt : Int → Int → Bool) (w : World) : Calls Try.prog 112 #[.func (.func lf) #[] #[]] w fun e w' => ∃ hb F, e = .returned (.tuple #[.pointer (some ⟨hb, 0, none⟩), .int .i64 0]) ∧ HeapAt w' hb lf lt F [] ∧ Below w.heap.size w w' ∧ ∀ j, F j → w.heap.size ≤ j := by
  have hmm := @run_makeMap Try.prog
  have hfe := func_eq lf
  go_enter Try.func112, Try.ntmps112
  go_wp2
  go_ret2
  refine ⟨w.heap.size + 1, fun j => j = w.heap.size + 1 ∨ j = w.heap.size, ?_, ⟨.slice none 0 0, w.heap.size, [], fun _ => none, ⟨?_, World.ownsRow_nil _ _ _ _, ?_⟩, ?_, ?_, List.Perm.refl _, by simp, .inl rfl, ?_, ?_⟩, ?_, ?_⟩
  · rfl
  · have e : w.heap.size + 1 = (w.alloc (.map #[] 0)).heap.size := by simp
    rw [e]
    exact heap_alloc_new _ _
  · exact (mapT_made w Try.prog 3).of_same (by rw [Below.heap_alloc _ _ _ (by simp)])
  · intro j h0 hj; simp at hj
  · exact ⟨fun k hk => by simp at hk, fun y v hy => by cases hy⟩
  · rintro j (hj | rfl)
    · simp [Value.ownBlock] at hj
    · exact .inr rfl
  · rintro j (rfl | rfl)
    · simp
    · simp; omega
  · exact ((Below.refl _ w).alloc (Nat.le_refl _) _).alloc (by simp) _
  · rintro j (rfl | rfl) <;> omega

set_option maxHeartbeats 400000 in
theorem Put_there (h : HeapAt w hb lf lt F M) {id k0 k : Int} (hm : (id, k0) ∈ M) : Calls Try.prog 116 #[.pointer (some ⟨hb, 0, none⟩), .int .i64 id, .int .i64 k] w fun e w' => e = .returned (.int .i64 15) ∧ w = w' := by
  have hwf := (h.ids _ hm).2
  have h0 := (h.ids _ hm).1
  dsimp only at h0
  obtain ⟨v, mb, A, f, hraw, _, hpos, hperm, _⟩ := h
  obtain ⟨i, hi, hf⟩ := HeapAt.place hraw hpos hperm hm
  have hth := there_some hraw hwf hf
  have hbad : (id < 0) = False := by simp; exact h0
  have HTh := Lib.hid hth
  clear hraw hpos hperm hth hi hf
  go_enter Try.func116, Try.ntmps116
  go_wp2_with (first | (go_at_call 152; refine HTh.out.mono ?_; rintro e w' ⟨rfl, rfl⟩))
  go_ret
  exact ⟨rfl, rfl⟩
set_option maxHeartbeats 400000 in
theorem Put_bad (h : HeapAt w hb lf lt F M) {id k : Int} (hwf : (Lit.int .i64 id).wf = true) (hn : id < 0) : Calls Try.prog 116 #[.pointer (some ⟨hb, 0, none⟩), .int .i64 id, .int .i64 k] w fun e w' => e = .returned (.int .i64 1) ∧ w = w' := by
  have hids := h.ids
  obtain ⟨v, mb, A, f, hraw, _, hpos, hperm, _⟩ := h
  have hth := there_none hraw hwf (hpos.none_iff.2 fun x hx e => by have := (hids x (hperm.mem_iff.1 hx)).1; omega)
  have HTh := Lib.hid hth
  clear hraw hpos hperm hth
  go_enter Try.func116, Try.ntmps116
  go_wp2_with (first | (go_at_call 152; refine HTh.out.mono ?_; rintro e w' ⟨rfl, rfl⟩))
  go_ret
  exact ⟨rfl, rfl⟩
end
end Go.Proofs.Ytkjpkhpiojahkaa

/-! ### Walks: Drop, Take. -/
namespace Go.Proofs.Ytkjpkhpiojahkaa
set_option linter.unusedVariables false
open Go.RowKit Hp

theorem flat_take {β : Type} (g : β → List Value) (sz : Nat) (hg : ∀ x, (g x).length = sz) : ∀ (A : List β) (m : Nat), m ≤ A.length → (A.take m).flatMap g = (A.flatMap g).take (m * sz)
  | A, 0, _ => by simp
  | [], m + 1, h => by simp at h
  | a :: A, m + 1, h => by
    rw [List.take_succ_cons, List.flatMap_cons, List.flatMap_cons, flat_take g sz hg A m (by simpa using h), List.take_append, hg]
    have h1 : (m + 1) * sz - sz = m * sz := by rw [Nat.succ_mul]; omega
    rw [h1, List.take_of_length_le (l := g a) (by rw [hg, Nat.succ_mul]; omega)]

/-- what a call on a heap leaves, on the same blocks -/
def HeapSame (w w' : World) (hb lf : Nat) (lt : Int → Int → Bool) (F : Nat → Prop) (M : List (It Int)) : Prop := HeapAt w' hb lf lt F M ∧ Mod F w w'
theorem HeapSame.go {w w' : World} {hb lf : Nat} {lt : Int → Int → Bool} {F : Nat → Prop} {M : List (It Int)} (h : HeapSame w w' hb lf lt F M) : HeapTo w w' hb lf lt F M := ⟨F, h.1, h.2, fun _ h => .inl h⟩

section
variable {w : World} {hb lf : Nat} {lt : Int → Int → Bool} {F : Nat → Prop} {M : List (It Int)}

set_option maxRecDepth 100000 in
set_option maxHeartbeats 4000000 in
theorem Drop_same (HL : LessI lf lt) (h : HeapAt w hb lf lt F M) {id k : Int} (hm : (id, k) ∈ M) (hM : M.length < 1000000) :
    Calls Try.prog 155 #[.pointer (some ⟨hb, 0, none⟩), .int .i64 id] w fun e w' => e = .returned (.tuple #[.int .i64 k, .int .i64 0]) ∧ HeapSame w w' hb lf lt F (M.erase (id, k)) := by
  have hwf := (h.ids _ hm).2
  obtain ⟨v, mb, A, f, hraw, hheap, hpos, hperm, hids, hF1, hF2, hF3⟩ := h
  obtain ⟨i, hi, hf⟩ := HeapAt.place hraw hpos hperm hm
  have hth := there_some hraw hwf hf
  have hc1 := hraw.c1
  have hc2 := hraw.c2
  have hlt := hraw.lt
  have hil := (List.getElem?_eq_some_iff.1 hi).1
  have hAl : A.length < 1000000 := by rw [hperm.length_eq]; exact hM
  obtain ⟨last, hlast⟩ : ∃ last, last + 1 = A.length := ⟨A.length - 1, by omega⟩
  obtain ⟨⟨x1, x2⟩, hx⟩ : ∃ x, A[last]? = some x := ⟨_, List.getElem?_eq_getElem (by omega)⟩
  have hxd : A.getD last (0, 0) = (x1, x2) := by rw [getD_of (by omega)]; rw [List.getElem?_eq_getElem (by omega)] at hx; exact Option.some.inj hx
  have hyd : A.getD i (0, 0) = (id, k) := by rw [getD_of (by omega)]; rw [List.getElem?_eq_getElem (by omega)] at hi; exact Option.some.inj hi
  obtain ⟨g, cap, rfl, d0, d1, _⟩ := hraw.cell hi
  obtain ⟨d2, d3⟩ := hraw.at hx
  dsimp only at d0 d1
  have hcap : A.length ≤ cap := by
    rcases own_parts hraw.row with ⟨hv, _⟩ | ⟨g', cap', cur, hv, _, _, h1, _⟩
    · cases hv
    · injection hv with _ _ h2; subst h2; exact h1
  have hfree : w.frozen? ⟨hb, 1, none⟩ = false := by simp [World.frozen?, hraw.st]
  obtain ⟨W, hW⟩ : ∃ W, w.alloc (.cells #[.int .i64 x1, .int .i64 x2] 202) = W := ⟨_, rfl⟩
  have hbW : Below w.heap.size w W := by rw [← hW]; exact (Below.refl _ w).alloc (Nat.le_refl _) _
  have b1 : W.cell? ⟨w.heap.size, 0, none⟩ = some (.int .i64 x1) := by rw [← hW, World.cell?_alloc_at _ _ _ _ rfl]; rfl
  have b2 : W.cell? ⟨w.heap.size, 1, none⟩ = some (.int .i64 x2) := by rw [← hW, World.cell?_alloc_at _ _ _ _ rfl]; rfl
  have k1 := zatB hc1 hbW
  have k2 := zatB hc2 hbW
  have k3 : W.frozen? ⟨hb, 1, none⟩ = false := by
    have : W.heap[hb]? = w.heap[hb]? := hbW.block _ hlt
    simp [World.frozen?, this, hraw.st]
  -- the row is cut, the number struck
  have hraw1 : ∀ W2, mapT W2 Try.prog 3 mb last (putN f id none) → Mod (fun j => j = mb) (W.setCell ⟨hb, 1, none⟩ (.slice (some ⟨g, 0, none⟩) last cap)) W2 →
      Raw W2 hb lf (.slice (some ⟨g, 0, none⟩) last cap) mb (A.take last) last (putN f id none) ∧ Mod F w W2 ∧ W2.cell? ⟨w.heap.size, 0, none⟩ = some (.int .i64 x1) ∧ W2.cell? ⟨w.heap.size, 1, none⟩ = some (.int .i64 x2) := fun W2 hmap hmd => by
    have hst : (W.setCell ⟨hb, 1, none⟩ (.slice (some ⟨g, 0, none⟩) last cap)).heap[hb]? = some (.cells #[.func (.func lf) #[] #[], .slice (some ⟨g, 0, none⟩) last cap, .map (some mb)] 199 (0, 0)) := by
      have := (hraw.below hbW).st
      simp [World.setCell, Array.getElem?_modify, this]
    have hset : Mod (fun j => j = hb) W (W.setCell ⟨hb, 1, none⟩ (.slice (some ⟨g, 0, none⟩) last cap)) := (Mod.refl (fun j => j = hb) W).setCell (p := ⟨hb, 1, none⟩) (fun _ => rfl) _
    have hgg := hraw.own_ne (j := g) rfl
    have htl : (A.take last).length = last := by rw [List.length_take]; omega
    refine ⟨⟨hmd.obj hst hraw.hb_mb, ?_, hmap⟩, ?_, ?_, ?_⟩
    · rw [htl, flat_take itC 2 itC_len A last (by omega)]
      have h1 := own_take (hraw.below hbW).row (m := last) (by omega)
      have h2 := own_same h1 (w' := W.setCell ⟨hb, 1, none⟩ (.slice (some ⟨g, 0, none⟩) last cap)) fun j o hj ho _ => hset.obj ho (by simp [Value.ownBlock] at hj; subst hj; exact hgg.1)
      exact own_same h2 fun j o hj ho _ => hmd.obj ho (by simp [Value.ownBlock] at hj; subst hj; exact hgg.2.1)
    · exact ((Mod.of_below (S := F) hbW).trans hset (fun j hj _ => by rw [hj]; exact hF1)).trans hmd (fun j hj _ => by rw [hj]; exact hF2 _ (.inr rfl))
    · exact hmd.cell (hset.cell b1 (fun e => by dsimp only at e; omega)) (fun e => by have := hraw.mb_lt; dsimp only at e; omega)
    · exact hmd.cell (hset.cell b2 (fun e => by dsimp only at e; omega)) (fun e => by have := hraw.mb_lt; dsimp only at e; omega)
  have hmapW : mapT (W.setCell ⟨hb, 1, none⟩ (.slice (some ⟨g, 0, none⟩) last cap)) Try.prog 3 mb A.length f := by
    have hset : Mod (fun j => j = hb) W (W.setCell ⟨hb, 1, none⟩ (.slice (some ⟨g, 0, none⟩) last cap)) := (Mod.refl (fun j => j = hb) W).setCell (p := ⟨hb, 1, none⟩) (fun _ => rfl) _
    exact ((hraw.below hbW).map).mod hset (fun e => hraw.hb_mb e.symm)
  have hn1 : (if (f id).isSome then A.length - 1 else A.length) = last := by rw [hf]; simp; omega
  have hfoot : ∀ j, Foot (.slice (some ⟨g, 0, none⟩) last cap) mb j → F j := fun j hj => hF2 j (by
    rcases hj with hj | hj
    · exact .inl (by simpa [Value.ownBlock] using hj)
    · exact .inr hj)
  have hfin : ∀ (w' : World) (A' : List (It Int)) (f' : Int → Option Nat), Mod F w w' → Raw w' hb lf (.slice (some ⟨g, 0, none⟩) last cap) mb A' last f' → A'.Perm (A.erase (id, k)) → IsHeap lt A' (0, 0) → Pos A' (0, 0) f' → HeapSame w w' hb lf lt F (M.erase (id, k)) := fun w' A' f' h1 h2 h3 h4 h5 => by
    have hl : A'.length = last := by rw [h3.length_eq, List.length_erase_of_mem (hperm.mem_iff.2 hm)]; omega
    exact ⟨⟨_, mb, A', f', by rw [hl]; exact h2, h4, h5, h3.trans (hperm.erase _), fun x hx => hids x (List.mem_of_mem_erase hx), hF1, hfoot, fun j hj => Nat.lt_of_lt_of_le (hF3 j hj) h1.size⟩, h1⟩
  have hi0 : (0 : Int) ≤ (i : Int) := by omega
  have hilI : (i : Int) < (A.length : Int) := by omega
  have hAI : (A.length : Int) = (last : Int) + 1 := by omega
  have hl0 : (0 : Int) ≤ (last : Int) := by omega
  have hlcap : (last : Int) ≤ (cap : Int) := by omega
  have hlaI : (last : Int) < (A.length : Int) := by omega
  have hlB : (last : Int) < 1000000 := by omega
  have hw1 : IntKind.i64.wrap ((A.length : Int) - 1) = (last : Int) := by rw [IntWalk.i64_in _ (by omega)]; omega
  have HTh := Lib.hid hth
  have HRaw1 := Lib.hid hraw1
  have HMapW := Lib.hid hmapW
  have HFin := Lib.hid hfin
  have HFoot := Lib.hid hfoot
  have HN1 := Lib.hid hn1
  have HWf := Lib.hid hwf
  have HHeap := Lib.hid hheap
  have HPos := Lib.hid hpos
  have HPerm := Lib.hid hperm
  have HIds := Lib.hid hids
  have HF := Lib.hid hf
  have HXd := Lib.hid hxd
  have HYd := Lib.hid hyd
  have HRaw := Lib.hid hraw
  clear hth hraw1 hmapW hfin hfoot hn1 hwf hheap hpos hperm hids hf hxd hyd hraw hF1 hF2 hF3 hm hi hx hbW b1 b2
  by_cases hlt2 : i < last
  · have hiL : (i : Int) < (last : Int) := by omega
    go_enter Try.func155, Try.ntmps155
    go_wp2_with (first | (go_at_call 152; refine HTh.out.mono ?_; rintro e w' ⟨rfl, rfl⟩) | (at_delete; refine wpList_delete_T _ rfl _ _ 182 3 rfl 3 Try.underlying3 Try.underlying182 mb A.length f rfl HMapW.out id rfl HWf.out ?_; intro W2 hm2 hmd2; rw [HN1.out] at hm2; obtain ⟨hr2, hmF, e1, e2⟩ := HRaw1.out W2 hm2 hmd2; have HR2 := Lib.hid hr2; have HMF := Lib.hid hmF; clear hm2 hmd2 hr2 hmF))
    have hx1w : (Lit.int .i64 x1).wf = true := (HIds.out (x1, x2) (HPerm.out.mem_iff.1 (by rw [← HXd.out, getD_of (by omega)]; exact List.getElem_mem _))).2
    have hit : i < (A.take last).length := by rw [List.length_take]; omega
    have htl : (A.take last).length = last := by rw [List.length_take]; omega
    have hset := set_any HR2.out hit x1 x2 hx1w (by unfold maxLen; omega) (by omega)
    have hx1i : x1 ≠ id := by
      intro e
      have := HPos.out.inj (j := last) (k := i) (by omega) (by omega) (by rw [HXd.out, HYd.out]; exact e)
      omega
    have hfx1 : f x1 = some last := by have := HPos.out.1 last (by omega); rwa [HXd.out] at this
    rw [show (putN f id none x1).isSome = true by rw [putN_other _ hx1i, hfx1]; rfl, if_pos rfl] at hset
    refine hset.mono ?_
    rintro e w3 ⟨rfl, hr3, hm3⟩
    have hbox : ∀ W3 W4 : World, Mod (Foot (.slice (some ⟨g, 0, none⟩) last cap) mb) W3 W4 → ∀ j u, W3.cell? ⟨w.heap.size, j, none⟩ = some u → W4.cell? ⟨w.heap.size, j, none⟩ = some u := fun W3 W4 hm j u hu =>
      hm.cell hu (fun hF => by have := HRaw.out.foot_lt (j := w.heap.size) (by
                                rcases hF with hj | hj
                                · exact .inl (by simpa [Value.ownBlock] using hj)
                                · exact .inr hj); omega)
    have hpos2 := HPos.out.mid hlt2 hlast
    rw [HXd.out, HYd.out] at hpos2
    have hperm2 := drop_mid hlt2 hlast (0, 0)
    rw [HXd.out, HYd.out] at hperm2
    have hup := up_then HL hr3 hit (HHeap.out.take last) hpos2 (fun y hy => by
      have := hperm2.mem_iff.1 hy
      exact (HIds.out y (HPerm.out.mem_iff.1 (List.mem_of_mem_erase this))).2) (by unfold maxLen; omega) (by omega)
    have g1 := hbox _ _ hm3 0 _ e1
    have g2 := hbox _ _ hm3 1 _ e2
    have HUp := Lib.hid hup
    have HM3 := Lib.hid (HMF.out.trans hm3 (fun j hj _ => HFoot.out j hj))
    have HBox := Lib.hid hbox
    have HPerm2 := Lib.hid hperm2
    clear hx1w hit htl hset hx1i hfx1 hr3 hm3 hpos2 hperm2 hup hbox e1 e2
    go_wp2_with fail
    refine HUp.out.mono ?_
    rintro e w4 ⟨rfl, A', f', i', hr4, hp4, hpos4, hm4, hi4, hfx4, hxe4, hdn4⟩
    have c4 := hr4.c2
    have g3 := HBox.out _ _ hm4 0 _ g1
    have hA'l : A'.length = last := by rw [hp4.length_eq, List.length_set, List.length_take]; omega
    have hlk : (Instr.lookup 182 (.map (some mb)) (.int .i64 x1) false).run Try.prog w4.drew = .ok (.int .i64 (i' : Int)) w4.drew := by
      have h0 : mapT w4.drew Try.prog 3 mb last f' := hr4.map.of_same rfl
      have := h0.toI.lookup (t := 182) (e := 3) Try.underlying3 Try.underlying182 (zero3 w4.drew) (x := x1) (by
        have := (HIds.out (x1, x2) (HPerm.out.mem_iff.1 (by rw [← HXd.out, getD_of (by omega)]; exact List.getElem_mem _))).2
        exact this)
      rw [lift_some hfx4] at this
      exact this
    have hdown := down_any HL (hr4.below ((Below.refl _ w4).drew)) hi4 hdn4 (hpos4.but hi4) (fun y hy => by
      have := HPerm2.out.mem_iff.1 (hp4.mem_iff.1 hy)
      exact (HIds.out y (HPerm.out.mem_iff.1 (List.mem_of_mem_erase this))).2) (by unfold maxLen; omega) (by omega)
    rw [hxe4, hfx4, show (some i').isSome = true from rfl, if_pos rfl] at hdown
    have HDown := Lib.hid hdown
    have HM4 := Lib.hid (HM3.out.trans hm4 (fun j hj _ => HFoot.out j hj))
    have HP4 := Lib.hid hp4
    clear hr4 hp4 hpos4 hm4 hi4 hfx4 hxe4 hdn4 hdown g1 g2 hA'l
    go_wp2_with fail
    go_region_with (first | (go_at_call 168; refine HDown.out.mono ?_; rintro e w5 ⟨rfl, A5, f5, hr5, hp5, hh5, hpos5, hm5⟩; have HTo := Lib.hid (HFin.out w5 A5 f5 (HM4.out.drew.trans hm5 (fun j hj _ => HFoot.out j hj)) hr5 (hp5.trans (HP4.out.trans HPerm2.out)) hh5 hpos5); clear hr5 hp5 hh5 hpos5 hm5))
    all_goals go_wp2_with fail
    all_goals go_ret2
    all_goals exact ⟨rfl, HTo.out⟩
  · have hil2 : i = last := by omega
    subst hil2
    have hiL : ¬ (i : Int) < (i : Int) := by omega
    have hxy := HXd.out.symm.trans HYd.out
    injection hxy with hxy1 hxy2
    subst hxy1
    subst hxy2
    go_enter Try.func155, Try.ntmps155
    go_wp2_with (first | (go_at_call 152; refine HTh.out.mono ?_; rintro e w' ⟨rfl, rfl⟩) | (at_delete; refine wpList_delete_T _ rfl _ _ 182 3 rfl 3 Try.underlying3 Try.underlying182 mb A.length f rfl HMapW.out x1 rfl HWf.out ?_; intro W2 hm2 hmd2; rw [HN1.out] at hm2; obtain ⟨hr2, hmF, e1, e2⟩ := HRaw1.out W2 hm2 hmd2; have HR2 := Lib.hid hr2; have HMF := Lib.hid hmF; clear hm2 hmd2 hr2 hmF))
    go_ret2
    refine ⟨rfl, HFin.out W2 _ _ HMF.out HR2.out ?_ (HHeap.out.take i) ?_⟩
    · have := drop_last hlast (0, 0)
      rwa [HYd.out] at this
    · have := HPos.out.take hlast
      rwa [HYd.out] at this

theorem Drop_some (HL : LessI lf lt) (h : HeapAt w hb lf lt F M) {id k : Int} (hm : (id, k) ∈ M) (hM : M.length < 1000000) :
    Calls Try.prog 155 #[.pointer (some ⟨hb, 0, none⟩), .int .i64 id] w fun e w' => e = .returned (.tuple #[.int .i64 k, .int .i64 0]) ∧ HeapTo w w' hb lf lt F (M.erase (id, k)) :=
  (Drop_same HL h hm hM).mono fun _ _ ⟨he, h⟩ => ⟨he, h.go⟩

set_option maxHeartbeats 400000 in
theorem Take_none (h : HeapAt w hb lf lt F []) : Calls Try.prog 118 #[.pointer (some ⟨hb, 0, none⟩)] w fun e w' => e = .returned (.tuple #[.int .i64 0, .int .i64 0, .int .i64 14]) ∧ Below w.heap.size w w' := by
  have HP := Lib.hid (Peek_none h)
  clear h
  go_enter Try.func118, Try.ntmps118
  go_wp2_with (first | (go_at_call 154; refine HP.out.mono ?_; rintro e w' ⟨rfl, hb1⟩; have HB := Lib.hid hb1; clear hb1))
  go_ret3
  exact ⟨rfl, HB.out⟩
set_option maxHeartbeats 400000 in
theorem Take_same (HL : LessI lf lt) {x1 x2 : Int} {R : List (It Int)} (h : HeapAt w hb lf lt F ((x1, x2) :: R)) (hs : Sorted lt ((x1, x2) :: R)) (hR : R.length < 999999) :
    Calls Try.prog 118 #[.pointer (some ⟨hb, 0, none⟩)] w fun e w' => e = .returned (.tuple #[.int .i64 x1, .int .i64 x2, .int .i64 0]) ∧ HeapSame w w' hb lf lt F R := by
  have HP := Lib.hid (Peek_some HL h hs)
  have HH := Lib.hid h
  clear h hs
  go_enter Try.func118, Try.ntmps118
  go_wp2_with fail
  refine HP.out.mono ?_
  rintro e w1 ⟨rfl, hb1⟩
  have hd := Drop_same HL (HH.out.below hb1) List.mem_cons_self (by simp; omega)
  rw [List.erase_cons_head] at hd
  have HD := Lib.hid hd
  have HB := Lib.hid hb1
  clear hd hb1
  go_wp2_with fail
  refine HD.out.mono ?_
  rintro e w2 ⟨rfl, h1, h2⟩
  have HTo := Lib.hid (show HeapSame w w2 hb lf lt F R from ⟨h1, (Mod.of_below HB.out).trans h2 (fun _ h _ => h)⟩)
  clear h1 h2
  go_wp2_with fail
  go_ret3
  exact ⟨rfl, HTo.out⟩
theorem Take_some (HL : LessI lf lt) {x1 x2 : Int} {R : List (It Int)} (h : HeapAt w hb lf lt F ((x1, x2) :: R)) (hs : Sorted lt ((x1, x2) :: R)) (hR : R.length < 999999) :
    Calls Try.prog 118 #[.pointer (some ⟨hb, 0, none⟩)] w fun e w' => e = .returned (.tuple #[.int .i64 x1, .int .i64 x2, .int .i64 0]) ∧ HeapTo w w' hb lf lt F R :=
  (Take_same HL h hs hR).mono fun _ _ ⟨he, h⟩ => ⟨he, h.go⟩
end
end Go.Proofs.Ytkjpkhpiojahkaa
