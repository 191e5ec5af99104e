/-
  A region that draws its order, whose last operation comes behind all others: the loose walk of the others, then that one. Over any program.
-/
import Derived.Test.YtkjpkhpiojahkaaBase
namespace Go.Proofs.Ytkjpkhpiojahkaa
set_option linter.unusedVariables false

/-- may the last one stand apart? -/
def tailB (os : List Oper) (s : Oper) : Bool :=
  s.dst.isNone && (List.range os.length).all (fun i => s.after.any fun e => Region.binds .any e && e.on == i) && s.after.all (fun e => !Region.binds .any e || decide (e.on < os.length)) &&
    (List.range os.length).all (fun i => match os[i]? with | some o => o.after.all (fun e => !Region.binds .any e || decide (e.on < i)) | none => true)

section
variable {P : Program} {os : List Oper} {s : Oper} {C : World → Prop}
structure TInv (n : Nat) (l l' : Array Bool) : Prop where
  s1 : l.size = n + 1
  s2 : l'.size = n
  eq : ∀ i, i < n → l[i]? = l'[i]?
  no : l[n]? = some false
theorem TInv.getT {n : Nat} {l l' : Array Bool} (h : TInv n l l') {i : Nat} (hi : i < n) (d : Bool) : l.getD i d = l'.getD i d := by
  rw [Array.getD_eq_getD_getElem?, Array.getD_eq_getD_getElem?, h.eq i hi]
theorem TInv.getF {n : Nat} {l l' : Array Bool} (h : TInv n l l') (i : Nat) : l.getD i false = l'.getD i false := by
  by_cases hi : i < n
  · exact h.getT hi _
  · rw [Array.getD_eq_getD_getElem?, Array.getD_eq_getD_getElem?]
    have e2 : l'[i]? = none := Array.getElem?_eq_none (by rw [h.s2]; omega)
    rw [e2]
    by_cases hn : i = n
    · subst hn; rw [h.no]; rfl
    · rw [Array.getElem?_eq_none (by rw [h.s1]; omega)]
theorem TInv.set {n : Nat} {l l' : Array Bool} (h : TInv n l l') {i : Nat} (hi : i < n) : TInv n (l.setIfInBounds i true) (l'.setIfInBounds i true) :=
  ⟨by rw [Array.size_setIfInBounds]; exact h.s1, by rw [Array.size_setIfInBounds]; exact h.s2, fun j hj => by
    have e := h.eq j hj
    rw [Array.getElem?_setIfInBounds, Array.getElem?_setIfInBounds, e, h.s1, h.s2]
    by_cases hij : i = j
    · subst hij; simp [hi, Nat.lt_succ_of_lt hi]
    · simp [hij], by rw [Array.getElem?_setIfInBounds_ne (by omega)]; exact h.no⟩

theorem tail_ops_at {i : Nat} (hi : i < os.length) : (os ++ [s]).toArray[i]? = os.toArray[i]? := by
  simp [List.getElem?_append_left hi]
theorem ops_last : (os ++ [s]).toArray[os.length]? = some s := by simp
theorem ops_lt {i : Nat} {o : Oper} (h : (os ++ [s]).toArray[i]? = some o) : i ≤ os.length := by
  have := (Array.getElem?_eq_some_iff.1 h).1
  simp at this
  omega
theorem yielded_tail (hs : s.dst = none) (tmps : Array Value) : yielded (os ++ [s]).toArray tmps = yielded os.toArray tmps := by
  funext j
  unfold yielded
  by_cases h : j < os.length
  · rw [tail_ops_at h]
  · by_cases h2 : j = os.length
    · subst h2
      rw [ops_last, Array.getElem?_eq_none (by simp)]
      simp [hs]
    · rw [Array.getElem?_eq_none (by simp; omega), Array.getElem?_eq_none (by simp; omega)]

theorem ready_in {l l' : Array Bool} (h : TInv os.length l l') {i : Nat} (hi : i ∈ Region.ready .any (os ++ [s]).toArray l) (hn : i ≠ os.length) : i ∈ Region.ready .any os.toArray l' := by
  obtain ⟨h1, o, ho, h2⟩ := mem_ready.1 hi
  have hlt : i < os.length := by have := ops_lt ho; omega
  rw [tail_ops_at hlt] at ho
  exact mem_ready.2 ⟨by rw [← h.getT hlt]; exact h1, o, ho, fun e he hb => by rw [← h.getF]; exact h2 e he hb⟩
theorem ready_out {l l' : Array Bool} (h : TInv os.length l l') {i : Nat} (hi : i ∈ Region.ready .any os.toArray l') : i < os.length ∧ i ∈ Region.ready .any (os ++ [s]).toArray l := by
  obtain ⟨h1, o, ho, h2⟩ := mem_ready.1 hi
  have hlt : i < os.length := by have := (Array.getElem?_eq_some_iff.1 ho).1; simpa using this
  exact ⟨hlt, mem_ready.2 ⟨by rw [h.getT hlt]; exact h1, o, by rw [tail_ops_at hlt]; exact ho, fun e he hb => by rw [h.getF]; exact h2 e he hb⟩⟩
theorem getD_tf {l : Array Bool} {i : Nat} (hi : i < l.size) : l.getD i true = l.getD i false := by
  rw [Array.getD_eq_getD_getElem?, Array.getD_eq_getD_getElem?, Array.getElem?_eq_getElem hi]; rfl
theorem ready_last (hT : tailB os s = true) {l l' : Array Bool} (h : TInv os.length l l') (hi : os.length ∈ Region.ready .any (os ++ [s]).toArray l) : Region.ready .any os.toArray l' = [] := by
  refine List.eq_nil_iff_forall_not_mem.2 fun j hj => ?_
  obtain ⟨hlt, hj2⟩ := ready_out (s := s) h hj
  obtain ⟨h1, _⟩ := mem_ready.1 hj
  obtain ⟨_, o, ho, h2⟩ := mem_ready.1 hi
  rw [ops_last] at ho
  cases ho
  simp only [tailB, Bool.and_eq_true, List.all_eq_true, List.mem_range] at hT
  obtain ⟨e, he, hb⟩ := Array.any_eq_true'.1 (hT.1.1.2 j hlt)
  simp only [Bool.and_eq_true, beq_iff_eq] at hb
  have := h2 e he hb.1
  rw [hb.2, h.getF, ← getD_tf (by rw [h.s2]; exact hlt), h1] at this
  cases this
theorem ready_all (hT : tailB os s = true) {l l' : Array Bool} (h : TInv os.length l l') (hr : Region.ready .any os.toArray l' = []) : os.length ∈ Region.ready .any (os ++ [s]).toArray l := by
  simp only [tailB, Bool.and_eq_true, List.all_eq_true, List.mem_range] at hT
  have hall : ∀ i, i < os.length → l'.getD i false = true := by
    intro i
    induction i using Nat.strongRecOn with
    | _ i ih =>
      intro hi
      cases hb : l'.getD i false with
      | true => rfl
      | false =>
        exfalso
        have : i ∈ Region.ready .any os.toArray l' := by
          refine mem_ready.2 ⟨by rw [getD_tf (by rw [h.s2]; exact hi)]; exact hb, os[i], by simp [hi], fun e he hbi => ?_⟩
          have h2 := hT.2 i hi
          rw [List.getElem?_eq_getElem hi] at h2
          have h3 := Array.all_eq_true_iff_forall_mem.1 h2 e he
          rw [hbi] at h3
          have h4 : e.on < i := by simpa using h3
          exact ih e.on h4 (by omega)
        rw [hr] at this
        cases this
  refine mem_ready.2 ⟨?_, s, ops_last, fun e he hb => ?_⟩
  · rw [Array.getD_eq_getD_getElem?, h.no]; rfl
  · have h3 := Array.all_eq_true_iff_forall_mem.1 hT.1.2 e he
    rw [hb] at h3
    rw [h.getF]
    exact hall e.on (by simpa using h3)

theorem wpOp_of_qOp_tail (hs : s.dst = none) {i : Nat} (hi : i < os.length) {a : Act} {K : Act → Prop} {K' : Act → World → Prop} {Q' : Exit → Act → World → Prop} {w : World} (hC : C w) (h : ∀ a w', C w' → K a → K' a w') (hh : qOp P os.toArray C i K a) : wpOp P (os ++ [s]).toArray Q' i K' a w := by
  have := wpOp_of_qOp (Q' := Q') hC h hh
  unfold wpOp at this ⊢
  rw [tail_ops_at hi, yielded_tail hs]
  exact this

theorem wpAny_tail (hT : tailB os s = true) {Q : Act → Prop} {Q' : Exit → Act → World → Prop} (hQ : ∀ a w, C w → Q a → wpOp P (os ++ [s]).toArray Q' os.length (fun a w => Q' .normal a w) a w) :
    ∀ (fuel : Nat) (l l' : Array Bool) (a : Act) (w : World), TInv os.length l l' → C w → wpAnyQ P .any os.toArray C Q fuel l' a → wpAny P .any (os ++ [s]).toArray Q' (fuel + 1) l a w := by
  have hsd : s.dst = none := by
    simp only [tailB, Bool.and_eq_true] at hT
    exact Option.isNone_iff_eq_none.1 hT.1.1.1
  have hlast : ∀ (fuel : Nat) (l l' : Array Bool) (a : Act) (w : World), TInv os.length l l' → C w → Region.ready .any os.toArray l' = [] → Q a → wpOp P (os ++ [s]).toArray Q' os.length (wpAny P .any (os ++ [s]).toArray Q' fuel (l.setIfInBounds os.length true)) a w := by
    intro fuel l l' a w ht hw hr hq
    have hr2 : Region.ready .any (os ++ [s]).toArray (l.setIfInBounds os.length true) = [] := by
      refine List.eq_nil_iff_forall_not_mem.2 fun j hj => ?_
      obtain ⟨h1, o, ho, h2⟩ := mem_ready.1 hj
      have hle := ops_lt ho
      rw [Array.getD_eq_getD_getElem?, Array.getElem?_setIfInBounds] at h1
      by_cases hjn : os.length = j
      · rw [if_pos hjn, if_pos (by rw [ht.s1]; omega)] at h1
        cases h1
      · rw [if_neg hjn] at h1
        obtain ⟨_, o2, ho2, h3⟩ := mem_ready.1 (ready_all hT ht hr)
        rw [ops_last] at ho2
        cases ho2
        have hT' := hT
        simp only [tailB, Bool.and_eq_true, List.all_eq_true, List.mem_range] at hT'
        obtain ⟨e, he, hb⟩ := Array.any_eq_true'.1 (hT'.1.1.2 j (by omega))
        simp only [Bool.and_eq_true, beq_iff_eq] at hb
        have h4 := h3 e he hb.1
        rw [hb.2, ← getD_tf (by rw [ht.s1]; omega), Array.getD_eq_getD_getElem?, h1] at h4
        cases h4
    refine wpOp_mono (fun a' w' h' => ?_) (hQ a w hw hq)
    cases fuel with
    | zero => exact ⟨hr2, h'⟩
    | succ f => exact ⟨fun _ => h', fun i hi => by rw [hr2] at hi; cases hi⟩
  intro fuel
  induction fuel with
  | zero =>
    intro l l' a w ht hw h
    obtain ⟨h1, h2⟩ := h
    refine ⟨fun h0 => (by have := ready_all hT ht h1; rw [h0] at this; cases this), fun i hi => ?_⟩
    by_cases hn : i = os.length
    · subst hn; exact hlast 0 l l' a w ht hw h1 h2
    · have := ready_in ht hi hn
      rw [h1] at this
      cases this
  | succ fuel ih =>
    intro l l' a w ht hw h
    obtain ⟨h1, h2⟩ := h
    refine ⟨fun h0 => ?_, fun i hi => ?_⟩
    · by_cases hr : Region.ready .any os.toArray l' = []
      · have := ready_all hT ht hr
        rw [h0] at this; cases this
      · obtain ⟨j, hj⟩ := List.exists_mem_of_ne_nil _ hr
        have := (ready_out (s := s) ht hj).2
        rw [h0] at this; cases this
    · by_cases hn : i = os.length
      · subst hn
        have hr := ready_last hT ht hi
        exact hlast (fuel + 1) l l' a w ht hw hr (h1 hr)
      · have hi2 := ready_in ht hi hn
        have hlt := (ready_out (s := s) ht hi2).1
        exact wpOp_of_qOp_tail hsd hlt hw (fun a' w' hw' hh => ih _ _ a' w' (ht.set hlt) hw' hh) (h2 i hi2)

theorem wp_region_tail {id : Nat} {Q : Exit → Act → World → Prop} {a : Act} {w : World} {l : List Oper} (C : World → Prop) (hl : l = os ++ [s]) (hm : P.follows .mixedOrders = true) (hB : Region.lexB .any os.toArray = true) (hT : tailB os s = true) (hC : C w.drew)
    (h : Loose P os.toArray C (fun a' => ∀ w', C w' → wpList P (os ++ [s]).toArray Q [s] a' w') os a) : (Code.region id l.toArray true).wp P Q a w := by
  subst hl
  simp only [Region.lexB, Bool.and_eq_true] at hB
  refine wp_region_any hm ?_
  have hq := wpAnyQ_lex (C := C) (md := .any) hB.1 os 0 (Array.replicate os.toArray.size false) a (by simp) (by simpa using hB.2) h.out
  have := wpAny_tail (P := P) (C := C) (Q := fun a' => ∀ w', C w' → wpList P (os ++ [s]).toArray Q [s] a' w') (Q' := Q) hT (fun a' w' hw' hh => by
    have := hh w' hw'
    unfold wpOp
    rw [ops_last]
    exact this) os.length (Array.replicate (os ++ [s]).toArray.size false) (Array.replicate os.toArray.size false) a w.drew
    ⟨by simp, by simp, fun i hi => by simp [hi, Nat.lt_succ_of_lt hi], by simp⟩ hC (by simpa using hq)
  simpa using this
theorem wp_region_tailL {id : Nat} {Q : Exit → Act → World → Prop} {a : Act} {w : World} {l : List Oper} (C : World → Prop) (h1 : l.dropLast = os) (h2 : l.getLast? = some s) (hm : P.follows .mixedOrders = true) (hB : Region.lexB .any os.toArray = true) (hT : tailB os s = true) (hC : C w.drew)
    (h : Loose P os.toArray C (fun a' => ∀ w', C w' → wpList P l.toArray Q [s] a' w') os a) : (Code.region id l.toArray true).wp P Q a w := by
  have hl : l = os ++ [s] := by
    obtain ⟨ys, hy⟩ := List.getLast?_eq_some_iff.1 h2
    rw [hy, List.dropLast_concat] at h1
    rw [hy, h1]
  have h' := h
  rw [hl] at h'
  exact wp_region_tail C hl hm hB hT hC h'
end
end Go.Proofs.Ytkjpkhpiojahkaa
