/-
  A region that draws its order, whose last operation comes behind all others (by a chain of edges): the loose walk of the others, then that one; also in a round of a range over a function. Over any program.
-/
import Derived.Test.YtkjpkhpiojahkaaTail
namespace Go.Proofs.Ytkjpkhpiojahkaa
set_option linter.unusedVariables false

/-- may the last one stand apart? -/
def tail2B (os : List Oper) (s : Oper) : Bool :=
  s.after.all (fun e => !Region.binds .any e || decide (e.on < os.length)) &&
    (List.range os.length).all (fun i => (s.after.any fun e => Region.binds .any e && e.on == i) || (List.range os.length).any fun j => decide (i < j) && match os[j]? with | some o => (o.after.any fun e => Region.binds .any e && e.on == i) | none => false) &&
    (List.range os.length).all (fun i => match os[i]? with | some o => o.after.all (fun e => !Region.binds .any e || decide (e.on < i)) && (match o.guard with | some (g, _) => decide (g < os.length) | none => true) | none => true)

section
variable {P : Program} {os : List Oper} {s : Oper} {C : World → Prop}
structure UInv (os : List Oper) (l l' : Array Bool) : Prop where
  t : TInv os.length l l'
  cl : ∀ (j : Nat) (o : Oper), os[j]? = some o → l'.getD j false = true → ∀ e ∈ o.after, Region.binds .any e = true → l'.getD e.on false = true
theorem getD_set_any {l : Array Bool} {i j : Nat} (h : (l.setIfInBounds i true).getD j false = true) : j = i ∨ l.getD j false = true := by
  by_cases hij : j = i
  · exact .inl hij
  · right
    rw [Array.getD_eq_getD_getElem?, Array.getElem?_setIfInBounds_ne (Ne.symm hij), ← Array.getD_eq_getD_getElem?] at h
    exact h
theorem getD_set_mono {l : Array Bool} {i j : Nat} (h : l.getD j false = true) : (l.setIfInBounds i true).getD j false = true := by
  by_cases hij : i = j
  · subst hij
    rw [Array.getD_eq_getD_getElem?] at h ⊢
    rw [Array.getElem?_setIfInBounds]
    by_cases hlt : i < l.size
    · simp [hlt]
    · rw [Array.getElem?_eq_none (by omega)] at h
      cases h
  · rw [Array.getD_eq_getD_getElem?, Array.getElem?_setIfInBounds_ne hij, ← Array.getD_eq_getD_getElem?]
    exact h
theorem UInv.set {l l' : Array Bool} (h : UInv os l l') {i : Nat} (hi : i ∈ Region.ready .any os.toArray l') : UInv os (l.setIfInBounds i true) (l'.setIfInBounds i true) := by
  obtain ⟨h1, o, ho, h2⟩ := mem_ready.1 hi
  have hlt : i < os.length := by have := (Array.getElem?_eq_some_iff.1 ho).1; simpa using this
  refine ⟨h.t.set hlt, fun j o' ho' hj e he hb => ?_⟩
  rcases getD_set_any hj with rfl | hj
  · have : o' = o := by
      have h3 : os.toArray[j]? = os[j]? := by simp
      rw [h3] at ho
      rw [ho] at ho'
      exact (Option.some.inj ho').symm
    subst this
    exact getD_set_mono (h2 e he hb)
  · exact getD_set_mono (h.cl j o' ho' hj e he hb)

theorem tail2_all (hT : tail2B os s = true) {l l' : Array Bool} (h : UInv os l l') (hi : os.length ∈ Region.ready .any (os ++ [s]).toArray l) : ∀ i, i < os.length → l'.getD i false = true := by
  obtain ⟨_, o, ho, h2⟩ := mem_ready.1 hi
  rw [ops_last] at ho
  cases ho
  simp only [tail2B, Bool.and_eq_true, List.all_eq_true, List.mem_range] at hT
  have key : ∀ k i, os.length - i = k → i < os.length → l'.getD i false = true := by
    intro k
    induction k using Nat.strongRecOn with
    | _ k ih =>
      intro i hk hi
      have h3 := hT.1.2 i hi
      rw [Bool.or_eq_true] at h3
      rcases h3 with h3 | h3
      · obtain ⟨e, he, hb⟩ := Array.any_eq_true'.1 h3
        simp only [Bool.and_eq_true, beq_iff_eq] at hb
        have := h2 e he hb.1
        rwa [hb.2, h.t.getF] at this
      · obtain ⟨j, hj, hb⟩ := List.any_eq_true.1 h3
        simp only [Bool.and_eq_true, decide_eq_true_eq, List.mem_range] at hj hb
        obtain ⟨hij, hb⟩ := hb
        have hjl := ih (os.length - j) (by omega) j rfl hj
        rw [List.getElem?_eq_getElem hj] at hb
        obtain ⟨e, he, hbe⟩ := Array.any_eq_true'.1 hb
        simp only [Bool.and_eq_true, beq_iff_eq] at hbe
        have := h.cl j os[j] (List.getElem?_eq_getElem hj) hjl e he hbe.1
        rwa [hbe.2] at this
  exact fun i hi => key _ i rfl hi
theorem ready2_last (hT : tail2B os s = true) {l l' : Array Bool} (h : UInv os l l') (hi : os.length ∈ Region.ready .any (os ++ [s]).toArray l) : Region.ready .any os.toArray l' = [] := by
  refine List.eq_nil_iff_forall_not_mem.2 fun j hj => ?_
  obtain ⟨hlt, _⟩ := ready_out (s := s) h.t hj
  obtain ⟨h1, _⟩ := mem_ready.1 hj
  have := tail2_all hT h hi j hlt
  rw [← getD_tf (by rw [h.t.s2]; exact hlt), h1] at this
  cases this
theorem ready2_all (hT : tail2B os s = true) {l l' : Array Bool} (h : UInv os l l') (hr : Region.ready .any os.toArray l' = []) : os.length ∈ Region.ready .any (os ++ [s]).toArray l := by
  simp only [tail2B, Bool.and_eq_true, List.all_eq_true, List.mem_range] at hT
  have hall : ∀ i, i < os.length → l'.getD i false = true := by
    intro i
    induction i using Nat.strongRecOn with
    | _ i ih =>
      intro hi
      cases hb : l'.getD i false with
      | true => rfl
      | false =>
        exfalso
        have : i ∈ Region.ready .any os.toArray l' := by
          refine mem_ready.2 ⟨by rw [getD_tf (by rw [h.t.s2]; exact hi)]; exact hb, os[i], by simp [hi], fun e he hbi => ?_⟩
          have h2 := hT.2 i hi
          rw [List.getElem?_eq_getElem hi] at h2
          simp only [Bool.and_eq_true] at h2
          have h3 := Array.all_eq_true_iff_forall_mem.1 h2.1 e he
          rw [hbi] at h3
          have h4 : e.on < i := by simpa using h3
          exact ih e.on h4 (by omega)
        rw [hr] at this
        cases this
  refine mem_ready.2 ⟨?_, s, ops_last, fun e he hb => ?_⟩
  · rw [Array.getD_eq_getD_getElem?, h.t.no]; rfl
  · have h3 := Array.all_eq_true_iff_forall_mem.1 hT.1.1 e he
    rw [hb] at h3
    rw [h.t.getF]
    exact hall e.on (by simpa using h3)
theorem ready2_nil (hT : tail2B os s = true) {l l' : Array Bool} (h : UInv os l l') (hi : os.length ∈ Region.ready .any (os ++ [s]).toArray l) : Region.ready .any (os ++ [s]).toArray (l.setIfInBounds os.length true) = [] := by
  refine List.eq_nil_iff_forall_not_mem.2 fun j hj => ?_
  obtain ⟨h1, o, ho, _⟩ := mem_ready.1 hj
  have hle := ops_lt ho
  rw [Array.getD_eq_getD_getElem?, Array.getElem?_setIfInBounds] at h1
  by_cases hjn : os.length = j
  · rw [if_pos hjn, if_pos (by rw [h.t.s1]; omega)] at h1
    cases h1
  · rw [if_neg hjn] at h1
    have h4 := tail2_all hT h hi j (by omega)
    rw [← h.t.getF, ← getD_tf (by rw [h.t.s1]; omega), Array.getD_eq_getD_getElem?, h1] at h4
    cases h4

theorem wanted_tail (hT : tail2B os s = true) {i : Nat} {o : Oper} (ho : os[i]? = some o) (tmps : Array Value) : Region.wanted o (yielded (os ++ [s]).toArray tmps) = Region.wanted o (yielded os.toArray tmps) := by
  have hi : i < os.length := (List.getElem?_eq_some_iff.1 ho).1
  simp only [tail2B, Bool.and_eq_true, List.all_eq_true, List.mem_range] at hT
  have h2 := hT.2 i hi
  rw [ho] at h2
  simp only [Bool.and_eq_true] at h2
  unfold Region.wanted
  cases hg : o.guard with
  | none => rfl
  | some gb =>
    obtain ⟨g, b⟩ := gb
    have h3 := h2.2
    rw [hg] at h3
    have hgl : g < os.length := by simpa using h3
    have : yielded (os ++ [s]).toArray tmps g = yielded os.toArray tmps g := by unfold yielded; rw [tail_ops_at hgl]
    simp only [this]

theorem wpOp_tail2 (hT : tail2B os s = true) {i : Nat} (hi : i < os.length) {a : Act} {K : Act → Prop} {K' : Act → World → Prop} {Q' : Exit → Act → World → Prop} {w : World} (hC : C w) (h : ∀ a w', C w' → K a → K' a w') (hh : qOp P os.toArray C i K a) : wpOp P (os ++ [s]).toArray Q' i K' a w := by
  have := wpOp_of_qOp (Q' := Q') hC h hh
  unfold wpOp at this ⊢
  rw [tail_ops_at hi]
  have hat : os.toArray[i]? = os[i]? := by simp
  rw [hat] at this ⊢
  split
  · rename_i ho; simpa [ho] using this
  · rename_i o ho
    rw [wanted_tail hT ho]
    simpa [ho] using this
theorem wpAny_tail2 (hT : tail2B os s = true) {Q : Act → Prop} {Q' : Exit → Act → World → Prop} (hQ : ∀ a w, C w → Q a → wpOp P (os ++ [s]).toArray Q' os.length (fun a w => Q' .normal a w) a w) :
    ∀ (fuel : Nat) (l l' : Array Bool) (a : Act) (w : World), UInv os l l' → C w → wpAnyQ P .any os.toArray C Q fuel l' a → wpAny P .any (os ++ [s]).toArray Q' (fuel + 1) l a w := by
  have hlast : ∀ (fuel : Nat) (l l' : Array Bool) (a : Act) (w : World), UInv os l l' → C w → Region.ready .any os.toArray l' = [] → Q a → wpOp P (os ++ [s]).toArray Q' os.length (wpAny P .any (os ++ [s]).toArray Q' fuel (l.setIfInBounds os.length true)) a w := by
    intro fuel l l' a w ht hw hr hq
    have hr2 := ready2_nil hT ht (ready2_all hT ht hr)
    refine wpOp_mono (fun a' w' h' => ?_) (hQ a w hw hq)
    cases fuel with
    | zero => exact ⟨hr2, h'⟩
    | succ f => exact ⟨fun _ => h', fun i hi => by rw [hr2] at hi; cases hi⟩
  intro fuel
  induction fuel with
  | zero =>
    intro l l' a w ht hw h
    obtain ⟨h1, h2⟩ := h
    refine ⟨fun h0 => (by have := ready2_all hT ht h1; rw [h0] at this; cases this), fun i hi => ?_⟩
    by_cases hn : i = os.length
    · subst hn; exact hlast 0 l l' a w ht hw h1 h2
    · have := ready_in ht.t hi hn
      rw [h1] at this
      cases this
  | succ fuel ih =>
    intro l l' a w ht hw h
    obtain ⟨h1, h2⟩ := h
    refine ⟨fun h0 => ?_, fun i hi => ?_⟩
    · by_cases hr : Region.ready .any os.toArray l' = []
      · have := ready2_all hT ht hr
        rw [h0] at this; cases this
      · obtain ⟨j, hj⟩ := List.exists_mem_of_ne_nil _ hr
        have := (ready_out (s := s) ht.t hj).2
        rw [h0] at this; cases this
    · by_cases hn : i = os.length
      · subst hn
        have hr := ready2_last hT ht hi
        exact hlast (fuel + 1) l l' a w ht hw hr (h1 hr)
      · have hi2 := ready_in ht.t hi hn
        have hlt := (ready_out (s := s) ht.t hi2).1
        exact wpOp_tail2 hT hlt hw (fun a' w' hw' hh => ih _ _ a' w' (ht.set hi2) hw' hh) (h2 i hi2)

theorem UInv.start : UInv os (Array.replicate (os ++ [s]).toArray.size false) (Array.replicate os.toArray.size false) :=
  ⟨⟨by simp, by simp, fun i hi => by simp [hi, Nat.lt_succ_of_lt hi], by simp⟩, fun j o _ hj => by
    rw [Array.getD_eq_getD_getElem?, Array.getElem?_replicate] at hj
    split at hj <;> cases hj⟩

theorem split_last {l : List Oper} (h1 : l.dropLast = os) (h2 : l.getLast? = some s) : l = os ++ [s] := by
  obtain ⟨ys, hy⟩ := List.getLast?_eq_some_iff.1 h2
  rw [hy, List.dropLast_concat] at h1
  rw [hy, h1]

theorem wp_region_last {id : Nat} {Q : Exit → Act → World → Prop} {a : Act} {w : World} {l : List Oper} (C : World → Prop) (h1 : l.dropLast = os) (h2 : l.getLast? = some s) (hm : P.follows .mixedOrders = true) (hB : Region.lexB .any os.toArray = true) (hT : tail2B os s = true) (hC : C w.drew)
    (h : Loose P os.toArray C (fun a' => ∀ w', C w' → wpList P l.toArray Q [s] a' w') os a) : (Code.region id l.toArray true).wp P Q a w := by
  have hl := split_last h1 h2
  subst hl
  simp only [Region.lexB, Bool.and_eq_true] at hB
  refine wp_region_any hm ?_
  have hq := wpAnyQ_lex (C := C) (md := .any) hB.1 os 0 (Array.replicate os.toArray.size false) a (by simp) (by simpa using hB.2) h.out
  have := wpAny_tail2 (P := P) (C := C) (Q := fun a' => ∀ w', C w' → wpList P (os ++ [s]).toArray Q [s] a' w') (Q' := Q) hT (fun a' w' hw' hh => by
    have := hh w' hw'
    unfold wpOp
    rw [ops_last]
    exact this) os.length _ _ a w.drew (UInv.start (s := s)) hC (by simpa using hq)
  simpa using this
end

section
variable {P : Program} {os : List Oper} {s : Oper} {C : World → Prop} {n l₀ : Nat}
theorem wpOpIn_tail2 (hT : tail2B os s = true) (hd : os.all noDefer = true) {i : Nat} (hi : i < os.length) {a : Act} {K : Act → Prop} {K' : Act → World → Prop} {Q' : Exit → Act → World → Prop} {w : World} (hC : C w) (h : ∀ a w', C w' → K a → K' a w') (hh : qOp P os.toArray C i K a) :
    wpOpIn (Fence.wide.inRound l₀) n P (os ++ [s]).toArray Q' i K' a w := by
  have := wpOpIn_of_qOp (l := l₀) (n := n) (Q' := Q') (fun o ho => by
    rw [List.getElem?_toArray] at ho
    exact noDefer_ne (List.all_eq_true.1 hd o (List.mem_of_getElem? ho))) hC h hh
  unfold wpOpIn at this ⊢
  rw [tail_ops_at hi]
  have hat : os.toArray[i]? = os[i]? := by simp
  rw [hat] at this ⊢
  split
  · rename_i ho; simpa [ho] using this
  · rename_i o ho
    rw [wanted_tail hT ho]
    simpa [ho] using this
theorem wpAnyIn_tail2 (hT : tail2B os s = true) (hd : os.all noDefer = true) {Q : Act → Prop} {Q' : Exit → Act → World → Prop} (hQ : ∀ a w, C w → Q a → wpOpIn (Fence.wide.inRound l₀) n P (os ++ [s]).toArray Q' os.length (fun a w => Q' .normal a w) a w) :
    ∀ (fuel : Nat) (l l' : Array Bool) (a : Act) (w : World), UInv os l l' → C w → wpAnyQ P .any os.toArray C Q fuel l' a → wpAnyIn (Fence.wide.inRound l₀) n P .any (os ++ [s]).toArray Q' (fuel + 1) l a w := by
  have hlast : ∀ (fuel : Nat) (l l' : Array Bool) (a : Act) (w : World), UInv os l l' → C w → Region.ready .any os.toArray l' = [] → Q a → wpOpIn (Fence.wide.inRound l₀) n P (os ++ [s]).toArray Q' os.length (wpAnyIn (Fence.wide.inRound l₀) n P .any (os ++ [s]).toArray Q' fuel (l.setIfInBounds os.length true)) a w := by
    intro fuel l l' a w ht hw hr hq
    have hr2 := ready2_nil hT ht (ready2_all hT ht hr)
    refine wpOpIn_mono (fun a' w' h' => ?_) (hQ a w hw hq)
    cases fuel with
    | zero => exact ⟨hr2, h'⟩
    | succ f => exact ⟨fun _ => h', fun i hi => by rw [hr2] at hi; cases hi⟩
  intro fuel
  induction fuel with
  | zero =>
    intro l l' a w ht hw h
    obtain ⟨h1, h2⟩ := h
    refine ⟨fun h0 => (by have := ready2_all hT ht h1; rw [h0] at this; cases this), fun i hi => ?_⟩
    by_cases hn : i = os.length
    · subst hn; exact hlast 0 l l' a w ht hw h1 h2
    · have := ready_in ht.t hi hn
      rw [h1] at this
      cases this
  | succ fuel ih =>
    intro l l' a w ht hw h
    obtain ⟨h1, h2⟩ := h
    refine ⟨fun h0 => ?_, fun i hi => ?_⟩
    · by_cases hr : Region.ready .any os.toArray l' = []
      · have := ready2_all hT ht hr
        rw [h0] at this; cases this
      · obtain ⟨j, hj⟩ := List.exists_mem_of_ne_nil _ hr
        have := (ready_out (s := s) ht.t hj).2
        rw [h0] at this; cases this
    · by_cases hn : i = os.length
      · subst hn
        have hr := ready2_last hT ht hi
        exact hlast (fuel + 1) l l' a w ht hw hr (h1 hr)
      · have hi2 := ready_in ht.t hi hn
        have hlt := (ready_out (s := s) ht.t hi2).1
        exact wpOpIn_tail2 hT hd hlt hw (fun a' w' hw' hh => ih _ _ a' w' (ht.set hi2) hw' hh) (h2 i hi2)
theorem wpIn_region_last {id : Nat} {Q : Exit → Act → World → Prop} {a : Act} {w : World} {l : List Oper} (C : World → Prop) (h1 : l.dropLast = os) (h2 : l.getLast? = some s) (hm : P.follows .mixedOrders = true) (hB : Region.lexB .any os.toArray = true) (hT : tail2B os s = true) (hd : os.all noDefer = true) (hC : C w.drew)
    (h : Loose P os.toArray C (fun a' => ∀ w', C w' → wpListIn (Fence.wide.inRound l₀) n P l.toArray Q [s] a' w') os a) : (Code.region id l.toArray true).wpIn (Fence.wide.inRound l₀) n P Q a w := by
  have hl := split_last h1 h2
  subst hl
  simp only [Region.lexB, Bool.and_eq_true] at hB
  refine wpIn_region_any hm ?_
  have hq := wpAnyQ_lex (C := C) (md := .any) hB.1 os 0 (Array.replicate os.toArray.size false) a (by simp) (by simpa using hB.2) h.out
  have := wpAnyIn_tail2 (P := P) (C := C) (n := n) (l₀ := l₀) (Q := fun a' => ∀ w', C w' → wpListIn (Fence.wide.inRound l₀) n P (os ++ [s]).toArray Q [s] a' w') (Q' := Q) hT hd (fun a' w' hw' hh => by
    have := hh w' hw'
    unfold wpOpIn
    rw [ops_last]
    exact this) os.length _ _ a w.drew (UInv.start (s := s)) hC (by simpa using hq)
  simpa using this
end
end Go.Proofs.Ytkjpkhpiojahkaa
