/-
  A heap for whoever uses it: what is in it, and which blocks are its own.
-/
import Derived.Test.YtecfenoidcolfaaKW4
import Derived.Maps.AppendAt
import Derived.WalkSpells
import Derived.Deep.AppendLies
import Derived.Deep.RegionLaw
namespace Go.Proofs.Ytecfenoidcolfaa.Ke
set_option linter.unusedVariables false
open Go.RowKit Hp

/-- block hb is a heap of the numbers and keys M; its blocks are among F -/
def HeapAt (w : World) (hb lf : Nat) (lt : (Int × Int) → (Int × Int) → Bool) (F : Nat → Prop) (M : List (It (Int × Int))) : Prop :=
  ∃ v mb A f, Raw w hb lf v mb A A.length f ∧ IsHeap lt A (0, 0, 0) ∧ Pos A (0, 0, 0) f ∧ A.Perm M ∧ (∀ x ∈ M, 0 ≤ x.1 ∧ (Lit.int .i64 x.1).wf = true) ∧
    F hb ∧ (∀ j, Foot v mb j → F j) ∧ (∀ j, F j → j < w.heap.size)

/-- what a call on a heap leaves -/
def HeapTo (w w' : World) (hb lf : Nat) (lt : (Int × Int) → (Int × Int) → Bool) (F : Nat → Prop) (M : List (It (Int × Int))) : Prop :=
  ∃ F', HeapAt w' hb lf lt F' M ∧ Mod F w w' ∧ ∀ j, F' j → F j ∨ w.heap.size ≤ j

section
variable {w w' : World} {hb lf : Nat} {lt : (Int × Int) → (Int × Int) → Bool} {F : Nat → Prop} {M M' : List (It (Int × Int))}
theorem HeapAt.perm (h : HeapAt w hb lf lt F M) (hp : M.Perm M') : HeapAt w hb lf lt F M' := by
  obtain ⟨v, mb, A, f, h1, h2, h3, h4, h5, h6⟩ := h
  exact ⟨v, mb, A, f, h1, h2, h3, h4.trans hp, fun x hx => h5 x (hp.mem_iff.2 hx), h6⟩
theorem HeapAt.lt_hb (h : HeapAt w hb lf lt F M) : hb < w.heap.size := by
  obtain ⟨v, mb, A, f, h1, _⟩ := h
  exact h1.lt
theorem HeapAt.lt_F (h : HeapAt w hb lf lt F M) {j : Nat} (hj : F j) : j < w.heap.size := by
  obtain ⟨v, mb, A, f, _, _, _, _, _, _, _, h8⟩ := h
  exact h8 j hj
theorem HeapAt.distinct (h : HeapAt w hb lf lt F M) : M.Pairwise fun a b => a.1 ≠ b.1 := by
  obtain ⟨v, mb, A, f, _, _, h3, h4, _⟩ := h
  exact distinct_perm h4 h3.distinct
theorem HeapAt.ids (h : HeapAt w hb lf lt F M) : ∀ x ∈ M, 0 ≤ x.1 ∧ (Lit.int .i64 x.1).wf = true := by
  obtain ⟨v, mb, A, f, _, _, _, _, h5, _⟩ := h
  exact h5
theorem HeapAt.mod (h : HeapAt w hb lf lt F M) {S : Nat → Prop} (hm : Mod S w w') (hS : ∀ j, F j → ¬ S j) : HeapAt w' hb lf lt F M := by
  obtain ⟨v, mb, A, f, h1, h2, h3, h4, h5, h6, h7, h8⟩ := h
  exact ⟨v, mb, A, f, h1.mod hm (hS _ h6) (fun j hj => hS j (h7 j hj)), h2, h3, h4, h5, h6, h7, fun j hj => Nat.lt_of_lt_of_le (h8 j hj) hm.size⟩
theorem HeapAt.below (h : HeapAt w hb lf lt F M) (hm : Below w.heap.size w w') : HeapAt w' hb lf lt F M :=
  h.mod (Mod.of_below (S := none') hm) (fun _ _ h => h)
theorem HeapAt.to_below (h : HeapAt w hb lf lt F M) (hm : Below w.heap.size w w') : HeapTo w w' hb lf lt F M :=
  ⟨F, h.below hm, Mod.of_below hm, fun _ h => .inl h⟩
theorem HeapTo.perm (h : HeapTo w w' hb lf lt F M) (hp : M.Perm M') : HeapTo w w' hb lf lt F M' := by
  obtain ⟨F', h1, h2⟩ := h
  exact ⟨F', h1.perm hp, h2⟩
end

/-- the last of a list that is a heap but for it -/
theorem upOk_snoc {lt : (Int × Int) → (Int × Int) → Bool} {A : List (It (Int × Int))} {d x : It (Int × Int)} (h : IsHeap lt A d) : UpOk lt (A ++ [x]) d A.length := by
  have e : ∀ j, j < A.length → (A ++ [x]).getD j d = A.getD j d := fun j hj => by
    rw [List.getD_eq_getElem?_getD, List.getElem?_append_left hj, List.getD_eq_getElem?_getD]
  refine ⟨fun j h0 hj hne => ?_, fun _ j h0 hj hp => ?_⟩
  · rw [List.length_append] at hj
    simp at hj
    rw [e j (by omega), e _ (by omega)]
    exact h j h0 (by omega)
  · rw [List.length_append] at hj
    simp at hj
    omega
theorem posBut_snoc {A : List (It (Int × Int))} {d x : It (Int × Int)} {f : Int → Option Nat} (h : Pos A d f) (hx : f x.1 = none) : PosBut (A ++ [x]) d A.length f := by
  have e : ∀ j, j < A.length → (A ++ [x]).getD j d = A.getD j d := fun j hj => by
    rw [List.getD_eq_getElem?_getD, List.getElem?_append_left hj, List.getD_eq_getElem?_getD]
  have e2 : (A ++ [x]).getD A.length d = x := by simp [List.getD]
  refine ⟨fun k hk hne => ?_, fun y v hy => ?_, fun k hk hne => ?_⟩
  · rw [List.length_append] at hk
    simp at hk
    rw [e k (by omega)]
    exact h.1 k (by omega)
  · obtain ⟨k, hk, he⟩ := h.2 y v hy
    exact ⟨k, by rw [List.length_append]; omega, by rw [e k hk]; exact he⟩
  · rw [List.length_append] at hk
    simp at hk
    rw [e k (by omega), e2]
    intro heq
    have := h.1 k (by omega)
    rw [heq, hx] at this
    cases this

theorem info125 : (Try.prog.info? 125).map (fun i => (i.zero, i.size, i.bytes)) = some (some (.agg #[.int .i64 0, .int .i64 0, .int .i64 0]), 3, 24) := by kernel_rfl
theorem info_parts2 {i : Option TypeInfo} {z : Value} {size bytes : Nat} (h : i.map (fun i => (i.zero, i.size, i.bytes)) = some (some z, size, bytes)) : ∃ i0, i = some i0 ∧ i0.zero = some z ∧ i0.size = size ∧ i0.bytes = bytes := by
  cases i with
  | none => cases h
  | some i0 => simp at h; exact ⟨i0, rfl, h.1, h.2.1, h.2.2⟩

set_option maxRecDepth 100000 in
set_option maxHeartbeats 2000000 in
theorem Put_ok {lf : Nat} {lt : (Int × Int) → (Int × Int) → Bool} (HL : LessI lf lt) {u : World} {hb : Nat} {F : Nat → Prop} {M : List (It (Int × Int))} (h0 : HeapAt u hb lf lt F M) (id : Int) (k : Int × Int) (hid : 0 ≤ id) (hwf : (Lit.int .i64 id).wf = true) (hnew : ∀ x ∈ M, x.1 ≠ id) (hM : M.length < 1000000) :
    Calls Try.prog 27 #[.pointer (some ⟨hb, 0, none⟩), .int .i64 id, .agg #[.int .i64 k.1, .int .i64 k.2]] u fun e w' => e = .returned (.int .i64 0) ∧ HeapTo u w' hb lf lt F ((id, k) :: M) := by
  obtain ⟨w, hw⟩ : ∃ w, u.alloc (.cells #[.int .i64 k.1, .int .i64 k.2] 32) = w := ⟨_, rfl⟩
  have hbu : Below u.heap.size u w := by rw [← hw]; exact (Below.refl _ u).alloc (Nat.le_refl _) _
  have p0 : w.cell? ⟨u.heap.size, 0, none⟩ = some (.int .i64 k.1) := by rw [← hw, World.cell?_alloc_at _ _ _ _ rfl]; rfl
  have p1 : w.cell? ⟨u.heap.size, 1, none⟩ = some (.int .i64 k.2) := by rw [← hw, World.cell?_alloc_at _ _ _ _ rfl]; rfl
  have h := h0.below hbu
  have HBu := Lib.hid hbu
  clear h0 hbu
  obtain ⟨v, mb, A, f, hraw, hheap, hpos, hperm, hids, hF1, hF2, hF3⟩ := h
  obtain ⟨i0, hi0, hz0, hz1, hz2⟩ := info_parts2 info125
  have hAl : A.length < 1000000 := by rw [hperm.length_eq]; exact hM
  have hfn : f id = none := hpos.none_iff.2 fun x hx => hnew x (hperm.mem_iff.1 hx)
  have hth := there_none hraw hwf hfn
  have hbad : (id < 0) = False := by simp; exact hid
  have hc1 := hraw.c1
  have hlt := hraw.lt
  have HTh := Lib.hid hth
  have HRaw := Lib.hid hraw
  have HHeap := Lib.hid hheap
  have HPos := Lib.hid hpos
  have HPerm := Lib.hid hperm
  have HIds := Lib.hid hids
  have HF1 := Lib.hid hF1
  have HF2 := Lib.hid hF2
  have HF3 := Lib.hid hF3
  have HWf := Lib.hid hwf
  have HFn := Lib.hid hfn
  clear hth hraw hheap hpos hperm hids hF1 hF2 hF3 hwf hfn hnew
  go_enter Try.func27, Try.ntmps27
  have hafter : ∀ (g cap : Nat) (w1 : World), (w.alloc (.cells #[.int .i64 id, .int .i64 k.1, .int .i64 k.2] 125)).drew.grownBy w1 v.ownBlock → w1.ownsRow 0 125 3 (.slice (some ⟨g, 0, none⟩) (A.length + 1) cap) (A.length + 1) (A.flatMap itC ++ [.int .i64 id, .int .i64 k.1, .int .i64 k.2]) → (v.ownBlock = some g ∨ g = w.heap.size + 1) →
      w1.cell? ⟨hb, 1, none⟩ = some v ∧ w1.frozen? ⟨hb, 1, none⟩ = false ∧
        Calls Try.prog 76 #[.pointer (some ⟨hb, 0, none⟩), .int .i64 (A.length : Int)] (w1.setCell ⟨hb, 1, none⟩ (.slice (some ⟨g, 0, none⟩) (A.length + 1) cap)) fun e w' => e = .returned (.tuple #[]) ∧ HeapTo w w' hb lf lt F ((id, k) :: M) := fun g cap w1 hgrow hown hgc => by
    have hb0 : Below w.heap.size w (w.alloc (.cells #[.int .i64 id, .int .i64 k.1, .int .i64 k.2] 125)).drew := ((Below.refl _ w).alloc (Nat.le_refl _) _).drew
    have hr0 := HRaw.out.below hb0
    have hm1 : Mod (fun j => v.ownBlock = some j) (w.alloc (.cells #[.int .i64 id, .int .i64 k.1, .int .i64 k.2] 125)).drew w1 := (Mod.refl _ _).grown hgrow (fun j hj _ => ⟨hj, fun o ho => by
      rcases own_parts hr0.row with ⟨rfl, _⟩ | ⟨g, cap, cur, rfl, _, hg, _⟩
      · simp [Value.ownBlock] at hj
      · simp [Value.ownBlock] at hj
        subst hj
        rw [hg] at ho
        cases ho
        rfl⟩)
    have hst1 := hm1.obj hr0.st (fun e => (hr0.own_ne e).1 rfl)
    have hmap1 := hr0.map.mod hm1 (fun e => (hr0.own_ne e).2.1 rfl)
    refine ⟨by simp [World.cell?, hst1], by simp [World.frozen?, hst1], ?_⟩
    have hgb : g ≠ hb ∧ g ≠ mb := by
      rcases hgc with h | h
      · have := HRaw.out.own_ne h
        exact ⟨this.1, this.2.1⟩
      · have := HRaw.out.lt
        have := HRaw.out.mb_lt
        omega
    have hset : Mod (fun j => j = hb) w1 (w1.setCell ⟨hb, 1, none⟩ (.slice (some ⟨g, 0, none⟩) (A.length + 1) cap)) := (Mod.refl (fun j => j = hb) w1).setCell (p := ⟨hb, 1, none⟩) (fun _ => rfl) _
    have hr2 : Raw (w1.setCell ⟨hb, 1, none⟩ (.slice (some ⟨g, 0, none⟩) (A.length + 1) cap)) hb lf (.slice (some ⟨g, 0, none⟩) (A.length + 1) cap) mb (A ++ [(id, k)]) A.length f := by
      refine ⟨?_, ?_, hmap1.mod hset (fun e => HRaw.out.hb_mb e.symm)⟩
      · simp [World.setCell, Array.getElem?_modify, hst1]
      · rw [List.flatMap_append, List.length_append]
        exact own_same hown fun j o hj ho _ => hset.obj ho (by simp [Value.ownBlock] at hj; subst hj; exact hgb.1)
    have hup := up_any HL hr2 (i := A.length) (by simp) (upOk_snoc HHeap.out) (posBut_snoc HPos.out HFn.out) (fun x hx => by
      rw [List.mem_append, List.mem_singleton] at hx
      rcases hx with hx | rfl
      · exact (HIds.out x (HPerm.out.mem_iff.1 hx)).2
      · exact HWf.out) (by unfold maxLen; omega) (by rw [List.length_append]; simp; omega)
    rw [show ((A ++ [(id, k)]).getD A.length (0, 0, 0)) = (id, k) by simp [List.getD], show (f id).isSome = false by rw [HFn.out]; rfl, if_neg (by simp)] at hup
    refine hup.mono ?_
    rintro e w' ⟨rfl, A', f', hr', hp', hh', hpos', hmod'⟩
    refine ⟨rfl, fun j => F j ∨ j = g, ⟨.slice (some ⟨g, 0, none⟩) (A.length + 1) cap, mb, A', f', ?_, hh', hpos', ?_, ?_, .inl HF1.out, ?_, ?_⟩, ?_, ?_⟩
    · have : A'.length = A.length + 1 := by rw [hp'.length_eq, List.length_append]; rfl
      rw [this]; exact hr'
    · exact hp'.trans ((List.perm_append_comm).trans ((HPerm.out.cons (id, k))))
    · intro x hx
      rcases List.mem_cons.1 hx with rfl | hx
      · exact ⟨hid, HWf.out⟩
      · exact HIds.out x hx
    · rintro j (hj | rfl)
      · simp [Value.ownBlock] at hj
        exact .inr hj.symm
      · exact .inl (HF2.out _ (.inr rfl))
    · rintro j (hj | rfl)
      · have h1 := HF3.out j hj
        have h2 := hb0.size
        have h3 := hm1.size
        have h4 := hset.size
        have h5 := hmod'.size
        omega
      · exact hr'.foot_lt (.inl rfl)
    · have a1 : Mod F w w1 := (Mod.of_below (S := F) hb0).trans hm1 (fun j hj _ => HF2.out j (.inl hj))
      have a2 := a1.trans hset (fun j hj _ => by rw [hj]; exact HF1.out)
      refine a2.trans hmod' (fun j hj hjl => ?_)
      rcases hj with hj | rfl
      · simp [Value.ownBlock] at hj
        subst hj
        rcases hgc with h | h
        · exact HF2.out _ (.inl h)
        · omega
      · exact HF2.out _ (.inr rfl)
    · rintro j (hj | rfl)
      · exact .inl hj
      · rcases hgc with h | h
        · exact .inl (HF2.out _ (.inl h))
        · exact .inr (by omega)
  have HAfter := Lib.hid hafter
  have hnews : ∀ (j : Nat) (u : Value), [Value.int .i64 id, .int .i64 k.1, .int .i64 k.2][j]? = some u → (w.alloc (.cells #[.int .i64 id, .int .i64 k.1, .int .i64 k.2] 125)).cell? ((⟨w.heap.size, 0, none⟩ : Addr).add j) = some u :=
    World.news_of_block (cs := #[.int .i64 id, .int .i64 k.1, .int .i64 k.2]) (t := 125) (fr := (0, 0)) (heap_alloc_new w _)
  have HNews := Lib.hid hnews
  have hone : ∀ u ∈ [Value.int .i64 id, .int .i64 k.1, .int .i64 k.2], u.oneCell' = true := by simp [Value.oneCell']
  have hmx : A.length + 1 ≤ maxLen := by unfold maxLen; omega
  have hby : (A.length + 1) * 24 ≤ 140737488355328 := by omega
  have hown := HRaw.out.row.alloc (.cells #[.int .i64 id, .int .i64 k.1, .int .i64 k.2] 125)
  have HOwn := Lib.hid hown
  clear hnews hown
  have hsl : ∃ a ln cp, v = .slice a ln cp ∧ w.cell? ⟨hb, 1, none⟩ = some (.slice a ln cp) := by
    rcases own_parts HRaw.out.row with ⟨rfl, _⟩ | ⟨g, cap, cur, rfl, _⟩
    · exact ⟨_, _, _, rfl, hc1⟩
    · exact ⟨_, _, _, rfl, hc1⟩
  clear hafter
  go_wp2_with (first | (go_at_call 75; refine HTh.out.mono ?_; rintro e w' ⟨rfl, rfl⟩))
  go_region_law (first | (refine step_append_lies _ rfl _ _ 121 rfl 0 125 i0 (.agg #[.int .i64 0, .int .i64 0, .int .i64 0]) 3 24 Try.underlying121 hi0 hz0 hz1 hz2 rfl (by decide) v A.length (A.flatMap itC) rfl HOwn.out ⟨w.heap.size, 0, none⟩ 1 1 [.int .i64 id, .int .i64 k.1, .int .i64 k.2] rfl rfl HNews.out hone (by decide) hmx hby (Nat.zero_le _) (w.heap.size + 1) (by simp) ?_; intro g cap w1 hown hgrow hat hlt1; obtain ⟨e1, e2, hup⟩ := HAfter.out g cap w1 hgrow hown hat; have HUp := Lib.hid hup; clear hown hgrow hat hup))
  all_goals go_wp2_with fail
  all_goals refine HUp.out.mono ?_
  all_goals rintro e w3 ⟨rfl, hto⟩
  all_goals have HTo := Lib.hid hto
  all_goals clear hto
  all_goals go_wp2_with fail
  all_goals go_ret
  all_goals obtain ⟨F', h1, h2, h3⟩ := HTo.out
  all_goals exact ⟨rfl, F', h1, (Mod.of_below HBu.out).trans h2 (fun _ h _ => h), fun j hj => (h3 j hj).imp (fun h => h) fun h => by have := HBu.out.size; omega⟩
end Go.Proofs.Ytecfenoidcolfaa.Ke
