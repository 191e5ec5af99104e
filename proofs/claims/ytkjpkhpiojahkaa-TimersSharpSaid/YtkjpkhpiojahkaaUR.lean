/-
  Heaps told by lists in order: one contract for each call, whatever the case.
  Walks: the document's answer for heaps: At, Drop, Put, Change, whatever the case.
-/
import Derived.Test.YtkjpkhpiojahkaaRef2
/-! ### Heaps told by lists in order: one contract for each call, whatever the case. -/
namespace Go.Proofs.Ytkjpkhpiojahkaa
set_option linter.unusedVariables false
open Go.RowKit Hp

namespace Hp
section
variable {α : Type} {lt : α → α → Bool} {S : List (It α)} {id : Int} {k d : α}
def has (S : List (It α)) (id : Int) : Bool := S.any fun x => x.1 == id
def without (S : List (It α)) (id : Int) : List (It α) := S.filter fun x => x.1 != id
def keyAt (d : α) (S : List (It α)) (id : Int) : α := ((S.find? fun x => x.1 == id).map (·.2)).getD d
def hasE (S : List (It α)) (id : Int) : Int := if has S id then 0 else 14
def putE (S : List (It α)) (id : Int) : Int := if id < 0 then 1 else if has S id then 15 else 0
def putS (lt : α → α → Bool) (S : List (It α)) (id : Int) (k : α) : List (It α) := if id < 0 then S else if has S id then S else ins lt (id, k) S
def chS (lt : α → α → Bool) (S : List (It α)) (id : Int) (k : α) : List (It α) := if has S id then ins lt (id, k) (without S id) else S
def headE (S : List (It α)) : Int := if S.isEmpty then 14 else 0

theorem has_none : has S id = false ↔ ∀ x ∈ S, x.1 ≠ id := by
  simp only [has, List.any_eq_false, beq_iff_eq]
theorem has_some (h : has S id = true) : ∃ k, (id, k) ∈ S := by
  obtain ⟨⟨i, k⟩, h1, h2⟩ := List.any_eq_true.1 h
  have : i = id := by simpa using h2
  exact ⟨k, this ▸ h1⟩
theorem has_mem (h : (id, k) ∈ S) : has S id = true := List.any_eq_true.2 ⟨_, h, by simp⟩
theorem uniq (hd : S.Pairwise fun a b => a.1 ≠ b.1) {a b : It α} (ha : a ∈ S) (hb : b ∈ S) (he : a.1 = b.1) : a = b := by
  induction S with
  | nil => cases ha
  | cons y S ih =>
    rw [List.pairwise_cons] at hd
    rcases List.mem_cons.1 ha with ha | ha <;> rcases List.mem_cons.1 hb with hb | hb
    · rw [ha, hb]
    · exact absurd (ha ▸ he) (hd.1 _ hb)
    · exact absurd (hb ▸ he.symm) (hd.1 _ ha)
    · exact ih hd.2 ha hb
theorem keyAt_mem (hd : S.Pairwise fun a b => a.1 ≠ b.1) (h : (id, k) ∈ S) : keyAt d S id = k := by
  unfold keyAt
  cases hf : S.find? fun x => x.1 == id with
  | none => have := List.find?_eq_none.1 hf _ h; simp at this
  | some y =>
    have h1 := List.find?_some hf
    have := uniq hd (List.mem_of_find?_eq_some hf) h (by simpa using h1)
    rw [this]; rfl
theorem keyAt_none (h : has S id = false) : keyAt d S id = d := by
  unfold keyAt
  rw [List.find?_eq_none.2 fun x hx => by simpa using has_none.1 h x hx]; rfl
theorem without_none (h : has S id = false) : without S id = S := List.filter_eq_self.2 fun x hx => by simpa using has_none.1 h x hx
theorem without_gone : ∀ x ∈ without S id, x.1 ≠ id := fun x hx => by simpa using (List.mem_filter.1 hx).2
theorem without_sub : (without S id).Sublist S := List.filter_sublist
theorem without_sorted (hs : Sorted lt S) : Sorted lt (without S id) := hs.sublist without_sub
theorem without_length_le : (without S id).length ≤ S.length := List.length_filter_le _ _
theorem without_erase [BEq α] [LawfulBEq α] (hd : S.Pairwise fun a b => a.1 ≠ b.1) (h : (id, k) ∈ S) : without S id = S.erase (id, k) := by
  induction S with
  | nil => cases h
  | cons y S ih =>
    rw [List.pairwise_cons] at hd
    by_cases hy : y = (id, k)
    · subst hy
      rw [List.erase_cons_head]
      have : without S id = S := without_none (has_none.2 fun x hx => (hd.1 x hx).symm)
      simpa [without] using this
    · rw [List.erase_cons_tail (by simpa using hy)]
      have hm : (id, k) ∈ S := (List.mem_cons.1 h).resolve_left fun e => hy e.symm
      have h1 : (y.1 != id) = true := by simpa using hd.1 _ hm
      have := ih hd.2 hm
      unfold without at this ⊢
      rw [List.filter_cons_of_pos (p := fun x : It α => x.1 != id) h1, this]
theorem Sorted.distinct (ho : Swo lt) (h : S.Pairwise fun a b => a.1 ≠ b.1) : (S.map (·.1)).Nodup := Sorted.nodup_ids ho h
theorem putS_sorted (ho : Swo lt) (hs : Sorted lt S) : Sorted lt (putS lt S id k) := by
  unfold putS
  split
  · exact hs
  · split
    · exact hs
    · rename_i h; exact ins_sorted ho hs (has_none.1 (by simpa using h))
theorem chS_sorted (ho : Swo lt) (hs : Sorted lt S) : Sorted lt (chS lt S id k) := by
  unfold chS
  split
  · exact ins_sorted ho (without_sorted hs) without_gone
  · exact hs
theorem putS_length : (putS lt S id k).length ≤ S.length + 1 := by
  unfold putS
  split
  · omega
  · split
    · omega
    · rw [ins_length]; omega
theorem chS_length : (chS lt S id k).length ≤ S.length + 1 := by
  unfold chS
  split
  · rw [ins_length]; have := without_length_le (S := S) (id := id); omega
  · omega
theorem getElem_split {i : Nat} (h : S[i]? = some (id, k)) (hd : ∀ j, j < i → (S.getD j (0, d)).1 ≠ id) (hn : S.Pairwise fun a b => a.1 ≠ b.1) : S.take i ++ S.drop (i + 1) = without S id := by
  have hi := (List.getElem?_eq_some_iff.1 h).1
  have e : S = S.take i ++ (id, k) :: S.drop (i + 1) := by
    rw [← (List.getElem?_eq_some_iff.1 h).2, ← List.drop_eq_getElem_cons hi, List.take_append_drop]
  have h2 := hn
  rw [e, List.pairwise_append, List.pairwise_cons] at h2
  have e1 : (S.take i).filter (fun x => x.1 != id) = S.take i := List.filter_eq_self.2 fun x hx => by
    simpa using h2.2.2 x hx (id, k) List.mem_cons_self
  have e2 : (S.drop (i + 1)).filter (fun x => x.1 != id) = S.drop (i + 1) := List.filter_eq_self.2 fun x hx => by
    simpa using (h2.2.1.1 x hx).symm
  unfold without
  conv => rhs; rw [e, List.filter_append, List.filter_cons_of_neg (by simp), e1, e2]
end
end Hp

section
variable {w0 w : World} {hb : Nat} {S : List (It Int)} {R : Ast} {id k : Int}
theorem On.distinct (h : On w0 w (sep (H hb S) R)) : S.Pairwise fun a b => a.1 ≠ b.1 := by
  obtain ⟨F, hF, _⟩ := h.get1
  exact HeapAt.distinct hF
theorem U_put (h : On w0 w (sep (H hb S) R)) (hl : S.length < 900000) (id k : Int) (hw : (Lit.int .i64 id).wf = true) :
    Calls Try.prog 116 #[.pointer (some ⟨hb, 0, none⟩), .int .i64 id, .int .i64 k] w fun e w' => e = .returned (.int .i64 (putE S id)) ∧ On w0 w' (sep (H hb (putS ltI S id k)) R) := by
  unfold putE putS
  obtain ⟨F, hF, _⟩ := h.get1
  by_cases h0 : id < 0
  · rw [if_pos h0, if_pos h0]
    exact (Put_bad hF hw h0).mono fun e w' ⟨he, hww⟩ => ⟨he, hww ▸ h⟩
  · rw [if_neg h0, if_neg h0]
    cases hh : has S id with
    | true =>
      obtain ⟨k0, hk⟩ := has_some hh
      rw [if_pos rfl, if_pos rfl]
      exact (Put_there hF hk).mono fun e w' ⟨he, hww⟩ => ⟨he, hww ▸ h⟩
    | false =>
      rw [if_neg (by simp), if_neg (by simp)]
      exact (H_put h id k (by omega) hw (has_none.1 hh) (by omega)).mono fun e w' ⟨he, ho⟩ => ⟨he, ho.mono1 (H_perm (ins_perm _ _).symm)⟩
theorem U_drop (h : On w0 w (sep (H hb S) R)) (hl : S.length < 900000) (id : Int) (hw : (Lit.int .i64 id).wf = true) :
    Calls Try.prog 155 #[.pointer (some ⟨hb, 0, none⟩), .int .i64 id] w fun e w' => e = .returned (.tuple #[.int .i64 (keyAt 0 S id), .int .i64 (hasE S id)]) ∧ On w0 w' (sep (H hb (without S id)) R) := by
  unfold hasE
  obtain ⟨F, hF, _⟩ := h.get1
  cases hh : has S id with
  | true =>
    obtain ⟨k0, hk⟩ := has_some hh
    rw [if_pos rfl, without_erase h.distinct hk, keyAt_mem h.distinct hk]
    exact H_drop h hk (by omega)
  | false =>
    rw [if_neg (by simp), without_none hh, keyAt_none hh]
    exact (Drop_none hF hw (has_none.1 hh)).mono fun e w' ⟨he, hww⟩ => ⟨he, hww ▸ h⟩
theorem U_take (h : On w0 w (sep (H hb S) R)) (hs : Sorted ltI S) (hl : S.length < 900000) :
    Calls Try.prog 118 #[.pointer (some ⟨hb, 0, none⟩)] w fun e w' => e = .returned (.tuple #[.int .i64 (S.headD (0, 0)).1, .int .i64 (S.headD (0, 0)).2, .int .i64 (headE S)]) ∧ On w0 w' (sep (H hb S.tail) R) := by
  cases S with
  | nil => exact H_take_none h
  | cons x S => exact H_take h hs (by rw [List.length_cons] at hl; show S.length < 999999; omega)
theorem U_peek (h : On w0 w (sep (H hb S) R)) (hs : Sorted ltI S) :
    Calls Try.prog 154 #[.pointer (some ⟨hb, 0, none⟩)] w fun e w' => e = .returned (.tuple #[.int .i64 (S.headD (0, 0)).1, .int .i64 (S.headD (0, 0)).2, .int .i64 (headE S)]) ∧ Below w.heap.size w w' := by
  obtain ⟨F, hF, _⟩ := h.get1
  cases S with
  | nil => exact Peek_none hF
  | cons x S => exact (Peek_some lessI hF hs).mono fun e w' ⟨he, hb⟩ => ⟨he, by first | exact hb | (subst hb; exact Below.refl _ _)⟩
end
end Go.Proofs.Ytkjpkhpiojahkaa

/-! ### Walks: the document's answer for heaps: At, Drop, Put, Change, whatever the case. -/
namespace Go.Proofs.Ytkjpkhpiojahkaa
set_option linter.unusedVariables false
open Go.RowKit Hp

/-- a number's place in a list -/
def idx (S : List (It Int)) (id : Int) : Nat := S.findIdx fun x => x.1 == id
theorem idx_le (S : List (It Int)) (id : Int) : idx S id ≤ S.length := List.findIdx_le_length
theorem idx_not (S : List (It Int)) (id : Int) {j : Nat} (hj : j < idx S id) : (S.getD j (0, 0)).1 ≠ id := by
  have hl : j < S.length := Nat.lt_of_lt_of_le hj (idx_le S id)
  have := List.not_of_lt_findIdx hj
  rw [getD_of hl]
  simpa using this
theorem idx_at {S : List (It Int)} {id : Int} {x : It Int} (h : S[idx S id]? = some x) : x.1 = id := by
  obtain ⟨hl, he⟩ := List.getElem?_eq_some_iff.1 h
  have := List.findIdx_getElem (p := fun x : It Int => x.1 == id) (w := hl)
  rw [← he]
  exact eq_of_beq this
theorem idx_lt {S : List (It Int)} {id : Int} : idx S id < S.length ↔ has S id = true := by
  rw [idx, List.findIdx_lt_length, has, List.any_eq_true]
theorem idx_some {S : List (It Int)} {id : Int} (h : has S id = true) : ∃ k, S[idx S id]? = some (id, k) := by
  have hl := idx_lt.2 h
  have hx := List.getElem?_eq_getElem hl
  have h1 := idx_at hx
  refine ⟨(S[idx S id]).2, ?_⟩
  rw [hx]
  exact congrArg some (Prod.ext h1 rfl)

section
variable {w0 w : World} {rb : Nat} {S : List (It Int)} {R : Ast} {id k : Int} {F : Nat → Prop}

theorem R_at (h : On w0 w (sep (refA rb S) R)) (hl : S.length < 900000) (id : Int) :
    Calls Try.prog 95 #[.pointer (some ⟨rb, 0, none⟩), .int .i64 id] w fun e w' => e = .returned (.int .i64 (if has S id then (idx S id : Int) else -1)) ∧ w = w' := by
  obtain ⟨F, ⟨v, hr, _⟩, _⟩ := h.get1
  have := At_any hr (by omega) id (idx S id) (idx_le S id) (fun j hj => idx_not S id hj) (fun x hx => idx_at hx)
  cases hh : has S id with
  | true => rw [if_pos (idx_lt.2 hh)] at this; rw [if_pos rfl]; exact this
  | false => rw [if_neg (by rw [idx_lt, hh]; simp)] at this; rw [if_neg (by simp)]; exact this

set_option maxRecDepth 100000 in
set_option maxHeartbeats 1000000 in
theorem RDrop_none (h : (refA rb S).holds w F) (hl : S.length < 900000) (id : Int) (hh : has S id = false) :
    Calls Try.prog 97 #[.pointer (some ⟨rb, 0, none⟩), .int .i64 id] w fun e w' => e = .returned (.tuple #[.int .i64 0, .int .i64 14]) ∧ w = w' := by
  obtain ⟨v, hr, _⟩ := h
  have hat := At_any hr (by omega) id (idx S id) (idx_le S id) (fun j hj => idx_not S id hj) (fun x hx => idx_at hx)
  rw [if_neg (by rw [idx_lt, hh]; simp)] at hat
  have HAt := Lib.hid hat
  clear hat hh hr
  go_enter Try.func97, Try.ntmps97
  go_wp2_with (go_at_call 95; refine HAt.out.mono ?_; rintro e w' ⟨rfl, rfl⟩)
  go_ret2
  exact ⟨rfl, rfl⟩

theorem R_drop (h : On w0 w (sep (refA rb S) R)) (hn : S.Pairwise fun a b => a.1 ≠ b.1) (hl : S.length < 900000) (id : Int) :
    Calls Try.prog 97 #[.pointer (some ⟨rb, 0, none⟩), .int .i64 id] w fun e w' => e = .returned (.tuple #[.int .i64 (keyAt 0 S id), .int .i64 (hasE S id)]) ∧ On w0 w' (sep (refA rb (without S id)) R) := by
  unfold hasE
  cases hh : has S id with
  | true =>
    obtain ⟨k, hk⟩ := idx_some hh
    rw [if_pos rfl, keyAt_mem hn (List.mem_of_getElem? hk), ← getElem_split (d := 0) hk (fun j hj => idx_not S id hj) hn]
    exact h.call1 (B := refA rb _) fun F hF => RDrop_some hF (by omega) hk fun j hj => idx_not S id hj
  | false =>
    obtain ⟨F, hF, _⟩ := h.get1
    rw [if_neg (by simp), keyAt_none hh, without_none hh]
    exact (RDrop_none hF hl id hh).mono fun e w' ⟨he, hww⟩ => ⟨he, hww ▸ h⟩

set_option maxRecDepth 100000 in
set_option maxHeartbeats 1000000 in
theorem R_put (h : On w0 w (sep (refA rb S) R)) (hl : S.length < 900000) (id k : Int) :
    Calls Try.prog 140 #[.pointer (some ⟨rb, 0, none⟩), .agg #[.int .i64 k, .int .i64 id]] w fun e w' => e = .returned (.int .i64 (putE S id)) ∧ On w0 w' (sep (refA rb (putS ltI S id k)) R) := by
  obtain ⟨w1, hw1⟩ : ∃ w1, w.alloc (.cells #[.int .i64 k, .int .i64 id] 24) = w1 := ⟨_, rfl⟩
  have hb1 : Below w.heap.size w w1 := by rw [← hw1]; exact (Below.refl _ w).alloc (Nat.le_refl _) _
  have x0 : w1.cell? ⟨w.heap.size, 0, none⟩ = some (.int .i64 k) := by rw [← hw1, World.cell?_alloc_at _ _ _ _ rfl]; rfl
  have x1 : w1.cell? ⟨w.heap.size, 1, none⟩ = some (.int .i64 id) := by rw [← hw1, World.cell?_alloc_at _ _ _ _ rfl]; rfl
  have h1 := h.below hb1
  have hat := R_at h1 hl id
  have H1 := Lib.hid h1
  have HAt := Lib.hid hat
  unfold putE putS
  clear h h1 hat hb1
  by_cases hneg : id < 0
  · rw [if_pos hneg, if_pos hneg]
    have hng : (id < 0) = True := by simp [hneg]
    go_enter Try.func140, Try.ntmps140
    go_wp2
    go_ret
    exact ⟨rfl, H1.out⟩
  · rw [if_neg hneg, if_neg hneg]
    cases hh : has S id with
    | true =>
      rw [if_pos rfl, if_pos rfl]
      rw [hh, if_pos rfl] at HAt
      have hi0 : (0 : Int) ≤ (idx S id : Int) := by omega
      clear hh
      go_enter Try.func140, Try.ntmps140
      go_wp2_with fail
      refine HAt.out.mono ?_
      rintro e w' ⟨rfl, rfl⟩
      go_wp2
      go_ret
      exact ⟨rfl, H1.out⟩
    | false =>
      rw [if_neg (by simp), if_neg (by simp)]
      rw [hh, if_neg (by simp)] at HAt
      have hlay := H1.out.call1 (B := refA rb (ins ltI (id, k) S)) fun F hF => lay_ok hF (by omega) id k
      have HLay := Lib.hid hlay
      clear hh hlay
      go_enter Try.func140, Try.ntmps140
      go_wp2_with fail
      refine HAt.out.mono ?_
      rintro e w' ⟨rfl, rfl⟩
      go_wp2_with fail
      refine HLay.out.mono ?_
      rintro e w2 ⟨rfl, h2⟩
      have H2 := Lib.hid h2
      clear h2
      go_wp2
      go_ret
      exact ⟨rfl, H2.out⟩

set_option maxRecDepth 100000 in
set_option maxHeartbeats 1000000 in
theorem R_change (h : On w0 w (sep (refA rb S) R)) (hn : S.Pairwise fun a b => a.1 ≠ b.1) (hl : S.length < 900000) (id k : Int) :
    Calls Try.prog 141 #[.pointer (some ⟨rb, 0, none⟩), .agg #[.int .i64 k, .int .i64 id]] w fun e w' => e = .returned (.int .i64 (hasE S id)) ∧ On w0 w' (sep (refA rb (chS ltI S id k)) R) := by
  obtain ⟨w1, hw1⟩ : ∃ w1, w.alloc (.cells #[.int .i64 k, .int .i64 id] 24) = w1 := ⟨_, rfl⟩
  have hb1 : Below w.heap.size w w1 := by rw [← hw1]; exact (Below.refl _ w).alloc (Nat.le_refl _) _
  have x0 : w1.heap[w.heap.size]? = some (.cells #[.int .i64 k, .int .i64 id] 24 (0, 0)) := by rw [← hw1]; exact heap_alloc_new w _
  have h1 : On w0 w1 (sep (refA rb S) (sep (boxA w.heap.size 24 #[.int .i64 k, .int .i64 id]) R)) := by
    rw [← hw1]
    exact (h.add ((Below.refl _ w).alloc (Nat.le_refl _) _) (boxA_new w 24 #[.int .i64 k, .int .i64 id]) (fun j hj => by omega)).left
  have hdr := R_drop h1 hn hl id
  have HDr := Lib.hid hdr
  have c1 : w1.cell? ⟨w.heap.size, 1, none⟩ = some (.int .i64 id) := by simp [World.cell?, x0]
  unfold hasE chS
  unfold hasE at HDr
  clear h h1 hdr hb1 x0
  cases hh : has S id with
  | true =>
    rw [if_pos rfl, if_pos rfl]
    rw [hh, if_pos rfl] at HDr
    clear hh
    go_enter Try.func141, Try.ntmps141
    go_wp2_with fail
    refine HDr.out.mono ?_
    rintro e w2 ⟨rfl, h2⟩
    have hlay := h2.call1 (B := refA rb (ins ltI (id, k) (without S id))) fun F hF => lay_ok hF (by have := without_length_le (S := S) (id := id); omega) id k
    obtain ⟨Fx, hFx, _⟩ := h2.out1.get1
    have d0 := boxA_cell hFx 0
    have d1 := boxA_cell hFx 1
    have e0 : (#[Value.int .i64 k, .int .i64 id])[0]? = some (.int .i64 k) := rfl
    have e1 : (#[Value.int .i64 k, .int .i64 id])[1]? = some (.int .i64 id) := rfl
    rw [e0] at d0
    rw [e1] at d1
    have HLay := Lib.hid hlay
    clear h2 hFx hlay e0 e1
    go_wp2_with fail
    refine HLay.out.mono ?_
    rintro e w3 ⟨rfl, h3⟩
    have H3 := Lib.hid (h3.left.out1)
    clear h3
    go_wp2
    go_ret
    exact ⟨rfl, H3.out⟩
  | false =>
    rw [if_neg (by simp), if_neg (by simp)]
    rw [hh, if_neg (by simp), without_none hh] at HDr
    clear hh
    go_enter Try.func141, Try.ntmps141
    go_wp2_with fail
    refine HDr.out.mono ?_
    rintro e w2 ⟨rfl, h2⟩
    have H2 := Lib.hid (h2.left.out1)
    clear h2
    go_wp2
    go_ret
    exact ⟨rfl, H2.out⟩
end
end Go.Proofs.Ytkjpkhpiojahkaa
