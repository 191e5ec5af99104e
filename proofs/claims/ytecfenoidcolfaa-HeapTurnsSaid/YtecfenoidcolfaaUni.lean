/-
  Heaps told by lists in order: one contract for each call, whatever the case.
-/
import Derived.Test.YtecfenoidcolfaaRef2
namespace Go.Proofs.Ytecfenoidcolfaa
set_option linter.unusedVariables false
open Go.RowKit Hp

namespace Hp
section
variable {α : Type} {lt : α → α → Bool} {S : List (It α)} {id : Int} {k d : α}
def has (S : List (It α)) (id : Int) : Bool := S.any fun x => x.1 == id
def without (S : List (It α)) (id : Int) : List (It α) := S.filter fun x => x.1 != id
def keyAt (d : α) (S : List (It α)) (id : Int) : α := ((S.find? fun x => x.1 == id).map (·.2)).getD d
def hasE (S : List (It α)) (id : Int) : Int := if has S id then 0 else 14
def putE (S : List (It α)) (id : Int) : Int := if id < 0 then 1 else if has S id then 15 else 0
def putS (lt : α → α → Bool) (S : List (It α)) (id : Int) (k : α) : List (It α) := if id < 0 then S else if has S id then S else ins lt (id, k) S
def chS (lt : α → α → Bool) (S : List (It α)) (id : Int) (k : α) : List (It α) := if has S id then ins lt (id, k) (without S id) else S
def headE (S : List (It α)) : Int := if S.isEmpty then 14 else 0

theorem has_none : has S id = false ↔ ∀ x ∈ S, x.1 ≠ id := by
  simp only [has, List.any_eq_false, beq_iff_eq]
theorem has_some (h : has S id = true) : ∃ k, (id, k) ∈ S := by
  obtain ⟨⟨i, k⟩, h1, h2⟩ := List.any_eq_true.1 h
  have : i = id := by simpa using h2
  exact ⟨k, this ▸ h1⟩
theorem has_mem (h : (id, k) ∈ S) : has S id = true := List.any_eq_true.2 ⟨_, h, by simp⟩
theorem uniq (hd : S.Pairwise fun a b => a.1 ≠ b.1) {a b : It α} (ha : a ∈ S) (hb : b ∈ S) (he : a.1 = b.1) : a = b := by
  induction S with
  | nil => cases ha
  | cons y S ih =>
    rw [List.pairwise_cons] at hd
    rcases List.mem_cons.1 ha with ha | ha <;> rcases List.mem_cons.1 hb with hb | hb
    · rw [ha, hb]
    · exact absurd (ha ▸ he) (hd.1 _ hb)
    · exact absurd (hb ▸ he.symm) (hd.1 _ ha)
    · exact ih hd.2 ha hb
theorem keyAt_mem (hd : S.Pairwise fun a b => a.1 ≠ b.1) (h : (id, k) ∈ S) : keyAt d S id = k := by
  unfold keyAt
  cases hf : S.find? fun x => x.1 == id with
  | none => have := List.find?_eq_none.1 hf _ h; simp at this
  | some y =>
    have h1 := List.find?_some hf
    have := uniq hd (List.mem_of_find?_eq_some hf) h (by simpa using h1)
    rw [this]; rfl
theorem keyAt_none (h : has S id = false) : keyAt d S id = d := by
  unfold keyAt
  rw [List.find?_eq_none.2 fun x hx => by simpa using has_none.1 h x hx]; rfl
theorem without_none (h : has S id = false) : without S id = S := List.filter_eq_self.2 fun x hx => by simpa using has_none.1 h x hx
theorem without_gone : ∀ x ∈ without S id, x.1 ≠ id := fun x hx => by simpa using (List.mem_filter.1 hx).2
theorem without_sub : (without S id).Sublist S := List.filter_sublist
theorem without_sorted (hs : Sorted lt S) : Sorted lt (without S id) := hs.sublist without_sub
theorem without_length_le : (without S id).length ≤ S.length := List.length_filter_le _ _
theorem without_erase [BEq α] [LawfulBEq α] (hd : S.Pairwise fun a b => a.1 ≠ b.1) (h : (id, k) ∈ S) : without S id = S.erase (id, k) := by
  induction S with
  | nil => cases h
  | cons y S ih =>
    rw [List.pairwise_cons] at hd
    by_cases hy : y = (id, k)
    · subst hy
      rw [List.erase_cons_head]
      have : without S id = S := without_none (has_none.2 fun x hx => (hd.1 x hx).symm)
      simpa [without] using this
    · rw [List.erase_cons_tail (by simpa using hy)]
      have hm : (id, k) ∈ S := (List.mem_cons.1 h).resolve_left fun e => hy e.symm
      have h1 : (y.1 != id) = true := by simpa using hd.1 _ hm
      have := ih hd.2 hm
      unfold without at this ⊢
      rw [List.filter_cons_of_pos (p := fun x : It α => x.1 != id) h1, this]
theorem Sorted.distinct (ho : Swo lt) (h : S.Pairwise fun a b => a.1 ≠ b.1) : (S.map (·.1)).Nodup := Sorted.nodup_ids ho h
theorem putS_sorted (ho : Swo lt) (hs : Sorted lt S) : Sorted lt (putS lt S id k) := by
  unfold putS
  split
  · exact hs
  · split
    · exact hs
    · rename_i h; exact ins_sorted ho hs (has_none.1 (by simpa using h))
theorem chS_sorted (ho : Swo lt) (hs : Sorted lt S) : Sorted lt (chS lt S id k) := by
  unfold chS
  split
  · exact ins_sorted ho (without_sorted hs) without_gone
  · exact hs
theorem putS_length : (putS lt S id k).length ≤ S.length + 1 := by
  unfold putS
  split
  · omega
  · split
    · omega
    · rw [ins_length]; omega
theorem chS_length : (chS lt S id k).length ≤ S.length + 1 := by
  unfold chS
  split
  · rw [ins_length]; have := without_length_le (S := S) (id := id); omega
  · omega
theorem getElem_split {i : Nat} (h : S[i]? = some (id, k)) (hd : ∀ j, j < i → (S.getD j (0, d)).1 ≠ id) (hn : S.Pairwise fun a b => a.1 ≠ b.1) : S.take i ++ S.drop (i + 1) = without S id := by
  have hi := (List.getElem?_eq_some_iff.1 h).1
  have e : S = S.take i ++ (id, k) :: S.drop (i + 1) := by
    rw [← (List.getElem?_eq_some_iff.1 h).2, ← List.drop_eq_getElem_cons hi, List.take_append_drop]
  have h2 := hn
  rw [e, List.pairwise_append, List.pairwise_cons] at h2
  have e1 : (S.take i).filter (fun x => x.1 != id) = S.take i := List.filter_eq_self.2 fun x hx => by
    simpa using h2.2.2 x hx (id, k) List.mem_cons_self
  have e2 : (S.drop (i + 1)).filter (fun x => x.1 != id) = S.drop (i + 1) := List.filter_eq_self.2 fun x hx => by
    simpa using (h2.2.1.1 x hx).symm
  unfold without
  conv => rhs; rw [e, List.filter_append, List.filter_cons_of_neg (by simp), e1, e2]
end
end Hp

section
variable {w0 w : World} {hb : Nat} {S : List (It Int)} {R : Ast} {id k : Int}
theorem On.distinct (h : On w0 w (sep (H hb S) R)) : S.Pairwise fun a b => a.1 ≠ b.1 := by
  obtain ⟨F, hF, _⟩ := h.get1
  exact HeapAt.distinct hF
theorem U_put (h : On w0 w (sep (H hb S) R)) (hl : S.length < 900000) (id k : Int) (hw : (Lit.int .i64 id).wf = true) :
    Calls Try.prog 22 #[.pointer (some ⟨hb, 0, none⟩), .int .i64 id, .int .i64 k] w fun e w' => e = .returned (.int .i64 (putE S id)) ∧ On w0 w' (sep (H hb (putS ltI S id k)) R) := by
  unfold putE putS
  obtain ⟨F, hF, _⟩ := h.get1
  by_cases h0 : id < 0
  · rw [if_pos h0, if_pos h0]
    exact (Put_bad hF hw h0).mono fun e w' ⟨he, hww⟩ => ⟨he, hww ▸ h⟩
  · rw [if_neg h0, if_neg h0]
    cases hh : has S id with
    | true =>
      obtain ⟨k0, hk⟩ := has_some hh
      rw [if_pos rfl, if_pos rfl]
      exact (Put_there hF hk).mono fun e w' ⟨he, hww⟩ => ⟨he, hww ▸ h⟩
    | false =>
      rw [if_neg (by simp), if_neg (by simp)]
      exact (H_put h id k (by omega) hw (has_none.1 hh) (by omega)).mono fun e w' ⟨he, ho⟩ => ⟨he, ho.mono1 (H_perm (ins_perm _ _).symm)⟩
theorem U_change (h : On w0 w (sep (H hb S) R)) (hl : S.length < 900000) (id k : Int) (hw : (Lit.int .i64 id).wf = true) :
    Calls Try.prog 37 #[.pointer (some ⟨hb, 0, none⟩), .int .i64 id, .int .i64 k] w fun e w' => e = .returned (.int .i64 (hasE S id)) ∧ On w0 w' (sep (H hb (chS ltI S id k)) R) := by
  unfold hasE chS
  obtain ⟨F, hF, _⟩ := h.get1
  cases hh : has S id with
  | true =>
    obtain ⟨k0, hk⟩ := has_some hh
    rw [if_pos rfl, if_pos rfl, without_erase h.distinct hk]
    exact (h.call1 (B := H hb ((id, k) :: S.erase (id, k0))) fun _ hF => (Change_same lessI hF hk k (by omega)).mono fun e w' ⟨he, hs⟩ => ⟨he, hs.go⟩).mono fun e w' ⟨he, ho⟩ =>
      ⟨he, ho.mono1 (H_perm (ins_perm _ _).symm)⟩
  | false =>
    rw [if_neg (by simp), if_neg (by simp)]
    exact (Change_none hF hw (has_none.1 hh)).mono fun e w' ⟨he, hww⟩ => ⟨he, hww ▸ h⟩
theorem U_drop (h : On w0 w (sep (H hb S) R)) (hl : S.length < 900000) (id : Int) (hw : (Lit.int .i64 id).wf = true) :
    Calls Try.prog 30 #[.pointer (some ⟨hb, 0, none⟩), .int .i64 id] w fun e w' => e = .returned (.tuple #[.int .i64 (keyAt 0 S id), .int .i64 (hasE S id)]) ∧ On w0 w' (sep (H hb (without S id)) R) := by
  unfold hasE
  obtain ⟨F, hF, _⟩ := h.get1
  cases hh : has S id with
  | true =>
    obtain ⟨k0, hk⟩ := has_some hh
    rw [if_pos rfl, without_erase h.distinct hk, keyAt_mem h.distinct hk]
    exact H_drop h hk (by omega)
  | false =>
    rw [if_neg (by simp), without_none hh, keyAt_none hh]
    exact (Drop_none hF hw (has_none.1 hh)).mono fun e w' ⟨he, hww⟩ => ⟨he, hww ▸ h⟩
theorem U_get (h : On w0 w (sep (H hb S) R)) (hl : S.length < 900000) (id : Int) (hw : (Lit.int .i64 id).wf = true) :
    Calls Try.prog 31 #[.pointer (some ⟨hb, 0, none⟩), .int .i64 id] w fun e w' => e = .returned (.tuple #[.int .i64 (keyAt 0 S id), .int .i64 (hasE S id)]) ∧ w = w' := by
  unfold hasE
  obtain ⟨F, hF, _⟩ := h.get1
  cases hh : has S id with
  | true =>
    obtain ⟨k0, hk⟩ := has_some hh
    rw [if_pos rfl, keyAt_mem h.distinct hk]
    exact Get_some hF hk (by omega)
  | false =>
    rw [if_neg (by simp), keyAt_none hh]
    exact Get_none hF hw (has_none.1 hh)
theorem U_take (h : On w0 w (sep (H hb S) R)) (hs : Sorted ltI S) (hl : S.length < 900000) :
    Calls Try.prog 23 #[.pointer (some ⟨hb, 0, none⟩)] w fun e w' => e = .returned (.tuple #[.int .i64 (S.headD (0, 0)).1, .int .i64 (S.headD (0, 0)).2, .int .i64 (headE S)]) ∧ On w0 w' (sep (H hb S.tail) R) := by
  cases S with
  | nil => exact H_take_none h
  | cons x S => exact H_take h hs (by rw [List.length_cons] at hl; show S.length < 999999; omega)
theorem U_peek (h : On w0 w (sep (H hb S) R)) (hs : Sorted ltI S) :
    Calls Try.prog 74 #[.pointer (some ⟨hb, 0, none⟩)] w fun e w' => e = .returned (.tuple #[.int .i64 (S.headD (0, 0)).1, .int .i64 (S.headD (0, 0)).2, .int .i64 (headE S)]) ∧ Below w.heap.size w w' := by
  obtain ⟨F, hF, _⟩ := h.get1
  cases S with
  | nil => exact Peek_none hF
  | cons x S => exact (Peek_some lessI hF hs).mono fun e w' ⟨he, hb⟩ => ⟨he, by first | exact hb | (subst hb; exact Below.refl _ _)⟩
end
end Go.Proofs.Ytecfenoidcolfaa
