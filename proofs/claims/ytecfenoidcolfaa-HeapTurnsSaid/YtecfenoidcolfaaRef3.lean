/-
  Walks: the document's answer for heaps: At, Drop, Put, Change, whatever the case.
-/
import Derived.Test.YtecfenoidcolfaaUni
namespace Go.Proofs.Ytecfenoidcolfaa
set_option linter.unusedVariables false
open Go.RowKit Hp

/-- a number's place in a list -/
def idx (S : List (It Int)) (id : Int) : Nat := S.findIdx fun x => x.1 == id
theorem idx_le (S : List (It Int)) (id : Int) : idx S id ≤ S.length := List.findIdx_le_length
theorem idx_not (S : List (It Int)) (id : Int) {j : Nat} (hj : j < idx S id) : (S.getD j (0, 0)).1 ≠ id := by
  have hl : j < S.length := Nat.lt_of_lt_of_le hj (idx_le S id)
  have := List.not_of_lt_findIdx hj
  rw [getD_of hl]
  simpa using this
theorem idx_at {S : List (It Int)} {id : Int} {x : It Int} (h : S[idx S id]? = some x) : x.1 = id := by
  obtain ⟨hl, he⟩ := List.getElem?_eq_some_iff.1 h
  have := List.findIdx_getElem (p := fun x : It Int => x.1 == id) (w := hl)
  rw [← he]
  exact eq_of_beq this
theorem idx_lt {S : List (It Int)} {id : Int} : idx S id < S.length ↔ has S id = true := by
  rw [idx, List.findIdx_lt_length, has, List.any_eq_true]
theorem idx_some {S : List (It Int)} {id : Int} (h : has S id = true) : ∃ k, S[idx S id]? = some (id, k) := by
  have hl := idx_lt.2 h
  have hx := List.getElem?_eq_getElem hl
  have h1 := idx_at hx
  refine ⟨(S[idx S id]).2, ?_⟩
  rw [hx]
  exact congrArg some (Prod.ext h1 rfl)

section
variable {w0 w : World} {rb : Nat} {S : List (It Int)} {R : Ast} {id k : Int} {F : Nat → Prop}

theorem R_at (h : On w0 w (sep (refA rb S) R)) (hl : S.length < 900000) (id : Int) :
    Calls Try.prog 86 #[.pointer (some ⟨rb, 0, none⟩), .int .i64 id] w fun e w' => e = .returned (.int .i64 (if has S id then (idx S id : Int) else -1)) ∧ w = w' := by
  obtain ⟨F, ⟨v, hr, _⟩, _⟩ := h.get1
  have := At_any hr (by omega) id (idx S id) (idx_le S id) (fun j hj => idx_not S id hj) (fun x hx => idx_at hx)
  cases hh : has S id with
  | true => rw [if_pos (idx_lt.2 hh)] at this; rw [if_pos rfl]; exact this
  | false => rw [if_neg (by rw [idx_lt, hh]; simp)] at this; rw [if_neg (by simp)]; exact this

set_option maxRecDepth 100000 in
set_option maxHeartbeats 1000000 in
theorem RDrop_none (h : (refA rb S).holds w F) (hl : S.length < 900000) (id : Int) (hh : has S id = false) :
    Calls Try.prog 85 #[.pointer (some ⟨rb, 0, none⟩), .int .i64 id] w fun e w' => e = .returned (.tuple #[.int .i64 0, .int .i64 14]) ∧ w = w' := by
  obtain ⟨v, hr, _⟩ := h
  have hat := At_any hr (by omega) id (idx S id) (idx_le S id) (fun j hj => idx_not S id hj) (fun x hx => idx_at hx)
  rw [if_neg (by rw [idx_lt, hh]; simp)] at hat
  have HAt := Lib.hid hat
  clear hat hh hr
  go_enter Try.func85, Try.ntmps85
  go_wp2_with (go_at_call 86; refine HAt.out.mono ?_; rintro e w' ⟨rfl, rfl⟩)
  go_ret2
  exact ⟨rfl, rfl⟩

theorem R_drop (h : On w0 w (sep (refA rb S) R)) (hn : S.Pairwise fun a b => a.1 ≠ b.1) (hl : S.length < 900000) (id : Int) :
    Calls Try.prog 85 #[.pointer (some ⟨rb, 0, none⟩), .int .i64 id] w fun e w' => e = .returned (.tuple #[.int .i64 (keyAt 0 S id), .int .i64 (hasE S id)]) ∧ On w0 w' (sep (refA rb (without S id)) R) := by
  unfold hasE
  cases hh : has S id with
  | true =>
    obtain ⟨k, hk⟩ := idx_some hh
    rw [if_pos rfl, keyAt_mem hn (List.mem_of_getElem? hk), ← getElem_split (d := 0) hk (fun j hj => idx_not S id hj) hn]
    exact h.call1 (B := refA rb _) fun F hF => RDrop_some hF (by omega) hk fun j hj => idx_not S id hj
  | false =>
    obtain ⟨F, hF, _⟩ := h.get1
    rw [if_neg (by simp), keyAt_none hh, without_none hh]
    exact (RDrop_none hF hl id hh).mono fun e w' ⟨he, hww⟩ => ⟨he, hww ▸ h⟩

set_option maxRecDepth 100000 in
set_option maxHeartbeats 1000000 in
theorem R_put (h : On w0 w (sep (refA rb S) R)) (hl : S.length < 900000) (id k : Int) :
    Calls Try.prog 83 #[.pointer (some ⟨rb, 0, none⟩), .agg #[.int .i64 k, .int .i64 id]] w fun e w' => e = .returned (.int .i64 (putE S id)) ∧ On w0 w' (sep (refA rb (putS ltI S id k)) R) := by
  obtain ⟨w1, hw1⟩ : ∃ w1, w.alloc (.cells #[.int .i64 k, .int .i64 id] 32) = w1 := ⟨_, rfl⟩
  have hb1 : Below w.heap.size w w1 := by rw [← hw1]; exact (Below.refl _ w).alloc (Nat.le_refl _) _
  have x0 : w1.cell? ⟨w.heap.size, 0, none⟩ = some (.int .i64 k) := by rw [← hw1, World.cell?_alloc_at _ _ _ _ rfl]; rfl
  have x1 : w1.cell? ⟨w.heap.size, 1, none⟩ = some (.int .i64 id) := by rw [← hw1, World.cell?_alloc_at _ _ _ _ rfl]; rfl
  have h1 := h.below hb1
  have hat := R_at h1 hl id
  have H1 := Lib.hid h1
  have HAt := Lib.hid hat
  unfold putE putS
  clear h h1 hat hb1
  by_cases hneg : id < 0
  · rw [if_pos hneg, if_pos hneg]
    have hng : (id < 0) = True := by simp [hneg]
    go_enter Try.func83, Try.ntmps83
    go_wp2
    go_ret
    exact ⟨rfl, H1.out⟩
  · rw [if_neg hneg, if_neg hneg]
    cases hh : has S id with
    | true =>
      rw [if_pos rfl, if_pos rfl]
      rw [hh, if_pos rfl] at HAt
      have hi0 : (0 : Int) ≤ (idx S id : Int) := by omega
      clear hh
      go_enter Try.func83, Try.ntmps83
      go_wp2_with fail
      refine HAt.out.mono ?_
      rintro e w' ⟨rfl, rfl⟩
      go_wp2
      go_ret
      exact ⟨rfl, H1.out⟩
    | false =>
      rw [if_neg (by simp), if_neg (by simp)]
      rw [hh, if_neg (by simp)] at HAt
      have hlay := H1.out.call1 (B := refA rb (ins ltI (id, k) S)) fun F hF => lay_ok hF (by omega) id k
      have HLay := Lib.hid hlay
      clear hh hlay
      go_enter Try.func83, Try.ntmps83
      go_wp2_with fail
      refine HAt.out.mono ?_
      rintro e w' ⟨rfl, rfl⟩
      go_wp2_with fail
      refine HLay.out.mono ?_
      rintro e w2 ⟨rfl, h2⟩
      have H2 := Lib.hid h2
      clear h2
      go_wp2
      go_ret
      exact ⟨rfl, H2.out⟩

set_option maxRecDepth 100000 in
set_option maxHeartbeats 1000000 in
theorem R_change (h : On w0 w (sep (refA rb S) R)) (hn : S.Pairwise fun a b => a.1 ≠ b.1) (hl : S.length < 900000) (id k : Int) :
    Calls Try.prog 84 #[.pointer (some ⟨rb, 0, none⟩), .agg #[.int .i64 k, .int .i64 id]] w fun e w' => e = .returned (.int .i64 (hasE S id)) ∧ On w0 w' (sep (refA rb (chS ltI S id k)) R) := by
  obtain ⟨w1, hw1⟩ : ∃ w1, w.alloc (.cells #[.int .i64 k, .int .i64 id] 32) = w1 := ⟨_, rfl⟩
  have hb1 : Below w.heap.size w w1 := by rw [← hw1]; exact (Below.refl _ w).alloc (Nat.le_refl _) _
  have x0 : w1.heap[w.heap.size]? = some (.cells #[.int .i64 k, .int .i64 id] 32 (0, 0)) := by rw [← hw1]; exact heap_alloc_new w _
  have h1 : On w0 w1 (sep (refA rb S) (sep (boxA w.heap.size 32 #[.int .i64 k, .int .i64 id]) R)) := by
    rw [← hw1]
    exact (h.add ((Below.refl _ w).alloc (Nat.le_refl _) _) (boxA_new w 32 #[.int .i64 k, .int .i64 id]) (fun j hj => by omega)).left
  have hdr := R_drop h1 hn hl id
  have HDr := Lib.hid hdr
  have c1 : w1.cell? ⟨w.heap.size, 1, none⟩ = some (.int .i64 id) := by simp [World.cell?, x0]
  unfold hasE chS
  unfold hasE at HDr
  clear h h1 hdr hb1 x0
  cases hh : has S id with
  | true =>
    rw [if_pos rfl, if_pos rfl]
    rw [hh, if_pos rfl] at HDr
    clear hh
    go_enter Try.func84, Try.ntmps84
    go_wp2_with fail
    refine HDr.out.mono ?_
    rintro e w2 ⟨rfl, h2⟩
    have hlay := h2.call1 (B := refA rb (ins ltI (id, k) (without S id))) fun F hF => lay_ok hF (by have := without_length_le (S := S) (id := id); omega) id k
    obtain ⟨Fx, hFx, _⟩ := h2.out1.get1
    have d0 := boxA_cell hFx 0
    have d1 := boxA_cell hFx 1
    have e0 : (#[Value.int .i64 k, .int .i64 id])[0]? = some (.int .i64 k) := rfl
    have e1 : (#[Value.int .i64 k, .int .i64 id])[1]? = some (.int .i64 id) := rfl
    rw [e0] at d0
    rw [e1] at d1
    have HLay := Lib.hid hlay
    clear h2 hFx hlay e0 e1
    go_wp2_with fail
    refine HLay.out.mono ?_
    rintro e w3 ⟨rfl, h3⟩
    have H3 := Lib.hid (h3.left.out1)
    clear h3
    go_wp2
    go_ret
    exact ⟨rfl, H3.out⟩
  | false =>
    rw [if_neg (by simp), if_neg (by simp)]
    rw [hh, if_neg (by simp), without_none hh] at HDr
    clear hh
    go_enter Try.func84, Try.ntmps84
    go_wp2_with fail
    refine HDr.out.mono ?_
    rintro e w2 ⟨rfl, h2⟩
    have H2 := Lib.hid (h2.left.out1)
    clear h2
    go_wp2
    go_ret
    exact ⟨rfl, H2.out⟩
end
end Go.Proofs.Ytecfenoidcolfaa
