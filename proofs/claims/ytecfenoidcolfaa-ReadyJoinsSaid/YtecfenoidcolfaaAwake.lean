/-
  Walk: the chapter's example.
-/
import Derived.Test.YtecfenoidcolfaaHO
import Derived.Test.YtecfenoidcolfaaBase
namespace Go.Proofs.Ytecfenoidcolfaa
set_option linter.unusedVariables false
open Go.RowKit Hp

/-- a heap, as a piece of memory -/
def heapA (hb lf : Nat) (lt : Int → Int → Bool) (M : List (It Int)) : Ast where
  holds w F := HeapAt w hb lf lt F M
  stable := fun h hm hS => h.mod hm hS
  lt := fun h hj => h.lt_F hj

abbrev H (hb : Nat) (M : List (It Int)) : Ast := heapA hb 20 ltI M

section
variable {w0 w : World} {hb : Nat} {M : List (It Int)} {R : Ast}
theorem H_perm {M' : List (It Int)} (hp : M.Perm M') (F : Nat → Prop) (h : (H hb M).holds w F) : (H hb M').holds w F := HeapAt.perm h hp
theorem H_put (h : On w0 w (sep (H hb M) R)) (id k : Int) (h0 : 0 ≤ id) (hw : (Lit.int .i64 id).wf = true) (hn : ∀ x ∈ M, x.1 ≠ id) (hM : M.length < 1000000) :
    Calls Try.prog 22 #[.pointer (some ⟨hb, 0, none⟩), .int .i64 id, .int .i64 k] w fun e w' => e = .returned (.int .i64 0) ∧ On w0 w' (sep (H hb ((id, k) :: M)) R) :=
  h.call1 (B := H hb ((id, k) :: M)) fun _ hF => Put_ok lessI hF id k h0 hw hn hM
theorem H_take {x1 x2 : Int} (h : On w0 w (sep (H hb ((x1, x2) :: M)) R)) (hs : Sorted ltI ((x1, x2) :: M)) (hM : M.length < 999999) :
    Calls Try.prog 23 #[.pointer (some ⟨hb, 0, none⟩)] w fun e w' => e = .returned (.tuple #[.int .i64 x1, .int .i64 x2, .int .i64 0]) ∧ On w0 w' (sep (H hb M) R) :=
  h.call1 (B := H hb M) fun _ hF => Take_some lessI hF hs hM
theorem H_take_none (h : On w0 w (sep (H hb []) R)) :
    Calls Try.prog 23 #[.pointer (some ⟨hb, 0, none⟩)] w fun e w' => e = .returned (.tuple #[.int .i64 0, .int .i64 0, .int .i64 14]) ∧ On w0 w' (sep (H hb []) R) :=
  h.call1 (B := H hb []) fun _ hF => (Take_none hF).mono fun _ _ ⟨he, hb⟩ => ⟨he, Step.below (A := H _ []) hF hb⟩
theorem H_len (h : On w0 w (sep (H hb M) R)) :
    Calls Try.prog 25 #[.pointer (some ⟨hb, 0, none⟩)] w fun e w' => e = .returned (.int .i64 (M.length : Int)) ∧ w = w' := by
  obtain ⟨F, hF, _⟩ := h.get1
  exact Len_ok hF
end
/-- nothing -/
def emp : Ast where
  holds _ F := ∀ j, ¬ F j
  stable := fun h _ _ => h
  lt := fun h hj => (h _ hj).elim
theorem On.emp (w : World) : On w w emp := ⟨fun _ => False, fun _ h => h, Below.refl _ _, fun _ h => h.elim⟩
theorem H_new {w0 w : World} {R : Ast} (h : On w0 w R) : Calls Try.prog 19 #[.func (.func 20) #[] #[]] w fun e w' => ∃ hb, e = .returned (.tuple #[.pointer (some ⟨hb, 0, none⟩), .int .i64 0]) ∧ On w0 w' (sep (H hb []) R) :=
  (New_ok ltI w).mono fun _ _ ⟨hb, F, he, h1, h2, h3⟩ => ⟨hb, he, h.add (B := H hb []) h2 h1 h3⟩

set_option maxRecDepth 100000 in
set_option maxHeartbeats 2000000 in
theorem awake_ok (w : World) : Calls Try.prog 21 #[] w fun e w' => e = .returned (.bool true) ∧ Below w.heap.size w w' := by
  go_enter Try.func21, Try.ntmps21
  go_wp2_with fail
  refine (H_new (On.emp w)).mono ?_
  rintro e w1 ⟨hb, rfl, h1⟩
  have c1 := Lib.hid (H_put h1 7 5 (by decide) (by decide) (by simp) (by simp))
  clear h1
  go_wp2_with fail
  refine c1.out.mono ?_
  rintro e w2 ⟨rfl, h2⟩
  have c2 := Lib.hid (H_put h2 3 5 (by decide) (by decide) (by simp) (by simp))
  clear h2
  go_wp2_with fail
  refine c2.out.mono ?_
  rintro e w3 ⟨rfl, h3⟩
  have c3 := Lib.hid (H_put h3 9 1 (by decide) (by decide) (by simp) (by simp))
  clear h3
  go_wp2_with fail
  refine c3.out.mono ?_
  rintro e w4 ⟨rfl, h4⟩
  have c4 := Lib.hid (H_take h4 (by simp [Sorted, Hp.ahead, ltI]) (by simp))
  clear h4
  go_wp2_with fail
  refine c4.out.mono ?_
  rintro e w5 ⟨rfl, h5⟩
  have c5 := Lib.hid (H_take h5 (by simp [Sorted, Hp.ahead, ltI]) (by simp))
  clear h5
  go_wp2_with fail
  refine c5.out.mono ?_
  rintro e w6 ⟨rfl, h6⟩
  have c6 := Lib.hid (H_take h6 (by simp [Sorted, Hp.ahead, ltI]) (by simp))
  clear h6
  go_wp2_with fail
  refine c6.out.mono ?_
  rintro e w7 ⟨rfl, h7⟩
  have c7 := Lib.hid (H_len h7)
  have HB := Lib.hid h7.to_below
  clear h7
  go_wp2_with fail
  refine c7.out.mono ?_
  rintro e w8 ⟨rfl, rfl⟩
  go_wp2_with fail
  go_ret
  exact ⟨rfl, HB.out⟩
end Go.Proofs.Ytecfenoidcolfaa
