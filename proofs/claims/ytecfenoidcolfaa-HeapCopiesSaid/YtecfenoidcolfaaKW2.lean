/-
  What a heap is in memory; the walk of set.
-/
import Derived.Test.YtecfenoidcolfaaKW1
import Derived.BigRegion
namespace Go.Proofs.Ytecfenoidcolfaa.Ke
set_option linter.unusedVariables false
open Go.RowKit Hp

def itC (x : It (Int × Int)) : List Value := [.int .i64 x.1, .int .i64 x.2.1, .int .i64 x.2.2]
theorem itC_len (x : It (Int × Int)) : (itC x).length = 3 := rfl

/-- block hb is a heap: its function, its row A, its map f -/
structure Raw (w : World) (hb lf : Nat) (v : Value) (mb : Nat) (A : List (It (Int × Int))) (n : Nat) (f : Int → Option Nat) : Prop where
  st : w.heap[hb]? = some (.cells #[.func (.func lf) #[] #[], v, .map (some mb)] 123 (0, 0))
  row : w.ownsRow 0 125 3 v A.length (A.flatMap itC)
  map : mapT w Try.prog 3 mb n f

/-- what a call may turn -/
def Foot (v : Value) (mb : Nat) : Nat → Prop := fun j => v.ownBlock = some j ∨ j = mb

section
variable {w w' : World} {hb lf mb n : Nat} {v : Value} {A : List (It (Int × Int))} {f : Int → Option Nat}
theorem Raw.c0 (h : Raw w hb lf v mb A n f) : w.cell? ⟨hb, 0, none⟩ = some (.func (.func lf) #[] #[]) := by simp [World.cell?, h.st]
theorem Raw.c1 (h : Raw w hb lf v mb A n f) : w.cell? ⟨hb, 1, none⟩ = some v := by simp [World.cell?, h.st]
theorem Raw.c2 (h : Raw w hb lf v mb A n f) : w.cell? ⟨hb, 2, none⟩ = some (.map (some mb)) := by simp [World.cell?, h.st]
theorem Raw.lt (h : Raw w hb lf v mb A n f) : hb < w.heap.size := lt_of_some h.st
theorem Raw.mb_lt (h : Raw w hb lf v mb A n f) : mb < w.heap.size := h.map.lt
theorem Raw.hb_mb (h : Raw w hb lf v mb A n f) : hb ≠ mb := fun e => by
  obtain ⟨es, c, hm⟩ := h.map.is
  have := h.st
  rw [e, hm] at this
  cases this
theorem Raw.own_ne (h : Raw w hb lf v mb A n f) {j : Nat} (hj : v.ownBlock = some j) : j ≠ hb ∧ j ≠ mb ∧ j < w.heap.size := by
  rcases own_parts h.row with ⟨rfl, _⟩ | ⟨g, cap, cur, rfl, _, hg, _⟩
  · simp [Value.ownBlock] at hj
  · simp [Value.ownBlock] at hj
    subst hj
    refine ⟨fun e => ?_, fun e => ?_, lt_of_some hg⟩
    · have := h.st
      rw [← e, hg] at this
      cases this
    · obtain ⟨es, c, hm⟩ := h.map.is
      rw [← e, hg] at hm
      cases hm
theorem Raw.foot_hb (h : Raw w hb lf v mb A n f) : ¬ Foot v mb hb := by
  rintro (h1 | h1)
  · exact (h.own_ne h1).1 rfl
  · exact h.hb_mb h1
theorem Raw.foot_lt (h : Raw w hb lf v mb A n f) {j : Nat} (hj : Foot v mb j) : j < w.heap.size := by
  rcases hj with h1 | rfl
  · exact (h.own_ne h1).2.2
  · exact h.mb_lt
/-- whatever turns no block of the heap leaves it -/
theorem Raw.mod (h : Raw w hb lf v mb A n f) {S : Nat → Prop} (hm : Mod S w w') (h1 : ¬ S hb) (h2 : ∀ j, Foot v mb j → ¬ S j) : Raw w' hb lf v mb A n f :=
  ⟨hm.obj h.st h1, own_same h.row fun j o hj ho _ => hm.obj ho (h2 j (.inl hj)), h.map.mod hm (h2 mb (.inr rfl))⟩
theorem Raw.below (h : Raw w hb lf v mb A n f) (hm : Below w.heap.size w w') : Raw w' hb lf v mb A n f :=
  h.mod (Mod.of_below (S := none') hm) (fun h => h) (fun _ _ h => h)
theorem Raw.cell (h : Raw w hb lf v mb A n f) {i : Nat} {x : It (Int × Int)} (hx : A[i]? = some x) :
    ∃ g cap, v = .slice (some ⟨g, 0, none⟩) A.length cap ∧ w.cell? ⟨g, i * 3, none⟩ = some (.int .i64 x.1) ∧ (w.cell? ⟨g, i * 3 + 1, none⟩ = some (.int .i64 x.2.1) ∧ w.cell? ⟨g, i * 3 + 2, none⟩ = some (.int .i64 x.2.2)) ∧
      w.frozen? ⟨g, i * 3, none⟩ = false ∧ (w.frozen? ⟨g, i * 3 + 1, none⟩ = false ∧ w.frozen? ⟨g, i * 3 + 2, none⟩ = false) ∧ g < w.heap.size := by
  have hlt := (List.getElem?_eq_some_iff.1 hx).1
  obtain ⟨g, cap, rfl, hg, _⟩ := own_slice h.row (by omega)
  refine ⟨g, cap, rfl, own_cellG h.row ?_, ⟨own_cellG h.row ?_, own_cellG h.row ?_⟩, own_freeG h.row _, ⟨own_freeG h.row _, own_freeG h.row _⟩, hg⟩
  · have := flat_at itC 3 itC_len A i 0 x hx (by omega)
    simpa [itC] using this
  · have := flat_at itC 3 itC_len A i 1 x hx (by omega)
    simpa [itC] using this
  · have := flat_at itC 3 itC_len A i 2 x hx (by omega)
    simpa [itC] using this
theorem Raw.at {g len cap : Nat} (h : Raw w hb lf (.slice (some ⟨g, 0, none⟩) len cap) mb A n f) {i : Nat} {x : Int} {y : Int × Int} (hx : A[i]? = some (x, y)) :
    w.cell? ⟨g, i * 3, none⟩ = some (.int .i64 x) ∧ (w.cell? ⟨g, i * 3 + 1, none⟩ = some (.int .i64 y.1) ∧ w.cell? ⟨g, i * 3 + 2, none⟩ = some (.int .i64 y.2)) := by
  obtain ⟨g', cap', he, h1, h2, _⟩ := h.cell hx
  cases he
  exact ⟨h1, h2⟩
theorem Raw.set_row {g cap : Nat} (h : w.ownsRow 0 125 3 (.slice (some ⟨g, 0, none⟩) A.length cap) A.length (A.flatMap itC)) {i : Nat} (hi : i < A.length) (x : It (Int × Int)) :
    (((w.setCell ⟨g, i * 3, none⟩ (.int .i64 x.1)).setCell ⟨g, i * 3 + 1, none⟩ (.int .i64 x.2.1)).setCell ⟨g, i * 3 + 2, none⟩ (.int .i64 x.2.2)).ownsRow 0 125 3 (.slice (some ⟨g, 0, none⟩) A.length cap) A.length ((A.set i x).flatMap itC) := by
  have h2 := own_setG (i := i * 3 + 2) (y := .int .i64 x.2.2) (own_setG (i := i * 3 + 1) (y := .int .i64 x.2.1) (own_setG (i := i * 3) (y := .int .i64 x.1) h))
  have hl := flat_length itC 3 itC_len A
  have e := flat_set itC 3 itC_len A i x hi ((((A.flatMap itC).set (i * 3) (.int .i64 x.1)).set (i * 3 + 1) (.int .i64 x.2.1)).set (i * 3 + 2) (.int .i64 x.2.2)) (by simp [hl]) (fun k hk => by
    rw [List.getElem?_set, List.getElem?_set, List.getElem?_set]
    by_cases h1 : i * 3 + 2 = k
    · subst h1
      simp [hl, hk, itC]
    · rw [if_neg h1]
      by_cases h2 : i * 3 + 1 = k
      · subst h2
        simp [hl, hk, itC]
      · rw [if_neg h2]
        by_cases h3 : i * 3 = k
        · subst h3
          simp [hl, hk, itC]
        · rw [if_neg h3, if_neg (by omega)])
  rw [← e]
  exact h2
end

set_option maxRecDepth 100000 in
set_option maxHeartbeats 2000000 in
theorem set_any {w : World} {hb lf mb n : Nat} {v : Value} {A : List (It (Int × Int))} {f : Int → Option Nat} (h : Raw w hb lf v mb A n f) {i : Nat} (hi : i < A.length) (x1 : Int) (x2 : Int × Int) (hx : (Lit.int .i64 x1).wf = true) (hn : n < maxLen) (hA : A.length < 1000000000) :
    Calls Try.prog 105 #[.pointer (some ⟨hb, 0, none⟩), .int .i64 (i : Int), .agg #[.int .i64 x1, .int .i64 x2.1, .int .i64 x2.2]] w fun e w' =>
      e = .returned (.tuple #[]) ∧ Raw w' hb lf v mb (A.set i (x1, x2)) (if (f x1).isSome then n else n + 1) (putN f x1 (some i)) ∧ Mod (Foot v mb) w w' := by
  obtain ⟨y, hy⟩ : ∃ y, A[i]? = some y := ⟨_, List.getElem?_eq_getElem hi⟩
  have hc1 := h.c1
  have hc2 := h.c2
  obtain ⟨g, cap, rfl, d0, d1, f0, f1, hg⟩ := h.cell hy
  have hlt := h.lt
  have hneg := (h.own_ne (j := g) rfl).1
  obtain ⟨W, hW⟩ : ∃ W, (w.alloc (.cells #[.int .i64 x1, .int .i64 x2.1, .int .i64 x2.2] 125)) = W := ⟨_, rfl⟩
  have hbW : Below w.heap.size w W := by rw [← hW]; exact (Below.refl _ w).alloc (Nat.le_refl _) _
  have hRW := h.below hbW
  have k1 := zatB hc1 hbW
  have k2 := zatB hc2 hbW
  have k3 := zatB d0 hbW
  have k4 := zatB2 d1 hbW
  have k5 : W.cell? ⟨w.heap.size, 0, none⟩ = some (.int .i64 x1) := by first | (rw [← hW, World.cell?_alloc_at _ _ _ _ rfl]; rfl) | (constructor <;> (rw [← hW, World.cell?_alloc_at _ _ _ _ rfl]; rfl))
  have k6 : (W.cell? ⟨w.heap.size, 1, none⟩ = some (.int .i64 x2.1) ∧ W.cell? ⟨w.heap.size, 2, none⟩ = some (.int .i64 x2.2)) := by first | (rw [← hW, World.cell?_alloc_at _ _ _ _ rfl]; rfl) | (constructor <;> (rw [← hW, World.cell?_alloc_at _ _ _ _ rfl]; rfl))
  have f2 := own_freeG hRW.row (i * 3)
  have f3 := own_freeG hRW.row (i * 3 + 1)
  have f4 := own_freeG hRW.row (i * 3 + 2)
  have HR := Lib.hid h
  have HRW := Lib.hid hRW
  have HbW := Lib.hid hbW
  have HY := Lib.hid hy
  clear h hRW hbW hy hc1 hc2 d0 d1 f0 f1
  go_enter Try.func105, Try.ntmps105
  go_wp2_with fail
  clear hW
  go_region
  go_wp2_with fail
  obtain ⟨W1, hW1⟩ : ∃ W1, (((W.setCell ⟨g, i * 3, none⟩ (.int .i64 x1)).setCell ⟨g, i * 3 + 1, none⟩ (.int .i64 x2.1)).setCell ⟨g, i * 3 + 2, none⟩ (.int .i64 x2.2)).drew = W1 := ⟨_, rfl⟩
  have hm1 : Mod (fun j => j = g) W W1 := by
    rw [← hW1]
    exact ((((Mod.refl (fun j => j = g) W).setCell (p := ⟨g, i * 3, none⟩) (fun _ => rfl) _).setCell (p := ⟨g, i * 3 + 1, none⟩) (fun _ => rfl) _).setCell (p := ⟨g, i * 3 + 2, none⟩) (fun _ => rfl) _).drew
  have hrow1 : W1.ownsRow 0 125 3 (.slice (some ⟨g, 0, none⟩) A.length cap) A.length ((A.set i (x1, x2)).flatMap itC) := by
    rw [← hW1]
    exact Raw.set_row HRW.out.row hi (x1, x2)
  have hneb : w.heap.size ≠ g := by omega
  have e2 := hm1.cell k2 (fun e => hneg e.symm)
  have e5 := hm1.cell k5 hneb
  have hneg2 := (HRW.out.own_ne (j := g) rfl).2.1
  have hmap1 := HRW.out.map.mod hm1 (fun e => hneg2 e.symm)
  have hst1 := hm1.obj HRW.out.st (fun e => hneg e.symm)
  obtain ⟨W2, hrun, hmap2, hm2⟩ := (show mapT W1.drew Try.prog 3 mb n f from hmap1.of_same rfl).update (t := 114) (e := 3) Try.underlying3 Try.underlying114 hn hx i
  have HM1 := Lib.hid hm1
  have HM2 := Lib.hid hm2
  have HMap2 := Lib.hid hmap2
  have HRow1 := Lib.hid hrow1
  have HSt1 := Lib.hid hst1
  rw [hW1]
  clear hW1 hm1 hm2 hmap2 hrow1 hst1 hmap1 k1 k2 k3 k4 k5 k6 f2 f3 f4
  go_region
  go_end0
  have hr2 : Raw W2 hb lf (.slice (some ⟨g, 0, none⟩) A.length cap) mb (A.set i (x1, x2)) (if (f x1).isSome then n else n + 1) (putN f x1 (some i)) := by
    refine ⟨HM2.out.obj (k := hb) HSt1.out ?_, ?_, HMap2.out⟩
    · exact HR.out.hb_mb
    · rw [List.length_set]
      exact own_same (w := W1.drew) HRow1.out fun j o hj ho _ => HM2.out.obj ho (by simp [Value.ownBlock] at hj; subst hj; exact hneg2)
  refine ⟨rfl, hr2, ?_⟩
  have hS : Mod (Foot (.slice (some ⟨g, 0, none⟩) A.length cap) mb) w W := Mod.of_below HbW.out
  refine (hS.trans (HM1.out.drew) (fun j hj _ => .inl (by rw [hj]; rfl))).trans HM2.out (fun j hj _ => .inr hj)
end Go.Proofs.Ytecfenoidcolfaa.Ke
