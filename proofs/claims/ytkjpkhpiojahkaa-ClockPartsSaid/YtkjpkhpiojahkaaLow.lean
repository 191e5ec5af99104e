/-
  Walks: the orders of keys, heap.ahead.
  What a heap is in memory; the walk of set.
  Walks: there, up.
  Walks: down.
  A heap for whoever uses it: what is in it, and which blocks are its own.
  Walks: Len, Peek, Get, Drop, Take, New.
  Walks: Drop, Take.
  Walk: the chapter's example.
  Walks: slices.Clone, maps.Clone, Copy.
  Walks: Copy; the iterators taken and All.
  Walks: All and its iterator.
  A slice of ints that came in, as the walks want it.
  Walk: the law HeapTakes.
  Walk: the law HeapDrops.
-/
import Derived.Test.YtkjpkhpiojahkaaProg
import Derived.Test.YtkjpkhpiojahkaaBase0
import Derived.WalkKit
import Derived.LoopTactic
import Derived.IntWalk
import Derived.Lib.Hide
import Derived.ProofKit
import Derived.Deep.RegionHeld3
import Derived.Shelf.Abstract
import Derived.BigRegion
import Derived.Sort.LoopGhostIn
import Derived.Maps.AppendAt
import Derived.WalkSpells
import Derived.Deep.AppendLies
import Derived.Shelf.SlMaps.Clone
import Derived.Shelf.RegionOpen
import Derived.OwnWalkIn
import Derived.TacticsInMore
import Derived.LoopNIn
import Derived.LoopIn
import Derived.OpenShut
/-! ### Walks: the orders of keys, heap.ahead.
  What a heap is in memory; the walk of set.
  Walks: there, up. -/
/-! ### Walks: the orders of keys, heap.ahead. -/
namespace Go.Proofs.Ytkjpkhpiojahkaa
set_option linter.unusedVariables false
open Go.RowKit Hp

/-- function lf tells whether a key is less than another one -/
structure LessI (lf : Nat) (lt : Int → Int → Bool) : Prop where
  enters : Enters Try.prog lf
  call : ∀ (x y : Int) (w : World), Calls Try.prog lf #[.int .i64 x, .int .i64 y] w fun e w' => e = .returned (.bool (lt x y)) ∧ Below w.heap.size w w'
  swo : Swo lt

def ltI (a b : Int) : Bool := decide (a < b)
theorem ltI_swo : Swo ltI := ⟨fun a => by simp [ltI], fun a b c h1 h2 => by simp [ltI] at *; omega, fun a b c h1 h2 => by simp [ltI] at *; omega⟩

theorem less_any (x y : Int) (w : World) : Calls Try.prog 113 #[.int .i64 x, .int .i64 y] w fun e w' => e = .returned (.bool (ltI x y)) ∧ Below w.heap.size w w' := by
  go_enter Try.func113, Try.ntmps113
  go_wp2
  go_ret
  exact ⟨rfl, Below.refl _ _⟩

theorem lessI : LessI 113 ltI := ⟨enters_of Try.func113 (by kernel_rfl) rfl, less_any, ltI_swo⟩

theorem LessI.bool {lf : Nat} {lt : Int → Int → Bool} (h : LessI lf lt) {x y : Int} {r : Bool} (hr : lt x y = r) (w : World) : Calls Try.prog lf #[.int .i64 x, .int .i64 y] w fun e w' => e = .returned (.bool r) ∧ Below w.heap.size w w' := by
  subst hr
  exact h.call x y w

theorem zatB {w w' : World} {p : Addr} {v : Value} (h : w.cell? p = some v) (hb : Below w.heap.size w w') : w'.cell? p = some v := by
  obtain ⟨cs, t, fr, ho⟩ := cells_of_cell h
  have hg := lt_of_some ho
  simpa [World.cell?, hb.block _ hg] using h

set_option maxRecDepth 100000 in
set_option maxHeartbeats 4000000 in
theorem ahead_any {lf : Nat} {lt : Int → Int → Bool} (HL : LessI lf lt) (hb : Nat) (x1 x2 y1 y2 : Int) (w : World) (hf : w.cell? ⟨hb, 0, none⟩ = some (.func (.func lf) #[] #[])) :
    Calls Try.prog 166 #[.pointer (some ⟨hb, 0, none⟩), .agg #[.int .i64 x1, .int .i64 x2], .agg #[.int .i64 y1, .int .i64 y2]] w fun e w' => e = .returned (.bool (Hp.ahead lt (x1, x2) (y1, y2))) ∧ Below w.heap.size w w' := by
  obtain ⟨r1, h1⟩ : ∃ r1, lt x2 y2 = r1 := ⟨_, rfl⟩
  obtain ⟨r2, h2⟩ : ∃ r2, lt y2 x2 = r2 := ⟨_, rfl⟩
  have hah : Hp.ahead lt (x1, x2) (y1, y2) = (r1 || (!r2 && decide (x1 < y1))) := by
    simp only [Hp.ahead, h1, h2]
  rw [hah]
  have C1 := Lib.hid (HL.bool h1)
  have C2 := Lib.hid (HL.bool h2)
  have hE : ∀ (args : Array Value) (w : World), (callFunc lf args).run Try.prog w = .ok (.enter lf args) w := HL.enters
  have hlt : hb < w.heap.size := World.block_lt_of_cell? w _ hf
  clear h1 h2 hah HL
  go_enter Try.func166, Try.ntmps166
  go_wp2_with fail
  obtain ⟨W, hW⟩ : ∃ W, ((w.alloc (.cells #[.int .i64 x1, .int .i64 x2] 202)).alloc (.cells #[.int .i64 y1, .int .i64 y2] 202)) = W := ⟨_, rfl⟩
  have hbW : Below w.heap.size w W := by
    rw [← hW]
    exact ((Below.refl _ w).alloc (Nat.le_refl _) _).alloc (by simp) _
  have hsz : W.heap.size = w.heap.size + 2 := by rw [← hW]; simp
  have c0 : W.cell? ⟨hb, 0, none⟩ = some (.func (.func lf) #[] #[]) := by
    rw [← hW, World.cell?_alloc_past _ _ _ (by simp; omega), World.cell?_alloc_past _ _ _ (by simpa using hlt)]; exact hf
  have c1 : W.cell? ⟨w.heap.size, 0, none⟩ = some (.int .i64 x1) := by
    rw [← hW, World.cell?_alloc_past _ _ _ (by simp), World.cell?_alloc_at _ _ _ _ rfl]; rfl
  have c2 : W.cell? ⟨w.heap.size, 1, none⟩ = some (.int .i64 x2) := by
    rw [← hW, World.cell?_alloc_past _ _ _ (by simp), World.cell?_alloc_at _ _ _ _ rfl]; rfl
  have c3 : W.cell? ⟨w.heap.size + 1, 0, none⟩ = some (.int .i64 y1) := by
    rw [← hW, World.cell?_alloc_at _ _ _ _ (by simp)]; rfl
  have c4 : W.cell? ⟨w.heap.size + 1, 1, none⟩ = some (.int .i64 y2) := by
    rw [← hW, World.cell?_alloc_at _ _ _ _ (by simp)]; rfl
  rw [hW]
  obtain ⟨C, hC⟩ : ∃ C : World → Prop, C = fun A => (A.cell? ⟨hb, 0, none⟩ = some (.func (.func lf) #[] #[]) ∧ A.cell? ⟨w.heap.size, 0, none⟩ = some (.int .i64 x1) ∧ A.cell? ⟨w.heap.size, 1, none⟩ = some (.int .i64 x2) ∧ A.cell? ⟨w.heap.size + 1, 0, none⟩ = some (.int .i64 y1) ∧ A.cell? ⟨w.heap.size + 1, 1, none⟩ = some (.int .i64 y2)) ∧ Below w.heap.size w A := ⟨_, rfl⟩
  have hCa : ∀ A, C A → A.cell? ⟨hb, 0, none⟩ = some (.func (.func lf) #[] #[]) ∧ A.cell? ⟨w.heap.size, 0, none⟩ = some (.int .i64 x1) ∧ A.cell? ⟨w.heap.size, 1, none⟩ = some (.int .i64 x2) ∧ A.cell? ⟨w.heap.size + 1, 0, none⟩ = some (.int .i64 y1) ∧ A.cell? ⟨w.heap.size + 1, 1, none⟩ = some (.int .i64 y2) := fun A h => by rw [hC] at h; exact h.1
  have hCb : ∀ A, C A → Below w.heap.size w A := fun A h => by rw [hC] at h; exact h.2
  have hCn : ∀ A wz, C A → Below A.heap.size A wz → C wz := fun A wz h1 h2 => by
    rw [hC] at h1 ⊢
    obtain ⟨⟨k0, k1, k2, k3, k4⟩, h1⟩ := h1
    exact ⟨⟨zatB k0 h2, zatB k1 h2, zatB k2 h2, zatB k3 h2, zatB k4 h2⟩, h1.trans (h2.mono h1.size)⟩
  have hC0 : C W.drew := by rw [hC]; exact ⟨⟨c0, c1, c2, c3, c4⟩, hbW.drew⟩
  have K1 : ∀ A, C A → Calls Try.prog lf #[.int .i64 x2, .int .i64 y2] A fun e w' => e = .returned (.bool r1) ∧ C w' := fun A hA => (C1.out A).mono fun e wz ⟨he, hbz⟩ => ⟨he, hCn A wz hA hbz⟩
  have K2 : ∀ A, C A → Calls Try.prog lf #[.int .i64 y2, .int .i64 x2] A fun e w' => e = .returned (.bool r2) ∧ C w' := fun A hA => (C2.out A).mono fun e wz ⟨he, hbz⟩ => ⟨he, hCn A wz hA hbz⟩
  have HCa := Lib.hid hCa
  have HCb := Lib.hid hCb
  have HK1 := Lib.hid K1
  have HK2 := Lib.hid K2
  clear hW hf hlt hbW hC hCa hCb hCn c0 c1 c2 c3 c4 K1 K2 C1 C2
  refine wp_region_loose C (by kernel_rfl) (by kernel_rfl) hC0 ?_
  cases r1
  cases r2
  all_goals
    iterate 29 (first
      | (refine loose_skip (by rfl) ?_; simp only [Act.put, List.setIfInBounds_toArray, List.set_cons_zero, List.set_cons_succ])
      | (refine loose_val (v := ?_) (by rfl) ?_ ?_; rotate_left; (focus (intro A hA; obtain ⟨k0, k1, k2, k3, k4⟩ := HCa.out A hA; go_simp; first | done | with_reducible rfl)); simp only [Act.put, List.setIfInBounds_toArray, List.set_cons_zero, List.set_cons_succ])
      | (refine loose_call HK1.out (by rfl) ?_ ?_; (focus (intro A hA; go_simp; done)); simp only [Act.put, List.setIfInBounds_toArray, List.set_cons_zero, List.set_cons_succ])
      | (refine loose_call HK2.out (by rfl) ?_ ?_; (focus (intro A hA; go_simp; done)); simp only [Act.put, List.setIfInBounds_toArray, List.set_cons_zero, List.set_cons_succ]))
    refine loose_nil ?_
    intro wz hz
    go_wp2
    go_ret
    exact ⟨rfl, HCb.out wz hz⟩
end Go.Proofs.Ytkjpkhpiojahkaa

/-! ### What a heap is in memory; the walk of set. -/
namespace Go.Proofs.Ytkjpkhpiojahkaa
set_option linter.unusedVariables false
open Go.RowKit Hp

def itC (x : It Int) : List Value := [.int .i64 x.1, .int .i64 x.2]
theorem itC_len (x : It Int) : (itC x).length = 2 := rfl

/-- block hb is a heap: its function, its row A, its map f -/
structure Raw (w : World) (hb lf : Nat) (v : Value) (mb : Nat) (A : List (It Int)) (n : Nat) (f : Int → Option Nat) : Prop where
  st : w.heap[hb]? = some (.cells #[.func (.func lf) #[] #[], v, .map (some mb)] 199 (0, 0))
  row : w.ownsRow 0 202 2 v A.length (A.flatMap itC)
  map : mapT w Try.prog 3 mb n f

/-- what a call may turn -/
def Foot (v : Value) (mb : Nat) : Nat → Prop := fun j => v.ownBlock = some j ∨ j = mb

section
variable {w w' : World} {hb lf mb n : Nat} {v : Value} {A : List (It Int)} {f : Int → Option Nat}
theorem Raw.c0 (h : Raw w hb lf v mb A n f) : w.cell? ⟨hb, 0, none⟩ = some (.func (.func lf) #[] #[]) := by simp [World.cell?, h.st]
theorem Raw.c1 (h : Raw w hb lf v mb A n f) : w.cell? ⟨hb, 1, none⟩ = some v := by simp [World.cell?, h.st]
theorem Raw.c2 (h : Raw w hb lf v mb A n f) : w.cell? ⟨hb, 2, none⟩ = some (.map (some mb)) := by simp [World.cell?, h.st]
theorem Raw.lt (h : Raw w hb lf v mb A n f) : hb < w.heap.size := lt_of_some h.st
theorem Raw.mb_lt (h : Raw w hb lf v mb A n f) : mb < w.heap.size := h.map.lt
theorem Raw.hb_mb (h : Raw w hb lf v mb A n f) : hb ≠ mb := fun e => by
  obtain ⟨es, c, hm⟩ := h.map.is
  have := h.st
  rw [e, hm] at this
  cases this
theorem Raw.own_ne (h : Raw w hb lf v mb A n f) {j : Nat} (hj : v.ownBlock = some j) : j ≠ hb ∧ j ≠ mb ∧ j < w.heap.size := by
  rcases own_parts h.row with ⟨rfl, _⟩ | ⟨g, cap, cur, rfl, _, hg, _⟩
  · simp [Value.ownBlock] at hj
  · simp [Value.ownBlock] at hj
    subst hj
    refine ⟨fun e => ?_, fun e => ?_, lt_of_some hg⟩
    · have := h.st
      rw [← e, hg] at this
      cases this
    · obtain ⟨es, c, hm⟩ := h.map.is
      rw [← e, hg] at hm
      cases hm
theorem Raw.foot_hb (h : Raw w hb lf v mb A n f) : ¬ Foot v mb hb := by
  rintro (h1 | h1)
  · exact (h.own_ne h1).1 rfl
  · exact h.hb_mb h1
theorem Raw.foot_lt (h : Raw w hb lf v mb A n f) {j : Nat} (hj : Foot v mb j) : j < w.heap.size := by
  rcases hj with h1 | rfl
  · exact (h.own_ne h1).2.2
  · exact h.mb_lt
/-- whatever turns no block of the heap leaves it -/
theorem Raw.mod (h : Raw w hb lf v mb A n f) {S : Nat → Prop} (hm : Mod S w w') (h1 : ¬ S hb) (h2 : ∀ j, Foot v mb j → ¬ S j) : Raw w' hb lf v mb A n f :=
  ⟨hm.obj h.st h1, own_same h.row fun j o hj ho _ => hm.obj ho (h2 j (.inl hj)), h.map.mod hm (h2 mb (.inr rfl))⟩
theorem Raw.below (h : Raw w hb lf v mb A n f) (hm : Below w.heap.size w w') : Raw w' hb lf v mb A n f :=
  h.mod (Mod.of_below (S := none') hm) (fun h => h) (fun _ _ h => h)
theorem Raw.cell (h : Raw w hb lf v mb A n f) {i : Nat} {x : It Int} (hx : A[i]? = some x) :
    ∃ g cap, v = .slice (some ⟨g, 0, none⟩) A.length cap ∧ w.cell? ⟨g, i * 2, none⟩ = some (.int .i64 x.1) ∧ w.cell? ⟨g, i * 2 + 1, none⟩ = some (.int .i64 x.2) ∧
      w.frozen? ⟨g, i * 2, none⟩ = false ∧ w.frozen? ⟨g, i * 2 + 1, none⟩ = false ∧ g < w.heap.size := by
  have hlt := (List.getElem?_eq_some_iff.1 hx).1
  obtain ⟨g, cap, rfl, hg, _⟩ := own_slice h.row (by omega)
  refine ⟨g, cap, rfl, own_cellG h.row ?_, own_cellG h.row ?_, own_freeG h.row _, own_freeG h.row _, hg⟩
  · have := flat_at itC 2 itC_len A i 0 x hx (by omega)
    simpa [itC] using this
  · have := flat_at itC 2 itC_len A i 1 x hx (by omega)
    simpa [itC] using this
theorem Raw.at {g len cap : Nat} (h : Raw w hb lf (.slice (some ⟨g, 0, none⟩) len cap) mb A n f) {i : Nat} {x y : Int} (hx : A[i]? = some (x, y)) :
    w.cell? ⟨g, i * 2, none⟩ = some (.int .i64 x) ∧ w.cell? ⟨g, i * 2 + 1, none⟩ = some (.int .i64 y) := by
  obtain ⟨g', cap', he, h1, h2, _⟩ := h.cell hx
  cases he
  exact ⟨h1, h2⟩
theorem Raw.set_row {g cap : Nat} (h : w.ownsRow 0 202 2 (.slice (some ⟨g, 0, none⟩) A.length cap) A.length (A.flatMap itC)) {i : Nat} (hi : i < A.length) (x : It Int) :
    ((w.setCell ⟨g, i * 2, none⟩ (.int .i64 x.1)).setCell ⟨g, i * 2 + 1, none⟩ (.int .i64 x.2)).ownsRow 0 202 2 (.slice (some ⟨g, 0, none⟩) A.length cap) A.length ((A.set i x).flatMap itC) := by
  have h2 := own_setG (i := i * 2 + 1) (y := .int .i64 x.2) (own_setG (i := i * 2) (y := .int .i64 x.1) h)
  have hl := flat_length itC 2 itC_len A
  have e := flat_set itC 2 itC_len A i x hi (((A.flatMap itC).set (i * 2) (.int .i64 x.1)).set (i * 2 + 1) (.int .i64 x.2)) (by simp [hl]) (fun k hk => by
    rw [List.getElem?_set, List.getElem?_set]
    by_cases h1 : i * 2 + 1 = k
    · subst h1
      simp [hl, hk, itC]
    · rw [if_neg h1]
      by_cases h3 : i * 2 = k
      · subst h3
        simp [hl, hk, itC]
      · rw [if_neg h3, if_neg (by omega)])
  rw [← e]
  exact h2
end

set_option maxRecDepth 100000 in
set_option maxHeartbeats 2000000 in
theorem set_any {w : World} {hb lf mb n : Nat} {v : Value} {A : List (It Int)} {f : Int → Option Nat} (h : Raw w hb lf v mb A n f) {i : Nat} (hi : i < A.length) (x1 x2 : Int) (hx : (Lit.int .i64 x1).wf = true) (hn : n < maxLen) (hA : A.length < 1000000000) :
    Calls Try.prog 167 #[.pointer (some ⟨hb, 0, none⟩), .int .i64 (i : Int), .agg #[.int .i64 x1, .int .i64 x2]] w fun e w' =>
      e = .returned (.tuple #[]) ∧ Raw w' hb lf v mb (A.set i (x1, x2)) (if (f x1).isSome then n else n + 1) (putN f x1 (some i)) ∧ Mod (Foot v mb) w w' := by
  obtain ⟨y, hy⟩ : ∃ y, A[i]? = some y := ⟨_, List.getElem?_eq_getElem hi⟩
  have hc1 := h.c1
  have hc2 := h.c2
  obtain ⟨g, cap, rfl, d0, d1, f0, f1, hg⟩ := h.cell hy
  have hlt := h.lt
  have hneg := (h.own_ne (j := g) rfl).1
  obtain ⟨W, hW⟩ : ∃ W, (w.alloc (.cells #[.int .i64 x1, .int .i64 x2] 202)) = W := ⟨_, rfl⟩
  have hbW : Below w.heap.size w W := by rw [← hW]; exact (Below.refl _ w).alloc (Nat.le_refl _) _
  have hRW := h.below hbW
  have k1 := zatB hc1 hbW
  have k2 := zatB hc2 hbW
  have k3 := zatB d0 hbW
  have k4 := zatB d1 hbW
  have k5 : W.cell? ⟨w.heap.size, 0, none⟩ = some (.int .i64 x1) := by rw [← hW, World.cell?_alloc_at _ _ _ _ rfl]; rfl
  have k6 : W.cell? ⟨w.heap.size, 1, none⟩ = some (.int .i64 x2) := by rw [← hW, World.cell?_alloc_at _ _ _ _ rfl]; rfl
  have f2 := own_freeG hRW.row (i * 2)
  have f3 := own_freeG hRW.row (i * 2 + 1)
  have HR := Lib.hid h
  have HRW := Lib.hid hRW
  have HbW := Lib.hid hbW
  have HY := Lib.hid hy
  clear h hRW hbW hy hc1 hc2 d0 d1 f0 f1
  go_enter Try.func167, Try.ntmps167
  go_wp2_with fail
  clear hW
  go_region
  go_wp2_with fail
  obtain ⟨W1, hW1⟩ : ∃ W1, ((W.setCell ⟨g, i * 2, none⟩ (.int .i64 x1)).setCell ⟨g, i * 2 + 1, none⟩ (.int .i64 x2)).drew = W1 := ⟨_, rfl⟩
  have hm1 : Mod (fun j => j = g) W W1 := by
    rw [← hW1]
    exact (((Mod.refl (fun j => j = g) W).setCell (p := ⟨g, i * 2, none⟩) (fun _ => rfl) _).setCell (p := ⟨g, i * 2 + 1, none⟩) (fun _ => rfl) _).drew
  have hrow1 : W1.ownsRow 0 202 2 (.slice (some ⟨g, 0, none⟩) A.length cap) A.length ((A.set i (x1, x2)).flatMap itC) := by
    rw [← hW1]
    exact Raw.set_row HRW.out.row hi (x1, x2)
  have hneb : w.heap.size ≠ g := by omega
  have e2 := hm1.cell k2 (fun e => hneg e.symm)
  have e5 := hm1.cell k5 hneb
  have hneg2 := (HRW.out.own_ne (j := g) rfl).2.1
  have hmap1 := HRW.out.map.mod hm1 (fun e => hneg2 e.symm)
  have hst1 := hm1.obj HRW.out.st (fun e => hneg e.symm)
  obtain ⟨W2, hrun, hmap2, hm2⟩ := (show mapT W1.drew Try.prog 3 mb n f from hmap1.of_same rfl).update (t := 182) (e := 3) Try.underlying3 Try.underlying182 hn hx i
  have HM1 := Lib.hid hm1
  have HM2 := Lib.hid hm2
  have HMap2 := Lib.hid hmap2
  have HRow1 := Lib.hid hrow1
  have HSt1 := Lib.hid hst1
  rw [hW1]
  clear hW1 hm1 hm2 hmap2 hrow1 hst1 hmap1 k1 k2 k3 k4 k5 k6 f2 f3
  go_region
  go_end0
  have hr2 : Raw W2 hb lf (.slice (some ⟨g, 0, none⟩) A.length cap) mb (A.set i (x1, x2)) (if (f x1).isSome then n else n + 1) (putN f x1 (some i)) := by
    refine ⟨HM2.out.obj (k := hb) HSt1.out ?_, ?_, HMap2.out⟩
    · exact HR.out.hb_mb
    · rw [List.length_set]
      exact own_same (w := W1.drew) HRow1.out fun j o hj ho _ => HM2.out.obj ho (by simp [Value.ownBlock] at hj; subst hj; exact hneg2)
  refine ⟨rfl, hr2, ?_⟩
  have hS : Mod (Foot (.slice (some ⟨g, 0, none⟩) A.length cap) mb) w W := Mod.of_below HbW.out
  refine (hS.trans (HM1.out.drew) (fun j hj _ => .inl (by rw [hj]; rfl))).trans HM2.out (fun j hj _ => .inr hj)
end Go.Proofs.Ytkjpkhpiojahkaa

/-! ### Walks: there, up. -/
namespace Go.Proofs.Ytkjpkhpiojahkaa
set_option linter.unusedVariables false
open Go.RowKit Hp

theorem zero3 (w : World) : (zeroValue 3).run Try.prog w = .ok (.int .i64 0) w := by kernel_rfl

set_option maxHeartbeats 400000 in
theorem there_some {w : World} {hb lf mb n : Nat} {v : Value} {A : List (It Int)} {f : Int → Option Nat} (h : Raw w hb lf v mb A n f) {x : Int} {i : Nat} (hx : (Lit.int .i64 x).wf = true) (hf : f x = some i) :
    Calls Try.prog 152 #[.pointer (some ⟨hb, 0, none⟩), .int .i64 x] w fun e w' => e = .returned (.tuple #[.int .i64 (i : Int), .int .i64 0]) ∧ w = w' := by
  have hl := h.map.toI.look_ok (t := 182) (e := 3) Try.underlying3 Try.underlying182 (zero3 w) hx
  rw [lift_some hf] at hl
  have h2 := h.c2
  clear h hf
  go_enter Try.func152, Try.ntmps152
  go_wp2
  go_ret2
  exact ⟨rfl, rfl⟩
set_option maxHeartbeats 400000 in
theorem there_none {w : World} {hb lf mb n : Nat} {v : Value} {A : List (It Int)} {f : Int → Option Nat} (h : Raw w hb lf v mb A n f) {x : Int} (hx : (Lit.int .i64 x).wf = true) (hf : f x = none) :
    Calls Try.prog 152 #[.pointer (some ⟨hb, 0, none⟩), .int .i64 x] w fun e w' => e = .returned (.tuple #[.int .i64 0, .int .i64 14]) ∧ w = w' := by
  have hl := h.map.toI.look_ok (t := 182) (e := 3) Try.underlying3 Try.underlying182 (zero3 w) hx
  rw [lift_none hf] at hl
  have h2 := h.c2
  clear h hf
  go_enter Try.func152, Try.ntmps152
  go_wp2
  go_ret2
  exact ⟨rfl, rfl⟩

/-- what up leaves behind -/
def SiftedP (Post : List (It Int) → Prop) (w w' : World) (hb lf : Nat) (v : Value) (mb : Nat) (A : List (It Int)) (n : Nat) : Prop :=
  ∃ A' f', Raw w' hb lf v mb A' n f' ∧ A'.Perm A ∧ Post A' ∧ Pos A' (0, 0) f' ∧ Mod (Foot v mb) w w'
/-- what up and down leave behind -/
def Sifted (lt : Int → Int → Bool) (w w' : World) (hb lf : Nat) (v : Value) (mb : Nat) (A : List (It Int)) (n : Nat) : Prop :=
  ∃ A' f', Raw w' hb lf v mb A' n f' ∧ A'.Perm A ∧ IsHeap lt A' (0, 0) ∧ Pos A' (0, 0) f' ∧ Mod (Foot v mb) w w'

set_option maxRecDepth 100000 in
set_option maxHeartbeats 4000000 in
theorem up_gen {lf : Nat} {lt : Int → Int → Bool} (HL : LessI lf lt) (J : List (It Int) → Nat → Prop) (Post : List (It Int) → Prop) {w : World} {hb mb n : Nat} {v : Value} {A : List (It Int)} {f : Int → Option Nat} (h : Raw w hb lf v mb A n f) {i : Nat} (hi : i < A.length)
    (hup : J A i) (hstepJ : ∀ (B : List (It Int)) (x : It Int) (j p : Nat), j < B.length → 0 < j → (j - 1) / 2 = p → J (B.set j x) j → Hp.ahead lt x (B.getD p (0, 0)) = true → J ((B.set j (B.getD p (0, 0))).set p x) p)
    (hendJ : ∀ (V : List (It Int)) (j : Nat), j < V.length → J V j → (j = 0 ∨ Hp.ahead lt (V.getD j (0, 0)) (V.getD ((j - 1) / 2) (0, 0)) = false) → Post V) (hpos : PosBut A (0, 0) i f) (hwf : ∀ x ∈ A, (Lit.int .i64 x.1).wf = true) (hn : n < maxLen) (hA : A.length < 1000000000) :
    Calls Try.prog 153 #[.pointer (some ⟨hb, 0, none⟩), .int .i64 (i : Int)] w fun e w' => e = .returned (.tuple #[]) ∧ SiftedP Post w w' hb lf v mb A (if (f (A.getD i (0, 0)).1).isSome then n else n + 1) := by
  obtain ⟨⟨x1, x2⟩, hx⟩ : ∃ x, A[i]? = some x := ⟨_, List.getElem?_eq_getElem hi⟩
  have hxd : A.getD i (0, 0) = (x1, x2) := by rw [List.getD_eq_getElem?_getD, hx]; rfl
  have hxs : A.set i (x1, x2) = A := by
    apply List.ext_getElem?
    intro k
    by_cases hk : i = k
    · subst hk; rw [List.getElem?_set_self hi, hx]
    · rw [List.getElem?_set_ne hk]
  obtain ⟨m, hm⟩ : ∃ m, (if (f (A.getD i (0, 0)).1).isSome then n else n + 1) = m := ⟨_, rfl⟩
  rw [hm]
  rw [hxd] at hm
  have hc1 := h.c1
  obtain ⟨g, cap, rfl, d0, d1, f0, f1, hg⟩ := h.cell hx
  dsimp only at d0 d1
  obtain ⟨W, hW⟩ : ∃ W, (w.alloc (.cells #[.int .i64 x1, .int .i64 x2] 202)) = W := ⟨_, rfl⟩
  have hlt := h.lt
  have HR := Lib.hid h
  have HUp := Lib.hid hup
  have HStepJ := Lib.hid hstepJ
  have HEndJ := Lib.hid hendJ
  have HPos := Lib.hid hpos
  have HWf := Lib.hid hwf
  have HX := Lib.hid hx
  have HXd := Lib.hid hxd
  have HXs := Lib.hid hxs
  have HM := Lib.hid hm
  clear h hup hstepJ hendJ hpos hwf hx hxd hxs hm
  go_enter Try.func153, Try.ntmps153
  go_wp2_with fail
  have hbW : Below w.heap.size w W := by rw [← hW]; exact (Below.refl _ w).alloc (Nat.le_refl _) _
  have b1 : W.cell? ⟨w.heap.size, 0, none⟩ = some (.int .i64 x1) := by rw [← hW, World.cell?_alloc_at _ _ _ _ rfl]; rfl
  have b2 : W.cell? ⟨w.heap.size, 1, none⟩ = some (.int .i64 x2) := by rw [← hW, World.cell?_alloc_at _ _ _ _ rfl]; rfl
  have hszW : W.heap.size = w.heap.size + 1 := by rw [← hW]; simp
  have HBW := Lib.hid hbW
  have HB1 := Lib.hid b1
  have HB2 := Lib.hid b2
  clear hW hbW hc1 d0 d1 f0 f1 b1 b2
  go_loopg [1] i (fun gh s1 wr => ∃ (B : List (It Int)) (fj : Int → Option Nat), s1 = .int .i64 (gh : Int) ∧ B.length = A.length ∧ gh < A.length ∧ Raw wr hb lf (.slice (some ⟨g, 0, none⟩) A.length cap) mb B n fj ∧
    J (B.set gh (x1, x2)) gh ∧ PosBut (B.set gh (x1, x2)) (0, 0) gh fj ∧ (B.set gh (x1, x2)).Perm A ∧ fj x1 = f x1 ∧ Mod (Foot (.slice (some ⟨g, 0, none⟩) A.length cap) mb) w wr ∧
    W.heap.size ≤ wr.heap.size ∧ wr.cell? ⟨w.heap.size, 0, none⟩ = some (.int .i64 x1) ∧ wr.cell? ⟨w.heap.size, 1, none⟩ = some (.int .i64 x2))
  case atStart =>
    exact ⟨A, f, rfl, rfl, hi, HR.out.below HBW.out, by rw [HXs.out]; exact HUp.out, by rw [HXs.out]; exact HPos.out, by rw [HXs.out], rfl, Mod.of_below HBW.out, Nat.le_refl _, HB1.out, HB2.out⟩
  case round =>
    obtain ⟨B, fj, rfl, hBl, hj, hraw, hup, hpos, hperm, hfx, hmod, hsz, b1, b2⟩ := hrel
    have HRaw := Lib.hid hraw
    have HUpj := Lib.hid hup
    have HPosj := Lib.hid hpos
    have HPerm := Lib.hid hperm
    have HFx := Lib.hid hfx
    have HMod := Lib.hid hmod
    have hgj : gk < B.length := by omega
    have hwr1 := hraw.c1
    have hwl := hraw.lt
    have hgl := (hraw.own_ne (j := g) rfl).2.2
    have hBn : B.length < 1000000000 := by omega
    have HC0 := Lib.hid (show Below wr.heap.size wr wr.drew from (Below.refl _ wr).drew)
    have hx1m : (x1, x2) ∈ A := List.mem_of_getElem? HX.out
    have hx1w : (Lit.int .i64 x1).wf = true := HWf.out _ hx1m
    have HX1w := Lib.hid hx1w
    have hlast : ∀ A0, Below wr.heap.size wr A0 → Calls Try.prog 167 #[.pointer (some ⟨hb, 0, none⟩), .int .i64 (gk : Int), .agg #[.int .i64 x1, .int .i64 x2]] A0 fun e w' =>
        e = .returned (.tuple #[]) ∧ Raw w' hb lf (.slice (some ⟨g, 0, none⟩) A.length cap) mb (B.set gk (x1, x2)) m (putN fj x1 (some gk)) ∧ Mod (Foot (.slice (some ⟨g, 0, none⟩) A.length cap) mb) A0 w' := fun A0 hA0 => by
      have := set_any (HRaw.out.below hA0) hgj x1 x2 HX1w.out hn hBn
      rwa [HFx.out, HM.out] at this
    have HLast := Lib.hid hlast
    have hend : ∀ A0 w', Below wr.heap.size wr A0 → Raw w' hb lf (.slice (some ⟨g, 0, none⟩) A.length cap) mb (B.set gk (x1, x2)) m (putN fj x1 (some gk)) → Mod (Foot (.slice (some ⟨g, 0, none⟩) A.length cap) mb) A0 w' →
        (gk = 0 ∨ Hp.ahead lt ((B.set gk (x1, x2)).getD gk (0, 0)) ((B.set gk (x1, x2)).getD ((gk - 1) / 2) (0, 0)) = false) → SiftedP Post w w' hb lf (.slice (some ⟨g, 0, none⟩) A.length cap) mb A m := fun A0 w' hA0 hr hm0 hs => by
      refine ⟨_, _, hr, HPerm.out, HEndJ.out _ gk (by rw [List.length_set]; exact hgj) HUpj.out hs, ?_, ?_⟩
      · have := HPosj.out.lay (by rw [List.length_set]; exact hgj)
        rwa [getD_set _ _ _ _ _ hgj, if_pos rfl] at this
      · exact (HMod.out.trans (Mod.of_below (S := Foot (.slice (some ⟨g, 0, none⟩) A.length cap) mb) hA0) (fun _ h _ => h)).trans hm0 (fun _ h _ => h)
    have HEnd := Lib.hid hend
    clear hraw hup hpos hperm hfx hmod hx1m hx1w hlast hend
    rcases Nat.eq_zero_or_pos gk with h0 | h0
    · subst h0
      go_wp2_with fail
      refine wp_region_loose (fun A' => Below wr.heap.size wr A') (by kernel_rfl) (by kernel_rfl) HC0.out ?_
      iterate 16 (first
        | (refine loose_skip (by rfl) ?_; simp only [Act.put, List.setIfInBounds_toArray, List.set_cons_zero, List.set_cons_succ])
        | (refine loose_val (v := ?_) (by rfl) ?_ ?_; rotate_left; (focus (intro A' hA'; go_simp; first | done | with_reducible rfl)); simp only [Act.put, List.setIfInBounds_toArray, List.set_cons_zero, List.set_cons_succ]))
      refine loose_nil ?_
      intro wz hz
      have HL2 := Lib.hid (HLast.out wz hz)
      have HZ := Lib.hid hz
      have bz1 := zatB b1 hz
      have bz2 := zatB b2 hz
      clear hz
      go_wp2_with fail
      refine HL2.out.mono ?_
      rintro e w2 ⟨rfl, hr2, hm2⟩
      have HF := Lib.hid (HEnd.out wz w2 HZ.out hr2 hm2 (.inl (by trivial)))
      clear hr2 hm2
      go_wp2_with fail
      go_end0
      exact ⟨rfl, HF.out⟩
    · obtain ⟨p, hp⟩ : ∃ p, (gk - 1) / 2 = p := ⟨_, rfl⟩
      have hpl : p < gk := by omega
      obtain ⟨⟨y1, y2⟩, hy⟩ : ∃ y, B[p]? = some y := ⟨_, List.getElem?_eq_getElem (by omega)⟩
      have hyd : B.getD p (0, 0) = (y1, y2) := by rw [List.getD_eq_getElem?_getD, hy]; rfl
      obtain ⟨q0, q1⟩ := HRaw.out.at hy
      have hq : ((gk : Int) - 1).tdiv 2 = (p : Int) := by
        have : ((gk : Int) - 1) = ((gk - 1 : Nat) : Int) := by omega
        rw [this]
        exact congrArg Int.ofNat hp
      have hw1 : IntKind.i64.wrap ((gk : Int) - 1) = (gk : Int) - 1 := IntWalk.i64_in _ (by omega)
      have hw2 : IntKind.i64.wrap (p : Int) = (p : Int) := IntWalk.i64_in _ (by omega)
      have hq2 : ((gk : Int) - 1) / 2 = (p : Int) := by omega
      have hp0 : (0 : Int) ≤ (p : Int) := by omega
      have hpA : (p : Int) < (A.length : Int) := by omega
      have hgA : (gk : Int) < (A.length : Int) := by omega
      have hg0 : (0 : Int) < (gk : Int) := by omega
      have hAA : (A.length : Int) < 1000000000 := by omega
      obtain ⟨r, hr⟩ : ∃ r, Hp.ahead lt (x1, x2) (y1, y2) = r := ⟨_, rfl⟩
      have hfacts : ∀ A', Below wr.heap.size wr A' → A'.cell? ⟨hb, 1, none⟩ = some (.slice (some ⟨g, 0, none⟩) A.length cap) ∧ A'.cell? ⟨w.heap.size, 0, none⟩ = some (.int .i64 x1) ∧ A'.cell? ⟨w.heap.size, 1, none⟩ = some (.int .i64 x2) ∧
          A'.cell? ⟨g, p * 2, none⟩ = some (.int .i64 y1) ∧ A'.cell? ⟨g, p * 2 + 1, none⟩ = some (.int .i64 y2) := fun A' h => ⟨zatB hwr1 h, zatB b1 h, zatB b2 h, zatB q0 h, zatB q1 h⟩
      have hK : ∀ A', Below wr.heap.size wr A' → Calls Try.prog 166 #[.pointer (some ⟨hb, 0, none⟩), .agg #[.int .i64 x1, .int .i64 x2], .agg #[.int .i64 y1, .int .i64 y2]] A' fun e w' => e = .returned (.bool r) ∧ Below wr.heap.size wr w' := fun A' h => by
        have := ahead_any HL hb x1 x2 y1 y2 A' (HRaw.out.below h).c0
        rw [hr] at this
        exact this.mono fun e w' ⟨he, hb'⟩ => ⟨he, h.trans (hb'.mono h.size)⟩
      have HFacts := Lib.hid hfacts
      have HK := Lib.hid hK
      have HRr := Lib.hid hr
      have HYd := Lib.hid hyd
      clear hfacts hK hr hyd hy q0 q1
      go_wp2_with fail
      refine wp_region_loose (fun A' => Below wr.heap.size wr A') (by kernel_rfl) (by kernel_rfl) HC0.out ?_
      iterate 16 (first
        | (refine loose_skip (by rfl) ?_; simp only [Act.put, List.setIfInBounds_toArray, List.set_cons_zero, List.set_cons_succ])
        | (refine loose_val (v := ?_) (by rfl) ?_ ?_; rotate_left; (focus (intro A' hA'; obtain ⟨k0, k1, k2, k3, k4⟩ := HFacts.out A' hA'; go_simp; first | done | with_reducible rfl)); simp only [Act.put, List.setIfInBounds_toArray, List.set_cons_zero, List.set_cons_succ])
        | (refine loose_call HK.out (by rfl) ?_ ?_; (focus (intro A' hA'; go_simp; done)); simp only [Act.put, List.setIfInBounds_toArray, List.set_cons_zero, List.set_cons_succ]))
      refine loose_nil ?_
      intro wz hz
      have HL2 := Lib.hid (HLast.out wz hz)
      obtain ⟨k0, k1, k2, k3, k4⟩ := HFacts.out wz hz
      have HZ := Lib.hid hz
      have hEndR : ∀ w', Raw w' hb lf (.slice (some ⟨g, 0, none⟩) A.length cap) mb (B.set gk (x1, x2)) m (putN fj x1 (some gk)) → Mod (Foot (.slice (some ⟨g, 0, none⟩) A.length cap) mb) wz w' → r = false → SiftedP Post w w' hb lf (.slice (some ⟨g, 0, none⟩) A.length cap) mb A m := fun w' a b e => by
        refine HEnd.out wz w' HZ.out a b (.inr ?_)
        rw [getD_set _ _ _ _ _ hgj, if_pos rfl, getD_set _ _ _ _ _ hgj, hp, if_neg (by omega), HYd.out, HRr.out, e]
      have HEndR := Lib.hid hEndR
      clear hz hEndR HEnd
      cases r with
      | false =>
        go_wp2_with fail
        refine HL2.out.mono ?_
        rintro e w2 ⟨rfl, hr2, hm2⟩
        have HF := Lib.hid (HEndR.out w2 hr2 hm2 (by trivial))
        clear hr2 hm2
        go_wp2_with fail
        go_end0
        exact ⟨rfl, HF.out⟩
      | true =>
        have hstep := HPosj.out.step hgj (by omega : p < B.length) (by omega)
        rw [HYd.out] at hstep
        have hup2 := HStepJ.out B (x1, x2) gk p hgj h0 hp HUpj.out (by rw [HYd.out]; exact HRr.out)
        rw [HYd.out] at hup2
        have hperm2 := (set_perm B (0, 0) (x1, x2) gk p hgj (by omega) (by omega)).trans HPerm.out
        rw [HYd.out] at hperm2
        have hyw : (Lit.int .i64 y1).wf = true := HWf.out _ (hperm2.mem_iff.1 (by
          apply List.mem_of_getElem? (i := gk)
          rw [List.getElem?_set_ne (by omega), List.getElem?_set_self hgj]))
        have hset := set_any (HRaw.out.below HZ.out) hgj y1 y2 hyw hn hBn
        rw [show (fj y1).isSome = true by rw [hstep.2]; rfl, if_pos rfl] at hset
        have hx1ne : x1 ≠ y1 := by
          have := HPosj.out.2.2 p (by rw [List.length_set]; omega) (by omega)
          rw [getD_set _ _ _ _ _ hgj, getD_set _ _ _ _ _ hgj, if_pos rfl, if_neg (by omega), HYd.out] at this
          exact fun e => this e.symm
        have HSet := Lib.hid hset
        have HStep := Lib.hid hstep.1
        have HUp2 := Lib.hid hup2
        have HPerm2 := Lib.hid hperm2
        clear hset hstep hup2 hperm2 hyw
        go_wp2_with fail
        refine HSet.out.mono ?_
        rintro e w2 ⟨rfl, hr2, hm2⟩
        have hbox : ∀ j u, wz.cell? ⟨w.heap.size, j, none⟩ = some u → w2.cell? ⟨w.heap.size, j, none⟩ = some u := fun j u hu =>
          hm2.cell hu (fun hF => by have := HR.out.foot_lt hF; dsimp only at this; omega)
        have l1 := hbox 0 _ k1
        have l2 := hbox 1 _ k2
        have hsz2 : W.heap.size ≤ w2.heap.size := by have := hm2.size; have := HZ.out.size; omega
        have HR2 := Lib.hid hr2
        have HM2 := Lib.hid ((HMod.out.trans (Mod.of_below (S := Foot (.slice (some ⟨g, 0, none⟩) A.length cap) mb) HZ.out) (fun _ h _ => h)).trans hm2 (fun _ h _ => h))
        clear hr2 hm2 hbox
        go_wp2_with fail
        go_roundg p
        case measure => omega
        case rel =>
          refine ⟨B.set gk (y1, y2), putN fj y1 (some gk), by go_num, by rw [List.length_set]; exact hBl, by omega, HR2.out, HUp2.out, HStep.out, HPerm2.out, ?_, HM2.out, hsz2, l1, l2⟩
          rw [putN_other _ hx1ne]
          exact HFx.out

theorem up_any {lf : Nat} {lt : Int → Int → Bool} (HL : LessI lf lt) {w : World} {hb mb n : Nat} {v : Value} {A : List (It Int)} {f : Int → Option Nat} (h : Raw w hb lf v mb A n f) {i : Nat} (hi : i < A.length)
    (hup : UpOk lt A (0, 0) i) (hpos : PosBut A (0, 0) i f) (hwf : ∀ x ∈ A, (Lit.int .i64 x.1).wf = true) (hn : n < maxLen) (hA : A.length < 1000000000) :
    Calls Try.prog 153 #[.pointer (some ⟨hb, 0, none⟩), .int .i64 (i : Int)] w fun e w' => e = .returned (.tuple #[]) ∧ Sifted lt w w' hb lf v mb A (if (f (A.getD i (0, 0)).1).isSome then n else n + 1) :=
  up_gen HL (fun V j => UpOk lt V (0, 0) j) (fun V => IsHeap lt V (0, 0)) h hi hup (fun B x j p hj h0 hp hU ha => by subst hp; exact hU.step HL.swo h0 hj ha) (fun V j _ hU hs => hU.heap hs) hpos hwf hn hA

theorem set_self {A : List (It Int)} {i : Nat} {x : It Int} (hx : A.getD i (0, 0) = x) (hi : i < A.length) : A.set i x = A := by
  apply List.ext_getElem?
  intro k
  by_cases hk : i = k
  · subst hk
    rw [List.getElem?_set_self hi, ← hx, List.getD_eq_getElem?_getD, List.getElem?_eq_getElem hi]
    rfl
  · rw [List.getElem?_set_ne hk]

/-- behind the exchange of one number's key: up, and then down will do -/
theorem up_then {lf : Nat} {lt : Int → Int → Bool} (HL : LessI lf lt) {w : World} {hb mb n : Nat} {v : Value} {A : List (It Int)} {f : Int → Option Nat} {i : Nat} {x : It Int} (h : Raw w hb lf v mb (A.set i x) n f) (hi : i < A.length)
    (hheap : IsHeap lt A (0, 0)) (hpos : Pos (A.set i x) (0, 0) f) (hwf : ∀ y ∈ A.set i x, (Lit.int .i64 y.1).wf = true) (hn : n < maxLen) (hA : A.length < 1000000000) :
    Calls Try.prog 153 #[.pointer (some ⟨hb, 0, none⟩), .int .i64 (i : Int)] w fun e w' => e = .returned (.tuple #[]) ∧
      ∃ A' f' i', Raw w' hb lf v mb A' n f' ∧ A'.Perm (A.set i x) ∧ Pos A' (0, 0) f' ∧ Mod (Foot v mb) w w' ∧ i' < A'.length ∧ f' x.1 = some i' ∧ A'.getD i' (0, 0) = x ∧ DownOk lt A' (0, 0) i' := by
  have hxi : (A.set i x).getD i (0, 0) = x := by rw [getD_set _ _ _ _ _ hi, if_pos rfl]
  have hfx : f x.1 = some i := by have := hpos.1 i (by rw [List.length_set]; exact hi); rwa [hxi] at this
  have hsome : (f ((A.set i x).getD i (0, 0)).1).isSome = true := by rw [hxi, hfx]; rfl
  have hi2 : i < (A.set i x).length := by rw [List.length_set]; exact hi
  by_cases hc : 0 < i ∧ Hp.ahead lt x (A.getD ((i - 1) / 2) (0, 0)) = true
  · have := up_any HL h hi2 (hheap.upOk HL.swo hi hc.1 hc.2) (hpos.but hi2) hwf hn (by rw [List.length_set]; exact hA)
    rw [if_pos hsome] at this
    refine this.mono ?_
    rintro e w' ⟨he, A', f', h1, h2, h3, h4, h5⟩
    obtain ⟨i', hi', hxe⟩ : ∃ i', i' < A'.length ∧ A'.getD i' (0, 0) = x := by
      have hm : x ∈ A' := h2.mem_iff.2 (List.mem_of_getElem? (i := i) (by rw [List.getElem?_set_self hi]))
      obtain ⟨k, hk, e⟩ := List.mem_iff_getElem.1 hm
      exact ⟨k, hk, by rw [List.getD_eq_getElem?_getD, List.getElem?_eq_getElem hk, Option.getD_some, e]⟩
    refine ⟨he, A', f', i', h1, h2, h4, h5, hi', ?_, hxe, ?_⟩
    · have := h4.1 i' hi'
      rwa [hxe] at this
    · have := h3.down_self HL.swo hi'
      rwa [set_self rfl hi'] at this
  · have hns : i = 0 ∨ Hp.ahead lt x (A.getD ((i - 1) / 2) (0, 0)) = false := by
      rcases Nat.eq_zero_or_pos i with h0 | h0
      · exact .inl h0
      · refine .inr ?_
        cases hh : Hp.ahead lt x (A.getD ((i - 1) / 2) (0, 0)) with
        | false => rfl
        | true => exact absurd ⟨h0, hh⟩ hc
    have := up_gen HL (fun V j => V = A.set i x ∧ j = i) (fun V => V = A.set i x) h hi2 ⟨rfl, rfl⟩ (fun B y j p hj h0 hp ⟨hV, hji⟩ ha => by
      subst hji
      exfalso
      have e1 : y = x := by
        have := congrArg (fun l => l.getD j (0, 0)) hV
        rwa [getD_set _ _ _ _ _ hj, if_pos rfl, hxi] at this
      have e2 : B.getD p (0, 0) = A.getD p (0, 0) := by
        have := congrArg (fun l => l.getD p (0, 0)) hV
        rwa [getD_set _ _ _ _ _ hj, if_neg (by omega), getD_set _ _ _ _ _ hi, if_neg (by omega)] at this
      rw [e1, e2] at ha
      rcases hns with h | h
      · omega
      · rw [hp, ha] at h; cases h) (fun V j _ ⟨hV, _⟩ _ => hV) (hpos.but hi2) hwf hn (by rw [List.length_set]; exact hA)
    rw [if_pos hsome] at this
    refine this.mono ?_
    rintro e w' ⟨he, A', f', h1, h2, rfl, h4, h5⟩
    refine ⟨he, _, f', i, h1, h2, h4, h5, hi2, ?_, hxi, hheap.downOk HL.swo hi hns⟩
    have := h4.1 i hi2
    rwa [hxi] at this
end Go.Proofs.Ytkjpkhpiojahkaa

/-! ### Walks: down. -/
namespace Go.Proofs.Ytkjpkhpiojahkaa
set_option linter.unusedVariables false
open Go.RowKit Hp

set_option maxRecDepth 100000 in
set_option maxHeartbeats 4000000 in
theorem down_any {lf : Nat} {lt : Int → Int → Bool} (HL : LessI lf lt) {w : World} {hb mb n : Nat} {v : Value} {A : List (It Int)} {f : Int → Option Nat} (h : Raw w hb lf v mb A n f) {i : Nat} (hi : i < A.length)
    (hup : DownOk lt A (0, 0) i) (hpos : PosBut A (0, 0) i f) (hwf : ∀ x ∈ A, (Lit.int .i64 x.1).wf = true) (hn : n < maxLen) (hA : A.length < 1000000000) :
    Calls Try.prog 168 #[.pointer (some ⟨hb, 0, none⟩), .int .i64 (i : Int)] w fun e w' => e = .returned (.tuple #[]) ∧ Sifted lt w w' hb lf v mb A (if (f (A.getD i (0, 0)).1).isSome then n else n + 1) := by
  obtain ⟨⟨x1, x2⟩, hx⟩ : ∃ x, A[i]? = some x := ⟨_, List.getElem?_eq_getElem hi⟩
  have hxd : A.getD i (0, 0) = (x1, x2) := by rw [List.getD_eq_getElem?_getD, hx]; rfl
  have hxs : A.set i (x1, x2) = A := by
    apply List.ext_getElem?
    intro k
    by_cases hk : i = k
    · subst hk; rw [List.getElem?_set_self hi, hx]
    · rw [List.getElem?_set_ne hk]
  obtain ⟨m, hm⟩ : ∃ m, (if (f (A.getD i (0, 0)).1).isSome then n else n + 1) = m := ⟨_, rfl⟩
  rw [hm]
  rw [hxd] at hm
  have hc1 := h.c1
  obtain ⟨g, cap, rfl, d0, d1, f0, f1, hg⟩ := h.cell hx
  dsimp only at d0 d1
  obtain ⟨W, hW⟩ : ∃ W, (w.alloc (.cells #[.int .i64 x1, .int .i64 x2] 202)) = W := ⟨_, rfl⟩
  have hlt := h.lt
  have HR := Lib.hid h
  have HUp := Lib.hid hup
  have HPos := Lib.hid hpos
  have HWf := Lib.hid hwf
  have HX := Lib.hid hx
  have HXd := Lib.hid hxd
  have HXs := Lib.hid hxs
  have HM := Lib.hid hm
  clear h hup hpos hwf hx hxd hxs hm
  go_enter Try.func168, Try.ntmps168
  go_wp2_with fail
  have hbW : Below w.heap.size w W := by rw [← hW]; exact (Below.refl _ w).alloc (Nat.le_refl _) _
  have b1 : W.cell? ⟨w.heap.size, 0, none⟩ = some (.int .i64 x1) := by rw [← hW, World.cell?_alloc_at _ _ _ _ rfl]; rfl
  have b2 : W.cell? ⟨w.heap.size, 1, none⟩ = some (.int .i64 x2) := by rw [← hW, World.cell?_alloc_at _ _ _ _ rfl]; rfl
  have hszW : W.heap.size = w.heap.size + 1 := by rw [← hW]; simp
  have HBW := Lib.hid hbW
  have HB1 := Lib.hid b1
  have HB2 := Lib.hid b2
  clear hW hbW hc1 d0 d1 f0 f1 b1 b2
  go_loopg [1, 5] (A.length - i) (fun gh s1 s5 wr => ∃ (B : List (It Int)) (fj : Int → Option Nat) (j c : Nat), s1 = .int .i64 (j : Int) ∧ s5 = .int .i64 (c : Int) ∧ 2 * j + 1 = c ∧ gh + j = A.length ∧ B.length = A.length ∧ j < A.length ∧ Raw wr hb lf (.slice (some ⟨g, 0, none⟩) A.length cap) mb B n fj ∧
    DownOk lt (B.set j (x1, x2)) (0, 0) j ∧ PosBut (B.set j (x1, x2)) (0, 0) j fj ∧ (B.set j (x1, x2)).Perm A ∧ fj x1 = f x1 ∧ Mod (Foot (.slice (some ⟨g, 0, none⟩) A.length cap) mb) w wr ∧
    W.heap.size ≤ wr.heap.size ∧ wr.cell? ⟨w.heap.size, 0, none⟩ = some (.int .i64 x1) ∧ wr.cell? ⟨w.heap.size, 1, none⟩ = some (.int .i64 x2))
  case atStart =>
    exact ⟨A, f, i, 2 * i + 1, rfl, by go_num, rfl, by omega, rfl, hi, HR.out.below HBW.out, by rw [HXs.out]; exact HUp.out, by rw [HXs.out]; exact HPos.out, by rw [HXs.out], rfl, Mod.of_below HBW.out, Nat.le_refl _, HB1.out, HB2.out⟩
  case round =>
    obtain ⟨B, fj, j, c, rfl, rfl, hc, hgk, hBl, hj, hraw, hup, hpos, hperm, hfx, hmod, hsz, b1, b2⟩ := hrel
    have HRaw := Lib.hid hraw
    have HUpj := Lib.hid hup
    have HPosj := Lib.hid hpos
    have HPerm := Lib.hid hperm
    have HFx := Lib.hid hfx
    have HMod := Lib.hid hmod
    have hgj : j < B.length := by omega
    have hwr1 := hraw.c1
    have hwl := hraw.lt
    have hgl := (hraw.own_ne (j := g) rfl).2.2
    have hBn : B.length < 1000000000 := by omega
    have HC0 := Lib.hid (show Below wr.heap.size wr wr.drew from (Below.refl _ wr).drew)
    have hx1m : (x1, x2) ∈ A := List.mem_of_getElem? HX.out
    have hx1w : (Lit.int .i64 x1).wf = true := HWf.out _ hx1m
    have HX1w := Lib.hid hx1w
    have hlast : ∀ A0, Below wr.heap.size wr A0 → Calls Try.prog 167 #[.pointer (some ⟨hb, 0, none⟩), .int .i64 (j : Int), .agg #[.int .i64 x1, .int .i64 x2]] A0 fun e w' =>
        e = .returned (.tuple #[]) ∧ Raw w' hb lf (.slice (some ⟨g, 0, none⟩) A.length cap) mb (B.set j (x1, x2)) m (putN fj x1 (some j)) ∧ Mod (Foot (.slice (some ⟨g, 0, none⟩) A.length cap) mb) A0 w' := fun A0 hA0 => by
      have := set_any (HRaw.out.below hA0) hgj x1 x2 HX1w.out hn hBn
      rwa [HFx.out, HM.out] at this
    have HLast := Lib.hid hlast
    have hend : ∀ A0 w', Below wr.heap.size wr A0 → Raw w' hb lf (.slice (some ⟨g, 0, none⟩) A.length cap) mb (B.set j (x1, x2)) m (putN fj x1 (some j)) → Mod (Foot (.slice (some ⟨g, 0, none⟩) A.length cap) mb) A0 w' →
        (∀ k, 0 < k → k < (B.set j (x1, x2)).length → (k - 1) / 2 = j → Hp.ahead lt ((B.set j (x1, x2)).getD k (0, 0)) ((B.set j (x1, x2)).getD j (0, 0)) = false) → Sifted lt w w' hb lf (.slice (some ⟨g, 0, none⟩) A.length cap) mb A m := fun A0 w' hA0 hr hm0 hs => by
      refine ⟨_, _, hr, HPerm.out, HUpj.out.heap HL.swo hs, ?_, ?_⟩
      · have := HPosj.out.lay (by rw [List.length_set]; exact hgj)
        rwa [getD_set _ _ _ _ _ hgj, if_pos rfl] at this
      · exact (HMod.out.trans (Mod.of_below (S := (Foot (.slice (some ⟨g, 0, none⟩) A.length cap) mb)) hA0) (fun _ h _ => h)).trans hm0 (fun _ h _ => h)
    have HEnd := Lib.hid hend
    have HC := Lib.hid hc
    have hAA : (A.length : Int) < 1000000000 := by omega
    have hj0 : (0 : Int) ≤ (j : Int) := by omega
    clear hraw hup hpos hperm hfx hmod hx1m hx1w hlast hend hc
    by_cases hcl : c < A.length
    · have hclI : (c : Int) < (A.length : Int) := by omega
      have hcI0 : (0 : Int) ≤ (c : Int) := by omega
      obtain ⟨⟨y1, y2⟩, hy⟩ : ∃ y, B[c]? = some y := ⟨_, List.getElem?_eq_getElem (by omega)⟩
      have hyd : B.getD c (0, 0) = (y1, y2) := by rw [List.getD_eq_getElem?_getD, hy]; rfl
      obtain ⟨q0, q1⟩ := HRaw.out.at hy
      have HYd := Lib.hid hyd
      have HY := Lib.hid hy
      clear hyd hy
      obtain ⟨d, hd⟩ : ∃ d, c + 1 = d := ⟨_, rfl⟩
      have hw1 : IntKind.i64.wrap ((c : Int) + 1) = (d : Int) := by rw [IntWalk.i64_in _ (by omega)]; omega
      have hw3 : (c : Int) + 1 = (d : Int) := by omega
      have hw4 : IntKind.i64.wrap (d : Int) = (d : Int) := IntWalk.i64_in _ (by omega)
      have hd0 : (0 : Int) ≤ (d : Int) := by omega
      -- one step, by the lesser child
      have hstep : ∀ (k : Nat) (z1 z2 : Int) (A0 : World), (k = c ∨ k = d) → k < A.length → B[k]? = some (z1, z2) → (∀ t, 0 < t → t < B.length → (t - 1) / 2 = j → Hp.ahead lt (B.getD t (0, 0)) (z1, z2) = false) → Below wr.heap.size wr A0 →
          Calls Try.prog 167 #[.pointer (some ⟨hb, 0, none⟩), .int .i64 (j : Int), .agg #[.int .i64 z1, .int .i64 z2]] A0 (fun e w' => e = .returned (.tuple #[]) ∧ Raw w' hb lf (.slice (some ⟨g, 0, none⟩) A.length cap) mb (B.set j (z1, z2)) n (putN fj z1 (some j)) ∧ Mod (Foot (.slice (some ⟨g, 0, none⟩) A.length cap) mb) A0 w') ∧
          (Hp.ahead lt (z1, z2) (x1, x2) = true → DownOk lt ((B.set j (z1, z2)).set k (x1, x2)) (0, 0) k) ∧ PosBut ((B.set j (z1, z2)).set k (x1, x2)) (0, 0) k (putN fj z1 (some j)) ∧ ((B.set j (z1, z2)).set k (x1, x2)).Perm A ∧ (putN fj z1 (some j)) x1 = f x1 ∧
          (Hp.ahead lt (z1, z2) (x1, x2) = false → ∀ t, 0 < t → t < (B.set j (x1, x2)).length → (t - 1) / 2 = j → Hp.ahead lt ((B.set j (x1, x2)).getD t (0, 0)) ((B.set j (x1, x2)).getD j (0, 0)) = false) := fun k z1 z2 A0 hk hkl hz hmin hA0 => by
        have hc := HC.out
        have hzd : B.getD k (0, 0) = (z1, z2) := by rw [List.getD_eq_getElem?_getD, hz]; rfl
        have hstep := HPosj.out.step hgj (by omega : k < B.length) (by omega)
        rw [hzd] at hstep
        have hperm2 := (set_perm B (0, 0) (x1, x2) j k hgj (by omega) (by omega)).trans HPerm.out
        rw [hzd] at hperm2
        have hzw : (Lit.int .i64 z1).wf = true := HWf.out _ (hperm2.mem_iff.1 (by
          apply List.mem_of_getElem? (i := j)
          rw [List.getElem?_set_ne (by omega), List.getElem?_set_self hgj]))
        have hset := set_any (HRaw.out.below hA0) hgj z1 z2 hzw hn hBn
        rw [show (fj z1).isSome = true by rw [hstep.2]; rfl, if_pos rfl] at hset
        have hx1ne : x1 ≠ z1 := by
          have := HPosj.out.2.2 k (by rw [List.length_set]; omega) (by omega)
          rw [getD_set _ _ _ _ _ hgj, getD_set _ _ _ _ _ hgj, if_pos rfl, if_neg (by omega), hzd] at this
          exact fun e => this e.symm
        refine ⟨hset, fun ha => ?_, hstep.1, hperm2, ?_, fun ha t h1 h2 h3 => ?_⟩
        · have := HUpj.out.step HL.swo (c := k) (by omega) (by omega) (by omega) (by rw [hzd]; exact hmin) (by rw [hzd]; exact ha)
          rwa [hzd] at this
        · rw [putN_other _ hx1ne]; exact HFx.out
        · rw [List.length_set] at h2
          rw [getD_set _ _ _ _ _ hgj, getD_set _ _ _ _ _ hgj, if_pos rfl, if_neg (by omega)]
          exact nahead_trans HL.swo (hmin t h1 h2 h3) ha
      have HStep := Lib.hid hstep
      have hbox : ∀ A0 w2, Below wr.heap.size wr A0 → Mod (Foot (.slice (some ⟨g, 0, none⟩) A.length cap) mb) A0 w2 → w2.cell? ⟨w.heap.size, 0, none⟩ = some (.int .i64 x1) ∧ w2.cell? ⟨w.heap.size, 1, none⟩ = some (.int .i64 x2) ∧ W.heap.size ≤ w2.heap.size ∧ Mod (Foot (.slice (some ⟨g, 0, none⟩) A.length cap) mb) w w2 := fun A0 w2 h1 h2 =>
        ⟨h2.cell (zatB b1 h1) (fun hF => by have := HR.out.foot_lt hF; dsimp only at this; omega), h2.cell (zatB b2 h1) (fun hF => by have := HR.out.foot_lt hF; dsimp only at this; omega),
          by have := h2.size; have := h1.size; omega, (HMod.out.trans (Mod.of_below (S := (Foot (.slice (some ⟨g, 0, none⟩) A.length cap) mb)) h1) (fun _ h _ => h)).trans h2 (fun _ h _ => h)⟩
      have HBox := Lib.hid hbox
      have hfacts : ∀ A', Below wr.heap.size wr A' → A'.cell? ⟨hb, 1, none⟩ = some (.slice (some ⟨g, 0, none⟩) A.length cap) ∧ A'.cell? ⟨w.heap.size, 0, none⟩ = some (.int .i64 x1) ∧ A'.cell? ⟨w.heap.size, 1, none⟩ = some (.int .i64 x2) ∧
          A'.cell? ⟨g, c * 2, none⟩ = some (.int .i64 y1) ∧ A'.cell? ⟨g, c * 2 + 1, none⟩ = some (.int .i64 y2) := fun A' h => ⟨zatB hwr1 h, zatB b1 h, zatB b2 h, zatB q0 h, zatB q1 h⟩
      have hah : ∀ (a1 a2 b1 b2 : Int) (r : Bool), Hp.ahead lt (a1, a2) (b1, b2) = r → ∀ A', Below wr.heap.size wr A' → Calls Try.prog 166 #[.pointer (some ⟨hb, 0, none⟩), .agg #[.int .i64 a1, .int .i64 a2], .agg #[.int .i64 b1, .int .i64 b2]] A' fun e w' => e = .returned (.bool r) ∧ Below wr.heap.size wr w' := fun a1 a2 b1 b2 r hr A' h => by
        have := ahead_any HL hb a1 a2 b1 b2 A' (HRaw.out.below h).c0
        rw [hr] at this
        exact this.mono fun e w' ⟨he, hb'⟩ => ⟨he, h.trans (hb'.mono h.size)⟩
      have HFacts := Lib.hid hfacts
      have HAh := Lib.hid hah
      clear hstep hbox hfacts hah q0 q1 HUpj HPosj HPerm HFx HMod
      by_cases hdl : d < A.length
      · have hdlI : (d : Int) < (A.length : Int) := by omega
        obtain ⟨⟨z1, z2⟩, hz⟩ : ∃ z, B[d]? = some z := ⟨_, List.getElem?_eq_getElem (by omega)⟩
        have hzd : B.getD d (0, 0) = (z1, z2) := by rw [List.getD_eq_getElem?_getD, hz]; rfl
        obtain ⟨q2, q3⟩ := HRaw.out.at hz
        have hfacts2 : ∀ A', Below wr.heap.size wr A' → A'.cell? ⟨hb, 1, none⟩ = some (.slice (some ⟨g, 0, none⟩) A.length cap) ∧ A'.cell? ⟨w.heap.size, 0, none⟩ = some (.int .i64 x1) ∧ A'.cell? ⟨w.heap.size, 1, none⟩ = some (.int .i64 x2) ∧
          A'.cell? ⟨g, c * 2, none⟩ = some (.int .i64 y1) ∧ A'.cell? ⟨g, c * 2 + 1, none⟩ = some (.int .i64 y2) ∧ A'.cell? ⟨g, d * 2, none⟩ = some (.int .i64 z1) ∧ A'.cell? ⟨g, d * 2 + 1, none⟩ = some (.int .i64 z2) := fun A' h => by
            obtain ⟨a, b, c, d, e⟩ := HFacts.out A' h
            exact ⟨a, b, c, d, e, zatB q2 h, zatB q3 h⟩
        have HFacts2 := Lib.hid hfacts2
        obtain ⟨r, hr⟩ : ∃ r, Hp.ahead lt (z1, z2) (y1, y2) = r := ⟨_, rfl⟩
        have HK := Lib.hid (HAh.out z1 z2 y1 y2 r hr)
        have HRr := Lib.hid hr
        have HZd := Lib.hid hzd
        have HZ := Lib.hid hz
        clear hfacts2 hr hzd hz q2 q3
        go_wp2_with fail
        refine wp_region_loose (fun A' => Below wr.heap.size wr A') (by kernel_rfl) (by kernel_rfl) HC0.out ?_
        iterate 27 (first
          | (refine loose_skip (by rfl) ?_; simp only [Act.put, List.setIfInBounds_toArray, List.set_cons_zero, List.set_cons_succ])
          | (refine loose_val (v := ?_) (by rfl) ?_ ?_; rotate_left; (focus (intro A' hA'; obtain ⟨k0, k1, k2, k3, k4, k5, k6⟩ := HFacts2.out A' hA'; go_simp; first | done | with_reducible rfl)); simp only [Act.put, List.setIfInBounds_toArray, List.set_cons_zero, List.set_cons_succ])
          | (refine loose_call HK.out (by rfl) ?_ ?_; (focus (intro A' hA'; go_simp; done)); simp only [Act.put, List.setIfInBounds_toArray, List.set_cons_zero, List.set_cons_succ]))
        refine loose_nil ?_
        intro wz hz
        have HZz := Lib.hid hz
        obtain ⟨k0, k1, k2, k3, k4, k5, k6⟩ := HFacts2.out wz hz
        clear hz
        cases r with
        | true =>
          have hmin : ∀ t, 0 < t → t < B.length → (t - 1) / 2 = j → Hp.ahead lt (B.getD t (0, 0)) (z1, z2) = false := fun t h1 h2 h3 => by
            have hc := HC.out
            rcases (by omega : t = c ∨ t = d) with rfl | rfl
            · rw [HYd.out]; exact ahead_asymm HL.swo HRr.out
            · rw [HZd.out]; exact ahead_irrefl HL.swo _
          have HSt := Lib.hid (fun A0 hA0 => HStep.out d z1 z2 A0 (.inr rfl) hdl HZ.out hmin hA0)
          clear hmin HStep
          obtain ⟨r2, hr2⟩ : ∃ r2, Hp.ahead lt (z1, z2) (x1, x2) = r2 := ⟨_, rfl⟩
          have HK2 := Lib.hid (HAh.out z1 z2 x1 x2 r2 hr2)
          have HRr2 := Lib.hid hr2
          clear hr2
          go_wp2_with fail
          refine wp_region_loose (fun A' => Below wr.heap.size wr A') (by kernel_rfl) (by kernel_rfl) (HZz.out.drew) ?_
          iterate 11 (first
            | (refine loose_skip (by rfl) ?_; simp only [Act.put, List.setIfInBounds_toArray, List.set_cons_zero, List.set_cons_succ])
            | (refine loose_val (v := ?_) (by rfl) ?_ ?_; rotate_left; (focus (intro A' hA'; obtain ⟨k0, k1, k2, k3, k4, k5, k6⟩ := HFacts2.out A' hA'; go_simp; first | done | with_reducible rfl)); simp only [Act.put, List.setIfInBounds_toArray, List.set_cons_zero, List.set_cons_succ])
            | (refine loose_call HK2.out (by rfl) ?_ ?_; (focus (intro A' hA'; go_simp; done)); simp only [Act.put, List.setIfInBounds_toArray, List.set_cons_zero, List.set_cons_succ]))
          refine loose_nil ?_
          intro wy hy
          have HWy := Lib.hid hy
          obtain ⟨n0, n1, n2, n3, n4, n5, n6⟩ := HFacts2.out wy hy
          clear hy k0 k1 k2 k3 k4 k5 k6
          cases r2 with
          | false =>
            simp only [Bool.not_false]
            have HL2 := Lib.hid (HLast.out wy HWy.out)
            go_wp2_with fail
            refine HL2.out.mono ?_
            rintro e w2 ⟨rfl, hr2, hm2⟩
            have HF := Lib.hid (HEnd.out wy w2 HWy.out hr2 hm2 ((HSt.out wy HWy.out).2.2.2.2.2 HRr2.out))
            clear hr2 hm2
            go_wp2_with fail
            go_end0
            exact ⟨rfl, HF.out⟩
          | true =>
            simp only [Bool.not_true]
            have HSet := Lib.hid (HSt.out wy HWy.out).1
            go_wp2_with fail
            refine HSet.out.mono ?_
            rintro e w2 ⟨rfl, hr2, hm2⟩
            obtain ⟨l1, l2, hsz2, hmod2⟩ := HBox.out wy w2 HWy.out hm2
            have HR2 := Lib.hid hr2
            have HM2 := Lib.hid hmod2
            clear hr2 hm2 hmod2
            go_wp2_with fail
            go_roundg (A.length - d)
            case measure => have := HC.out; omega
            case rel =>
              exact ⟨B.set j (z1, z2), putN fj z1 (some j), d, 2 * d + 1, by go_num, by go_num, rfl, by omega, by rw [List.length_set]; exact hBl, by omega, HR2.out, (HSt.out wy HWy.out).2.1 HRr2.out, (HSt.out wy HWy.out).2.2.1, (HSt.out wy HWy.out).2.2.2.1, (HSt.out wy HWy.out).2.2.2.2.1, HM2.out, hsz2, l1, l2⟩
        | false =>
          have hmin : ∀ t, 0 < t → t < B.length → (t - 1) / 2 = j → Hp.ahead lt (B.getD t (0, 0)) (y1, y2) = false := fun t h1 h2 h3 => by
            have hc := HC.out
            rcases (by omega : t = c ∨ t = d) with rfl | rfl
            · rw [HYd.out]; exact ahead_irrefl HL.swo _
            · rw [HZd.out]; exact HRr.out
          have HSt := Lib.hid (fun A0 hA0 => HStep.out c y1 y2 A0 (.inl rfl) hcl HY.out hmin hA0)
          clear hmin HStep
          obtain ⟨r2, hr2⟩ : ∃ r2, Hp.ahead lt (y1, y2) (x1, x2) = r2 := ⟨_, rfl⟩
          have HK2 := Lib.hid (HAh.out y1 y2 x1 x2 r2 hr2)
          have HRr2 := Lib.hid hr2
          clear hr2
          go_wp2_with fail
          refine wp_region_loose (fun A' => Below wr.heap.size wr A') (by kernel_rfl) (by kernel_rfl) (HZz.out.drew) ?_
          iterate 11 (first
            | (refine loose_skip (by rfl) ?_; simp only [Act.put, List.setIfInBounds_toArray, List.set_cons_zero, List.set_cons_succ])
            | (refine loose_val (v := ?_) (by rfl) ?_ ?_; rotate_left; (focus (intro A' hA'; obtain ⟨k0, k1, k2, k3, k4, k5, k6⟩ := HFacts2.out A' hA'; go_simp; first | done | with_reducible rfl)); simp only [Act.put, List.setIfInBounds_toArray, List.set_cons_zero, List.set_cons_succ])
            | (refine loose_call HK2.out (by rfl) ?_ ?_; (focus (intro A' hA'; go_simp; done)); simp only [Act.put, List.setIfInBounds_toArray, List.set_cons_zero, List.set_cons_succ]))
          refine loose_nil ?_
          intro wy hy
          have HWy := Lib.hid hy
          obtain ⟨n0, n1, n2, n3, n4, n5, n6⟩ := HFacts2.out wy hy
          clear hy k0 k1 k2 k3 k4 k5 k6
          cases r2 with
          | false =>
            simp only [Bool.not_false]
            have HL2 := Lib.hid (HLast.out wy HWy.out)
            go_wp2_with fail
            refine HL2.out.mono ?_
            rintro e w2 ⟨rfl, hr2, hm2⟩
            have HF := Lib.hid (HEnd.out wy w2 HWy.out hr2 hm2 ((HSt.out wy HWy.out).2.2.2.2.2 HRr2.out))
            clear hr2 hm2
            go_wp2_with fail
            go_end0
            exact ⟨rfl, HF.out⟩
          | true =>
            simp only [Bool.not_true]
            have HSet := Lib.hid (HSt.out wy HWy.out).1
            go_wp2_with fail
            refine HSet.out.mono ?_
            rintro e w2 ⟨rfl, hr2, hm2⟩
            obtain ⟨l1, l2, hsz2, hmod2⟩ := HBox.out wy w2 HWy.out hm2
            have HR2 := Lib.hid hr2
            have HM2 := Lib.hid hmod2
            clear hr2 hm2 hmod2
            go_wp2_with fail
            go_roundg (A.length - c)
            case measure => have := HC.out; omega
            case rel =>
              exact ⟨B.set j (y1, y2), putN fj y1 (some j), c, 2 * c + 1, by go_num, by go_num, rfl, by omega, by rw [List.length_set]; exact hBl, by omega, HR2.out, (HSt.out wy HWy.out).2.1 HRr2.out, (HSt.out wy HWy.out).2.2.1, (HSt.out wy HWy.out).2.2.2.1, (HSt.out wy HWy.out).2.2.2.2.1, HM2.out, hsz2, l1, l2⟩
      · have hdlI : ¬ (d : Int) < (A.length : Int) := by omega
        have hmin : ∀ t, 0 < t → t < B.length → (t - 1) / 2 = j → Hp.ahead lt (B.getD t (0, 0)) (y1, y2) = false := fun t h1 h2 h3 => by
          have hc := HC.out
          obtain rfl : t = c := by omega
          rw [HYd.out]; exact ahead_irrefl HL.swo _
        have HSt := Lib.hid (fun A0 hA0 => HStep.out c y1 y2 A0 (.inl rfl) hcl HY.out hmin hA0)
        clear hmin HStep
        go_wp2_with fail
        refine wp_region_loose (fun A' => Below wr.heap.size wr A') (by kernel_rfl) (by kernel_rfl) HC0.out ?_
        iterate 27 (first
          | (refine loose_skip (by rfl) ?_; simp only [Act.put, List.setIfInBounds_toArray, List.set_cons_zero, List.set_cons_succ])
          | (refine loose_val (v := ?_) (by rfl) ?_ ?_; rotate_left; (focus (intro A' hA'; obtain ⟨k0, k1, k2, k3, k4⟩ := HFacts.out A' hA'; go_simp; first | done | with_reducible rfl)); simp only [Act.put, List.setIfInBounds_toArray, List.set_cons_zero, List.set_cons_succ]))
        refine loose_nil ?_
        intro wz hz
        have HZz := Lib.hid hz
        obtain ⟨k0, k1, k2, k3, k4⟩ := HFacts.out wz hz
        clear hz
        obtain ⟨r2, hr2⟩ : ∃ r2, Hp.ahead lt (y1, y2) (x1, x2) = r2 := ⟨_, rfl⟩
        have HK2 := Lib.hid (HAh.out y1 y2 x1 x2 r2 hr2)
        have HRr2 := Lib.hid hr2
        clear hr2
        go_wp2_with fail
        refine wp_region_loose (fun A' => Below wr.heap.size wr A') (by kernel_rfl) (by kernel_rfl) (HZz.out.drew) ?_
        iterate 11 (first
          | (refine loose_skip (by rfl) ?_; simp only [Act.put, List.setIfInBounds_toArray, List.set_cons_zero, List.set_cons_succ])
          | (refine loose_val (v := ?_) (by rfl) ?_ ?_; rotate_left; (focus (intro A' hA'; obtain ⟨k0, k1, k2, k3, k4⟩ := HFacts.out A' hA'; go_simp; first | done | with_reducible rfl)); simp only [Act.put, List.setIfInBounds_toArray, List.set_cons_zero, List.set_cons_succ])
          | (refine loose_call HK2.out (by rfl) ?_ ?_; (focus (intro A' hA'; go_simp; done)); simp only [Act.put, List.setIfInBounds_toArray, List.set_cons_zero, List.set_cons_succ]))
        refine loose_nil ?_
        intro wy hy
        have HWy := Lib.hid hy
        obtain ⟨n0, n1, n2, n3, n4⟩ := HFacts.out wy hy
        clear hy k0 k1 k2 k3 k4
        cases r2 with
        | false =>
          simp only [Bool.not_false]
          have HL2 := Lib.hid (HLast.out wy HWy.out)
          go_wp2_with fail
          refine HL2.out.mono ?_
          rintro e w2 ⟨rfl, hr2, hm2⟩
          have HF := Lib.hid (HEnd.out wy w2 HWy.out hr2 hm2 ((HSt.out wy HWy.out).2.2.2.2.2 HRr2.out))
          clear hr2 hm2
          go_wp2_with fail
          go_end0
          exact ⟨rfl, HF.out⟩
        | true =>
          simp only [Bool.not_true]
          have HSet := Lib.hid (HSt.out wy HWy.out).1
          go_wp2_with fail
          refine HSet.out.mono ?_
          rintro e w2 ⟨rfl, hr2, hm2⟩
          obtain ⟨l1, l2, hsz2, hmod2⟩ := HBox.out wy w2 HWy.out hm2
          have HR2 := Lib.hid hr2
          have HM2 := Lib.hid hmod2
          clear hr2 hm2 hmod2
          go_wp2_with fail
          go_roundg (A.length - c)
          case measure => have := HC.out; omega
          case rel =>
            exact ⟨B.set j (y1, y2), putN fj y1 (some j), c, 2 * c + 1, by go_num, by go_num, rfl, by omega, by rw [List.length_set]; exact hBl, by omega, HR2.out, (HSt.out wy HWy.out).2.1 HRr2.out, (HSt.out wy HWy.out).2.2.1, (HSt.out wy HWy.out).2.2.2.1, (HSt.out wy HWy.out).2.2.2.2.1, HM2.out, hsz2, l1, l2⟩
    · have hclI : ¬ (c : Int) < (A.length : Int) := by omega
      have HL2 := Lib.hid (HLast.out wr (Below.refl _ _))
      have hs : ∀ k, 0 < k → k < (B.set j (x1, x2)).length → (k - 1) / 2 = j → Hp.ahead lt ((B.set j (x1, x2)).getD k (0, 0)) ((B.set j (x1, x2)).getD j (0, 0)) = false := fun k h1 h2 h3 => by
        rw [List.length_set] at h2
        have := HC.out
        omega
      have HS := Lib.hid hs
      clear hs
      go_wp2_with fail
      refine HL2.out.mono ?_
      rintro e w2 ⟨rfl, hr2, hm2⟩
      have HF := Lib.hid (HEnd.out wr w2 (Below.refl _ _) hr2 hm2 HS.out)
      clear hr2 hm2
      go_wp2_with fail
      go_end0
      exact ⟨rfl, HF.out⟩
end Go.Proofs.Ytkjpkhpiojahkaa

/-! ### A heap for whoever uses it: what is in it, and which blocks are its own.
  Walks: Len, Peek, Get, Drop, Take, New.
  Walks: Drop, Take. -/
/-! ### A heap for whoever uses it: what is in it, and which blocks are its own. -/
namespace Go.Proofs.Ytkjpkhpiojahkaa
set_option linter.unusedVariables false
open Go.RowKit Hp

/-- block hb is a heap of the numbers and keys M; its blocks are among F -/
def HeapAt (w : World) (hb lf : Nat) (lt : Int → Int → Bool) (F : Nat → Prop) (M : List (It Int)) : Prop :=
  ∃ v mb A f, Raw w hb lf v mb A A.length f ∧ IsHeap lt A (0, 0) ∧ Pos A (0, 0) f ∧ A.Perm M ∧ (∀ x ∈ M, 0 ≤ x.1 ∧ (Lit.int .i64 x.1).wf = true) ∧
    F hb ∧ (∀ j, Foot v mb j → F j) ∧ (∀ j, F j → j < w.heap.size)

/-- what a call on a heap leaves -/
def HeapTo (w w' : World) (hb lf : Nat) (lt : Int → Int → Bool) (F : Nat → Prop) (M : List (It Int)) : Prop :=
  ∃ F', HeapAt w' hb lf lt F' M ∧ Mod F w w' ∧ ∀ j, F' j → F j ∨ w.heap.size ≤ j

section
variable {w w' : World} {hb lf : Nat} {lt : Int → Int → Bool} {F : Nat → Prop} {M M' : List (It Int)}
theorem HeapAt.perm (h : HeapAt w hb lf lt F M) (hp : M.Perm M') : HeapAt w hb lf lt F M' := by
  obtain ⟨v, mb, A, f, h1, h2, h3, h4, h5, h6⟩ := h
  exact ⟨v, mb, A, f, h1, h2, h3, h4.trans hp, fun x hx => h5 x (hp.mem_iff.2 hx), h6⟩
theorem HeapAt.lt_hb (h : HeapAt w hb lf lt F M) : hb < w.heap.size := by
  obtain ⟨v, mb, A, f, h1, _⟩ := h
  exact h1.lt
theorem HeapAt.lt_F (h : HeapAt w hb lf lt F M) {j : Nat} (hj : F j) : j < w.heap.size := by
  obtain ⟨v, mb, A, f, _, _, _, _, _, _, _, h8⟩ := h
  exact h8 j hj
theorem HeapAt.distinct (h : HeapAt w hb lf lt F M) : M.Pairwise fun a b => a.1 ≠ b.1 := by
  obtain ⟨v, mb, A, f, _, _, h3, h4, _⟩ := h
  exact distinct_perm h4 h3.distinct
theorem HeapAt.ids (h : HeapAt w hb lf lt F M) : ∀ x ∈ M, 0 ≤ x.1 ∧ (Lit.int .i64 x.1).wf = true := by
  obtain ⟨v, mb, A, f, _, _, _, _, h5, _⟩ := h
  exact h5
theorem HeapAt.mod (h : HeapAt w hb lf lt F M) {S : Nat → Prop} (hm : Mod S w w') (hS : ∀ j, F j → ¬ S j) : HeapAt w' hb lf lt F M := by
  obtain ⟨v, mb, A, f, h1, h2, h3, h4, h5, h6, h7, h8⟩ := h
  exact ⟨v, mb, A, f, h1.mod hm (hS _ h6) (fun j hj => hS j (h7 j hj)), h2, h3, h4, h5, h6, h7, fun j hj => Nat.lt_of_lt_of_le (h8 j hj) hm.size⟩
theorem HeapAt.below (h : HeapAt w hb lf lt F M) (hm : Below w.heap.size w w') : HeapAt w' hb lf lt F M :=
  h.mod (Mod.of_below (S := none') hm) (fun _ _ h => h)
theorem HeapAt.to_below (h : HeapAt w hb lf lt F M) (hm : Below w.heap.size w w') : HeapTo w w' hb lf lt F M :=
  ⟨F, h.below hm, Mod.of_below hm, fun _ h => .inl h⟩
theorem HeapTo.perm (h : HeapTo w w' hb lf lt F M) (hp : M.Perm M') : HeapTo w w' hb lf lt F M' := by
  obtain ⟨F', h1, h2⟩ := h
  exact ⟨F', h1.perm hp, h2⟩
end

/-- the last of a list that is a heap but for it -/
theorem upOk_snoc {lt : Int → Int → Bool} {A : List (It Int)} {d x : It Int} (h : IsHeap lt A d) : UpOk lt (A ++ [x]) d A.length := by
  have e : ∀ j, j < A.length → (A ++ [x]).getD j d = A.getD j d := fun j hj => by
    rw [List.getD_eq_getElem?_getD, List.getElem?_append_left hj, List.getD_eq_getElem?_getD]
  refine ⟨fun j h0 hj hne => ?_, fun _ j h0 hj hp => ?_⟩
  · rw [List.length_append] at hj
    simp at hj
    rw [e j (by omega), e _ (by omega)]
    exact h j h0 (by omega)
  · rw [List.length_append] at hj
    simp at hj
    omega
theorem posBut_snoc {A : List (It Int)} {d x : It Int} {f : Int → Option Nat} (h : Pos A d f) (hx : f x.1 = none) : PosBut (A ++ [x]) d A.length f := by
  have e : ∀ j, j < A.length → (A ++ [x]).getD j d = A.getD j d := fun j hj => by
    rw [List.getD_eq_getElem?_getD, List.getElem?_append_left hj, List.getD_eq_getElem?_getD]
  have e2 : (A ++ [x]).getD A.length d = x := by simp [List.getD]
  refine ⟨fun k hk hne => ?_, fun y v hy => ?_, fun k hk hne => ?_⟩
  · rw [List.length_append] at hk
    simp at hk
    rw [e k (by omega)]
    exact h.1 k (by omega)
  · obtain ⟨k, hk, he⟩ := h.2 y v hy
    exact ⟨k, by rw [List.length_append]; omega, by rw [e k hk]; exact he⟩
  · rw [List.length_append] at hk
    simp at hk
    rw [e k (by omega), e2]
    intro heq
    have := h.1 k (by omega)
    rw [heq, hx] at this
    cases this

theorem Try.info202 : (Try.prog.info? 202).map (fun i => (i.zero, i.size, i.bytes)) = some (some (.agg #[.int .i64 0, .int .i64 0]), 2, 16) := by kernel_rfl
theorem info_parts2 {i : Option TypeInfo} {z : Value} {size bytes : Nat} (h : i.map (fun i => (i.zero, i.size, i.bytes)) = some (some z, size, bytes)) : ∃ i0, i = some i0 ∧ i0.zero = some z ∧ i0.size = size ∧ i0.bytes = bytes := by
  cases i with
  | none => cases h
  | some i0 => simp at h; exact ⟨i0, rfl, h.1, h.2.1, h.2.2⟩

set_option maxRecDepth 100000 in
set_option maxHeartbeats 2000000 in
theorem Put_ok {lf : Nat} {lt : Int → Int → Bool} (HL : LessI lf lt) {w : World} {hb : Nat} {F : Nat → Prop} {M : List (It Int)} (h : HeapAt w hb lf lt F M) (id k : Int) (hid : 0 ≤ id) (hwf : (Lit.int .i64 id).wf = true) (hnew : ∀ x ∈ M, x.1 ≠ id) (hM : M.length < 1000000) :
    Calls Try.prog 116 #[.pointer (some ⟨hb, 0, none⟩), .int .i64 id, .int .i64 k] w fun e w' => e = .returned (.int .i64 0) ∧ HeapTo w w' hb lf lt F ((id, k) :: M) := by
  obtain ⟨v, mb, A, f, hraw, hheap, hpos, hperm, hids, hF1, hF2, hF3⟩ := h
  obtain ⟨i0, hi0, hz0, hz1, hz2⟩ := info_parts2 Try.info202
  have hAl : A.length < 1000000 := by rw [hperm.length_eq]; exact hM
  have hfn : f id = none := hpos.none_iff.2 fun x hx => hnew x (hperm.mem_iff.1 hx)
  have hth := there_none hraw hwf hfn
  have hbad : (id < 0) = False := by simp; exact hid
  have hc1 := hraw.c1
  have hlt := hraw.lt
  have HTh := Lib.hid hth
  have HRaw := Lib.hid hraw
  have HHeap := Lib.hid hheap
  have HPos := Lib.hid hpos
  have HPerm := Lib.hid hperm
  have HIds := Lib.hid hids
  have HF1 := Lib.hid hF1
  have HF2 := Lib.hid hF2
  have HF3 := Lib.hid hF3
  have HWf := Lib.hid hwf
  have HFn := Lib.hid hfn
  clear hth hraw hheap hpos hperm hids hF1 hF2 hF3 hwf hfn hnew
  go_enter Try.func116, Try.ntmps116
  have hafter : ∀ (v' : Value) (w1 : World), (w.alloc (.cells #[.int .i64 id, .int .i64 k] 202)).grownBy w1 v.ownBlock → w1.ownsRow 0 202 2 v' (A.length + 1) (A.flatMap itC ++ [.int .i64 id, .int .i64 k]) → (v'.ownBlock = v.ownBlock ∨ v'.ownBlock = some (w.alloc (.cells #[.int .i64 id, .int .i64 k] 202)).heap.size) →
      ∃ g cap, v' = .slice (some ⟨g, 0, none⟩) (A.length + 1) cap ∧ w1.cell? ⟨hb, 1, none⟩ = some v ∧ w1.frozen? ⟨hb, 1, none⟩ = false ∧
        Calls Try.prog 153 #[.pointer (some ⟨hb, 0, none⟩), .int .i64 (A.length : Int)] (w1.setCell ⟨hb, 1, none⟩ v') fun e w' => e = .returned (.tuple #[]) ∧ HeapTo w w' hb lf lt F ((id, k) :: M) := fun v' w1 hgrow hown hat => by
    have hb0 : Below w.heap.size w (w.alloc (.cells #[.int .i64 id, .int .i64 k] 202)) := (Below.refl _ w).alloc (Nat.le_refl _) _
    have hr0 := HRaw.out.below hb0
    have hm1 : Mod (fun j => v.ownBlock = some j) (w.alloc (.cells #[.int .i64 id, .int .i64 k] 202)) w1 := (Mod.refl _ _).grown hgrow (fun j hj _ => ⟨hj, fun o ho => by
      rcases own_parts hr0.row with ⟨rfl, _⟩ | ⟨g, cap, cur, rfl, _, hg, _⟩
      · simp [Value.ownBlock] at hj
      · simp [Value.ownBlock] at hj
        subst hj
        rw [hg] at ho
        cases ho
        rfl⟩)
    have hst1 := hm1.obj hr0.st (fun e => (hr0.own_ne e).1 rfl)
    have hmap1 := hr0.map.mod hm1 (fun e => (hr0.own_ne e).2.1 rfl)
    obtain ⟨g, cap, rfl, hg, hgo⟩ := own_slice hown (by omega)
    refine ⟨g, cap, rfl, by simp [World.cell?, hst1], by simp [World.frozen?, hst1], ?_⟩
    have hgc : v.ownBlock = some g ∨ g = w.heap.size + 1 := by
      rcases hat with h | h
      · exact .inl (h.symm.trans hgo)
      · exact .inr (by rw [hgo] at h; have := Option.some.inj h; simpa using this)
    have hgb : g ≠ hb ∧ g ≠ mb := by
      rcases hgc with h | h
      · have := HRaw.out.own_ne h
        exact ⟨this.1, this.2.1⟩
      · have := HRaw.out.lt
        have := HRaw.out.mb_lt
        omega
    have hset : Mod (fun j => j = hb) w1 (w1.setCell ⟨hb, 1, none⟩ (.slice (some ⟨g, 0, none⟩) (A.length + 1) cap)) := (Mod.refl (fun j => j = hb) w1).setCell (p := ⟨hb, 1, none⟩) (fun _ => rfl) _
    have hr2 : Raw (w1.setCell ⟨hb, 1, none⟩ (.slice (some ⟨g, 0, none⟩) (A.length + 1) cap)) hb lf (.slice (some ⟨g, 0, none⟩) (A.length + 1) cap) mb (A ++ [(id, k)]) A.length f := by
      refine ⟨?_, ?_, hmap1.mod hset (fun e => HRaw.out.hb_mb e.symm)⟩
      · simp [World.setCell, Array.getElem?_modify, hst1]
      · rw [List.flatMap_append, List.length_append]
        exact own_same hown fun j o hj ho _ => hset.obj ho (by simp [Value.ownBlock] at hj; subst hj; exact hgb.1)
    have hup := up_any HL hr2 (i := A.length) (by simp) (upOk_snoc HHeap.out) (posBut_snoc HPos.out HFn.out) (fun x hx => by
      rw [List.mem_append, List.mem_singleton] at hx
      rcases hx with hx | rfl
      · exact (HIds.out x (HPerm.out.mem_iff.1 hx)).2
      · exact HWf.out) (by unfold maxLen; omega) (by rw [List.length_append]; simp; omega)
    rw [show ((A ++ [(id, k)]).getD A.length (0, 0)) = (id, k) by simp [List.getD], show (f id).isSome = false by rw [HFn.out]; rfl, if_neg (by simp)] at hup
    refine hup.mono ?_
    rintro e w' ⟨rfl, A', f', hr', hp', hh', hpos', hmod'⟩
    refine ⟨rfl, fun j => F j ∨ j = g, ⟨.slice (some ⟨g, 0, none⟩) (A.length + 1) cap, mb, A', f', ?_, hh', hpos', ?_, ?_, .inl HF1.out, ?_, ?_⟩, ?_, ?_⟩
    · have : A'.length = A.length + 1 := by rw [hp'.length_eq, List.length_append]; rfl
      rw [this]; exact hr'
    · exact hp'.trans ((List.perm_append_comm).trans ((HPerm.out.cons (id, k))))
    · intro x hx
      rcases List.mem_cons.1 hx with rfl | hx
      · exact ⟨hid, HWf.out⟩
      · exact HIds.out x hx
    · rintro j (hj | rfl)
      · simp [Value.ownBlock] at hj
        exact .inr hj.symm
      · exact .inl (HF2.out _ (.inr rfl))
    · rintro j (hj | rfl)
      · have h1 := HF3.out j hj
        have h2 := hb0.size
        have h3 := hm1.size
        have h4 := hset.size
        have h5 := hmod'.size
        omega
      · exact hr'.foot_lt (.inl rfl)
    · have a1 : Mod F w w1 := (Mod.of_below (S := F) hb0).trans hm1 (fun j hj _ => HF2.out j (.inl hj))
      have a2 := a1.trans hset (fun j hj _ => by rw [hj]; exact HF1.out)
      refine a2.trans hmod' (fun j hj hjl => ?_)
      rcases hj with hj | rfl
      · simp [Value.ownBlock] at hj
        subst hj
        rcases hgc with h | h
        · exact HF2.out _ (.inl h)
        · omega
      · exact HF2.out _ (.inr rfl)
    · rintro j (hj | rfl)
      · exact .inl hj
      · rcases hgc with h | h
        · exact .inl (HF2.out _ (.inl h))
        · exact .inr (by omega)
  have HAfter := Lib.hid hafter
  have hnews : ∀ (j : Nat) (u : Value), [Value.int .i64 id, .int .i64 k][j]? = some u → (w.alloc (.cells #[.int .i64 id, .int .i64 k] 202)).cell? ((⟨w.heap.size, 0, none⟩ : Addr).add j) = some u :=
    World.news_of_block (cs := #[.int .i64 id, .int .i64 k]) (t := 202) (fr := (0, 0)) (heap_alloc_new w _)
  have HNews := Lib.hid hnews
  have hone : ∀ u ∈ [Value.int .i64 id, .int .i64 k], u.oneCell' = true := by simp [Value.oneCell']
  have hmx : A.length + 1 ≤ maxLen := by unfold maxLen; omega
  have hby : (A.length + 1) * 16 ≤ 140737488355328 := by omega
  have hown := HRaw.out.row.alloc (.cells #[.int .i64 id, .int .i64 k] 202)
  have HOwn := Lib.hid hown
  clear hnews hown
  have hsl : ∃ a ln cp, v = .slice a ln cp ∧ w.cell? ⟨hb, 1, none⟩ = some (.slice a ln cp) := by
    rcases own_parts HRaw.out.row with ⟨rfl, _⟩ | ⟨g, cap, cur, rfl, _⟩
    · exact ⟨_, _, _, rfl, hc1⟩
    · exact ⟨_, _, _, rfl, hc1⟩
  clear hafter
  go_wp2_with (first | (go_at_call 152; refine HTh.out.mono ?_; rintro e w' ⟨rfl, rfl⟩) | (at_builtin; refine wpList_append_own_at _ rfl _ _ 197 rfl 0 202 i0 (.agg #[.int .i64 0, .int .i64 0]) 2 16 Try.underlying197 hi0 hz0 hz1 hz2 rfl (by decide) v A.length (A.flatMap itC) rfl HOwn.out ⟨w.heap.size, 0, none⟩ 1 1 [.int .i64 id, .int .i64 k] rfl rfl HNews.out hone hmx hby (Nat.zero_le _) ?_; intro v' w1 hown hgrow _ hat; obtain ⟨g, cap, rfl, e1, e2, hup⟩ := HAfter.out v' w1 hgrow hown hat; have HUp := Lib.hid hup; clear hown hgrow hat hup) | (go_at_call 153; refine HUp.out.mono ?_; rintro e w3 ⟨rfl, hto⟩; have HTo := Lib.hid hto; clear hto))
  go_ret
  exact ⟨rfl, HTo.out⟩
end Go.Proofs.Ytkjpkhpiojahkaa

/-! ### Walks: Len, Peek, Get, Drop, Take, New. -/
namespace Go.Proofs.Ytkjpkhpiojahkaa
set_option linter.unusedVariables false
open Go.RowKit Hp

section
variable {P : Program} (w : World) {ops : Array Oper} {rest : List Oper} {o : Oper} {a : Act} {Q : Exit → Act → World → Prop}
theorem wpList_delete_T (hg : o.guard = none) (m x : Operand) (t k : TypeId) (hop : o.op = Op.call { callee := Callee.builtin Builtin.delete, args := #[m, x], argTypes := #[t, k] })
    (e : TypeId) (hk : P.underlying k = some (.int .i64)) (ht : P.underlying t = some (.map k e)) (b n : Nat) (f : Int → Option Nat)
    (hm : a.eval m = .map (some b)) (hown : mapT w P k b n f) (xv : Int) (hx : a.eval x = .int .i64 xv) (hwf : (Lit.int .i64 xv).wf = true)
    (hK : ∀ w', mapT w' P k b (if (f xv).isSome then n - 1 else n) (putN f xv none) → Mod (fun j => j = b) w w' → wpList P ops Q rest (a.put o.dst (.tuple #[])) w') :
    wpList P ops Q (o :: rest) a w := by
  refine wpList_plain hg fun K' hK' => ?_
  obtain ⟨w', hrun, r1, r2⟩ := hown.drop hk ht hwf o.type
  unfold Oper.wp
  simp [execOp, hop, resolve, invoke, builtin, hm, hx, hrun, Result.andThen]
  exact hK' _ _ (hK w' r1 r2)
end

section
variable {w : World} {hb lf : Nat} {lt : Int → Int → Bool} {F : Nat → Prop} {M : List (It Int)}

theorem slice_len {w : World} {hb lf mb n : Nat} {v : Value} {A : List (It Int)} {f : Int → Option Nat} (h : Raw w hb lf v mb A n f) : ∃ a cap, v = .slice a A.length cap ∧ w.cell? ⟨hb, 1, none⟩ = some (.slice a A.length cap) := by
  have hc := h.c1
  rcases own_parts h.row with ⟨rfl, h0⟩ | ⟨g, cap, cur, rfl, _⟩
  · exact ⟨none, 0, by rw [h0], by rw [h0]; exact hc⟩
  · exact ⟨_, _, rfl, hc⟩

set_option maxHeartbeats 400000 in
theorem Peek_none (h : HeapAt w hb lf lt F []) : Calls Try.prog 154 #[.pointer (some ⟨hb, 0, none⟩)] w fun e w' => e = .returned (.tuple #[.int .i64 0, .int .i64 0, .int .i64 14]) ∧ Below w.heap.size w w' := by
  obtain ⟨v, mb, A, f, hraw, _, _, hperm, _⟩ := h
  obtain ⟨a, cap, rfl, hc⟩ := slice_len hraw
  have hA : A = [] := by rw [← List.length_eq_zero_iff, hperm.length_eq]; rfl
  subst hA
  clear hraw hperm
  go_enter Try.func154, Try.ntmps154
  go_wp2
  go_ret3
  exact ⟨rfl, Below.refl _ _⟩

set_option maxRecDepth 100000 in
set_option maxHeartbeats 1000000 in
theorem Peek_some (HL : LessI lf lt) {x1 x2 : Int} {R : List (It Int)} (h : HeapAt w hb lf lt F ((x1, x2) :: R)) (hs : Sorted lt ((x1, x2) :: R)) :
    Calls Try.prog 154 #[.pointer (some ⟨hb, 0, none⟩)] w fun e w' => e = .returned (.tuple #[.int .i64 x1, .int .i64 x2, .int .i64 0]) ∧ Below w.heap.size w w' := by
  obtain ⟨v, mb, A, f, hraw, hheap, _, hperm, _⟩ := h
  have hx := hheap.head HL.swo hperm hs
  have hl : 0 < A.length := by rw [hperm.length_eq]; simp
  have hx0 : A[0]? = some (x1, x2) := by rw [getD_of hl] at hx; rw [List.getElem?_eq_getElem hl, hx]
  have hc1 := hraw.c1
  obtain ⟨g, cap, rfl, d0, d1, _⟩ := hraw.cell hx0
  simp only [Nat.zero_mul, Nat.zero_add] at d0 d1
  have hlI : (0 : Int) < (A.length : Int) := by omega
  have hne : ¬ ((A.length : Int) = 0) := by omega
  have hlt := hraw.lt
  have hnil : A ≠ [] := by intro e; rw [e] at hl; simp at hl
  clear hraw hheap hperm hx hx0 hs
  go_enter Try.func154, Try.ntmps154
  go_wp2_with fail
  refine wp_region_loose (fun A' => Below w.heap.size w A') (by kernel_rfl) (by kernel_rfl) ((Below.refl _ w).drew) ?_
  iterate 17 (first
    | (refine loose_val (v := ?_) (by rfl) ?_ ?_; rotate_left; (focus (intro A' hA'; have q1 := zatB hc1 hA'; have q2 := zatB d0 hA'; have q3 := zatB d1 hA'; go_simp; first | done | with_reducible rfl)); simp only [Act.put, List.setIfInBounds_toArray, List.set_cons_zero, List.set_cons_succ]))
  refine loose_nil ?_
  intro wz hz
  go_wp2_with fail
  go_ret3
  exact ⟨rfl, hz⟩

theorem HeapAt.place {id k : Int} {v : Value} {mb : Nat} {A : List (It Int)} {f : Int → Option Nat} (_hraw : Raw w hb lf v mb A A.length f) (hpos : Pos A (0, 0) f) (hperm : A.Perm M) (hm : (id, k) ∈ M) : ∃ i, A[i]? = some (id, k) ∧ f id = some i := by
  obtain ⟨i, hi, e⟩ := List.mem_iff_getElem.1 (hperm.mem_iff.2 hm)
  refine ⟨i, by rw [List.getElem?_eq_getElem hi, e], ?_⟩
  have := hpos.1 i hi
  rwa [getD_of hi, e] at this

set_option maxHeartbeats 400000 in
theorem Drop_none (h : HeapAt w hb lf lt F M) {id : Int} (hwf : (Lit.int .i64 id).wf = true) (hn : ∀ x ∈ M, x.1 ≠ id) : Calls Try.prog 155 #[.pointer (some ⟨hb, 0, none⟩), .int .i64 id] w fun e w' => e = .returned (.tuple #[.int .i64 0, .int .i64 14]) ∧ w = w' := by
  obtain ⟨v, mb, A, f, hraw, _, hpos, hperm, _⟩ := h
  have hth := there_none hraw hwf (hpos.none_iff.2 fun x hx => hn x (hperm.mem_iff.1 hx))
  have HTh := Lib.hid hth
  clear hraw hpos hperm hth
  go_enter Try.func155, Try.ntmps155
  go_wp2_with (first | (go_at_call 152; refine HTh.out.mono ?_; rintro e w' ⟨rfl, rfl⟩))
  go_ret2
  exact ⟨rfl, rfl⟩

theorem func_eq (lf : Nat) (w : World) : (binOp BinOp.eql 156 (.func (.func lf) #[] #[]) .nilFunc).run Try.prog w = .ok (.bool false) w := by kernel_rfl

set_option maxRecDepth 100000 in
set_option maxHeartbeats 400000 in
theorem New_ok {lf : Nat} (lt : Int → Int → Bool) (w : World) : Calls Try.prog 112 #[.func (.func lf) #[] #[]] w fun e w' => ∃ hb F, e = .returned (.tuple #[.pointer (some ⟨hb, 0, none⟩), .int .i64 0]) ∧ HeapAt w' hb lf lt F [] ∧ Below w.heap.size w w' ∧ ∀ j, F j → w.heap.size ≤ j := by
  have hmm := @run_makeMap Try.prog
  have hfe := func_eq lf
  go_enter Try.func112, Try.ntmps112
  go_wp2
  go_ret2
  refine ⟨w.heap.size + 1, fun j => j = w.heap.size + 1 ∨ j = w.heap.size, ?_, ⟨.slice none 0 0, w.heap.size, [], fun _ => none, ⟨?_, World.ownsRow_nil _ _ _ _, ?_⟩, ?_, ?_, List.Perm.refl _, by simp, .inl rfl, ?_, ?_⟩, ?_, ?_⟩
  · rfl
  · have e : w.heap.size + 1 = (w.alloc (.map #[] 0)).heap.size := by simp
    rw [e]
    exact heap_alloc_new _ _
  · exact (mapT_made w Try.prog 3).of_same (by rw [Below.heap_alloc _ _ _ (by simp)])
  · intro j h0 hj; simp at hj
  · exact ⟨fun k hk => by simp at hk, fun y v hy => by cases hy⟩
  · rintro j (hj | rfl)
    · simp [Value.ownBlock] at hj
    · exact .inr rfl
  · rintro j (rfl | rfl)
    · simp
    · simp; omega
  · exact ((Below.refl _ w).alloc (Nat.le_refl _) _).alloc (by simp) _
  · rintro j (rfl | rfl) <;> omega

set_option maxHeartbeats 400000 in
theorem Put_there (h : HeapAt w hb lf lt F M) {id k0 k : Int} (hm : (id, k0) ∈ M) : Calls Try.prog 116 #[.pointer (some ⟨hb, 0, none⟩), .int .i64 id, .int .i64 k] w fun e w' => e = .returned (.int .i64 15) ∧ w = w' := by
  have hwf := (h.ids _ hm).2
  have h0 := (h.ids _ hm).1
  dsimp only at h0
  obtain ⟨v, mb, A, f, hraw, _, hpos, hperm, _⟩ := h
  obtain ⟨i, hi, hf⟩ := HeapAt.place hraw hpos hperm hm
  have hth := there_some hraw hwf hf
  have hbad : (id < 0) = False := by simp; exact h0
  have HTh := Lib.hid hth
  clear hraw hpos hperm hth hi hf
  go_enter Try.func116, Try.ntmps116
  go_wp2_with (first | (go_at_call 152; refine HTh.out.mono ?_; rintro e w' ⟨rfl, rfl⟩))
  go_ret
  exact ⟨rfl, rfl⟩
set_option maxHeartbeats 400000 in
theorem Put_bad (h : HeapAt w hb lf lt F M) {id k : Int} (hwf : (Lit.int .i64 id).wf = true) (hn : id < 0) : Calls Try.prog 116 #[.pointer (some ⟨hb, 0, none⟩), .int .i64 id, .int .i64 k] w fun e w' => e = .returned (.int .i64 1) ∧ w = w' := by
  have hids := h.ids
  obtain ⟨v, mb, A, f, hraw, _, hpos, hperm, _⟩ := h
  have hth := there_none hraw hwf (hpos.none_iff.2 fun x hx e => by have := (hids x (hperm.mem_iff.1 hx)).1; omega)
  have HTh := Lib.hid hth
  clear hraw hpos hperm hth
  go_enter Try.func116, Try.ntmps116
  go_wp2_with (first | (go_at_call 152; refine HTh.out.mono ?_; rintro e w' ⟨rfl, rfl⟩))
  go_ret
  exact ⟨rfl, rfl⟩
end
end Go.Proofs.Ytkjpkhpiojahkaa

/-! ### Walks: Drop, Take. -/
namespace Go.Proofs.Ytkjpkhpiojahkaa
set_option linter.unusedVariables false
open Go.RowKit Hp

theorem flat_take {β : Type} (g : β → List Value) (sz : Nat) (hg : ∀ x, (g x).length = sz) : ∀ (A : List β) (m : Nat), m ≤ A.length → (A.take m).flatMap g = (A.flatMap g).take (m * sz)
  | A, 0, _ => by simp
  | [], m + 1, h => by simp at h
  | a :: A, m + 1, h => by
    rw [List.take_succ_cons, List.flatMap_cons, List.flatMap_cons, flat_take g sz hg A m (by simpa using h), List.take_append, hg]
    have h1 : (m + 1) * sz - sz = m * sz := by rw [Nat.succ_mul]; omega
    rw [h1, List.take_of_length_le (l := g a) (by rw [hg, Nat.succ_mul]; omega)]

/-- what a call on a heap leaves, on the same blocks -/
def HeapSame (w w' : World) (hb lf : Nat) (lt : Int → Int → Bool) (F : Nat → Prop) (M : List (It Int)) : Prop := HeapAt w' hb lf lt F M ∧ Mod F w w'
theorem HeapSame.go {w w' : World} {hb lf : Nat} {lt : Int → Int → Bool} {F : Nat → Prop} {M : List (It Int)} (h : HeapSame w w' hb lf lt F M) : HeapTo w w' hb lf lt F M := ⟨F, h.1, h.2, fun _ h => .inl h⟩

section
variable {w : World} {hb lf : Nat} {lt : Int → Int → Bool} {F : Nat → Prop} {M : List (It Int)}

set_option maxRecDepth 100000 in
set_option maxHeartbeats 4000000 in
theorem Drop_same (HL : LessI lf lt) (h : HeapAt w hb lf lt F M) {id k : Int} (hm : (id, k) ∈ M) (hM : M.length < 1000000) :
    Calls Try.prog 155 #[.pointer (some ⟨hb, 0, none⟩), .int .i64 id] w fun e w' => e = .returned (.tuple #[.int .i64 k, .int .i64 0]) ∧ HeapSame w w' hb lf lt F (M.erase (id, k)) := by
  have hwf := (h.ids _ hm).2
  obtain ⟨v, mb, A, f, hraw, hheap, hpos, hperm, hids, hF1, hF2, hF3⟩ := h
  obtain ⟨i, hi, hf⟩ := HeapAt.place hraw hpos hperm hm
  have hth := there_some hraw hwf hf
  have hc1 := hraw.c1
  have hc2 := hraw.c2
  have hlt := hraw.lt
  have hil := (List.getElem?_eq_some_iff.1 hi).1
  have hAl : A.length < 1000000 := by rw [hperm.length_eq]; exact hM
  obtain ⟨last, hlast⟩ : ∃ last, last + 1 = A.length := ⟨A.length - 1, by omega⟩
  obtain ⟨⟨x1, x2⟩, hx⟩ : ∃ x, A[last]? = some x := ⟨_, List.getElem?_eq_getElem (by omega)⟩
  have hxd : A.getD last (0, 0) = (x1, x2) := by rw [getD_of (by omega)]; rw [List.getElem?_eq_getElem (by omega)] at hx; exact Option.some.inj hx
  have hyd : A.getD i (0, 0) = (id, k) := by rw [getD_of (by omega)]; rw [List.getElem?_eq_getElem (by omega)] at hi; exact Option.some.inj hi
  obtain ⟨g, cap, rfl, d0, d1, _⟩ := hraw.cell hi
  obtain ⟨d2, d3⟩ := hraw.at hx
  dsimp only at d0 d1
  have hcap : A.length ≤ cap := by
    rcases own_parts hraw.row with ⟨hv, _⟩ | ⟨g', cap', cur, hv, _, _, h1, _⟩
    · cases hv
    · injection hv with _ _ h2; subst h2; exact h1
  have hfree : w.frozen? ⟨hb, 1, none⟩ = false := by simp [World.frozen?, hraw.st]
  obtain ⟨W, hW⟩ : ∃ W, w.alloc (.cells #[.int .i64 x1, .int .i64 x2] 202) = W := ⟨_, rfl⟩
  have hbW : Below w.heap.size w W := by rw [← hW]; exact (Below.refl _ w).alloc (Nat.le_refl _) _
  have b1 : W.cell? ⟨w.heap.size, 0, none⟩ = some (.int .i64 x1) := by rw [← hW, World.cell?_alloc_at _ _ _ _ rfl]; rfl
  have b2 : W.cell? ⟨w.heap.size, 1, none⟩ = some (.int .i64 x2) := by rw [← hW, World.cell?_alloc_at _ _ _ _ rfl]; rfl
  have k1 := zatB hc1 hbW
  have k2 := zatB hc2 hbW
  have k3 : W.frozen? ⟨hb, 1, none⟩ = false := by
    have : W.heap[hb]? = w.heap[hb]? := hbW.block _ hlt
    simp [World.frozen?, this, hraw.st]
  -- the row is cut, the number struck
  have hraw1 : ∀ W2, mapT W2 Try.prog 3 mb last (putN f id none) → Mod (fun j => j = mb) (W.setCell ⟨hb, 1, none⟩ (.slice (some ⟨g, 0, none⟩) last cap)) W2 →
      Raw W2 hb lf (.slice (some ⟨g, 0, none⟩) last cap) mb (A.take last) last (putN f id none) ∧ Mod F w W2 ∧ W2.cell? ⟨w.heap.size, 0, none⟩ = some (.int .i64 x1) ∧ W2.cell? ⟨w.heap.size, 1, none⟩ = some (.int .i64 x2) := fun W2 hmap hmd => by
    have hst : (W.setCell ⟨hb, 1, none⟩ (.slice (some ⟨g, 0, none⟩) last cap)).heap[hb]? = some (.cells #[.func (.func lf) #[] #[], .slice (some ⟨g, 0, none⟩) last cap, .map (some mb)] 199 (0, 0)) := by
      have := (hraw.below hbW).st
      simp [World.setCell, Array.getElem?_modify, this]
    have hset : Mod (fun j => j = hb) W (W.setCell ⟨hb, 1, none⟩ (.slice (some ⟨g, 0, none⟩) last cap)) := (Mod.refl (fun j => j = hb) W).setCell (p := ⟨hb, 1, none⟩) (fun _ => rfl) _
    have hgg := hraw.own_ne (j := g) rfl
    have htl : (A.take last).length = last := by rw [List.length_take]; omega
    refine ⟨⟨hmd.obj hst hraw.hb_mb, ?_, hmap⟩, ?_, ?_, ?_⟩
    · rw [htl, flat_take itC 2 itC_len A last (by omega)]
      have h1 := own_take (hraw.below hbW).row (m := last) (by omega)
      have h2 := own_same h1 (w' := W.setCell ⟨hb, 1, none⟩ (.slice (some ⟨g, 0, none⟩) last cap)) fun j o hj ho _ => hset.obj ho (by simp [Value.ownBlock] at hj; subst hj; exact hgg.1)
      exact own_same h2 fun j o hj ho _ => hmd.obj ho (by simp [Value.ownBlock] at hj; subst hj; exact hgg.2.1)
    · exact ((Mod.of_below (S := F) hbW).trans hset (fun j hj _ => by rw [hj]; exact hF1)).trans hmd (fun j hj _ => by rw [hj]; exact hF2 _ (.inr rfl))
    · exact hmd.cell (hset.cell b1 (fun e => by dsimp only at e; omega)) (fun e => by have := hraw.mb_lt; dsimp only at e; omega)
    · exact hmd.cell (hset.cell b2 (fun e => by dsimp only at e; omega)) (fun e => by have := hraw.mb_lt; dsimp only at e; omega)
  have hmapW : mapT (W.setCell ⟨hb, 1, none⟩ (.slice (some ⟨g, 0, none⟩) last cap)) Try.prog 3 mb A.length f := by
    have hset : Mod (fun j => j = hb) W (W.setCell ⟨hb, 1, none⟩ (.slice (some ⟨g, 0, none⟩) last cap)) := (Mod.refl (fun j => j = hb) W).setCell (p := ⟨hb, 1, none⟩) (fun _ => rfl) _
    exact ((hraw.below hbW).map).mod hset (fun e => hraw.hb_mb e.symm)
  have hn1 : (if (f id).isSome then A.length - 1 else A.length) = last := by rw [hf]; simp; omega
  have hfoot : ∀ j, Foot (.slice (some ⟨g, 0, none⟩) last cap) mb j → F j := fun j hj => hF2 j (by
    rcases hj with hj | hj
    · exact .inl (by simpa [Value.ownBlock] using hj)
    · exact .inr hj)
  have hfin : ∀ (w' : World) (A' : List (It Int)) (f' : Int → Option Nat), Mod F w w' → Raw w' hb lf (.slice (some ⟨g, 0, none⟩) last cap) mb A' last f' → A'.Perm (A.erase (id, k)) → IsHeap lt A' (0, 0) → Pos A' (0, 0) f' → HeapSame w w' hb lf lt F (M.erase (id, k)) := fun w' A' f' h1 h2 h3 h4 h5 => by
    have hl : A'.length = last := by rw [h3.length_eq, List.length_erase_of_mem (hperm.mem_iff.2 hm)]; omega
    exact ⟨⟨_, mb, A', f', by rw [hl]; exact h2, h4, h5, h3.trans (hperm.erase _), fun x hx => hids x (List.mem_of_mem_erase hx), hF1, hfoot, fun j hj => Nat.lt_of_lt_of_le (hF3 j hj) h1.size⟩, h1⟩
  have hi0 : (0 : Int) ≤ (i : Int) := by omega
  have hilI : (i : Int) < (A.length : Int) := by omega
  have hAI : (A.length : Int) = (last : Int) + 1 := by omega
  have hl0 : (0 : Int) ≤ (last : Int) := by omega
  have hlcap : (last : Int) ≤ (cap : Int) := by omega
  have hlaI : (last : Int) < (A.length : Int) := by omega
  have hlB : (last : Int) < 1000000 := by omega
  have hw1 : IntKind.i64.wrap ((A.length : Int) - 1) = (last : Int) := by rw [IntWalk.i64_in _ (by omega)]; omega
  have HTh := Lib.hid hth
  have HRaw1 := Lib.hid hraw1
  have HMapW := Lib.hid hmapW
  have HFin := Lib.hid hfin
  have HFoot := Lib.hid hfoot
  have HN1 := Lib.hid hn1
  have HWf := Lib.hid hwf
  have HHeap := Lib.hid hheap
  have HPos := Lib.hid hpos
  have HPerm := Lib.hid hperm
  have HIds := Lib.hid hids
  have HF := Lib.hid hf
  have HXd := Lib.hid hxd
  have HYd := Lib.hid hyd
  have HRaw := Lib.hid hraw
  clear hth hraw1 hmapW hfin hfoot hn1 hwf hheap hpos hperm hids hf hxd hyd hraw hF1 hF2 hF3 hm hi hx hbW b1 b2
  by_cases hlt2 : i < last
  · have hiL : (i : Int) < (last : Int) := by omega
    go_enter Try.func155, Try.ntmps155
    go_wp2_with (first | (go_at_call 152; refine HTh.out.mono ?_; rintro e w' ⟨rfl, rfl⟩) | (at_delete; refine wpList_delete_T _ rfl _ _ 182 3 rfl 3 Try.underlying3 Try.underlying182 mb A.length f rfl HMapW.out id rfl HWf.out ?_; intro W2 hm2 hmd2; rw [HN1.out] at hm2; obtain ⟨hr2, hmF, e1, e2⟩ := HRaw1.out W2 hm2 hmd2; have HR2 := Lib.hid hr2; have HMF := Lib.hid hmF; clear hm2 hmd2 hr2 hmF))
    have hx1w : (Lit.int .i64 x1).wf = true := (HIds.out (x1, x2) (HPerm.out.mem_iff.1 (by rw [← HXd.out, getD_of (by omega)]; exact List.getElem_mem _))).2
    have hit : i < (A.take last).length := by rw [List.length_take]; omega
    have htl : (A.take last).length = last := by rw [List.length_take]; omega
    have hset := set_any HR2.out hit x1 x2 hx1w (by unfold maxLen; omega) (by omega)
    have hx1i : x1 ≠ id := by
      intro e
      have := HPos.out.inj (j := last) (k := i) (by omega) (by omega) (by rw [HXd.out, HYd.out]; exact e)
      omega
    have hfx1 : f x1 = some last := by have := HPos.out.1 last (by omega); rwa [HXd.out] at this
    rw [show (putN f id none x1).isSome = true by rw [putN_other _ hx1i, hfx1]; rfl, if_pos rfl] at hset
    refine hset.mono ?_
    rintro e w3 ⟨rfl, hr3, hm3⟩
    have hbox : ∀ W3 W4 : World, Mod (Foot (.slice (some ⟨g, 0, none⟩) last cap) mb) W3 W4 → ∀ j u, W3.cell? ⟨w.heap.size, j, none⟩ = some u → W4.cell? ⟨w.heap.size, j, none⟩ = some u := fun W3 W4 hm j u hu =>
      hm.cell hu (fun hF => by have := HRaw.out.foot_lt (j := w.heap.size) (by
                                rcases hF with hj | hj
                                · exact .inl (by simpa [Value.ownBlock] using hj)
                                · exact .inr hj); omega)
    have hpos2 := HPos.out.mid hlt2 hlast
    rw [HXd.out, HYd.out] at hpos2
    have hperm2 := drop_mid hlt2 hlast (0, 0)
    rw [HXd.out, HYd.out] at hperm2
    have hup := up_then HL hr3 hit (HHeap.out.take last) hpos2 (fun y hy => by
      have := hperm2.mem_iff.1 hy
      exact (HIds.out y (HPerm.out.mem_iff.1 (List.mem_of_mem_erase this))).2) (by unfold maxLen; omega) (by omega)
    have g1 := hbox _ _ hm3 0 _ e1
    have g2 := hbox _ _ hm3 1 _ e2
    have HUp := Lib.hid hup
    have HM3 := Lib.hid (HMF.out.trans hm3 (fun j hj _ => HFoot.out j hj))
    have HBox := Lib.hid hbox
    have HPerm2 := Lib.hid hperm2
    clear hx1w hit htl hset hx1i hfx1 hr3 hm3 hpos2 hperm2 hup hbox e1 e2
    go_wp2_with fail
    refine HUp.out.mono ?_
    rintro e w4 ⟨rfl, A', f', i', hr4, hp4, hpos4, hm4, hi4, hfx4, hxe4, hdn4⟩
    have c4 := hr4.c2
    have g3 := HBox.out _ _ hm4 0 _ g1
    have hA'l : A'.length = last := by rw [hp4.length_eq, List.length_set, List.length_take]; omega
    have hlk : (Instr.lookup 182 (.map (some mb)) (.int .i64 x1) false).run Try.prog w4.drew = .ok (.int .i64 (i' : Int)) w4.drew := by
      have h0 : mapT w4.drew Try.prog 3 mb last f' := hr4.map.of_same rfl
      have := h0.toI.lookup (t := 182) (e := 3) Try.underlying3 Try.underlying182 (zero3 w4.drew) (x := x1) (by
        have := (HIds.out (x1, x2) (HPerm.out.mem_iff.1 (by rw [← HXd.out, getD_of (by omega)]; exact List.getElem_mem _))).2
        exact this)
      rw [lift_some hfx4] at this
      exact this
    have hdown := down_any HL (hr4.below ((Below.refl _ w4).drew)) hi4 hdn4 (hpos4.but hi4) (fun y hy => by
      have := HPerm2.out.mem_iff.1 (hp4.mem_iff.1 hy)
      exact (HIds.out y (HPerm.out.mem_iff.1 (List.mem_of_mem_erase this))).2) (by unfold maxLen; omega) (by omega)
    rw [hxe4, hfx4, show (some i').isSome = true from rfl, if_pos rfl] at hdown
    have HDown := Lib.hid hdown
    have HM4 := Lib.hid (HM3.out.trans hm4 (fun j hj _ => HFoot.out j hj))
    have HP4 := Lib.hid hp4
    clear hr4 hp4 hpos4 hm4 hi4 hfx4 hxe4 hdn4 hdown g1 g2 hA'l
    go_wp2_with fail
    go_region_with (first | (go_at_call 168; refine HDown.out.mono ?_; rintro e w5 ⟨rfl, A5, f5, hr5, hp5, hh5, hpos5, hm5⟩; have HTo := Lib.hid (HFin.out w5 A5 f5 (HM4.out.drew.trans hm5 (fun j hj _ => HFoot.out j hj)) hr5 (hp5.trans (HP4.out.trans HPerm2.out)) hh5 hpos5); clear hr5 hp5 hh5 hpos5 hm5))
    all_goals go_wp2_with fail
    all_goals go_ret2
    all_goals exact ⟨rfl, HTo.out⟩
  · have hil2 : i = last := by omega
    subst hil2
    have hiL : ¬ (i : Int) < (i : Int) := by omega
    have hxy := HXd.out.symm.trans HYd.out
    injection hxy with hxy1 hxy2
    subst hxy1
    subst hxy2
    go_enter Try.func155, Try.ntmps155
    go_wp2_with (first | (go_at_call 152; refine HTh.out.mono ?_; rintro e w' ⟨rfl, rfl⟩) | (at_delete; refine wpList_delete_T _ rfl _ _ 182 3 rfl 3 Try.underlying3 Try.underlying182 mb A.length f rfl HMapW.out x1 rfl HWf.out ?_; intro W2 hm2 hmd2; rw [HN1.out] at hm2; obtain ⟨hr2, hmF, e1, e2⟩ := HRaw1.out W2 hm2 hmd2; have HR2 := Lib.hid hr2; have HMF := Lib.hid hmF; clear hm2 hmd2 hr2 hmF))
    go_ret2
    refine ⟨rfl, HFin.out W2 _ _ HMF.out HR2.out ?_ (HHeap.out.take i) ?_⟩
    · have := drop_last hlast (0, 0)
      rwa [HYd.out] at this
    · have := HPos.out.take hlast
      rwa [HYd.out] at this

theorem Drop_some (HL : LessI lf lt) (h : HeapAt w hb lf lt F M) {id k : Int} (hm : (id, k) ∈ M) (hM : M.length < 1000000) :
    Calls Try.prog 155 #[.pointer (some ⟨hb, 0, none⟩), .int .i64 id] w fun e w' => e = .returned (.tuple #[.int .i64 k, .int .i64 0]) ∧ HeapTo w w' hb lf lt F (M.erase (id, k)) :=
  (Drop_same HL h hm hM).mono fun _ _ ⟨he, h⟩ => ⟨he, h.go⟩

set_option maxHeartbeats 400000 in
theorem Take_none (h : HeapAt w hb lf lt F []) : Calls Try.prog 118 #[.pointer (some ⟨hb, 0, none⟩)] w fun e w' => e = .returned (.tuple #[.int .i64 0, .int .i64 0, .int .i64 14]) ∧ Below w.heap.size w w' := by
  have HP := Lib.hid (Peek_none h)
  clear h
  go_enter Try.func118, Try.ntmps118
  go_wp2_with (first | (go_at_call 154; refine HP.out.mono ?_; rintro e w' ⟨rfl, hb1⟩; have HB := Lib.hid hb1; clear hb1))
  go_ret3
  exact ⟨rfl, HB.out⟩
set_option maxHeartbeats 400000 in
theorem Take_same (HL : LessI lf lt) {x1 x2 : Int} {R : List (It Int)} (h : HeapAt w hb lf lt F ((x1, x2) :: R)) (hs : Sorted lt ((x1, x2) :: R)) (hR : R.length < 999999) :
    Calls Try.prog 118 #[.pointer (some ⟨hb, 0, none⟩)] w fun e w' => e = .returned (.tuple #[.int .i64 x1, .int .i64 x2, .int .i64 0]) ∧ HeapSame w w' hb lf lt F R := by
  have HP := Lib.hid (Peek_some HL h hs)
  have HH := Lib.hid h
  clear h hs
  go_enter Try.func118, Try.ntmps118
  go_wp2_with fail
  refine HP.out.mono ?_
  rintro e w1 ⟨rfl, hb1⟩
  have hd := Drop_same HL (HH.out.below hb1) List.mem_cons_self (by simp; omega)
  rw [List.erase_cons_head] at hd
  have HD := Lib.hid hd
  have HB := Lib.hid hb1
  clear hd hb1
  go_wp2_with fail
  refine HD.out.mono ?_
  rintro e w2 ⟨rfl, h1, h2⟩
  have HTo := Lib.hid (show HeapSame w w2 hb lf lt F R from ⟨h1, (Mod.of_below HB.out).trans h2 (fun _ h _ => h)⟩)
  clear h1 h2
  go_wp2_with fail
  go_ret3
  exact ⟨rfl, HTo.out⟩
theorem Take_some (HL : LessI lf lt) {x1 x2 : Int} {R : List (It Int)} (h : HeapAt w hb lf lt F ((x1, x2) :: R)) (hs : Sorted lt ((x1, x2) :: R)) (hR : R.length < 999999) :
    Calls Try.prog 118 #[.pointer (some ⟨hb, 0, none⟩)] w fun e w' => e = .returned (.tuple #[.int .i64 x1, .int .i64 x2, .int .i64 0]) ∧ HeapTo w w' hb lf lt F R :=
  (Take_same HL h hs hR).mono fun _ _ ⟨he, h⟩ => ⟨he, h.go⟩
end
end Go.Proofs.Ytkjpkhpiojahkaa

/-! ### Walk: the chapter's example. -/
namespace Go.Proofs.Ytkjpkhpiojahkaa
set_option linter.unusedVariables false
open Go.RowKit Hp

/-- a heap, as a piece of memory -/
def heapA (hb lf : Nat) (lt : Int → Int → Bool) (M : List (It Int)) : Ast where
  holds w F := HeapAt w hb lf lt F M
  stable := fun h hm hS => h.mod hm hS
  lt := fun h hj => h.lt_F hj

abbrev H (hb : Nat) (M : List (It Int)) : Ast := heapA hb 113 ltI M

section
variable {w0 w : World} {hb : Nat} {M : List (It Int)} {R : Ast}
theorem H_perm {M' : List (It Int)} (hp : M.Perm M') (F : Nat → Prop) (h : (H hb M).holds w F) : (H hb M').holds w F := HeapAt.perm h hp
theorem H_put (h : On w0 w (sep (H hb M) R)) (id k : Int) (h0 : 0 ≤ id) (hw : (Lit.int .i64 id).wf = true) (hn : ∀ x ∈ M, x.1 ≠ id) (hM : M.length < 1000000) :
    Calls Try.prog 116 #[.pointer (some ⟨hb, 0, none⟩), .int .i64 id, .int .i64 k] w fun e w' => e = .returned (.int .i64 0) ∧ On w0 w' (sep (H hb ((id, k) :: M)) R) :=
  h.call1 (B := H hb ((id, k) :: M)) fun _ hF => Put_ok lessI hF id k h0 hw hn hM
theorem H_take {x1 x2 : Int} (h : On w0 w (sep (H hb ((x1, x2) :: M)) R)) (hs : Sorted ltI ((x1, x2) :: M)) (hM : M.length < 999999) :
    Calls Try.prog 118 #[.pointer (some ⟨hb, 0, none⟩)] w fun e w' => e = .returned (.tuple #[.int .i64 x1, .int .i64 x2, .int .i64 0]) ∧ On w0 w' (sep (H hb M) R) :=
  h.call1 (B := H hb M) fun _ hF => Take_some lessI hF hs hM
theorem H_take_none (h : On w0 w (sep (H hb []) R)) :
    Calls Try.prog 118 #[.pointer (some ⟨hb, 0, none⟩)] w fun e w' => e = .returned (.tuple #[.int .i64 0, .int .i64 0, .int .i64 14]) ∧ On w0 w' (sep (H hb []) R) :=
  h.call1 (B := H hb []) fun _ hF => (Take_none hF).mono fun _ _ ⟨he, hb⟩ => ⟨he, Step.below (A := H _ []) hF hb⟩
end
/-- nothing -/
def emp : Ast where
  holds _ F := ∀ j, ¬ F j
  stable := fun h _ _ => h
  lt := fun h hj => (h _ hj).elim
theorem On.emp (w : World) : On w w emp := ⟨fun _ => False, fun _ h => h, Below.refl _ _, fun _ h => h.elim⟩
theorem H_new {w0 w : World} {R : Ast} (h : On w0 w R) : Calls Try.prog 112 #[.func (.func 113) #[] #[]] w fun e w' => ∃ hb, e = .returned (.tuple #[.pointer (some ⟨hb, 0, none⟩), .int .i64 0]) ∧ On w0 w' (sep (H hb []) R) :=
  (New_ok ltI w).mono fun _ _ ⟨hb, F, he, h1, h2, h3⟩ => ⟨hb, he, h.add (B := H hb []) h2 h1 h3⟩

end Go.Proofs.Ytkjpkhpiojahkaa

/-! ### Walks: slices.Clone, maps.Clone, Copy.
  Walks: Copy; the iterators taken and All.
  Walks: All and its iterator. -/
/-! ### Walks: slices.Clone, maps.Clone, Copy. -/
namespace Go.Proofs.Ytkjpkhpiojahkaa
set_option linter.unusedVariables false
open Go.RowKit Hp

theorem eql_slice_nil {P : Program} {t e : TypeId} (h : P.underlying t = some (.slice e)) (a : Option Addr) (l c : Nat) (w : World) : (binOp .eql t (.slice a l c) (.slice none 0 0)).run P w = .ok (.bool a.isNone) w := by
  have h1 : ∀ d : Nat, (Op.equalIn (d + 1) t (.slice a l c) (.slice none 0 0)).run P w = .ok a.isNone w := fun d => by
    cases a <;> simp [Op.equalIn, run_underlying h]
  simp only [binOp]
  simp [Op.equal, Op.maxDepth, h1 9999]

set_option maxRecDepth 100000 in
set_option maxHeartbeats 1000000 in
theorem clone_map {w : World} {b n : Nat} {f : Int → Option Nat} (h : mapT w Try.prog 3 b n f) :
    Calls Try.prog 149 #[.map (some b)] w fun e w' => e = .returned (.map (some w.heap.size)) ∧ mapT w' Try.prog 3 w.heap.size n f ∧ Below w.heap.size w w' := by
  obtain ⟨D, ⟨es, clock, hb, r1⟩, r2⟩ := h
  have hq := fun w => run_eql_map_nil_sl (P := Try.prog) w 182 _ _ (some b) Try.underlying182
  go_enter Try.func149, Try.ntmps149
  go_wp2
  rw [run_callFunc_extern Try.func163 (by kernel_rfl) (by kernel_rfl) (by kernel_rfl) (e := Extern.MapsClone.clone) (by kernel_rfl), run_maps_clone_sl w 182 hb]
  simp only [Result.andThen]
  rw [Oper.upon_value]
  go_wp2
  rw [run_typeAssert_map_sl _ 182 20 _ _ _ Try.underlying182]
  simp only [Result.andThen]
  rw [Oper.upon_value]
  go_wp2
  go_ret
  exact ⟨rfl, ⟨D, ⟨es, clock, heap_alloc_new w _, r1⟩, r2⟩, (Below.refl _ w).alloc (Nat.le_refl _) _⟩
end Go.Proofs.Ytkjpkhpiojahkaa

/-! ### Walks: Copy; the iterators taken and All. -/
namespace Go.Proofs.Ytkjpkhpiojahkaa
set_option linter.unusedVariables false
open Go.RowKit Hp

section
variable {w : World} {hb lf : Nat} {lt : Int → Int → Bool} {F : Nat → Prop} {M : List (It Int)}

end

theorem HeapAt.keeps {w w' : World} {hb lf : Nat} {lt : Int → Int → Bool} {F R : Nat → Prop} {M : List (It Int)} (h : HeapAt w hb lf lt F M) (hk : Keeps R w w') (hR : ∀ j, F j → R j) : HeapAt w' hb lf lt F M := by
  obtain ⟨v, mb, A, f, h1, h2, h3, h4, h5, h6, h7, h8⟩ := h
  exact ⟨v, mb, A, f, ⟨hk.block _ _ h1.st rfl (hR _ h6), own_same h1.row fun j o hj ho hc => hk.block _ _ ho hc (hR _ (h7 j (.inl hj))), h1.map.of_obj fun o ho hc => hk.block _ _ ho hc (hR _ (h7 _ (.inr rfl)))⟩,
    h2, h3, h4, h5, h6, h7, fun j hj => Nat.lt_of_lt_of_le (h8 j hj) hk.size⟩

attribute [local go_sem] Oper.semAt_some

end Go.Proofs.Ytkjpkhpiojahkaa

/-! ### Walks: All and its iterator. -/
namespace Go.Proofs.Ytkjpkhpiojahkaa
set_option linter.unusedVariables false
open Go.RowKit Hp
attribute [local go_sem] Oper.semAt_some

theorem round_wide {m m' l l' : Nat} {P : Program} {fn : FuncId} {tmps : Array Value} {assign body : Code} {w : World} {R : Ending → World → Prop} (h : RoundIn Fence.wide m P l fn tmps assign body w R) :
    RoundIn (Fence.wide.inRound l') m' P l fn tmps assign body w R := ⟨trivial, fun c cs _ => h.2 c cs (room_wide _)⟩

end Go.Proofs.Ytkjpkhpiojahkaa

/-! ### A slice of ints that came in, as the walks want it. -/
namespace Go.Proofs.Ytkjpkhpiojahkaa
set_option linter.unusedVariables false
open Go.RowKit

/-- the numbers of a slice that came in -/
def IntsAt (w : World) (a : Option Addr) (zs : List Int) : Prop :=
  ∀ k, k < zs.length → ∃ b off, a = some ⟨b, off, none⟩ ∧ b < w.heap.size ∧ w.cell? ⟨b, off + k, none⟩ = some (.int .i64 (zs[k]?.getD 0))
theorem ret_bool {a b : Bool} (h : a = b) : Ending.returned (.bool a) = .returned (.bool b) := by rw [h]
theorem ret_int {k : IntKind} {a b : Int} (h : a = b) : Ending.returned (.int k a) = .returned (.int k b) := by rw [h]
theorem IntsAt.below {w w' : World} {B : Nat} {a : Option Addr} {zs : List Int} (h : IntsAt w a zs) (hB : w.heap.size ≤ B) (hb : Below B w w') : IntsAt w' a zs := by
  intro k hk
  obtain ⟨b, off, ha, h1, h2⟩ := h k hk
  exact ⟨b, off, ha, Nat.lt_of_lt_of_le h1 hb.size, (hb.cell (by show b < B; omega)).trans h2⟩

theorem IntsAt.row {w : World} {a : Option Addr} {zs : List Int} (h : IntsAt w a zs) (hl : zs.length ≠ 0) :
    ∃ b off, a = some ⟨b, off, none⟩ ∧ b < w.heap.size ∧ ∀ k, k < zs.length → w.cell? ⟨b, off + k, none⟩ = some (.int .i64 (zs[k]?.getD 0)) := by
  obtain ⟨b, off, ha, hb, _⟩ := h 0 (by omega)
  refine ⟨b, off, ha, hb, fun k hk => ?_⟩
  obtain ⟨b', off', ha', _, hc⟩ := h k hk
  rw [ha] at ha'
  cases ha'
  exact hc

/-- a slice of integers that came in: it is nil, or it leads to a row of 'cap' cells -/
def IsRow (k : IntKind) (w : World) (a : Option Addr) (len cap : Nat) (zs : List Int) : Prop :=
  (a = none ∧ len = 0 ∧ cap = 0 ∧ zs = []) ∨
  ∃ x, a = some x ∧ len ≤ cap ∧ cap ≤ maxLen ∧ zs.length = cap ∧ (∀ i, i < zs.length → w.cell? (x.add i) = some (.int k (zs.getD i 0))) ∧ ∀ n ∈ zs, (Lit.int k n).wf = true

theorem IsRow.ints {w : World} {a : Option Addr} {len cap : Nat} {zs : List Int} (h : IsRow .i64 w a len cap zs) :
    ∃ xs : List Int, xs.length = len ∧ IntsAt w a xs ∧ len ≤ cap ∧ ∀ x ∈ xs, (Lit.int .i64 x).wf = true := by
  rcases h with ⟨rfl, rfl, rfl, rfl⟩ | ⟨x, rfl, h1, h2, h3, h4, h5⟩
  · exact ⟨[], rfl, fun k hk => by simp at hk, Nat.le_refl _, by simp⟩
  · refine ⟨zs.take len, by rw [List.length_take]; omega, fun k hk => ?_, h1, fun y hy => h5 y (List.mem_of_mem_take hy)⟩
    rw [List.length_take] at hk
    have h0 := h4 0 (by omega)
    have hx : x.spot = none := by
      have hadd : x.add 0 = x := by unfold Addr.add; simp
      rw [hadd] at h0
      unfold World.cell? at h0
      split at h0
      · split at h0
        · cases h0
        · rename_i hs; simpa using hs
      · cases h0
    obtain ⟨b, off, spot⟩ := x
    dsimp only at hx
    subst hx
    have hk4 := h4 k (by omega)
    have ha : (⟨b, off, none⟩ : Addr).add k = ⟨b, off + k, none⟩ := by unfold Addr.add; split <;> simp_all
    rw [ha] at hk4
    refine ⟨b, off, rfl, World.block_lt_of_cell? w _ hk4, ?_⟩
    rw [hk4, List.getElem?_take_of_lt (by omega), List.getD]
end Go.Proofs.Ytkjpkhpiojahkaa

/-! ### Walk: the law HeapTakes. -/
namespace Go.Proofs.Ytkjpkhpiojahkaa
set_option linter.unusedVariables false
open Go.RowKit Hp

/-- a number and its key -/
def itm (zs : List Int) (j : Nat) : It Int := ((j : Int), zs[j]?.getD 0)
def La (zs : List Int) : Nat → List (It Int)
  | 0 => []
  | i + 1 => itm zs i :: La zs i
/-- going round from f on -/
def Lb (zs : List Int) (f : Nat) : Nat → List (It Int)
  | 0 => []
  | i + 1 => itm zs ((f + i) % zs.length) :: Lb zs f i
theorem mem_La {zs : List Int} {x : It Int} : ∀ {i : Nat}, x ∈ La zs i ↔ ∃ j, j < i ∧ x = itm zs j
  | 0 => by simp [La]
  | i + 1 => by
    rw [La, List.mem_cons, mem_La]
    constructor
    · rintro (h | ⟨j, h1, h2⟩)
      · exact ⟨i, by omega, h⟩
      · exact ⟨j, by omega, h2⟩
    · rintro ⟨j, h1, h2⟩
      by_cases e : j = i
      · subst e; exact .inl h2
      · exact .inr ⟨j, by omega, h2⟩
theorem mem_Lb {zs : List Int} {f : Nat} {x : It Int} : ∀ {i : Nat}, x ∈ Lb zs f i ↔ ∃ j, j < i ∧ x = itm zs ((f + j) % zs.length)
  | 0 => by simp [Lb]
  | i + 1 => by
    rw [Lb, List.mem_cons, mem_Lb]
    constructor
    · rintro (h | ⟨j, h1, h2⟩)
      · exact ⟨i, by omega, h⟩
      · exact ⟨j, by omega, h2⟩
    · rintro ⟨j, h1, h2⟩
      by_cases e : j = i
      · subst e; exact .inl h2
      · exact .inr ⟨j, by omega, h2⟩
theorem La_length (zs : List Int) : ∀ i, (La zs i).length = i
  | 0 => rfl
  | i + 1 => by rw [La, List.length_cons, La_length]
theorem Lb_length (zs : List Int) (f : Nat) : ∀ i, (Lb zs f i).length = i
  | 0 => rfl
  | i + 1 => by rw [Lb, List.length_cons, Lb_length]
theorem mod_inj {n f j k : Nat} (hj : j < n) (hk : k < n) (h : (f + j) % n = (f + k) % n) : j = k := by
  have h1 := Nat.div_add_mod (f + j) n
  have h2 := Nat.div_add_mod (f + k) n
  rw [h] at h1
  obtain ⟨a, ha⟩ : ∃ a, (f + j) / n = a := ⟨_, rfl⟩
  obtain ⟨b, hb⟩ : ∃ b, (f + k) / n = b := ⟨_, rfl⟩
  rw [ha] at h1
  rw [hb] at h2
  rcases Nat.lt_trichotomy a b with hlt | rfl | hgt
  · have : n * (a + 1) ≤ n * b := Nat.mul_le_mul_left n hlt
    rw [Nat.mul_succ] at this
    omega
  · omega
  · have : n * (b + 1) ≤ n * a := Nat.mul_le_mul_left n hgt
    rw [Nat.mul_succ] at this
    omega
theorem La_new {zs : List Int} {i : Nat} : ∀ x ∈ La zs i, x.1 ≠ (i : Int) := fun x hx => by
  obtain ⟨j, h1, rfl⟩ := mem_La.1 hx
  simp [itm]; omega
theorem Lb_new {zs : List Int} {f i : Nat} (hi : i < zs.length) : ∀ x ∈ Lb zs f i, x.1 ≠ (((f + i) % zs.length : Nat) : Int) := fun x hx e => by
  obtain ⟨j, h1, rfl⟩ := mem_Lb.1 hx
  simp only [itm] at e
  have := mod_inj (by omega) hi (Int.ofNat.inj e)
  omega
theorem La_distinct {zs : List Int} : ∀ i, (La zs i).Pairwise fun a b => a.1 ≠ b.1
  | 0 => List.Pairwise.nil
  | i + 1 => List.pairwise_cons.2 ⟨fun x hx => Ne.symm (La_new x hx), La_distinct i⟩
theorem Lb_distinct {zs : List Int} {f : Nat} : ∀ i, i ≤ zs.length → (Lb zs f i).Pairwise fun a b => a.1 ≠ b.1
  | 0, _ => List.Pairwise.nil
  | i + 1, h => List.pairwise_cons.2 ⟨fun x hx => Ne.symm (Lb_new (by omega) x hx), Lb_distinct i (by omega)⟩
theorem perm_of_sub : ∀ {l m : List (It Int)}, (l.Pairwise fun a b => a.1 ≠ b.1) → (∀ x ∈ l, x ∈ m) → m.length = l.length → l.Perm m
  | [], m, _, _, hl => by rw [List.length_eq_zero_iff.1 hl]
  | x :: l, m, hd, hs, hl => by
    have hx := hs x List.mem_cons_self
    have hp := List.perm_cons_erase hx
    have hd' := List.pairwise_cons.1 hd
    refine ((perm_of_sub hd'.2 (fun y hy => ?_) ?_).cons x).trans hp.symm
    · rcases List.mem_cons.1 (hp.mem_iff.1 (hs y (List.mem_cons_of_mem _ hy))) with h | h
      · exact absurd (by rw [h]) (hd'.1 y hy)
      · exact h
    · have := hp.length_eq
      simp at this hl
      omega
theorem Lb_perm {zs : List Int} {f : Nat} : (Lb zs f zs.length).Perm (La zs zs.length) :=
  perm_of_sub (Lb_distinct _ (Nat.le_refl _)) (fun x hx => by
    obtain ⟨j, h1, rfl⟩ := mem_Lb.1 hx
    exact mem_La.2 ⟨_, Nat.mod_lt _ (by omega), rfl⟩) (by rw [La_length, Lb_length])

/-- all, in order -/
def Srt (zs : List Int) : List (It Int) := srt ltI (La zs zs.length)
theorem Srt_perm (zs : List Int) : (Srt zs).Perm (La zs zs.length) := srt_perm _
theorem Srt_length (zs : List Int) : (Srt zs).length = zs.length := by rw [(Srt_perm zs).length_eq, La_length]
theorem Srt_sorted (zs : List Int) : Sorted ltI (Srt zs) := srt_sorted ltI_swo (La_distinct _)
theorem Srt_at {zs : List Int} {i : Nat} (hi : i < zs.length) : ∃ j, j < zs.length ∧ (Srt zs)[i]? = some (itm zs j) := by
  have hl : i < (Srt zs).length := by rw [Srt_length]; exact hi
  obtain ⟨j, h1, h2⟩ := mem_La.1 ((Srt_perm zs).mem_iff.1 (List.getElem_mem hl))
  exact ⟨j, h1, by rw [List.getElem?_eq_getElem hl, h2]⟩
/-- which numbers were seen -/
def seenL (n : Nat) (l : List (It Int)) : List Value := (List.range n).map fun (x : Nat) => Value.bool (decide ((x : Int) ∈ l.map (·.1)))
theorem seenL_length (n : Nat) (l : List (It Int)) : (seenL n l).length = n := by simp [seenL]
theorem seenL_at {n : Nat} {l : List (It Int)} {x : Nat} (hx : x < n) : (seenL n l)[x]? = some (.bool (decide ((x : Int) ∈ l.map (·.1)))) := by
  simp [seenL, hx]
theorem seenL_set {n : Nat} {l : List (It Int)} {x : Nat} {k : Int} (_hx : x < n) : (seenL n l).set x (.bool true) = seenL n (l ++ [((x : Int), k)]) := by
  apply List.ext_getElem?
  intro y
  rw [List.getElem?_set]
  by_cases h : x = y
  · subst h
    by_cases hx : x < n
    · rw [if_pos rfl, if_pos (by rw [seenL_length]; exact hx), seenL_at hx]
      simp
    · omega
  · rw [if_neg h]
    by_cases hy : y < n
    · rw [seenL_at hy, seenL_at hy]
      have : ((y : Int) ∈ (l ++ [((x : Int), k)]).map (·.1)) ↔ ((y : Int) ∈ l.map (·.1)) := by
        simp; omega
      simp only [this]
    · rw [List.getElem?_eq_none (by rw [seenL_length]; omega), List.getElem?_eq_none (by rw [seenL_length]; omega)]
theorem seen_not {zs : List Int} {i j : Nat} (hi : (Srt zs)[i]? = some (itm zs j)) : ¬ ((j : Int) ∈ ((Srt zs).take i).map (·.1)) := by
  intro hm
  obtain ⟨x, hx, he⟩ := List.mem_map.1 hm
  obtain ⟨hil, hie⟩ := List.getElem?_eq_some_iff.1 hi
  have hd : (Srt zs).Pairwise fun a b => a.1 ≠ b.1 := distinct_perm (Srt_perm zs).symm (La_distinct _)
  rw [← List.take_append_drop i (Srt zs), List.pairwise_append] at hd
  have := hd.2.2 x hx (itm zs j) (by rw [List.drop_eq_getElem_cons hil, hie]; exact List.mem_cons_self)
  exact this he

/-- the order of keys of servers -/
def bef (a b : Int × Int) : Bool := decide (a.1 < b.1) || (decide (a.1 = b.1) && decide (a.2 < b.2))
theorem before_any (a1 a2 b1 b2 : Int) (w : World) : Calls Try.prog 31 #[.agg #[.int .i64 a1, .int .i64 a2], .agg #[.int .i64 b1, .int .i64 b2]] w fun e w' => e = .returned (.bool (bef (a1, a2) (b1, b2))) ∧ Below w.heap.size w w' := by
  go_enter Try.func31, Try.ntmps31
  go_wp2
  all_goals go_ret
  all_goals refine ⟨ret_bool ?_, ((Below.refl _ w).alloc (Nat.le_refl _) _).alloc (by simp) _⟩
  all_goals simp [bef, *]

theorem bef_ahead {x y : It Int} (h : Hp.ahead ltI x y = true) : bef (x.2, x.1) (y.2, y.1) = true := by
  rw [ahead_iff] at h
  simp [bef, ltI] at *
  omega

theorem Try.info4 : (Try.prog.info? 4).map (fun i => (i.zero, i.size, i.bytes)) = some (some (.bool false), 1, 1) := by kernel_rfl
theorem made_false (n : Nat) : (madeCells (Value.bool false).cells (n * 1)).toList = seenL n [] := by
  have : seenL n [] = List.replicate n (.bool false) := by
    rw [List.eq_replicate_iff]
    refine ⟨seenL_length _ _, fun b hb => ?_⟩
    simp [seenL] at hb
    obtain ⟨_, _, rfl⟩ := hb
    rfl
  rw [this, List.eq_replicate_iff]
  refine ⟨by simp [madeCells], fun b hb => ?_⟩
  simp [madeCells, Value.cells] at hb
  obtain ⟨x, _, rfl⟩ := hb
  simp [Nat.mod_one]
/-- the last one that was taken -/
def lastC (l : List (It Int)) (i : Nat) : Array Value := if i = 0 then #[.int .i64 0, .int .i64 0] else #[.int .i64 (l.getD (i - 1) (0, 0)).2, .int .i64 (l.getD (i - 1) (0, 0)).1]

end Go.Proofs.Ytkjpkhpiojahkaa

/-! ### Walk: the law HeapDrops. -/
namespace Go.Proofs.Ytkjpkhpiojahkaa
set_option linter.unusedVariables false
open Go.RowKit Hp
attribute [local go_sem] Oper.semAt_some

/-- what is left when the first i, going round from f on, were dropped -/
def Rest (zs : List Int) (f : Nat) : Nat → List (It Int)
  | 0 => Srt zs
  | i + 1 => (Rest zs f i).erase (itm zs ((f + i) % zs.length))
theorem Rest_sub (zs : List Int) (f : Nat) : ∀ i, (Rest zs f i).Sublist (Srt zs)
  | 0 => List.Sublist.refl _
  | i + 1 => List.erase_sublist.trans (Rest_sub zs f i)
theorem Rest_sorted (zs : List Int) (f i : Nat) : Sorted ltI (Rest zs f i) := (Srt_sorted zs).sublist (Rest_sub zs f i)
theorem Srt_distinct (zs : List Int) : (Srt zs).Pairwise fun a b => a.1 ≠ b.1 := distinct_perm (Srt_perm zs).symm (La_distinct _)
theorem Rest_distinct (zs : List Int) (f i : Nat) : (Rest zs f i).Pairwise fun a b => a.1 ≠ b.1 := (Srt_distinct zs).sublist (Rest_sub zs f i)
theorem mem_Srt {zs : List Int} {x : It Int} (h : x ∈ Srt zs) : ∃ j, j < zs.length ∧ x = itm zs j := mem_La.1 ((Srt_perm zs).mem_iff.1 h)
theorem itm_mem {zs : List Int} {j : Nat} (h : j < zs.length) : itm zs j ∈ Srt zs := (Srt_perm zs).mem_iff.2 (mem_La.2 ⟨j, h, rfl⟩)
theorem Rest_mem {zs : List Int} {f : Nat} : ∀ {i k : Nat}, i ≤ k → k < zs.length → itm zs ((f + k) % zs.length) ∈ Rest zs f i
  | 0, k, _, hk => itm_mem (Nat.mod_lt _ (by omega))
  | i + 1, k, hik, hk => by
    rw [Rest]
    refine (List.mem_erase_of_ne fun e => ?_).2 (Rest_mem (by omega) hk)
    have := mod_inj (f := f) (j := k) (k := i) hk (by omega) (Int.ofNat.inj (congrArg Prod.fst e))
    omega
theorem Rest_len {zs : List Int} {f : Nat} : ∀ {i : Nat}, i ≤ zs.length → (Rest zs f i).length = zs.length - i
  | 0, _ => Srt_length zs
  | i + 1, h => by
    rw [Rest, List.length_erase_of_mem (Rest_mem (Nat.le_refl _) h), Rest_len (by omega)]
    omega
theorem erase_gone {l : List (It Int)} (hd : l.Pairwise fun a b => a.1 ≠ b.1) {y : It Int} (hy : y ∈ l) : ∀ x ∈ l.erase y, x.1 ≠ y.1 := by
  have hp := List.perm_cons_erase hy
  have := distinct_perm hp hd
  intro x hx
  exact Ne.symm ((List.pairwise_cons.1 this).1 x hx)
theorem Rest_at {zs : List Int} {f i k : Nat} {x : It Int} (h : (Rest zs f i)[k]? = some x) : ∃ j, j < zs.length ∧ x = itm zs j := by
  obtain ⟨hk, he⟩ := List.getElem?_eq_some_iff.1 h
  exact mem_Srt ((Rest_sub zs f i).subset (by rw [← he]; exact List.getElem_mem hk))

theorem pick_shape {S : (Nat → Value) → Act} {a : Act} {R : Prop} (h : a = S (fun k => a.tmps.toList.getD k undef)) (hr : R) : ∃ g, a = S g ∧ R := ⟨_, h, hr⟩

/-- the key of the one that was gone through last -/
def lastP (l : List (It Int)) : Array Value := match l.getLast? with
  | none => #[.int .i64 0, .int .i64 0]
  | some x => #[.int .i64 x.2, .int .i64 x.1]
theorem lastP_snoc (l : List (It Int)) (x : It Int) : lastP (l ++ [x]) = #[.int .i64 x.2, .int .i64 x.1] := by simp [lastP]

theorem heap_setCell_at {w : World} {b k : Nat} {cs : Array Value} {t : Nat} {fr : Nat × Nat} {v : Value} (h : w.heap[b]? = some (.cells cs t fr)) : (w.setCell ⟨b, k, none⟩ v).heap[b]? = some (.cells (cs.setIfInBounds k v) t fr) := by
  simp [World.setCell, Array.getElem?_modify, h]
theorem heap_setCell_other' {w : World} {p : Addr} {k : Nat} {o : Obj} {v : Value} (h : w.heap[k]? = some o) (hk : k ≠ p.block) : (w.setCell p v).heap[k]? = some o := by
  rw [Below.heap_setCell _ _ _ _ hk]; exact h

/-- blocks of book-keeping that wait -/
def markA (B : Nat) (Ds : List Nat) : Ast where
  holds w F := (∀ D ∈ Ds, w.heap[D]? = some (.deferred (some [])) ∧ B ≤ D) ∧ Ds.Nodup ∧ ∀ j, ¬ F j
  stable := fun ⟨h1, h2, h3⟩ hm _ => ⟨fun D hD => ⟨hm.block D _ (h1 D hD).1 (.inl rfl), (h1 D hD).2⟩, h2, h3⟩
  lt := fun ⟨_, _, h⟩ hj => (h _ hj).elim
theorem On.emp' {w0 w : World} {A : Ast} (B : Nat) (h : On w0 w A) : On w0 w (sep A (markA B [])) := by
  obtain ⟨F, h1, h2, h3⟩ := h
  exact ⟨F, ⟨F, fun _ => False, h1, ⟨by simp, by simp, fun _ h => h⟩, fun _ _ h => h, fun j => by simp⟩, h2, h3⟩

def mk (D : Nat) : Deferred := { target := .collected D, args := #[] }
theorem leaves_marks {F : Fence} {n : Nat} {P : Program} {fn : Func} {tmps : Array Value} {R : Ending → World → Prop} (B : Nat) : ∀ (Ds : List Nat) (W : World), Ds.Nodup →
    (∀ D ∈ Ds, W.heap[D]? = some (.deferred (some [])) ∧ B ≤ D) →
    (∀ W', Mv none' B W W' → ∃ v, (results fn tmps).run P W' = .ok v W' ∧ R (.returned v) W') → LeavesInM F n P fn tmps R (Ds.map mk) .returning W := by
  intro Ds
  induction Ds with
  | nil =>
    intro W _ _ h
    exact h W ((Mod.refl none' W).mv B)
  | cons D Ds ih =>
    intro W hnd hD h
    rw [List.nodup_cons] at hnd
    obtain ⟨hD1, hD2⟩ := hD D (by simp)
    refine ⟨by simp, .inl ⟨D, _, rfl, run_takeDeferred hD1, ?_⟩⟩
    have hmv : Mv none' B W (W.putObj D (.deferred none)) := Mv.putObj W D _ _ hD1 rfl hD2
    refine ih _ hnd.2 (fun E hE => ?_) (fun W' hW' => h W' (hmv.trans hW'))
    have := hD E (by simp [hE])
    refine ⟨?_, this.2⟩
    rw [World.putObj_heap_other (fun e => hnd.1 (by rw [← e]; exact hE))]
    exact this.1

theorem world_setCell_same {w : World} {p : Addr} {u : Value} (h : w.cell? p = some u) (v : Value) : (w.setCell p v).cell? p = some v := World.cell?_setCell_same' _ _ _ (by rw [h]; rfl)

theorem H_drop {w0 w : World} {hb : Nat} {M : List (It Int)} {R : Ast} (h : On w0 w (sep (H hb M) R)) {id k : Int} (hm : (id, k) ∈ M) (hM : M.length < 1000000) :
    Calls Try.prog 155 #[.pointer (some ⟨hb, 0, none⟩), .int .i64 id] w fun e w' => e = .returned (.tuple #[.int .i64 k, .int .i64 0]) ∧ On w0 w' (sep (H hb (M.erase (id, k))) R) :=
  h.call1 (B := H hb (M.erase (id, k))) fun _ hF => Drop_some lessI hF hm hM

end Go.Proofs.Ytkjpkhpiojahkaa
