/-
  Walks: the orders of keys, heap.ahead.
  What a heap is in memory; the walk of set.
  Walks: there, up.
-/
import Derived.Test.YtkjpkhpiojahkaaProg
import Derived.Test.YtkjpkhpiojahkaaBase
import Derived.WalkKit
import Derived.LoopTactic
import Derived.IntWalk
import Derived.Lib.Hide
import Derived.ProofKit
import Derived.Deep.RegionHeld3
import Derived.Shelf.Abstract
import Derived.Test.YtkjpkhpiojahkaaW4
import Derived.Test.YtkjpkhpiojahkaaRow
import Derived.BigRegion
import Derived.Sort.LoopGhostIn
/-! ### Walks: the orders of keys, heap.ahead. -/
namespace Go.Proofs.Ytkjpkhpiojahkaa.Ke
set_option linter.unusedVariables false
open Go.RowKit Hp

/-- function lf tells whether a key is less than another one -/
structure LessI (lf : Nat) (lt : (Int × Int) → (Int × Int) → Bool) : Prop where
  enters : Enters Try.prog lf
  call : ∀ (x y : Int × Int) (w : World), Calls Try.prog lf #[.agg #[.int .i64 x.1, .int .i64 x.2], .agg #[.int .i64 y.1, .int .i64 y.2]] w fun e w' => e = .returned (.bool (lt x y)) ∧ Below w.heap.size w w'
  swo : Swo lt

/-- the order of keys of servers: by their times, and then by their numbers -/
def bef (a b : Int × Int) : Bool := decide (a.1 < b.1) || (decide (a.1 = b.1) && decide (a.2 < b.2))
theorem bef_iff (a b : Int × Int) : bef a b = true ↔ a.1 < b.1 ∨ (a.1 = b.1 ∧ a.2 < b.2) := by simp [bef]
theorem nbef_iff (a b : Int × Int) : bef a b = false ↔ b.1 < a.1 ∨ (a.1 = b.1 ∧ b.2 ≤ a.2) := by
  rw [← Bool.not_eq_true, bef_iff]; omega
theorem bef_swo : Swo bef := ⟨fun a => by rw [nbef_iff]; omega, fun a b c h1 h2 => by rw [bef_iff] at *; omega, fun a b c h1 h2 => by rw [nbef_iff] at *; omega⟩
theorem before_any (a1 a2 b1 b2 : Int) (w : World) : Calls Try.prog 31 #[.agg #[.int .i64 a1, .int .i64 a2], .agg #[.int .i64 b1, .int .i64 b2]] w fun e w' => e = .returned (.bool (bef (a1, a2) (b1, b2))) ∧ Below w.heap.size w w' := by
  go_enter Try.func31, Try.ntmps31
  go_wp2
  all_goals go_ret
  all_goals refine ⟨ret_bool ?_, ((Below.refl _ w).alloc (Nat.le_refl _) _).alloc (by simp) _⟩
  all_goals simp [bef, *]
theorem lessB : LessI 31 bef := ⟨enters_of Try.func31 (by kernel_rfl) rfl, fun x y w => before_any x.1 x.2 y.1 y.2 w, bef_swo⟩

theorem LessI.bool {lf : Nat} {lt : (Int × Int) → (Int × Int) → Bool} (h : LessI lf lt) {x y : Int × Int} {r : Bool} (hr : lt x y = r) (w : World) : Calls Try.prog lf #[.agg #[.int .i64 x.1, .int .i64 x.2], .agg #[.int .i64 y.1, .int .i64 y.2]] w fun e w' => e = .returned (.bool r) ∧ Below w.heap.size w w' := by
  subst hr
  exact h.call x y w

theorem zatB2 {w w' : World} {p q : Addr} {u v : Value} (h : w.cell? p = some u ∧ w.cell? q = some v) (hb : Below w.heap.size w w') : w'.cell? p = some u ∧ w'.cell? q = some v := ⟨zatB h.1 hb, zatB h.2 hb⟩

set_option maxRecDepth 100000 in
set_option maxHeartbeats 4000000 in
theorem ahead_any {lf : Nat} {lt : (Int × Int) → (Int × Int) → Bool} (HL : LessI lf lt) (hb : Nat) (x1 : Int) (x2 : Int × Int) (y1 : Int) (y2 : Int × Int) (w : World) (hf : w.cell? ⟨hb, 0, none⟩ = some (.func (.func lf) #[] #[])) :
    Calls Try.prog 162 #[.pointer (some ⟨hb, 0, none⟩), .agg #[.int .i64 x1, .int .i64 x2.1, .int .i64 x2.2], .agg #[.int .i64 y1, .int .i64 y2.1, .int .i64 y2.2]] w fun e w' => e = .returned (.bool (Hp.ahead lt (x1, x2) (y1, y2))) ∧ Below w.heap.size w w' := by
  obtain ⟨r1, h1⟩ : ∃ r1, lt x2 y2 = r1 := ⟨_, rfl⟩
  obtain ⟨r2, h2⟩ : ∃ r2, lt y2 x2 = r2 := ⟨_, rfl⟩
  have hah : Hp.ahead lt (x1, x2) (y1, y2) = (r1 || (!r2 && decide (x1 < y1))) := by
    simp only [Hp.ahead, h1, h2]
  rw [hah]
  have C1 := Lib.hid (HL.bool h1)
  have C2 := Lib.hid (HL.bool h2)
  have hE : ∀ (args : Array Value) (w : World), (callFunc lf args).run Try.prog w = .ok (.enter lf args) w := HL.enters
  have hlt : hb < w.heap.size := World.block_lt_of_cell? w _ hf
  clear h1 h2 hah HL
  go_enter Try.func162, Try.ntmps162
  go_wp2_with fail
  obtain ⟨W, hW⟩ : ∃ W, ((w.alloc (.cells #[.int .i64 x1, .int .i64 x2.1, .int .i64 x2.2] 191)).alloc (.cells #[.int .i64 y1, .int .i64 y2.1, .int .i64 y2.2] 191)) = W := ⟨_, rfl⟩
  have hbW : Below w.heap.size w W := by
    rw [← hW]
    exact ((Below.refl _ w).alloc (Nat.le_refl _) _).alloc (by simp) _
  have hsz : W.heap.size = w.heap.size + 2 := by rw [← hW]; simp
  have c0 : W.cell? ⟨hb, 0, none⟩ = some (.func (.func lf) #[] #[]) := by
    rw [← hW, World.cell?_alloc_past _ _ _ (by simp; omega), World.cell?_alloc_past _ _ _ (by simpa using hlt)]; exact hf
  have c1 : W.cell? ⟨w.heap.size, 0, none⟩ = some (.int .i64 x1) := by
    rw [← hW, World.cell?_alloc_past _ _ _ (by simp), World.cell?_alloc_at _ _ _ _ rfl]; rfl
  have c2 : (W.cell? ⟨w.heap.size, 1, none⟩ = some (.int .i64 x2.1) ∧ W.cell? ⟨w.heap.size, 2, none⟩ = some (.int .i64 x2.2)) := by
    constructor <;> (rw [← hW, World.cell?_alloc_past _ _ _ (by simp), World.cell?_alloc_at _ _ _ _ rfl]; rfl)
  have c3 : W.cell? ⟨w.heap.size + 1, 0, none⟩ = some (.int .i64 y1) := by
    rw [← hW, World.cell?_alloc_at _ _ _ _ (by simp)]; rfl
  have c4 : (W.cell? ⟨w.heap.size + 1, 1, none⟩ = some (.int .i64 y2.1) ∧ W.cell? ⟨w.heap.size + 1, 2, none⟩ = some (.int .i64 y2.2)) := by
    constructor <;> (rw [← hW, World.cell?_alloc_at _ _ _ _ (by simp)]; rfl)
  rw [hW]
  obtain ⟨C, hC⟩ : ∃ C : World → Prop, C = fun A => (A.cell? ⟨hb, 0, none⟩ = some (.func (.func lf) #[] #[]) ∧ A.cell? ⟨w.heap.size, 0, none⟩ = some (.int .i64 x1) ∧ (A.cell? ⟨w.heap.size, 1, none⟩ = some (.int .i64 x2.1) ∧ A.cell? ⟨w.heap.size, 2, none⟩ = some (.int .i64 x2.2)) ∧ A.cell? ⟨w.heap.size + 1, 0, none⟩ = some (.int .i64 y1) ∧ (A.cell? ⟨w.heap.size + 1, 1, none⟩ = some (.int .i64 y2.1) ∧ A.cell? ⟨w.heap.size + 1, 2, none⟩ = some (.int .i64 y2.2))) ∧ Below w.heap.size w A := ⟨_, rfl⟩
  have hCa : ∀ A, C A → A.cell? ⟨hb, 0, none⟩ = some (.func (.func lf) #[] #[]) ∧ A.cell? ⟨w.heap.size, 0, none⟩ = some (.int .i64 x1) ∧ (A.cell? ⟨w.heap.size, 1, none⟩ = some (.int .i64 x2.1) ∧ A.cell? ⟨w.heap.size, 2, none⟩ = some (.int .i64 x2.2)) ∧ A.cell? ⟨w.heap.size + 1, 0, none⟩ = some (.int .i64 y1) ∧ (A.cell? ⟨w.heap.size + 1, 1, none⟩ = some (.int .i64 y2.1) ∧ A.cell? ⟨w.heap.size + 1, 2, none⟩ = some (.int .i64 y2.2)) := fun A h => by rw [hC] at h; exact h.1
  have hCb : ∀ A, C A → Below w.heap.size w A := fun A h => by rw [hC] at h; exact h.2
  have hCn : ∀ A wz, C A → Below A.heap.size A wz → C wz := fun A wz h1 h2 => by
    rw [hC] at h1 ⊢
    obtain ⟨⟨k0, k1, k2, k3, k4⟩, h1⟩ := h1
    exact ⟨⟨(by first | exact zatB k0 h2 | exact zatB2 k0 h2), (by first | exact zatB k1 h2 | exact zatB2 k1 h2), (by first | exact zatB k2 h2 | exact zatB2 k2 h2), (by first | exact zatB k3 h2 | exact zatB2 k3 h2), (by first | exact zatB k4 h2 | exact zatB2 k4 h2)⟩, h1.trans (h2.mono h1.size)⟩
  have hC0 : C W.drew := by rw [hC]; exact ⟨⟨c0, c1, c2, c3, c4⟩, hbW.drew⟩
  have K1 : ∀ A, C A → Calls Try.prog lf #[.agg #[.int .i64 x2.1, .int .i64 x2.2], .agg #[.int .i64 y2.1, .int .i64 y2.2]] A fun e w' => e = .returned (.bool r1) ∧ C w' := fun A hA => (C1.out A).mono fun e wz ⟨he, hbz⟩ => ⟨he, hCn A wz hA hbz⟩
  have K2 : ∀ A, C A → Calls Try.prog lf #[.agg #[.int .i64 y2.1, .int .i64 y2.2], .agg #[.int .i64 x2.1, .int .i64 x2.2]] A fun e w' => e = .returned (.bool r2) ∧ C w' := fun A hA => (C2.out A).mono fun e wz ⟨he, hbz⟩ => ⟨he, hCn A wz hA hbz⟩
  have HCa := Lib.hid hCa
  have HCb := Lib.hid hCb
  have HK1 := Lib.hid K1
  have HK2 := Lib.hid K2
  clear hW hf hlt hbW hC hCa hCb hCn c0 c1 c2 c3 c4 K1 K2 C1 C2
  refine wp_region_loose C (by kernel_rfl) (by kernel_rfl) hC0 ?_
  cases r1
  cases r2
  all_goals
    iterate 29 (first
      | (refine loose_skip (by rfl) ?_; simp only [Act.put, List.setIfInBounds_toArray, List.set_cons_zero, List.set_cons_succ])
      | (refine loose_val (v := ?_) (by rfl) ?_ ?_; rotate_left; (focus (intro A hA; obtain ⟨k0, k1, k2, k3, k4⟩ := HCa.out A hA; go_simp; first | done | with_reducible rfl)); simp only [Act.put, List.setIfInBounds_toArray, List.set_cons_zero, List.set_cons_succ])
      | (refine loose_call HK1.out (by rfl) ?_ ?_; (focus (intro A hA; go_simp; done)); simp only [Act.put, List.setIfInBounds_toArray, List.set_cons_zero, List.set_cons_succ])
      | (refine loose_call HK2.out (by rfl) ?_ ?_; (focus (intro A hA; go_simp; done)); simp only [Act.put, List.setIfInBounds_toArray, List.set_cons_zero, List.set_cons_succ]))
    refine loose_nil ?_
    intro wz hz
    go_wp2
    go_ret
    exact ⟨rfl, HCb.out wz hz⟩
end Go.Proofs.Ytkjpkhpiojahkaa.Ke

/-! ### What a heap is in memory; the walk of set. -/
namespace Go.Proofs.Ytkjpkhpiojahkaa.Ke
set_option linter.unusedVariables false
open Go.RowKit Hp

def itC (x : It (Int × Int)) : List Value := [.int .i64 x.1, .int .i64 x.2.1, .int .i64 x.2.2]
theorem itC_len (x : It (Int × Int)) : (itC x).length = 3 := rfl

/-- block hb is a heap: its function, its row A, its map f -/
structure Raw (w : World) (hb lf : Nat) (v : Value) (mb : Nat) (A : List (It (Int × Int))) (n : Nat) (f : Int → Option Nat) : Prop where
  st : w.heap[hb]? = some (.cells #[.func (.func lf) #[] #[], v, .map (some mb)] 185 (0, 0))
  row : w.ownsRow 0 191 3 v A.length (A.flatMap itC)
  map : mapT w Try.prog 3 mb n f

/-- what a call may turn -/
def Foot (v : Value) (mb : Nat) : Nat → Prop := fun j => v.ownBlock = some j ∨ j = mb

section
variable {w w' : World} {hb lf mb n : Nat} {v : Value} {A : List (It (Int × Int))} {f : Int → Option Nat}
theorem Raw.c0 (h : Raw w hb lf v mb A n f) : w.cell? ⟨hb, 0, none⟩ = some (.func (.func lf) #[] #[]) := by simp [World.cell?, h.st]
theorem Raw.c1 (h : Raw w hb lf v mb A n f) : w.cell? ⟨hb, 1, none⟩ = some v := by simp [World.cell?, h.st]
theorem Raw.c2 (h : Raw w hb lf v mb A n f) : w.cell? ⟨hb, 2, none⟩ = some (.map (some mb)) := by simp [World.cell?, h.st]
theorem Raw.lt (h : Raw w hb lf v mb A n f) : hb < w.heap.size := lt_of_some h.st
theorem Raw.mb_lt (h : Raw w hb lf v mb A n f) : mb < w.heap.size := h.map.lt
theorem Raw.hb_mb (h : Raw w hb lf v mb A n f) : hb ≠ mb := fun e => by
  obtain ⟨es, c, hm⟩ := h.map.is
  have := h.st
  rw [e, hm] at this
  cases this
theorem Raw.own_ne (h : Raw w hb lf v mb A n f) {j : Nat} (hj : v.ownBlock = some j) : j ≠ hb ∧ j ≠ mb ∧ j < w.heap.size := by
  rcases own_parts h.row with ⟨rfl, _⟩ | ⟨g, cap, cur, rfl, _, hg, _⟩
  · simp [Value.ownBlock] at hj
  · simp [Value.ownBlock] at hj
    subst hj
    refine ⟨fun e => ?_, fun e => ?_, lt_of_some hg⟩
    · have := h.st
      rw [← e, hg] at this
      cases this
    · obtain ⟨es, c, hm⟩ := h.map.is
      rw [← e, hg] at hm
      cases hm
theorem Raw.foot_hb (h : Raw w hb lf v mb A n f) : ¬ Foot v mb hb := by
  rintro (h1 | h1)
  · exact (h.own_ne h1).1 rfl
  · exact h.hb_mb h1
theorem Raw.foot_lt (h : Raw w hb lf v mb A n f) {j : Nat} (hj : Foot v mb j) : j < w.heap.size := by
  rcases hj with h1 | rfl
  · exact (h.own_ne h1).2.2
  · exact h.mb_lt
/-- whatever turns no block of the heap leaves it -/
theorem Raw.mod (h : Raw w hb lf v mb A n f) {S : Nat → Prop} (hm : Mod S w w') (h1 : ¬ S hb) (h2 : ∀ j, Foot v mb j → ¬ S j) : Raw w' hb lf v mb A n f :=
  ⟨hm.obj h.st h1, own_same h.row fun j o hj ho _ => hm.obj ho (h2 j (.inl hj)), h.map.mod hm (h2 mb (.inr rfl))⟩
theorem Raw.below (h : Raw w hb lf v mb A n f) (hm : Below w.heap.size w w') : Raw w' hb lf v mb A n f :=
  h.mod (Mod.of_below (S := none') hm) (fun h => h) (fun _ _ h => h)
theorem Raw.cell (h : Raw w hb lf v mb A n f) {i : Nat} {x : It (Int × Int)} (hx : A[i]? = some x) :
    ∃ g cap, v = .slice (some ⟨g, 0, none⟩) A.length cap ∧ w.cell? ⟨g, i * 3, none⟩ = some (.int .i64 x.1) ∧ (w.cell? ⟨g, i * 3 + 1, none⟩ = some (.int .i64 x.2.1) ∧ w.cell? ⟨g, i * 3 + 2, none⟩ = some (.int .i64 x.2.2)) ∧
      w.frozen? ⟨g, i * 3, none⟩ = false ∧ (w.frozen? ⟨g, i * 3 + 1, none⟩ = false ∧ w.frozen? ⟨g, i * 3 + 2, none⟩ = false) ∧ g < w.heap.size := by
  have hlt := (List.getElem?_eq_some_iff.1 hx).1
  obtain ⟨g, cap, rfl, hg, _⟩ := own_slice h.row (by omega)
  refine ⟨g, cap, rfl, own_cellG h.row ?_, ⟨own_cellG h.row ?_, own_cellG h.row ?_⟩, own_freeG h.row _, ⟨own_freeG h.row _, own_freeG h.row _⟩, hg⟩
  · have := flat_at itC 3 itC_len A i 0 x hx (by omega)
    simpa [itC] using this
  · have := flat_at itC 3 itC_len A i 1 x hx (by omega)
    simpa [itC] using this
  · have := flat_at itC 3 itC_len A i 2 x hx (by omega)
    simpa [itC] using this
theorem Raw.at {g len cap : Nat} (h : Raw w hb lf (.slice (some ⟨g, 0, none⟩) len cap) mb A n f) {i : Nat} {x : Int} {y : Int × Int} (hx : A[i]? = some (x, y)) :
    w.cell? ⟨g, i * 3, none⟩ = some (.int .i64 x) ∧ (w.cell? ⟨g, i * 3 + 1, none⟩ = some (.int .i64 y.1) ∧ w.cell? ⟨g, i * 3 + 2, none⟩ = some (.int .i64 y.2)) := by
  obtain ⟨g', cap', he, h1, h2, _⟩ := h.cell hx
  cases he
  exact ⟨h1, h2⟩
theorem Raw.set_row {g cap : Nat} (h : w.ownsRow 0 191 3 (.slice (some ⟨g, 0, none⟩) A.length cap) A.length (A.flatMap itC)) {i : Nat} (hi : i < A.length) (x : It (Int × Int)) :
    (((w.setCell ⟨g, i * 3, none⟩ (.int .i64 x.1)).setCell ⟨g, i * 3 + 1, none⟩ (.int .i64 x.2.1)).setCell ⟨g, i * 3 + 2, none⟩ (.int .i64 x.2.2)).ownsRow 0 191 3 (.slice (some ⟨g, 0, none⟩) A.length cap) A.length ((A.set i x).flatMap itC) := by
  have h2 := own_setG (i := i * 3 + 2) (y := .int .i64 x.2.2) (own_setG (i := i * 3 + 1) (y := .int .i64 x.2.1) (own_setG (i := i * 3) (y := .int .i64 x.1) h))
  have hl := flat_length itC 3 itC_len A
  have e := flat_set itC 3 itC_len A i x hi ((((A.flatMap itC).set (i * 3) (.int .i64 x.1)).set (i * 3 + 1) (.int .i64 x.2.1)).set (i * 3 + 2) (.int .i64 x.2.2)) (by simp [hl]) (fun k hk => by
    rw [List.getElem?_set, List.getElem?_set, List.getElem?_set]
    by_cases h1 : i * 3 + 2 = k
    · subst h1
      simp [hl, hk, itC]
    · rw [if_neg h1]
      by_cases h2 : i * 3 + 1 = k
      · subst h2
        simp [hl, hk, itC]
      · rw [if_neg h2]
        by_cases h3 : i * 3 = k
        · subst h3
          simp [hl, hk, itC]
        · rw [if_neg h3, if_neg (by omega)])
  rw [← e]
  exact h2
end

set_option maxRecDepth 100000 in
set_option maxHeartbeats 2000000 in
theorem set_any {w : World} {hb lf mb n : Nat} {v : Value} {A : List (It (Int × Int))} {f : Int → Option Nat} (h : Raw w hb lf v mb A n f) {i : Nat} (hi : i < A.length) (x1 : Int) (x2 : Int × Int) (hx : (Lit.int .i64 x1).wf = true) (hn : n < maxLen) (hA : A.length < 1000000000) :
    Calls Try.prog 159 #[.pointer (some ⟨hb, 0, none⟩), .int .i64 (i : Int), .agg #[.int .i64 x1, .int .i64 x2.1, .int .i64 x2.2]] w fun e w' =>
      e = .returned (.tuple #[]) ∧ Raw w' hb lf v mb (A.set i (x1, x2)) (if (f x1).isSome then n else n + 1) (putN f x1 (some i)) ∧ Mod (Foot v mb) w w' := by
  obtain ⟨y, hy⟩ : ∃ y, A[i]? = some y := ⟨_, List.getElem?_eq_getElem hi⟩
  have hc1 := h.c1
  have hc2 := h.c2
  obtain ⟨g, cap, rfl, d0, d1, f0, f1, hg⟩ := h.cell hy
  have hlt := h.lt
  have hneg := (h.own_ne (j := g) rfl).1
  obtain ⟨W, hW⟩ : ∃ W, (w.alloc (.cells #[.int .i64 x1, .int .i64 x2.1, .int .i64 x2.2] 191)) = W := ⟨_, rfl⟩
  have hbW : Below w.heap.size w W := by rw [← hW]; exact (Below.refl _ w).alloc (Nat.le_refl _) _
  have hRW := h.below hbW
  have k1 := zatB hc1 hbW
  have k2 := zatB hc2 hbW
  have k3 := zatB d0 hbW
  have k4 := zatB2 d1 hbW
  have k5 : W.cell? ⟨w.heap.size, 0, none⟩ = some (.int .i64 x1) := by first | (rw [← hW, World.cell?_alloc_at _ _ _ _ rfl]; rfl) | (constructor <;> (rw [← hW, World.cell?_alloc_at _ _ _ _ rfl]; rfl))
  have k6 : (W.cell? ⟨w.heap.size, 1, none⟩ = some (.int .i64 x2.1) ∧ W.cell? ⟨w.heap.size, 2, none⟩ = some (.int .i64 x2.2)) := by first | (rw [← hW, World.cell?_alloc_at _ _ _ _ rfl]; rfl) | (constructor <;> (rw [← hW, World.cell?_alloc_at _ _ _ _ rfl]; rfl))
  have f2 := own_freeG hRW.row (i * 3)
  have f3 := own_freeG hRW.row (i * 3 + 1)
  have f4 := own_freeG hRW.row (i * 3 + 2)
  have HR := Lib.hid h
  have HRW := Lib.hid hRW
  have HbW := Lib.hid hbW
  have HY := Lib.hid hy
  clear h hRW hbW hy hc1 hc2 d0 d1 f0 f1
  go_enter Try.func159, Try.ntmps159
  go_wp2_with fail
  clear hW
  go_region
  go_wp2_with fail
  obtain ⟨W1, hW1⟩ : ∃ W1, (((W.setCell ⟨g, i * 3, none⟩ (.int .i64 x1)).setCell ⟨g, i * 3 + 1, none⟩ (.int .i64 x2.1)).setCell ⟨g, i * 3 + 2, none⟩ (.int .i64 x2.2)).drew = W1 := ⟨_, rfl⟩
  have hm1 : Mod (fun j => j = g) W W1 := by
    rw [← hW1]
    exact ((((Mod.refl (fun j => j = g) W).setCell (p := ⟨g, i * 3, none⟩) (fun _ => rfl) _).setCell (p := ⟨g, i * 3 + 1, none⟩) (fun _ => rfl) _).setCell (p := ⟨g, i * 3 + 2, none⟩) (fun _ => rfl) _).drew
  have hrow1 : W1.ownsRow 0 191 3 (.slice (some ⟨g, 0, none⟩) A.length cap) A.length ((A.set i (x1, x2)).flatMap itC) := by
    rw [← hW1]
    exact Raw.set_row HRW.out.row hi (x1, x2)
  have hneb : w.heap.size ≠ g := by omega
  have e2 := hm1.cell k2 (fun e => hneg e.symm)
  have e5 := hm1.cell k5 hneb
  have hneg2 := (HRW.out.own_ne (j := g) rfl).2.1
  have hmap1 := HRW.out.map.mod hm1 (fun e => hneg2 e.symm)
  have hst1 := hm1.obj HRW.out.st (fun e => hneg e.symm)
  obtain ⟨W2, hrun, hmap2, hm2⟩ := (show mapT W1.drew Try.prog 3 mb n f from hmap1.of_same rfl).update (t := 182) (e := 3) Try.underlying3 Try.underlying182 hn hx i
  have HM1 := Lib.hid hm1
  have HM2 := Lib.hid hm2
  have HMap2 := Lib.hid hmap2
  have HRow1 := Lib.hid hrow1
  have HSt1 := Lib.hid hst1
  rw [hW1]
  clear hW1 hm1 hm2 hmap2 hrow1 hst1 hmap1 k1 k2 k3 k4 k5 k6 f2 f3 f4
  go_region
  go_end0
  have hr2 : Raw W2 hb lf (.slice (some ⟨g, 0, none⟩) A.length cap) mb (A.set i (x1, x2)) (if (f x1).isSome then n else n + 1) (putN f x1 (some i)) := by
    refine ⟨HM2.out.obj (k := hb) HSt1.out ?_, ?_, HMap2.out⟩
    · exact HR.out.hb_mb
    · rw [List.length_set]
      exact own_same (w := W1.drew) HRow1.out fun j o hj ho _ => HM2.out.obj ho (by simp [Value.ownBlock] at hj; subst hj; exact hneg2)
  refine ⟨rfl, hr2, ?_⟩
  have hS : Mod (Foot (.slice (some ⟨g, 0, none⟩) A.length cap) mb) w W := Mod.of_below HbW.out
  refine (hS.trans (HM1.out.drew) (fun j hj _ => .inl (by rw [hj]; rfl))).trans HM2.out (fun j hj _ => .inr hj)
end Go.Proofs.Ytkjpkhpiojahkaa.Ke

/-! ### Walks: there, up. -/
namespace Go.Proofs.Ytkjpkhpiojahkaa.Ke
set_option linter.unusedVariables false
open Go.RowKit Hp

theorem zero3 (w : World) : (zeroValue 3).run Try.prog w = .ok (.int .i64 0) w := by kernel_rfl

set_option maxHeartbeats 400000 in
theorem there_some {w : World} {hb lf mb n : Nat} {v : Value} {A : List (It (Int × Int))} {f : Int → Option Nat} (h : Raw w hb lf v mb A n f) {x : Int} {i : Nat} (hx : (Lit.int .i64 x).wf = true) (hf : f x = some i) :
    Calls Try.prog 145 #[.pointer (some ⟨hb, 0, none⟩), .int .i64 x] w fun e w' => e = .returned (.tuple #[.int .i64 (i : Int), .int .i64 0]) ∧ w = w' := by
  have hl := h.map.toI.look_ok (t := 182) (e := 3) Try.underlying3 Try.underlying182 (zero3 w) hx
  rw [lift_some hf] at hl
  have h2 := h.c2
  clear h hf
  go_enter Try.func145, Try.ntmps145
  go_wp2
  go_ret2
  exact ⟨rfl, rfl⟩
set_option maxHeartbeats 400000 in
theorem there_none {w : World} {hb lf mb n : Nat} {v : Value} {A : List (It (Int × Int))} {f : Int → Option Nat} (h : Raw w hb lf v mb A n f) {x : Int} (hx : (Lit.int .i64 x).wf = true) (hf : f x = none) :
    Calls Try.prog 145 #[.pointer (some ⟨hb, 0, none⟩), .int .i64 x] w fun e w' => e = .returned (.tuple #[.int .i64 0, .int .i64 14]) ∧ w = w' := by
  have hl := h.map.toI.look_ok (t := 182) (e := 3) Try.underlying3 Try.underlying182 (zero3 w) hx
  rw [lift_none hf] at hl
  have h2 := h.c2
  clear h hf
  go_enter Try.func145, Try.ntmps145
  go_wp2
  go_ret2
  exact ⟨rfl, rfl⟩

/-- what up leaves behind -/
def SiftedP (Post : List (It (Int × Int)) → Prop) (w w' : World) (hb lf : Nat) (v : Value) (mb : Nat) (A : List (It (Int × Int))) (n : Nat) : Prop :=
  ∃ A' f', Raw w' hb lf v mb A' n f' ∧ A'.Perm A ∧ Post A' ∧ Pos A' (0, 0, 0) f' ∧ Mod (Foot v mb) w w'
/-- what up and down leave behind -/
def Sifted (lt : (Int × Int) → (Int × Int) → Bool) (w w' : World) (hb lf : Nat) (v : Value) (mb : Nat) (A : List (It (Int × Int))) (n : Nat) : Prop :=
  ∃ A' f', Raw w' hb lf v mb A' n f' ∧ A'.Perm A ∧ IsHeap lt A' (0, 0, 0) ∧ Pos A' (0, 0, 0) f' ∧ Mod (Foot v mb) w w'

set_option maxRecDepth 100000 in
set_option maxHeartbeats 4000000 in
theorem up_gen {lf : Nat} {lt : (Int × Int) → (Int × Int) → Bool} (HL : LessI lf lt) (J : List (It (Int × Int)) → Nat → Prop) (Post : List (It (Int × Int)) → Prop) {w : World} {hb mb n : Nat} {v : Value} {A : List (It (Int × Int))} {f : Int → Option Nat} (h : Raw w hb lf v mb A n f) {i : Nat} (hi : i < A.length)
    (hup : J A i) (hstepJ : ∀ (B : List (It (Int × Int))) (x : It (Int × Int)) (j p : Nat), j < B.length → 0 < j → (j - 1) / 2 = p → J (B.set j x) j → Hp.ahead lt x (B.getD p (0, 0, 0)) = true → J ((B.set j (B.getD p (0, 0, 0))).set p x) p)
    (hendJ : ∀ (V : List (It (Int × Int))) (j : Nat), j < V.length → J V j → (j = 0 ∨ Hp.ahead lt (V.getD j (0, 0, 0)) (V.getD ((j - 1) / 2) (0, 0, 0)) = false) → Post V) (hpos : PosBut A (0, 0, 0) i f) (hwf : ∀ x ∈ A, (Lit.int .i64 x.1).wf = true) (hn : n < maxLen) (hA : A.length < 1000000000) :
    Calls Try.prog 146 #[.pointer (some ⟨hb, 0, none⟩), .int .i64 (i : Int)] w fun e w' => e = .returned (.tuple #[]) ∧ SiftedP Post w w' hb lf v mb A (if (f (A.getD i (0, 0, 0)).1).isSome then n else n + 1) := by
  obtain ⟨⟨x1, x2⟩, hx⟩ : ∃ x, A[i]? = some x := ⟨_, List.getElem?_eq_getElem hi⟩
  have hxd : A.getD i (0, 0, 0) = (x1, x2) := by rw [List.getD_eq_getElem?_getD, hx]; rfl
  have hxs : A.set i (x1, x2) = A := by
    apply List.ext_getElem?
    intro k
    by_cases hk : i = k
    · subst hk; rw [List.getElem?_set_self hi, hx]
    · rw [List.getElem?_set_ne hk]
  obtain ⟨m, hm⟩ : ∃ m, (if (f (A.getD i (0, 0, 0)).1).isSome then n else n + 1) = m := ⟨_, rfl⟩
  rw [hm]
  rw [hxd] at hm
  have hc1 := h.c1
  obtain ⟨g, cap, rfl, d0, d1, f0, f1, hg⟩ := h.cell hx
  dsimp only at d0 d1
  obtain ⟨W, hW⟩ : ∃ W, (w.alloc (.cells #[.int .i64 x1, .int .i64 x2.1, .int .i64 x2.2] 191)) = W := ⟨_, rfl⟩
  have hlt := h.lt
  have HR := Lib.hid h
  have HUp := Lib.hid hup
  have HStepJ := Lib.hid hstepJ
  have HEndJ := Lib.hid hendJ
  have HPos := Lib.hid hpos
  have HWf := Lib.hid hwf
  have HX := Lib.hid hx
  have HXd := Lib.hid hxd
  have HXs := Lib.hid hxs
  have HM := Lib.hid hm
  clear h hup hstepJ hendJ hpos hwf hx hxd hxs hm
  go_enter Try.func146, Try.ntmps146
  go_wp2_with fail
  have hbW : Below w.heap.size w W := by rw [← hW]; exact (Below.refl _ w).alloc (Nat.le_refl _) _
  have b1 : W.cell? ⟨w.heap.size, 0, none⟩ = some (.int .i64 x1) := by first | (rw [← hW, World.cell?_alloc_at _ _ _ _ rfl]; rfl) | (constructor <;> (rw [← hW, World.cell?_alloc_at _ _ _ _ rfl]; rfl))
  have b2 : (W.cell? ⟨w.heap.size, 1, none⟩ = some (.int .i64 x2.1) ∧ W.cell? ⟨w.heap.size, 2, none⟩ = some (.int .i64 x2.2)) := by first | (rw [← hW, World.cell?_alloc_at _ _ _ _ rfl]; rfl) | (constructor <;> (rw [← hW, World.cell?_alloc_at _ _ _ _ rfl]; rfl))
  have hszW : W.heap.size = w.heap.size + 1 := by rw [← hW]; simp
  have HBW := Lib.hid hbW
  have HB1 := Lib.hid b1
  have HB2 := Lib.hid b2
  clear hW hbW hc1 d0 d1 f0 f1 b1 b2
  go_loopg [1] i (fun gh s1 wr => ∃ (B : List (It (Int × Int))) (fj : Int → Option Nat), s1 = .int .i64 (gh : Int) ∧ B.length = A.length ∧ gh < A.length ∧ Raw wr hb lf (.slice (some ⟨g, 0, none⟩) A.length cap) mb B n fj ∧
    J (B.set gh (x1, x2)) gh ∧ PosBut (B.set gh (x1, x2)) (0, 0, 0) gh fj ∧ (B.set gh (x1, x2)).Perm A ∧ fj x1 = f x1 ∧ Mod (Foot (.slice (some ⟨g, 0, none⟩) A.length cap) mb) w wr ∧
    W.heap.size ≤ wr.heap.size ∧ wr.cell? ⟨w.heap.size, 0, none⟩ = some (.int .i64 x1) ∧ (wr.cell? ⟨w.heap.size, 1, none⟩ = some (.int .i64 x2.1) ∧ wr.cell? ⟨w.heap.size, 2, none⟩ = some (.int .i64 x2.2)))
  case atStart =>
    exact ⟨A, f, rfl, rfl, hi, HR.out.below HBW.out, by rw [HXs.out]; exact HUp.out, by rw [HXs.out]; exact HPos.out, by rw [HXs.out], rfl, Mod.of_below HBW.out, Nat.le_refl _, HB1.out, HB2.out⟩
  case round =>
    obtain ⟨B, fj, rfl, hBl, hj, hraw, hup, hpos, hperm, hfx, hmod, hsz, b1, b2⟩ := hrel
    have HRaw := Lib.hid hraw
    have HUpj := Lib.hid hup
    have HPosj := Lib.hid hpos
    have HPerm := Lib.hid hperm
    have HFx := Lib.hid hfx
    have HMod := Lib.hid hmod
    have hgj : gk < B.length := by omega
    have hwr1 := hraw.c1
    have hwl := hraw.lt
    have hgl := (hraw.own_ne (j := g) rfl).2.2
    have hBn : B.length < 1000000000 := by omega
    have HC0 := Lib.hid (show Below wr.heap.size wr wr.drew from (Below.refl _ wr).drew)
    have hx1m : (x1, x2) ∈ A := List.mem_of_getElem? HX.out
    have hx1w : (Lit.int .i64 x1).wf = true := HWf.out _ hx1m
    have HX1w := Lib.hid hx1w
    have hlast : ∀ A0, Below wr.heap.size wr A0 → Calls Try.prog 159 #[.pointer (some ⟨hb, 0, none⟩), .int .i64 (gk : Int), .agg #[.int .i64 x1, .int .i64 x2.1, .int .i64 x2.2]] A0 fun e w' =>
        e = .returned (.tuple #[]) ∧ Raw w' hb lf (.slice (some ⟨g, 0, none⟩) A.length cap) mb (B.set gk (x1, x2)) m (putN fj x1 (some gk)) ∧ Mod (Foot (.slice (some ⟨g, 0, none⟩) A.length cap) mb) A0 w' := fun A0 hA0 => by
      have := set_any (HRaw.out.below hA0) hgj x1 x2 HX1w.out hn hBn
      rwa [HFx.out, HM.out] at this
    have HLast := Lib.hid hlast
    have hend : ∀ A0 w', Below wr.heap.size wr A0 → Raw w' hb lf (.slice (some ⟨g, 0, none⟩) A.length cap) mb (B.set gk (x1, x2)) m (putN fj x1 (some gk)) → Mod (Foot (.slice (some ⟨g, 0, none⟩) A.length cap) mb) A0 w' →
        (gk = 0 ∨ Hp.ahead lt ((B.set gk (x1, x2)).getD gk (0, 0, 0)) ((B.set gk (x1, x2)).getD ((gk - 1) / 2) (0, 0, 0)) = false) → SiftedP Post w w' hb lf (.slice (some ⟨g, 0, none⟩) A.length cap) mb A m := fun A0 w' hA0 hr hm0 hs => by
      refine ⟨_, _, hr, HPerm.out, HEndJ.out _ gk (by rw [List.length_set]; exact hgj) HUpj.out hs, ?_, ?_⟩
      · have := HPosj.out.lay (by rw [List.length_set]; exact hgj)
        rwa [getD_set _ _ _ _ _ hgj, if_pos rfl] at this
      · exact (HMod.out.trans (Mod.of_below (S := Foot (.slice (some ⟨g, 0, none⟩) A.length cap) mb) hA0) (fun _ h _ => h)).trans hm0 (fun _ h _ => h)
    have HEnd := Lib.hid hend
    clear hraw hup hpos hperm hfx hmod hx1m hx1w hlast hend
    rcases Nat.eq_zero_or_pos gk with h0 | h0
    · subst h0
      go_wp2_with fail
      refine wp_region_loose (fun A' => Below wr.heap.size wr A') (by kernel_rfl) (by kernel_rfl) HC0.out ?_
      iterate 16 (first
        | (refine loose_skip (by rfl) ?_; simp only [Act.put, List.setIfInBounds_toArray, List.set_cons_zero, List.set_cons_succ])
        | (refine loose_val (v := ?_) (by rfl) ?_ ?_; rotate_left; (focus (intro A' hA'; go_simp; first | done | with_reducible rfl)); simp only [Act.put, List.setIfInBounds_toArray, List.set_cons_zero, List.set_cons_succ]))
      refine loose_nil ?_
      intro wz hz
      have HL2 := Lib.hid (HLast.out wz hz)
      have HZ := Lib.hid hz
      have bz1 := zatB b1 hz
      have bz2 := zatB2 b2 hz
      clear hz
      go_wp2_with fail
      refine HL2.out.mono ?_
      rintro e w2 ⟨rfl, hr2, hm2⟩
      have HF := Lib.hid (HEnd.out wz w2 HZ.out hr2 hm2 (.inl (by trivial)))
      clear hr2 hm2
      go_wp2_with fail
      go_end0
      exact ⟨rfl, HF.out⟩
    · obtain ⟨p, hp⟩ : ∃ p, (gk - 1) / 2 = p := ⟨_, rfl⟩
      have hpl : p < gk := by omega
      obtain ⟨⟨y1, y2⟩, hy⟩ : ∃ y, B[p]? = some y := ⟨_, List.getElem?_eq_getElem (by omega)⟩
      have hyd : B.getD p (0, 0, 0) = (y1, y2) := by rw [List.getD_eq_getElem?_getD, hy]; rfl
      obtain ⟨q0, q1⟩ := HRaw.out.at hy
      have hq : ((gk : Int) - 1).tdiv 2 = (p : Int) := by
        have : ((gk : Int) - 1) = ((gk - 1 : Nat) : Int) := by omega
        rw [this]
        exact congrArg Int.ofNat hp
      have hw1 : IntKind.i64.wrap ((gk : Int) - 1) = (gk : Int) - 1 := IntWalk.i64_in _ (by omega)
      have hw2 : IntKind.i64.wrap (p : Int) = (p : Int) := IntWalk.i64_in _ (by omega)
      have hq2 : ((gk : Int) - 1) / 2 = (p : Int) := by omega
      have hp0 : (0 : Int) ≤ (p : Int) := by omega
      have hpA : (p : Int) < (A.length : Int) := by omega
      have hgA : (gk : Int) < (A.length : Int) := by omega
      have hg0 : (0 : Int) < (gk : Int) := by omega
      have hAA : (A.length : Int) < 1000000000 := by omega
      obtain ⟨r, hr⟩ : ∃ r, Hp.ahead lt (x1, x2) (y1, y2) = r := ⟨_, rfl⟩
      have hfacts : ∀ A', Below wr.heap.size wr A' → A'.cell? ⟨hb, 1, none⟩ = some (.slice (some ⟨g, 0, none⟩) A.length cap) ∧ A'.cell? ⟨w.heap.size, 0, none⟩ = some (.int .i64 x1) ∧ (A'.cell? ⟨w.heap.size, 1, none⟩ = some (.int .i64 x2.1) ∧ A'.cell? ⟨w.heap.size, 2, none⟩ = some (.int .i64 x2.2)) ∧
          A'.cell? ⟨g, p * 3, none⟩ = some (.int .i64 y1) ∧ (A'.cell? ⟨g, p * 3 + 1, none⟩ = some (.int .i64 y2.1) ∧ A'.cell? ⟨g, p * 3 + 2, none⟩ = some (.int .i64 y2.2)) := fun A' h => ⟨(by first | exact zatB hwr1 h | exact zatB2 hwr1 h), (by first | exact zatB b1 h | exact zatB2 b1 h), (by first | exact zatB b2 h | exact zatB2 b2 h), (by first | exact zatB q0 h | exact zatB2 q0 h), (by first | exact zatB q1 h | exact zatB2 q1 h)⟩
      have hK : ∀ A', Below wr.heap.size wr A' → Calls Try.prog 162 #[.pointer (some ⟨hb, 0, none⟩), .agg #[.int .i64 x1, .int .i64 x2.1, .int .i64 x2.2], .agg #[.int .i64 y1, .int .i64 y2.1, .int .i64 y2.2]] A' fun e w' => e = .returned (.bool r) ∧ Below wr.heap.size wr w' := fun A' h => by
        have := ahead_any HL hb x1 x2 y1 y2 A' (HRaw.out.below h).c0
        rw [hr] at this
        exact this.mono fun e w' ⟨he, hb'⟩ => ⟨he, h.trans (hb'.mono h.size)⟩
      have HFacts := Lib.hid hfacts
      have HK := Lib.hid hK
      have HRr := Lib.hid hr
      have HYd := Lib.hid hyd
      clear hfacts hK hr hyd hy q0 q1
      go_wp2_with fail
      refine wp_region_loose (fun A' => Below wr.heap.size wr A') (by kernel_rfl) (by kernel_rfl) HC0.out ?_
      iterate 16 (first
        | (refine loose_skip (by rfl) ?_; simp only [Act.put, List.setIfInBounds_toArray, List.set_cons_zero, List.set_cons_succ])
        | (refine loose_val (v := ?_) (by rfl) ?_ ?_; rotate_left; (focus (intro A' hA'; obtain ⟨k0, k1, k2, k3, k4⟩ := HFacts.out A' hA'; go_simp; first | done | with_reducible rfl)); simp only [Act.put, List.setIfInBounds_toArray, List.set_cons_zero, List.set_cons_succ])
        | (refine loose_call HK.out (by rfl) ?_ ?_; (focus (intro A' hA'; go_simp; done)); simp only [Act.put, List.setIfInBounds_toArray, List.set_cons_zero, List.set_cons_succ]))
      refine loose_nil ?_
      intro wz hz
      have HL2 := Lib.hid (HLast.out wz hz)
      obtain ⟨k0, k1, k2, k3, k4⟩ := HFacts.out wz hz
      have HZ := Lib.hid hz
      have hEndR : ∀ w', Raw w' hb lf (.slice (some ⟨g, 0, none⟩) A.length cap) mb (B.set gk (x1, x2)) m (putN fj x1 (some gk)) → Mod (Foot (.slice (some ⟨g, 0, none⟩) A.length cap) mb) wz w' → r = false → SiftedP Post w w' hb lf (.slice (some ⟨g, 0, none⟩) A.length cap) mb A m := fun w' a b e => by
        refine HEnd.out wz w' HZ.out a b (.inr ?_)
        rw [getD_set _ _ _ _ _ hgj, if_pos rfl, getD_set _ _ _ _ _ hgj, hp, if_neg (by omega), HYd.out, HRr.out, e]
      have HEndR := Lib.hid hEndR
      clear hz hEndR HEnd
      cases r with
      | false =>
        go_wp2_with fail
        refine HL2.out.mono ?_
        rintro e w2 ⟨rfl, hr2, hm2⟩
        have HF := Lib.hid (HEndR.out w2 hr2 hm2 (by trivial))
        clear hr2 hm2
        go_wp2_with fail
        go_end0
        exact ⟨rfl, HF.out⟩
      | true =>
        have hstep := HPosj.out.step hgj (by omega : p < B.length) (by omega)
        rw [HYd.out] at hstep
        have hup2 := HStepJ.out B (x1, x2) gk p hgj h0 hp HUpj.out (by rw [HYd.out]; exact HRr.out)
        rw [HYd.out] at hup2
        have hperm2 := (set_perm B (0, 0, 0) (x1, x2) gk p hgj (by omega) (by omega)).trans HPerm.out
        rw [HYd.out] at hperm2
        have hyw : (Lit.int .i64 y1).wf = true := HWf.out _ (hperm2.mem_iff.1 (by
          apply List.mem_of_getElem? (i := gk)
          rw [List.getElem?_set_ne (by omega), List.getElem?_set_self hgj]))
        have hset := set_any (HRaw.out.below HZ.out) hgj y1 y2 hyw hn hBn
        rw [show (fj y1).isSome = true by rw [hstep.2]; rfl, if_pos rfl] at hset
        have hx1ne : x1 ≠ y1 := by
          have := HPosj.out.2.2 p (by rw [List.length_set]; omega) (by omega)
          rw [getD_set _ _ _ _ _ hgj, getD_set _ _ _ _ _ hgj, if_pos rfl, if_neg (by omega), HYd.out] at this
          exact fun e => this e.symm
        have HSet := Lib.hid hset
        have HStep := Lib.hid hstep.1
        have HUp2 := Lib.hid hup2
        have HPerm2 := Lib.hid hperm2
        clear hset hstep hup2 hperm2 hyw
        go_wp2_with fail
        refine HSet.out.mono ?_
        rintro e w2 ⟨rfl, hr2, hm2⟩
        have hbox : ∀ j u, wz.cell? ⟨w.heap.size, j, none⟩ = some u → w2.cell? ⟨w.heap.size, j, none⟩ = some u := fun j u hu =>
          hm2.cell hu (fun hF => by have := HR.out.foot_lt hF; dsimp only at this; omega)
        have l1 := hbox 0 _ k1
        have l2 := And.intro (hbox 1 _ k2.1) (hbox 2 _ k2.2)
        have hsz2 : W.heap.size ≤ w2.heap.size := by have := hm2.size; have := HZ.out.size; omega
        have HR2 := Lib.hid hr2
        have HM2 := Lib.hid ((HMod.out.trans (Mod.of_below (S := Foot (.slice (some ⟨g, 0, none⟩) A.length cap) mb) HZ.out) (fun _ h _ => h)).trans hm2 (fun _ h _ => h))
        clear hr2 hm2 hbox
        go_wp2_with fail
        go_roundg p
        case measure => omega
        case rel =>
          refine ⟨B.set gk (y1, y2), putN fj y1 (some gk), by go_num, by rw [List.length_set]; exact hBl, by omega, HR2.out, HUp2.out, HStep.out, HPerm2.out, ?_, HM2.out, hsz2, l1, l2⟩
          rw [putN_other _ hx1ne]
          exact HFx.out

theorem up_any {lf : Nat} {lt : (Int × Int) → (Int × Int) → Bool} (HL : LessI lf lt) {w : World} {hb mb n : Nat} {v : Value} {A : List (It (Int × Int))} {f : Int → Option Nat} (h : Raw w hb lf v mb A n f) {i : Nat} (hi : i < A.length)
    (hup : UpOk lt A (0, 0, 0) i) (hpos : PosBut A (0, 0, 0) i f) (hwf : ∀ x ∈ A, (Lit.int .i64 x.1).wf = true) (hn : n < maxLen) (hA : A.length < 1000000000) :
    Calls Try.prog 146 #[.pointer (some ⟨hb, 0, none⟩), .int .i64 (i : Int)] w fun e w' => e = .returned (.tuple #[]) ∧ Sifted lt w w' hb lf v mb A (if (f (A.getD i (0, 0, 0)).1).isSome then n else n + 1) :=
  up_gen HL (fun V j => UpOk lt V (0, 0, 0) j) (fun V => IsHeap lt V (0, 0, 0)) h hi hup (fun B x j p hj h0 hp hU ha => by subst hp; exact hU.step HL.swo h0 hj ha) (fun V j _ hU hs => hU.heap hs) hpos hwf hn hA

theorem set_self {A : List (It (Int × Int))} {i : Nat} {x : It (Int × Int)} (hx : A.getD i (0, 0, 0) = x) (hi : i < A.length) : A.set i x = A := by
  apply List.ext_getElem?
  intro k
  by_cases hk : i = k
  · subst hk
    rw [List.getElem?_set_self hi, ← hx, List.getD_eq_getElem?_getD, List.getElem?_eq_getElem hi]
    rfl
  · rw [List.getElem?_set_ne hk]

/-- behind the exchange of one number's key: up, and then down will do -/
theorem up_then {lf : Nat} {lt : (Int × Int) → (Int × Int) → Bool} (HL : LessI lf lt) {w : World} {hb mb n : Nat} {v : Value} {A : List (It (Int × Int))} {f : Int → Option Nat} {i : Nat} {x : It (Int × Int)} (h : Raw w hb lf v mb (A.set i x) n f) (hi : i < A.length)
    (hheap : IsHeap lt A (0, 0, 0)) (hpos : Pos (A.set i x) (0, 0, 0) f) (hwf : ∀ y ∈ A.set i x, (Lit.int .i64 y.1).wf = true) (hn : n < maxLen) (hA : A.length < 1000000000) :
    Calls Try.prog 146 #[.pointer (some ⟨hb, 0, none⟩), .int .i64 (i : Int)] w fun e w' => e = .returned (.tuple #[]) ∧
      ∃ A' f' i', Raw w' hb lf v mb A' n f' ∧ A'.Perm (A.set i x) ∧ Pos A' (0, 0, 0) f' ∧ Mod (Foot v mb) w w' ∧ i' < A'.length ∧ f' x.1 = some i' ∧ A'.getD i' (0, 0, 0) = x ∧ DownOk lt A' (0, 0, 0) i' := by
  have hxi : (A.set i x).getD i (0, 0, 0) = x := by rw [getD_set _ _ _ _ _ hi, if_pos rfl]
  have hfx : f x.1 = some i := by have := hpos.1 i (by rw [List.length_set]; exact hi); rwa [hxi] at this
  have hsome : (f ((A.set i x).getD i (0, 0, 0)).1).isSome = true := by rw [hxi, hfx]; rfl
  have hi2 : i < (A.set i x).length := by rw [List.length_set]; exact hi
  by_cases hc : 0 < i ∧ Hp.ahead lt x (A.getD ((i - 1) / 2) (0, 0, 0)) = true
  · have := up_any HL h hi2 (hheap.upOk HL.swo hi hc.1 hc.2) (hpos.but hi2) hwf hn (by rw [List.length_set]; exact hA)
    rw [if_pos hsome] at this
    refine this.mono ?_
    rintro e w' ⟨he, A', f', h1, h2, h3, h4, h5⟩
    obtain ⟨i', hi', hxe⟩ : ∃ i', i' < A'.length ∧ A'.getD i' (0, 0, 0) = x := by
      have hm : x ∈ A' := h2.mem_iff.2 (List.mem_of_getElem? (i := i) (by rw [List.getElem?_set_self hi]))
      obtain ⟨k, hk, e⟩ := List.mem_iff_getElem.1 hm
      exact ⟨k, hk, by rw [List.getD_eq_getElem?_getD, List.getElem?_eq_getElem hk, Option.getD_some, e]⟩
    refine ⟨he, A', f', i', h1, h2, h4, h5, hi', ?_, hxe, ?_⟩
    · have := h4.1 i' hi'
      rwa [hxe] at this
    · have := h3.down_self HL.swo hi'
      rwa [set_self rfl hi'] at this
  · have hns : i = 0 ∨ Hp.ahead lt x (A.getD ((i - 1) / 2) (0, 0, 0)) = false := by
      rcases Nat.eq_zero_or_pos i with h0 | h0
      · exact .inl h0
      · refine .inr ?_
        cases hh : Hp.ahead lt x (A.getD ((i - 1) / 2) (0, 0, 0)) with
        | false => rfl
        | true => exact absurd ⟨h0, hh⟩ hc
    have := up_gen HL (fun V j => V = A.set i x ∧ j = i) (fun V => V = A.set i x) h hi2 ⟨rfl, rfl⟩ (fun B y j p hj h0 hp ⟨hV, hji⟩ ha => by
      subst hji
      exfalso
      have e1 : y = x := by
        have := congrArg (fun l => l.getD j (0, 0, 0)) hV
        rwa [getD_set _ _ _ _ _ hj, if_pos rfl, hxi] at this
      have e2 : B.getD p (0, 0, 0) = A.getD p (0, 0, 0) := by
        have := congrArg (fun l => l.getD p (0, 0, 0)) hV
        rwa [getD_set _ _ _ _ _ hj, if_neg (by omega), getD_set _ _ _ _ _ hi, if_neg (by omega)] at this
      rw [e1, e2] at ha
      rcases hns with h | h
      · omega
      · rw [hp, ha] at h; cases h) (fun V j _ ⟨hV, _⟩ _ => hV) (hpos.but hi2) hwf hn (by rw [List.length_set]; exact hA)
    rw [if_pos hsome] at this
    refine this.mono ?_
    rintro e w' ⟨he, A', f', h1, h2, rfl, h4, h5⟩
    refine ⟨he, _, f', i, h1, h2, h4, h5, hi2, ?_, hxi, hheap.downOk HL.swo hi hns⟩
    have := h4.1 i hi2
    rwa [hxi] at this
end Go.Proofs.Ytkjpkhpiojahkaa.Ke
