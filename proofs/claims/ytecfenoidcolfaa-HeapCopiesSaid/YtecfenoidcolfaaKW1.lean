/-
  Walks: the orders of keys, heap.ahead.
-/
import Derived.Test.YtecfenoidcolfaaProg
import Derived.Test.YtecfenoidcolfaaCel
import Derived.WalkKit
import Derived.LoopTactic
import Derived.IntWalk
import Derived.Lib.Hide
import Derived.ProofKit
import Derived.Deep.RegionHeld3
import Derived.Shelf.Abstract
import Derived.Test.YtecfenoidcolfaaLoose
import Derived.Test.YtecfenoidcolfaaW4
import Derived.Test.YtecfenoidcolfaaRow
namespace Go.Proofs.Ytecfenoidcolfaa.Ke
set_option linter.unusedVariables false
open Go.RowKit Hp

/-- function lf tells whether a key is less than another one -/
structure LessI (lf : Nat) (lt : (Int × Int) → (Int × Int) → Bool) : Prop where
  enters : Enters Try.prog lf
  call : ∀ (x y : Int × Int) (w : World), Calls Try.prog lf #[.agg #[.int .i64 x.1, .int .i64 x.2], .agg #[.int .i64 y.1, .int .i64 y.2]] w fun e w' => e = .returned (.bool (lt x y)) ∧ Below w.heap.size w w'
  swo : Swo lt

/-- the order of keys of servers: by their times, and then by their numbers -/
def bef (a b : Int × Int) : Bool := decide (a.1 < b.1) || (decide (a.1 = b.1) && decide (a.2 < b.2))
theorem bef_iff (a b : Int × Int) : bef a b = true ↔ a.1 < b.1 ∨ (a.1 = b.1 ∧ a.2 < b.2) := by simp [bef]
theorem nbef_iff (a b : Int × Int) : bef a b = false ↔ b.1 < a.1 ∨ (a.1 = b.1 ∧ b.2 ≤ a.2) := by
  rw [← Bool.not_eq_true, bef_iff]; omega
theorem bef_swo : Swo bef := ⟨fun a => by rw [nbef_iff]; omega, fun a b c h1 h2 => by rw [bef_iff] at *; omega, fun a b c h1 h2 => by rw [nbef_iff] at *; omega⟩
theorem before_any (a1 a2 b1 b2 : Int) (w : World) : Calls Try.prog 24 #[.agg #[.int .i64 a1, .int .i64 a2], .agg #[.int .i64 b1, .int .i64 b2]] w fun e w' => e = .returned (.bool (bef (a1, a2) (b1, b2))) ∧ Below w.heap.size w w' := by
  go_enter Try.func24, Try.ntmps24
  go_wp2
  all_goals go_ret
  all_goals refine ⟨ret_bool ?_, ((Below.refl _ w).alloc (Nat.le_refl _) _).alloc (by simp) _⟩
  all_goals simp [bef, *]
theorem lessB : LessI 24 bef := ⟨enters_of Try.func24 (by kernel_rfl) rfl, fun x y w => before_any x.1 x.2 y.1 y.2 w, bef_swo⟩

theorem LessI.bool {lf : Nat} {lt : (Int × Int) → (Int × Int) → Bool} (h : LessI lf lt) {x y : Int × Int} {r : Bool} (hr : lt x y = r) (w : World) : Calls Try.prog lf #[.agg #[.int .i64 x.1, .int .i64 x.2], .agg #[.int .i64 y.1, .int .i64 y.2]] w fun e w' => e = .returned (.bool r) ∧ Below w.heap.size w w' := by
  subst hr
  exact h.call x y w

theorem zatB2 {w w' : World} {p q : Addr} {u v : Value} (h : w.cell? p = some u ∧ w.cell? q = some v) (hb : Below w.heap.size w w') : w'.cell? p = some u ∧ w'.cell? q = some v := ⟨zatB h.1 hb, zatB h.2 hb⟩

set_option maxRecDepth 100000 in
set_option maxHeartbeats 4000000 in
theorem ahead_any {lf : Nat} {lt : (Int × Int) → (Int × Int) → Bool} (HL : LessI lf lt) (hb : Nat) (x1 : Int) (x2 : Int × Int) (y1 : Int) (y2 : Int × Int) (w : World) (hf : w.cell? ⟨hb, 0, none⟩ = some (.func (.func lf) #[] #[])) :
    Calls Try.prog 104 #[.pointer (some ⟨hb, 0, none⟩), .agg #[.int .i64 x1, .int .i64 x2.1, .int .i64 x2.2], .agg #[.int .i64 y1, .int .i64 y2.1, .int .i64 y2.2]] w fun e w' => e = .returned (.bool (Hp.ahead lt (x1, x2) (y1, y2))) ∧ Below w.heap.size w w' := by
  obtain ⟨r1, h1⟩ : ∃ r1, lt x2 y2 = r1 := ⟨_, rfl⟩
  obtain ⟨r2, h2⟩ : ∃ r2, lt y2 x2 = r2 := ⟨_, rfl⟩
  have hah : Hp.ahead lt (x1, x2) (y1, y2) = (r1 || (!r2 && decide (x1 < y1))) := by
    simp only [Hp.ahead, h1, h2]
  rw [hah]
  have C1 := Lib.hid (HL.bool h1)
  have C2 := Lib.hid (HL.bool h2)
  have hE : ∀ (args : Array Value) (w : World), (callFunc lf args).run Try.prog w = .ok (.enter lf args) w := HL.enters
  have hlt : hb < w.heap.size := World.block_lt_of_cell? w _ hf
  clear h1 h2 hah HL
  go_enter Try.func104, Try.ntmps104
  go_wp2_with fail
  obtain ⟨W, hW⟩ : ∃ W, ((w.alloc (.cells #[.int .i64 x1, .int .i64 x2.1, .int .i64 x2.2] 125)).alloc (.cells #[.int .i64 y1, .int .i64 y2.1, .int .i64 y2.2] 125)) = W := ⟨_, rfl⟩
  have hbW : Below w.heap.size w W := by
    rw [← hW]
    exact ((Below.refl _ w).alloc (Nat.le_refl _) _).alloc (by simp) _
  have hsz : W.heap.size = w.heap.size + 2 := by rw [← hW]; simp
  have c0 : W.cell? ⟨hb, 0, none⟩ = some (.func (.func lf) #[] #[]) := by
    rw [← hW, World.cell?_alloc_past _ _ _ (by simp; omega), World.cell?_alloc_past _ _ _ (by simpa using hlt)]; exact hf
  have c1 : W.cell? ⟨w.heap.size, 0, none⟩ = some (.int .i64 x1) := by
    rw [← hW, World.cell?_alloc_past _ _ _ (by simp), World.cell?_alloc_at _ _ _ _ rfl]; rfl
  have c2 : (W.cell? ⟨w.heap.size, 1, none⟩ = some (.int .i64 x2.1) ∧ W.cell? ⟨w.heap.size, 2, none⟩ = some (.int .i64 x2.2)) := by
    constructor <;> (rw [← hW, World.cell?_alloc_past _ _ _ (by simp), World.cell?_alloc_at _ _ _ _ rfl]; rfl)
  have c3 : W.cell? ⟨w.heap.size + 1, 0, none⟩ = some (.int .i64 y1) := by
    rw [← hW, World.cell?_alloc_at _ _ _ _ (by simp)]; rfl
  have c4 : (W.cell? ⟨w.heap.size + 1, 1, none⟩ = some (.int .i64 y2.1) ∧ W.cell? ⟨w.heap.size + 1, 2, none⟩ = some (.int .i64 y2.2)) := by
    constructor <;> (rw [← hW, World.cell?_alloc_at _ _ _ _ (by simp)]; rfl)
  rw [hW]
  obtain ⟨C, hC⟩ : ∃ C : World → Prop, C = fun A => (A.cell? ⟨hb, 0, none⟩ = some (.func (.func lf) #[] #[]) ∧ A.cell? ⟨w.heap.size, 0, none⟩ = some (.int .i64 x1) ∧ (A.cell? ⟨w.heap.size, 1, none⟩ = some (.int .i64 x2.1) ∧ A.cell? ⟨w.heap.size, 2, none⟩ = some (.int .i64 x2.2)) ∧ A.cell? ⟨w.heap.size + 1, 0, none⟩ = some (.int .i64 y1) ∧ (A.cell? ⟨w.heap.size + 1, 1, none⟩ = some (.int .i64 y2.1) ∧ A.cell? ⟨w.heap.size + 1, 2, none⟩ = some (.int .i64 y2.2))) ∧ Below w.heap.size w A := ⟨_, rfl⟩
  have hCa : ∀ A, C A → A.cell? ⟨hb, 0, none⟩ = some (.func (.func lf) #[] #[]) ∧ A.cell? ⟨w.heap.size, 0, none⟩ = some (.int .i64 x1) ∧ (A.cell? ⟨w.heap.size, 1, none⟩ = some (.int .i64 x2.1) ∧ A.cell? ⟨w.heap.size, 2, none⟩ = some (.int .i64 x2.2)) ∧ A.cell? ⟨w.heap.size + 1, 0, none⟩ = some (.int .i64 y1) ∧ (A.cell? ⟨w.heap.size + 1, 1, none⟩ = some (.int .i64 y2.1) ∧ A.cell? ⟨w.heap.size + 1, 2, none⟩ = some (.int .i64 y2.2)) := fun A h => by rw [hC] at h; exact h.1
  have hCb : ∀ A, C A → Below w.heap.size w A := fun A h => by rw [hC] at h; exact h.2
  have hCn : ∀ A wz, C A → Below A.heap.size A wz → C wz := fun A wz h1 h2 => by
    rw [hC] at h1 ⊢
    obtain ⟨⟨k0, k1, k2, k3, k4⟩, h1⟩ := h1
    exact ⟨⟨(by first | exact zatB k0 h2 | exact zatB2 k0 h2), (by first | exact zatB k1 h2 | exact zatB2 k1 h2), (by first | exact zatB k2 h2 | exact zatB2 k2 h2), (by first | exact zatB k3 h2 | exact zatB2 k3 h2), (by first | exact zatB k4 h2 | exact zatB2 k4 h2)⟩, h1.trans (h2.mono h1.size)⟩
  have hC0 : C W.drew := by rw [hC]; exact ⟨⟨c0, c1, c2, c3, c4⟩, hbW.drew⟩
  have K1 : ∀ A, C A → Calls Try.prog lf #[.agg #[.int .i64 x2.1, .int .i64 x2.2], .agg #[.int .i64 y2.1, .int .i64 y2.2]] A fun e w' => e = .returned (.bool r1) ∧ C w' := fun A hA => (C1.out A).mono fun e wz ⟨he, hbz⟩ => ⟨he, hCn A wz hA hbz⟩
  have K2 : ∀ A, C A → Calls Try.prog lf #[.agg #[.int .i64 y2.1, .int .i64 y2.2], .agg #[.int .i64 x2.1, .int .i64 x2.2]] A fun e w' => e = .returned (.bool r2) ∧ C w' := fun A hA => (C2.out A).mono fun e wz ⟨he, hbz⟩ => ⟨he, hCn A wz hA hbz⟩
  have HCa := Lib.hid hCa
  have HCb := Lib.hid hCb
  have HK1 := Lib.hid K1
  have HK2 := Lib.hid K2
  clear hW hf hlt hbW hC hCa hCb hCn c0 c1 c2 c3 c4 K1 K2 C1 C2
  refine wp_region_loose C (by kernel_rfl) (by kernel_rfl) hC0 ?_
  cases r1
  cases r2
  all_goals
    iterate 29 (first
      | (refine loose_skip (by rfl) ?_; simp only [Act.put, List.setIfInBounds_toArray, List.set_cons_zero, List.set_cons_succ])
      | (refine loose_val (v := ?_) (by rfl) ?_ ?_; rotate_left; (focus (intro A hA; obtain ⟨k0, k1, k2, k3, k4⟩ := HCa.out A hA; go_simp; first | done | with_reducible rfl)); simp only [Act.put, List.setIfInBounds_toArray, List.set_cons_zero, List.set_cons_succ])
      | (refine loose_call HK1.out (by rfl) ?_ ?_; (focus (intro A hA; go_simp; done)); simp only [Act.put, List.setIfInBounds_toArray, List.set_cons_zero, List.set_cons_succ])
      | (refine loose_call HK2.out (by rfl) ?_ ?_; (focus (intro A hA; go_simp; done)); simp only [Act.put, List.setIfInBounds_toArray, List.set_cons_zero, List.set_cons_succ]))
    refine loose_nil ?_
    intro wz hz
    go_wp2
    go_ret
    exact ⟨rfl, HCb.out wz hz⟩
end Go.Proofs.Ytecfenoidcolfaa.Ke
