/-
  Walks: the orders of keys, heap.ahead.
-/
import Derived.Test.YtecfenoidcolfaaProg
import Derived.Test.YtecfenoidcolfaaCel
import Derived.WalkKit
import Derived.LoopTactic
import Derived.IntWalk
import Derived.Lib.Hide
import Derived.ProofKit
import Derived.Deep.RegionHeld3
import Derived.Shelf.Abstract
import Derived.Test.YtecfenoidcolfaaLoose
namespace Go.Proofs.Ytecfenoidcolfaa
set_option linter.unusedVariables false
open Go.RowKit Hp

/-- function lf tells whether a key is less than another one -/
structure LessI (lf : Nat) (lt : Int → Int → Bool) : Prop where
  enters : Enters Try.prog lf
  call : ∀ (x y : Int) (w : World), Calls Try.prog lf #[.int .i64 x, .int .i64 y] w fun e w' => e = .returned (.bool (lt x y)) ∧ Below w.heap.size w w'
  swo : Swo lt

def ltI (a b : Int) : Bool := decide (a < b)
theorem ltI_swo : Swo ltI := ⟨fun a => by simp [ltI], fun a b c h1 h2 => by simp [ltI] at *; omega, fun a b c h1 h2 => by simp [ltI] at *; omega⟩

theorem less_any (x y : Int) (w : World) : Calls Try.prog 20 #[.int .i64 x, .int .i64 y] w fun e w' => e = .returned (.bool (ltI x y)) ∧ Below w.heap.size w w' := by
  go_enter Try.func20, Try.ntmps20
  go_wp2
  go_ret
  exact ⟨rfl, Below.refl _ _⟩

theorem lessI : LessI 20 ltI := ⟨enters_of Try.func20 (by kernel_rfl) rfl, less_any, ltI_swo⟩

theorem LessI.bool {lf : Nat} {lt : Int → Int → Bool} (h : LessI lf lt) {x y : Int} {r : Bool} (hr : lt x y = r) (w : World) : Calls Try.prog lf #[.int .i64 x, .int .i64 y] w fun e w' => e = .returned (.bool r) ∧ Below w.heap.size w w' := by
  subst hr
  exact h.call x y w

theorem zatB {w w' : World} {p : Addr} {v : Value} (h : w.cell? p = some v) (hb : Below w.heap.size w w') : w'.cell? p = some v := by
  obtain ⟨cs, t, fr, ho⟩ := cells_of_cell h
  have hg := lt_of_some ho
  simpa [World.cell?, hb.block _ hg] using h

set_option maxRecDepth 100000 in
set_option maxHeartbeats 4000000 in
theorem ahead_any {lf : Nat} {lt : Int → Int → Bool} (HL : LessI lf lt) (hb : Nat) (x1 x2 y1 y2 : Int) (w : World) (hf : w.cell? ⟨hb, 0, none⟩ = some (.func (.func lf) #[] #[])) :
    Calls Try.prog 103 #[.pointer (some ⟨hb, 0, none⟩), .agg #[.int .i64 x1, .int .i64 x2], .agg #[.int .i64 y1, .int .i64 y2]] w fun e w' => e = .returned (.bool (Hp.ahead lt (x1, x2) (y1, y2))) ∧ Below w.heap.size w w' := by
  obtain ⟨r1, h1⟩ : ∃ r1, lt x2 y2 = r1 := ⟨_, rfl⟩
  obtain ⟨r2, h2⟩ : ∃ r2, lt y2 x2 = r2 := ⟨_, rfl⟩
  have hah : Hp.ahead lt (x1, x2) (y1, y2) = (r1 || (!r2 && decide (x1 < y1))) := by
    simp only [Hp.ahead, h1, h2]
  rw [hah]
  have C1 := Lib.hid (HL.bool h1)
  have C2 := Lib.hid (HL.bool h2)
  have hE : ∀ (args : Array Value) (w : World), (callFunc lf args).run Try.prog w = .ok (.enter lf args) w := HL.enters
  have hlt : hb < w.heap.size := World.block_lt_of_cell? w _ hf
  clear h1 h2 hah HL
  go_enter Try.func103, Try.ntmps103
  go_wp2_with fail
  obtain ⟨W, hW⟩ : ∃ W, ((w.alloc (.cells #[.int .i64 x1, .int .i64 x2] 119)).alloc (.cells #[.int .i64 y1, .int .i64 y2] 119)) = W := ⟨_, rfl⟩
  have hbW : Below w.heap.size w W := by
    rw [← hW]
    exact ((Below.refl _ w).alloc (Nat.le_refl _) _).alloc (by simp) _
  have hsz : W.heap.size = w.heap.size + 2 := by rw [← hW]; simp
  have c0 : W.cell? ⟨hb, 0, none⟩ = some (.func (.func lf) #[] #[]) := by
    rw [← hW, World.cell?_alloc_past _ _ _ (by simp; omega), World.cell?_alloc_past _ _ _ (by simpa using hlt)]; exact hf
  have c1 : W.cell? ⟨w.heap.size, 0, none⟩ = some (.int .i64 x1) := by
    rw [← hW, World.cell?_alloc_past _ _ _ (by simp), World.cell?_alloc_at _ _ _ _ rfl]; rfl
  have c2 : W.cell? ⟨w.heap.size, 1, none⟩ = some (.int .i64 x2) := by
    rw [← hW, World.cell?_alloc_past _ _ _ (by simp), World.cell?_alloc_at _ _ _ _ rfl]; rfl
  have c3 : W.cell? ⟨w.heap.size + 1, 0, none⟩ = some (.int .i64 y1) := by
    rw [← hW, World.cell?_alloc_at _ _ _ _ (by simp)]; rfl
  have c4 : W.cell? ⟨w.heap.size + 1, 1, none⟩ = some (.int .i64 y2) := by
    rw [← hW, World.cell?_alloc_at _ _ _ _ (by simp)]; rfl
  rw [hW]
  obtain ⟨C, hC⟩ : ∃ C : World → Prop, C = fun A => (A.cell? ⟨hb, 0, none⟩ = some (.func (.func lf) #[] #[]) ∧ A.cell? ⟨w.heap.size, 0, none⟩ = some (.int .i64 x1) ∧ A.cell? ⟨w.heap.size, 1, none⟩ = some (.int .i64 x2) ∧ A.cell? ⟨w.heap.size + 1, 0, none⟩ = some (.int .i64 y1) ∧ A.cell? ⟨w.heap.size + 1, 1, none⟩ = some (.int .i64 y2)) ∧ Below w.heap.size w A := ⟨_, rfl⟩
  have hCa : ∀ A, C A → A.cell? ⟨hb, 0, none⟩ = some (.func (.func lf) #[] #[]) ∧ A.cell? ⟨w.heap.size, 0, none⟩ = some (.int .i64 x1) ∧ A.cell? ⟨w.heap.size, 1, none⟩ = some (.int .i64 x2) ∧ A.cell? ⟨w.heap.size + 1, 0, none⟩ = some (.int .i64 y1) ∧ A.cell? ⟨w.heap.size + 1, 1, none⟩ = some (.int .i64 y2) := fun A h => by rw [hC] at h; exact h.1
  have hCb : ∀ A, C A → Below w.heap.size w A := fun A h => by rw [hC] at h; exact h.2
  have hCn : ∀ A wz, C A → Below A.heap.size A wz → C wz := fun A wz h1 h2 => by
    rw [hC] at h1 ⊢
    obtain ⟨⟨k0, k1, k2, k3, k4⟩, h1⟩ := h1
    exact ⟨⟨zatB k0 h2, zatB k1 h2, zatB k2 h2, zatB k3 h2, zatB k4 h2⟩, h1.trans (h2.mono h1.size)⟩
  have hC0 : C W.drew := by rw [hC]; exact ⟨⟨c0, c1, c2, c3, c4⟩, hbW.drew⟩
  have K1 : ∀ A, C A → Calls Try.prog lf #[.int .i64 x2, .int .i64 y2] A fun e w' => e = .returned (.bool r1) ∧ C w' := fun A hA => (C1.out A).mono fun e wz ⟨he, hbz⟩ => ⟨he, hCn A wz hA hbz⟩
  have K2 : ∀ A, C A → Calls Try.prog lf #[.int .i64 y2, .int .i64 x2] A fun e w' => e = .returned (.bool r2) ∧ C w' := fun A hA => (C2.out A).mono fun e wz ⟨he, hbz⟩ => ⟨he, hCn A wz hA hbz⟩
  have HCa := Lib.hid hCa
  have HCb := Lib.hid hCb
  have HK1 := Lib.hid K1
  have HK2 := Lib.hid K2
  clear hW hf hlt hbW hC hCa hCb hCn c0 c1 c2 c3 c4 K1 K2 C1 C2
  refine wp_region_loose C (by kernel_rfl) (by kernel_rfl) hC0 ?_
  cases r1
  cases r2
  all_goals
    iterate 29 (first
      | (refine loose_skip (by rfl) ?_; simp only [Act.put, List.setIfInBounds_toArray, List.set_cons_zero, List.set_cons_succ])
      | (refine loose_val (v := ?_) (by rfl) ?_ ?_; rotate_left; (focus (intro A hA; obtain ⟨k0, k1, k2, k3, k4⟩ := HCa.out A hA; go_simp; first | done | with_reducible rfl)); simp only [Act.put, List.setIfInBounds_toArray, List.set_cons_zero, List.set_cons_succ])
      | (refine loose_call HK1.out (by rfl) ?_ ?_; (focus (intro A hA; go_simp; done)); simp only [Act.put, List.setIfInBounds_toArray, List.set_cons_zero, List.set_cons_succ])
      | (refine loose_call HK2.out (by rfl) ?_ ?_; (focus (intro A hA; go_simp; done)); simp only [Act.put, List.setIfInBounds_toArray, List.set_cons_zero, List.set_cons_succ]))
    refine loose_nil ?_
    intro wz hz
    go_wp2
    go_ret
    exact ⟨rfl, HCb.out wz hz⟩
end Go.Proofs.Ytecfenoidcolfaa
