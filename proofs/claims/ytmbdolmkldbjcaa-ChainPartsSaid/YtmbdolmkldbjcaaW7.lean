/-
  Walks: chain.End.
-/
import Derived.Test.YtmbdolmkldbjcaaW6
import Derived.Deep.RegionHeld3
import Derived.Shelf.Abstract
namespace Go.Proofs.Ytmbdolmkldbjcaa
open Go.RowKit Go.Shelf
attribute [local go_sem] Oper.semAt_some

def lastOf (l : List Int) : Int := l.getLastD 0
theorem lastOf_snoc (l : List Int) (x : Int) : lastOf (l ++ [x]) = x := by simp [lastOf, List.getLastD_eq_getLast?]

set_option maxRecDepth 100000 in
set_option maxHeartbeats 2000000 in
theorem Cend_any (a : Option Addr) (cap : Nat) (zs : List Int) (i : Int) (w : World) (hl : zs.length ≤ 17592186044416) (hc : IntsAt w a zs) :
    Calls Try.prog 14 #[.slice a zs.length cap, .int .i64 i] w fun e w' => e = .returned (.tuple #[.int .i64 (lastOf (along zs i)), .int .i64 (wrongOf zs [i])]) ∧ Below w.heap.size w w' := by
  refine (callsIn_wide (n := 9)).1 ?_
  refine callsIn_of_wp_marks Try.func14 rfl trivial ?_ rfl
  simp only [Try.ntmps14, List.size_toArray, List.length_cons, List.length_nil, Nat.reduceAdd, Nat.reduceSub, Array.replicate_succ, Array.replicate_zero, List.push_toArray, List.append_toArray, List.nil_append, List.cons_append]
  gi_wp2_with (refine ⟨trivial, ?_⟩; gi_at_call 24; refine (callsIn_wide.2 (Along_any _ _ _ _ _)).mono ?_; rintro e w' ⟨rfl, rfl⟩)
  obtain ⟨W, hW⟩ : ∃ W, (((w.alloc (.cells #[.int .i64 0] 3)).alloc (.cells #[.slice a zs.length cap] 22)).alloc (.cells #[.int .i64 i] 3)) = W := ⟨_, rfl⟩
  have hm : Mod none' w W := by rw [← hW]; exact (((Mod.refl _ w).alloc _).alloc _).alloc _
  have hsz : W.heap.size = w.heap.size + 3 := by rw [← hW]; simp
  have hbo : W.cell? ⟨w.heap.size, 0, none⟩ = some (.int .i64 0) := by
    rw [← hW, World.cell?_alloc_past _ _ _ (by simp; omega), World.cell?_alloc_past _ _ _ (by simp), World.cell?_alloc_at _ _ _ _ rfl]; rfl
  have hb1 : W.cell? ⟨w.heap.size + 1, 0, none⟩ = some (.slice a zs.length cap) := by
    rw [← hW, World.cell?_alloc_past _ _ _ (by simp), World.cell?_alloc_at _ _ _ _ (by simp)]; rfl
  have hb2 : W.cell? ⟨w.heap.size + 2, 0, none⟩ = some (.int .i64 i) := by
    rw [← hW, World.cell?_alloc_at _ _ _ _ (by simp)]; rfl
  have hfo : W.frozen? ⟨w.heap.size, 0, none⟩ = false := by
    rw [← hW, World.frozen?_alloc_past _ _ _ (by simp; omega), World.frozen?_alloc_past _ _ _ (by simp)]; exact World.frozen?_alloc_at _ _ _ _ rfl
  have hcW := hc.mod hm (fun _ _ h => h)
  rw [hW]
  clear hW
  refine wpIn_range rfl (by omega) (gf := 29) (lb := #[.pointer (some ⟨w.heap.size + 1, 0, none⟩), .pointer (some ⟨w.heap.size + 2, 0, none⟩)]) rfl trivial (enters_of Try.func29 (by kernel_rfl) rfl)
    (Along1_iter _ _ _ a cap zs i W hl hb1 hb2 hcW) (Keeps.refl _ _) (fun _ => rfl)
    (fun pre A => A.cell? ⟨w.heap.size, 0, none⟩ = some (.int .i64 (lastOf pre)) ∧ A.frozen? ⟨w.heap.size, 0, none⟩ = false ∧ Mod none' w A)
    (fun _ _ _ => False)
    (fun s A A' h hm' => ⟨hm'.cell h.1 (fun h => h), (hm'.frozen h.1 (fun h => h)).trans h.2.1, h.2.2.then_mv hm' (fun _ h _ => h) (by omega)⟩)
    (fun _ _ _ _ h _ => h.elim)
    ⟨hbo, hfo, hm⟩ ?round ?done ?stop
  case round =>
    rintro l pre x A hlA _ ⟨h1, h2, h3⟩ _
    gi_wp2
    refine ⟨Ctl.refl _ _, Keeps.refl _ _, fun Wb hmb _ => ?_⟩
    have g1 := hmb.cell h1 (fun h => h)
    have g2 := (hmb.frozen h1 (fun h => h)).trans h2
    have g3 := h3.then_mv hmb (fun _ h _ => h) (by omega)
    have hz := g3.size
    have hset : Mod (fun k => k = w.heap.size) Wb (Wb.setCell ⟨w.heap.size, 0, none⟩ (.int .i64 x)) := (Mod.refl (fun k => k = w.heap.size) Wb).setCell (p := ⟨w.heap.size, 0, none⟩) (fun _ => rfl) _
    have HS := Lib.hid hset
    clear hset h1 h2 h3
    gi_wp2
    refine ⟨HS.out.ctl _, HS.out.keeps ?_, ?_, ?_, ?_⟩
    · rintro k (h | h | h) _ h2
      · omega
      · omega
      · have := hc.lt h; omega
    · rw [lastOf_snoc]; exact World.cell?_setCell_same' _ _ _ (by rw [g1]; rfl)
    · rw [World.frozen?_setCell]; exact g2
    · exact g3.trans HS.out (fun k h1 h2 => by omega)
  case done =>
    rintro D A hD ⟨h1, h2, h3⟩ hK
    have hcA := hc.mod h3 (fun _ _ h => h)
    have hcall : ∀ A', Mod none' A A' → Calls Try.prog 25 #[.slice a zs.length cap, .slice (some ⟨A'.heap.size, 0, none⟩) 1 1] (A'.alloc (.cells #[.int .i64 i] 3)) fun e w' => e = .returned (.int .i64 (wrongOf zs [i])) ∧ (A'.alloc (.cells #[.int .i64 i] 3)) = w' := fun A' hA' => by
      exact wrong_any a (some ⟨A'.heap.size, 0, none⟩) cap 1 zs [i] (A'.alloc (.cells #[.int .i64 i] 3)) hl (by simp) ((hcA.mod hA' fun _ _ h => h).alloc _) (fun k hlt => by
        simp at hlt
        subst hlt
        exact ⟨A'.heap.size, 0, rfl, by simp, (World.cell?_alloc_at _ _ _ _ rfl).trans rfl⟩)
    have HC := Lib.hid hcall
    have HM := Lib.hid h3
    have HA := Lib.hid hcA
    clear hcall h3 hcA
    gi_wp2
    refine wpIn_wide.2 ?_
    go_region_held3 (fun w' => w'.cell? ⟨w.heap.size, 0, none⟩ = some (.int .i64 (lastOf (along zs i)))) (go_keep) (first | (go_at_call 25; refine (HC.out _ ((Mod.refl none' A).drew)).mono ?_; rintro e w' ⟨rfl, rfl⟩))
    gi_wp2
    have hK' : ((A.alloc (.cells #[.int .i64 i] 3)).drew).heap[D]? = some (.deferred (some [])) := ((Mod.refl none' A).alloc _).drew.block D _ hK (.inl rfl)
    refine ⟨by simp, .inl ⟨_, _, rfl, run_takeDeferred hK', ?_⟩⟩
    refine ⟨_, results_tmp2 rfl _ _ _, rfl, ?_⟩
    exact ((((HM.out).alloc _).drew).then_mv (Mv.putObj (S := none') (B := w.heap.size) _ D _ _ hK' rfl (by omega)) (fun _ h _ => h) (Nat.le_refl _)).to_below
  case stop =>
    rintro D c pre A _ _ h _
    exact h.elim
end Go.Proofs.Ytmbdolmkldbjcaa
