/-
  Walks: the laws' awake.
-/
import Derived.Test.YtmbdolmkldbjcaaW9
namespace Go.Proofs.Ytmbdolmkldbjcaa
open Go.RowKit

theorem aw1 : lastOf (along [1, -1, 1] 0) = 1 := by decide +kernel
theorem aw2 : wrongOf [1, -1, 1] [0] = 0 := by decide +kernel
theorem aw3 : rightOf [1, -1, 1] [0, 2] = 0 := by decide +kernel
theorem aw4 : acts0 [1, -1, 1] [0, 2] 2 = [(0, 0, 1), (1, 2, 1)] := by decide +kernel
theorem aw5 : cellsOf [1, -1, 1] [0, 2] 2 [(0, 0, 1), (1, 2, 1)] = [.int .i64 0, .int .i64 0, .int .i64 1, .bool false, .int .i64 1, .int .i64 2, .int .i64 1, .bool true] := by
  have h1 : spins [1, -1, 1] [0, 2] (0, 0, 1) = false := by decide +kernel
  have h2 : spins [1, -1, 1] [0, 2] (1, 2, 1) = true := by decide +kernel
  simp [cellsOf, spn, actC, h1, h2]

/-- cells of an owned row of 8 cells -/
theorem own8 {w : World} {B : Nat} {v : Value} {c0 c1 c2 c3 c4 c5 c6 c7 : Value} (h : w.ownsRow B 33 4 v 2 [c0, c1, c2, c3, c4, c5, c6, c7]) :
    ∃ g cp, v = .slice (some ⟨g, 0, none⟩) 2 cp ∧ w.cell? ⟨g, 0, none⟩ = some c0 ∧ w.cell? ⟨g, 1, none⟩ = some c1 ∧ w.cell? ⟨g, 2, none⟩ = some c2 ∧ w.cell? ⟨g, 3, none⟩ = some c3 ∧
      w.cell? ⟨g, 4, none⟩ = some c4 ∧ w.cell? ⟨g, 5, none⟩ = some c5 ∧ w.cell? ⟨g, 6, none⟩ = some c6 ∧ w.cell? ⟨g, 7, none⟩ = some c7 := by
  rcases ownsRow_cases h with ⟨_, h0⟩ | ⟨g, cp, cur, rfl, _, hg, _, _, _, ht⟩
  · cases h0
  · refine ⟨g, cp, rfl, ?_, ?_, ?_, ?_, ?_, ?_, ?_, ?_⟩ <;>
      (rw [cell_of_row w g _ cur 33 (0, 0) hg, ← Array.getElem?_toList, ← List.getElem?_take_of_lt (show _ < 2 * 4 by omega), ht]; rfl)

set_option maxHeartbeats 2000000 in
theorem awake_any (w : World) : Calls Try.prog 8 #[] w fun e w' => e = .returned (.bool true) ∧ Below w.heap.size w w' := by
  obtain ⟨W, hW⟩ : ∃ W, w.alloc (.cells #[.int .i64 1, .int .i64 (-1), .int .i64 1] 3) = W := ⟨_, rfl⟩
  have hB : Below w.heap.size w W := by rw [← hW]; exact (Below.refl _ _).alloc (Nat.le_refl _) _
  have hsz : W.heap.size = w.heap.size + 1 := by rw [← hW]; simp
  have hc : IntsAt W (some ⟨w.heap.size, 0, none⟩) [1, -1, 1] := by
    intro k hk
    refine ⟨w.heap.size, 0, rfl, by omega, ?_⟩
    rw [← hW, World.cell?_alloc_at _ _ _ _ rfl]
    match k, hk with
    | 0, _ => rfl
    | 1, _ => rfl
    | 2, _ => rfl
  have h1 := Cend_any _ 3 [1, -1, 1] 0 W (by decide) hc
  rw [aw1, aw2] at h1
  have H1 := Lib.hid h1
  clear h1
  go_enter Try.func8, Try.ntmps8
  go_wp2_with fail
  refine H1.out.mono ?_
  rintro e w1 ⟨rfl, hb1⟩
  have hc1 := hc.below (Nat.le_refl _) hb1
  have hs1 := hb1.size
  obtain ⟨W2, hW2⟩ : ∃ W2, w1.alloc (.cells #[.int .i64 0, .int .i64 2] 3) = W2 := ⟨_, rfl⟩
  have hB2 : Below w.heap.size w W2 := by rw [← hW2]; exact (hB.trans (hb1.mono (by omega))).alloc (by omega) _
  have hc2 : IntsAt W2 (some ⟨w.heap.size, 0, none⟩) [1, -1, 1] := by rw [← hW2]; exact hc1.alloc _
  have hd2 : IntsAt W2 (some ⟨w1.heap.size, 0, none⟩) [0, 2] := by
    intro k hk
    refine ⟨w1.heap.size, 0, rfl, by rw [← hW2]; simp, ?_⟩
    rw [← hW2, World.cell?_alloc_at _ _ _ _ rfl]
    match k, hk with
    | 0, _ => rfl
    | 1, _ => rfl
  have hs2 := hB2.size
  have h2 := Assign_ok _ _ 3 2 [1, -1, 1] [0, 2] W2 (by decide) hc2 hd2 aw3
  rw [show ([0, 2] : List Int).length = 2 from rfl, aw4, aw5] at h2
  have H2 := Lib.hid h2
  have HB2 := Lib.hid hB2
  clear h2 hB hc hb1 hc1 hB2 hc2 hd2
  clear hW
  go_wp2_with fail
  refine H2.out.mono ?_
  rintro e w3 ⟨v, rfl, hown, hb3⟩
  obtain ⟨g, cp, rfl, c0, c1, c2, c3, c4, c5, c6, c7⟩ := own8 hown
  have hB3 := HB2.out.trans (hb3.mono hs2)
  have HB3 := Lib.hid hB3
  clear hb3 hB3 hown hW2
  go_wp2
  go_ret
  exact ⟨rfl, HB3.out⟩
end Go.Proofs.Ytmbdolmkldbjcaa
