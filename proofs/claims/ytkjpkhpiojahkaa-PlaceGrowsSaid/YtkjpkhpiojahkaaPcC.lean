/-
  Place: the example.
-/
import Derived.Test.YtkjpkhpiojahkaaPcB
import Derived.Test.YtkjpkhpiojahkaaPc6
namespace Go.Proofs.Ytkjpkhpiojahkaa
set_option linter.unusedVariables false
open Go.RowKit Hp
attribute [local go_sem] Oper.semAt_some
theorem intsAt_box {A : World} {b : Nat} {zs : List Int} {w0 : World} {R : Ast} (h : On w0 A (sep (boxA b 3 (ints zs).toArray) R)) : IntsAt A (some ⟨b, 0, none⟩) zs := fun k hk => by
  have h1 : A.cell? ⟨b, k, none⟩ = some (.int .i64 zs[k]) := by
    have := (h.box1 k).1
    rw [this]
    simp [ints, List.getElem?_eq_getElem hk]
  exact ⟨b, 0, rfl, World.block_lt_of_cell? A _ h1, by rw [Nat.zero_add, h1, List.getElem?_eq_getElem hk]; rfl⟩
theorem On.ints_read {w0 A : World} {R : Ast} {v : Value} {zs : List Int} (h : On w0 A (sep (intsA v zs) R)) : ∃ a c, v = .slice a zs.length c ∧ IntsAt A a zs := by
  obtain ⟨F, hF, _⟩ := h.get1
  rcases own_parts hF.1 with ⟨h1, h2⟩ | ⟨g, cap, cur, h1, hg, _, _, htk, _⟩
  · subst h1
    have : zs = [] := List.eq_nil_of_length_eq_zero h2
    subst this
    exact ⟨_, _, rfl, fun k hk => by simp at hk⟩
  · subst h1
    refine ⟨_, _, rfl, fun k hk => ?_⟩
    have h1 := own_cellG hF.1 (Go.Proofs.Ytkjpkhpiojahkaa.ints_at (List.getElem?_eq_getElem hk))
    exact ⟨g, 0, rfl, World.block_lt_of_cell? A _ h1, by rw [Nat.zero_add, h1, List.getElem?_eq_getElem hk]; rfl⟩
def awR : List Int := [5, -1, 7]
def awK : List (Int × Int) := [(9, 5), (3, 2), (4, 1), (8, 7)]
section
variable {w0 w : World} {R : Ast}
set_option maxRecDepth 100000 in
set_option maxHeartbeats 8000000 in
theorem pawake_ok (w : World) : Calls Try.prog 58 #[] w fun e w' => e = .returned (.bool true) ∧ Below w.heap.size w w' := by
  obtain ⟨bk, hbk⟩ : ∃ b, w.heap.size = b := ⟨_, rfl⟩
  obtain ⟨W, hW⟩ : ∃ x, w.alloc (.cells #[.int .i64 9, .int .i64 5, .int .i64 3, .int .i64 2, .int .i64 4, .int .i64 1, .int .i64 8, .int .i64 7] 24) = x := ⟨_, rfl⟩
  have h1 := (On.emp w).new1 24 #[.int .i64 9, .int .i64 5, .int .i64 3, .int .i64 2, .int .i64 4, .int .i64 1, .int .i64 8, .int .i64 7]
  rw [hW, hbk] at h1
  have hkk : ∀ A R', On w A (sep (boxA bk 24 #[.int .i64 9, .int .i64 5, .int .i64 3, .int .i64 2, .int .i64 4, .int .i64 1, .int .i64 8, .int .i64 7]) R') → Ke.KeysAt A (some ⟨bk, 0, none⟩) awK := fun A R' h => by
    obtain ⟨F, hF, _⟩ := h.get1
    refine keysAt_box hF fun k hk => ?_
    match k, hk with
    | 0, _ => exact ⟨rfl, rfl⟩
    | 1, _ => exact ⟨rfl, rfl⟩
    | 2, _ => exact ⟨rfl, rfl⟩
    | 3, _ => exact ⟨rfl, rfl⟩
  obtain ⟨bi, hbi⟩ : ∃ b, W.heap.size = b := ⟨_, rfl⟩
  obtain ⟨W1, hW1⟩ : ∃ x, W.alloc (.cells #[.int .i64 5, .int .i64 (-1), .int .i64 7] 3) = x := ⟨_, rfl⟩
  have h2 := h1.new1 3 #[.int .i64 5, .int .i64 (-1), .int .i64 7]
  rw [hW1, hbi] at h2
  have hpl := place_ok (rc := 3) (cap := 4) h2 (r := awR) (ks := awK) (fun A hA => intsAt_box (zs := awR) hA) (by decide) (by decide) (fun A hA => hkk A _ hA.sw0) (by decide) (by decide) (by decide) (by decide)
  have e1 : bothE awR awK = 0 := by decide
  have e2 : placeL awR (putAll [] awK) = [2, 1, 7] := by decide
  rw [e1, e2] at hpl
  have HPl := Lib.hid hpl
  have HKk := Lib.hid hkk
  clear h1 h2 hpl hkk e1 e2
  go_enter Try.func58, Try.ntmps58
  go_wp2_with fail
  clear hW hbk hbi
  refine HPl.out.mono ?_
  rintro e w1 ⟨v, rfl, _, hq⟩
  obtain ⟨va, vc, rfl, _⟩ := (hq (by trivial)).ints_read
  have h3 := hq (by trivial)
  obtain ⟨bj, hbj⟩ : ∃ b, w1.heap.size = b := ⟨_, rfl⟩
  obtain ⟨W3, hW3⟩ : ∃ x, w1.alloc (.cells #[.int .i64 5, .int .i64 (-1), .int .i64 7] 3) = x := ⟨_, rfl⟩
  have h4 := h3.new1 3 #[.int .i64 5, .int .i64 (-1), .int .i64 7]
  rw [hW3, hbj] at h4
  have hvi := victim_ok (rc := 3) (cap := 4) (r := awR) (ks := awK) ((Plain.box _ _ _).sepT ((Plain.ints _ _).sepT ((Plain.box _ _ _).sepT ((Plain.box _ _ _).sepT Plain.emp.tame)))) h4 (fun A hA => intsAt_box (zs := awR) hA) (by decide) (by decide) (fun A hA => HKk.out A _ (hA.sw2.sw1.sw0)) (by decide) (by decide) (by decide) (by decide)
  have e1 : vicW awR awK = 0 := by decide
  have e2 : vicE awR awK = 0 := by decide
  rw [e1, e2] at hvi
  have HVi := Lib.hid hvi
  clear hq h3 h4 hvi e1 e2
  go_wp2_with fail
  refine HVi.out.mono ?_
  rintro e w2 ⟨rfl, h5⟩
  obtain ⟨bl, hbl⟩ : ∃ b, w2.heap.size = b := ⟨_, rfl⟩
  obtain ⟨W4, hW4⟩ : ∃ x, w2.alloc (.cells #[.int .i64 2, .int .i64 1, .int .i64 7] 3) = x := ⟨_, rfl⟩
  have h6 := h5.new1 3 #[.int .i64 2, .int .i64 1, .int .i64 7]
  rw [hW4, hbl] at h6
  obtain ⟨_, _, he, hva⟩ := ((h6.sw1.sw0)).ints_read
  cases he
  have hin := pints_ok va (some ⟨bl, 0, none⟩) vc 3 [2, 1, 7] [2, 1, 7] W4 hva (intsAt_box (zs := [2, 1, 7]) h6) (by decide) (by decide)
  rw [decide_eq_true rfl] at hin
  have HIn := Lib.hid hin
  have H6 := Lib.hid h6
  clear h5 h6 hva hin
  go_wp2_with fail
  refine HIn.out.mono ?_
  rintro e w3 ⟨rfl, hb⟩
  have H7 := Lib.hid (H6.out.below hb)
  clear hb
  go_wp2_with fail
  go_ret
  exact ⟨rfl, H7.out.to_below⟩
end
end Go.Proofs.Ytkjpkhpiojahkaa
