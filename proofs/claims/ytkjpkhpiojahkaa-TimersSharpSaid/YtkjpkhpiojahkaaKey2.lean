/-
  A key that came in by value.
-/
import Derived.Test.YtkjpkhpiojahkaaOps
import Derived.WideShapes
namespace Go.Proofs.Ytkjpkhpiojahkaa
set_option linter.unusedVariables false
open Go.RowKit Go.ChangeShapes Go.WideShapes Go.Deep

set_option maxRecDepth 100000 in
theorem open_key2 {Hd : Type} {enc : TypeId × Value → Hd} {w w' : World} {base b0 : Nat} {spare : Nat → Bool} {held : Bool} {r : Reach} {v : Value} {d : DataW Hd} {ps : List MemPlace}
    (hval : Value.okWide Try.prog w' r b0 24 v) (h : DataW.Trod enc Try.prog w base spare held 24 v d ps) :
    ∃ p q : Int, v = .agg #[.int .i64 p, .int .i64 q] ∧ (Lit.int .i64 p).wf = true ∧ (Lit.int .i64 q).wf = true := by
  obtain ⟨fuel, hf⟩ := h
  obtain ⟨f0, f1, hs, _⟩ := Ke.Try.fields24
  obtain ⟨cs, rfl, _⟩ := okWide_struct hs hval
  obtain ⟨p, q, hcs, hp, hq⟩ := Ke.open_key hf
  refine ⟨p, q, ?_, hp, hq⟩
  have : cs.toList = [.int .i64 p, .int .i64 q] := by simpa [Value.cells] using hcs
  rw [← Array.toArray_toList (xs := cs), this]
theorem open_intsR {Hd : Type} {enc : TypeId × Value → Hd} {W : World} {base : Nat} {held : Bool} {fuel : Nat} {a : Option Addr} {len cap : Nat} {x : DataW Hd × List MemPlace}
    (h : DataW.trod enc Try.prog W base (fun _ => true) held fuel 54 [.slice a len cap] = some x) :
    ∃ ks : List Int, ks.length = len ∧ (IntsAt W a ks ∧ len ≤ cap ∧ cap ≤ 9223372036854775807 ∧ ∀ x ∈ ks, (Lit.int .i64 x).wf = true) := by
  rcases open_ints Try.underlying54 Try.underlying3 (by kernel_rfl) h with ⟨hcs, _⟩ | ⟨x, l, c, zs, hcs, _, hl, hm, hz, _, hcell, hwz⟩
  · simp at hcs
    obtain ⟨rfl, rfl, rfl⟩ := hcs
    exact ⟨[], rfl, fun k hk => by simp at hk, Nat.le_refl _, by omega, by simp⟩
  · simp at hcs
    obtain ⟨rfl, rfl, rfl⟩ := hcs
    obtain ⟨xs, h1, h2, h3, h4⟩ := IsRow.ints (.inr ⟨_, rfl, hl, hm, by simpa using hz, hcell, hwz⟩)
    unfold maxLen at hm
    exact ⟨xs, h1, h2, h3, by omega, h4⟩
theorem two_under : Try.prog.underlying 50 = some (.array 2 3) := by kernel_rfl
theorem two_cells : Try.prog.cellsOf 50 = 2 := by kernel_rfl
set_option maxRecDepth 100000 in
theorem open_two {Hd : Type} {enc : TypeId × Value → Hd} {w w' : World} {base b0 : Nat} {spare : Nat → Bool} {held : Bool} {r : Reach} {v : Value} {d : DataW Hd} {ps : List MemPlace}
    (hval : Value.okWide Try.prog w' r b0 50 v) (h : DataW.Trod enc Try.prog w base spare held 50 v d ps) :
    ∃ p q : Int, v = .agg #[.int .i64 p, .int .i64 q] ∧ (Lit.int .i64 p).wf = true ∧ (Lit.int .i64 q).wf = true := by
  obtain ⟨fuel, hf⟩ := h
  simp only [Value.okWide, two_under] at hval
  obtain ⟨cs, rfl, _⟩ := hval
  obtain ⟨xs, n, _, _, hl, hxl, hi⟩ := DataW.trod_array two_under hf
  rw [two_cells] at hl
  have h0 := hi 0 (by omega)
  have h1 := hi 1 (by omega)
  rw [Ke.cells3] at h0 h1
  obtain ⟨l⟩ := cs
  simp only [Value.cells] at hl h0 h1
  match l, hl, xs, hxl with
  | [c0, c1], _, [y0, y1], _ =>
    obtain ⟨p, hp, _, hp2⟩ := DataW.trod_int Try.underlying3 h0
    obtain ⟨q, hq, _, hq2⟩ := DataW.trod_int Try.underlying3 h1
    simp at hp hq
    exact ⟨p, q, by rw [hp, hq], hp2, hq2⟩
theorem open_slice_cap {Hd : Type} {enc : TypeId × Value → Hd} {w : World} {base : Nat} {spare : Nat → Bool} {held : Bool} {fuel : Nat} {a : Option Addr} {len cap : Nat} {x : DataW Hd × List MemPlace} {t e : TypeId}
    (hu : Try.prog.underlying t = some (.slice e)) (h : DataW.trod enc Try.prog w base spare held fuel t [.slice a len cap] = some x) : len ≤ cap ∧ cap ≤ 9223372036854775807 := by
  rcases Go.Deep.open_slice hu h with ⟨h0, _⟩ | ⟨a', len', cap', m, n, D, Pl, hcs, _, hl, hm, _⟩
  · injection h0 with h0
    injection h0 with _ h0 h1
    omega
  · injection hcs with hcs
    injection hcs with h1 h2 h3
    unfold maxLen at hm
    omega
end Go.Proofs.Ytkjpkhpiojahkaa
