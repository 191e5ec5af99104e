/-
  A slice of calls that came in, as the walks want it.
-/
import Derived.Test.YtecfenoidcolfaaL4
import Derived.Test.YtecfenoidcolfaaKeys
namespace Go.Proofs.Ytecfenoidcolfaa
set_option linter.unusedVariables false
open Go.RowKit Go.ChangeShapes Go.WideShapes Go.Deep

theorem Try.fields59 : ∃ f0 f1 : Field, Try.prog.underlying 59 = some (.struct #[f0, f1]) ∧ f0.type = 3 ∧ f1.type = 32 ∧ f0.offset = 0 ∧ f1.offset = 1 :=
  ⟨_, _, Try.underlying59, rfl, rfl, rfl, rfl⟩
theorem cells59 : Try.prog.cellsOf 59 = 3 := by kernel_rfl

variable {Hd : Type} {enc : TypeId × Value → Hd} {w : World} {base : Nat} {spare : Nat → Bool} {held : Bool}
set_option maxRecDepth 100000 in
/-- three cells that are a call -/
theorem open_op {fuel : Nat} {cs : List Value} {x : DataW Hd × List MemPlace} (h : DataW.trod enc Try.prog w base spare held fuel 59 cs = some x) :
    ∃ r p q : Int, cs = [.int .i64 r, .int .i64 p, .int .i64 q] ∧ (Lit.int .i64 r).wf = true ∧ (Lit.int .i64 p).wf = true ∧ (Lit.int .i64 q).wf = true := by
  obtain ⟨f0, f1, hs, t0, t1, o0, o1⟩ := Try.fields59
  obtain ⟨xs, n, _, _, hl, hxl, hf⟩ := DataW.trod_struct hs h
  rw [cells59] at hl
  match cs, hl, xs, hxl with
  | [c0, c1, c2], _, [y0, y1], _ =>
    have h0 := hf 0 f0 rfl
    have h1 := hf 1 f1 rfl
    rw [t0, o0, Ke.cells3] at h0
    rw [t1, o1, Ke.cells38] at h1
    obtain ⟨r, hr, _, hr2⟩ := DataW.trod_int Try.underlying3 h0
    obtain ⟨p, q, hpq, hp2, hq2⟩ := Ke.open_key h1
    simp at hr hpq
    exact ⟨r, p, q, by rw [hr, hpq.1, hpq.2], hr2, hp2, hq2⟩

theorem open_ops {fuel : Nat} {a : Option Addr} {len cap : Nat} {x : DataW Hd × List MemPlace} (h : DataW.trod enc Try.prog w base spare held fuel 52 [.slice a len cap] = some x) :
    ∃ os : List (Int × Int × Int), os.length = len ∧ OpsAt w a os := by
  rcases open_slice Try.underlying52 h with ⟨h0, _⟩ | ⟨a', len', cap', m, n, D, Pl, hcs, _, hl, _, hm, _, hi⟩
  · injection h0 with h0
    injection h0 with _ h0 _
    exact ⟨[], by rw [h0]; rfl, .inl rfl, by simp⟩
  · injection hcs with hcs
    injection hcs with h1 h2 h3
    subst h1
    subst h2
    subst h3
    have hlm : len ≤ m := by rw [hm]; split <;> omega
    rw [cells59] at hi
    have hq : ∀ i, i < len → ∃ k : Int × Int × Int, (w.cell? (a'.add (i * 3)) = some (.int .i64 k.1) ∧ w.cell? (a'.add (i * 3 + 1)) = some (.int .i64 k.2.1) ∧ w.cell? (a'.add (i * 3 + 2)) = some (.int .i64 k.2.2)) ∧ (Lit.int .i64 k.2.2).wf = true := fun i hil => by
      obtain ⟨cs', hc, ht⟩ := hi i (by omega)
      obtain ⟨r, p, q, rfl, _, _, hq⟩ := open_op ht
      obtain ⟨_, _, hat⟩ := World.cells?_some hc
      have e0 := hat 0 (by omega)
      have e1 := hat 1 (by omega)
      have e2 := hat 2 (by omega)
      rw [Go.Deep.add_add] at e0 e1 e2
      exact ⟨(r, p, q), ⟨by simpa using e0, by simpa using e1, by simpa using e2⟩, hq⟩
    obtain ⟨ks, hk1, hk2⟩ := Ke.exists_list (0, 0, 0) _ len hq
    refine ⟨ks, hk1, ?_, fun k hk => ?_⟩
    · rcases Nat.eq_zero_or_pos len with h0 | h0
      · exact .inl (by rw [hk1]; exact h0)
      · have hs : (a'.add (0 * 3)).spot = none := Ke.spot_none (hk2 0 h0).1.1
        obtain ⟨b, off, spot⟩ := a'
        have hs' : spot = none := by
          unfold Addr.add at hs
          split at hs <;> simp_all
        subst hs'
        have ha : ∀ j, (⟨b, off, none⟩ : Addr).add j = ⟨b, off + j, none⟩ := fun j => by unfold Addr.add; split <;> simp_all
        refine .inr ⟨b, off, rfl, ?_, fun k hk => ?_⟩
        · have := (hk2 0 h0).1.1
          rw [ha] at this
          exact World.block_lt_of_cell? w _ this
        · have := (hk2 k (by omega)).1
          rw [ha, ha, ha] at this
          exact ⟨this.1, by rw [Nat.add_assoc]; exact this.2.1, by rw [Nat.add_assoc]; exact this.2.2⟩
    · obtain ⟨i, hi, e⟩ := List.mem_iff_getElem.1 hk
      have := (hk2 i (by omega)).2
      rwa [List.getElem?_eq_getElem hi, Option.getD_some, e] at this
end Go.Proofs.Ytecfenoidcolfaa
