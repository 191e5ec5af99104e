/-
  A slice of keys that came in, as the walks want it.
-/
import Derived.Test.YtecfenoidcolfaaL2
import Derived.Deep.Slices
import Derived.Deep.Fields
import Derived.ChangeArms
import Derived.OpenShut
namespace Go.Proofs.Ytecfenoidcolfaa.Ke
set_option linter.unusedVariables false
open Go.RowKit Go.ChangeShapes Go.WideShapes Go.Deep

theorem exists_list {β : Type} (d : β) (Q : Nat → β → Prop) : ∀ n, (∀ i, i < n → ∃ x, Q i x) → ∃ l : List β, l.length = n ∧ ∀ i, i < n → Q i (l[i]?.getD d)
  | 0, _ => ⟨[], rfl, by omega⟩
  | n + 1, h => by
    obtain ⟨l, h1, h2⟩ := exists_list d Q n fun i hi => h i (by omega)
    obtain ⟨x, hx⟩ := h n (by omega)
    refine ⟨l ++ [x], by simp [h1], fun i hi => ?_⟩
    by_cases hin : i = n
    · subst hin
      rw [List.getElem?_append_right (by omega)]
      simpa [h1] using hx
    · rw [List.getElem?_append_left (by omega)]
      exact h2 i (by omega)

theorem spot_none {w : World} {x : Addr} {v : Value} (h : w.cell? x = some v) : x.spot = none := by
  unfold World.cell? at h
  split at h
  · split at h
    · cases h
    · rename_i hs; simpa using hs
  · cases h

theorem Try.fields32 : ∃ f0 f1 : Field, Try.prog.underlying 32 = some (.struct #[f0, f1]) ∧ f0.type = 3 ∧ f1.type = 3 ∧ f0.offset = 0 ∧ f1.offset = 1 :=
  ⟨_, _, Try.underlying32, rfl, rfl, rfl, rfl⟩
theorem cells38 : Try.prog.cellsOf 32 = 2 := by kernel_rfl
theorem cells3 : Try.prog.cellsOf 3 = 1 := by kernel_rfl

variable {Hd : Type} {enc : TypeId × Value → Hd} {w : World} {base : Nat} {spare : Nat → Bool} {held : Bool}
set_option maxRecDepth 100000 in
/-- two cells that are a key -/
theorem open_key {fuel : Nat} {cs : List Value} {x : DataW Hd × List MemPlace} (h : DataW.trod enc Try.prog w base spare held fuel 32 cs = some x) :
    ∃ p q : Int, cs = [.int .i64 p, .int .i64 q] ∧ (Lit.int .i64 p).wf = true ∧ (Lit.int .i64 q).wf = true := by
  obtain ⟨f0, f1, hs, t0, t1, o0, o1⟩ := Try.fields32
  obtain ⟨xs, n, _, _, hl, hxl, hf⟩ := DataW.trod_struct hs h
  rw [cells38] at hl
  match cs, hl, xs, hxl with
  | [c0, c1], _, [y0, y1], _ =>
    have h0 := hf 0 f0 rfl
    have h1 := hf 1 f1 rfl
    rw [t0, o0, cells3] at h0
    rw [t1, o1, cells3] at h1
    obtain ⟨p, hp, _, hp2⟩ := DataW.trod_int Try.underlying3 h0
    obtain ⟨q, hq, _, hq2⟩ := DataW.trod_int Try.underlying3 h1
    simp at hp hq
    exact ⟨p, q, by rw [hp, hq], hp2, hq2⟩

theorem open_keys {fuel : Nat} {a : Option Addr} {len cap : Nat} {x : DataW Hd × List MemPlace} (h : DataW.trod enc Try.prog w base spare held fuel 38 [.slice a len cap] = some x) :
    ∃ ks : List (Int × Int), ks.length = len ∧ KeysAt w a ks ∧ ∀ k ∈ ks, (Lit.int .i64 k.1).wf = true ∧ (Lit.int .i64 k.2).wf = true := by
  rcases open_slice Try.underlying38 h with ⟨h0, _⟩ | ⟨a', len', cap', m, n, D, Pl, hcs, _, hl, _, hm, _, hi⟩
  · injection h0 with h0
    injection h0 with _ h0 _
    exact ⟨[], by rw [h0]; rfl, .inl rfl, by simp⟩
  · injection hcs with hcs
    injection hcs with h1 h2 h3
    subst h1
    subst h2
    subst h3
    have hlm : len ≤ m := by rw [hm]; split <;> omega
    rw [cells38] at hi
    have hq : ∀ i, i < len → ∃ k : Int × Int, (w.cell? (a'.add (i * 2)) = some (.int .i64 k.1) ∧ w.cell? (a'.add (i * 2 + 1)) = some (.int .i64 k.2)) ∧ (Lit.int .i64 k.1).wf = true ∧ (Lit.int .i64 k.2).wf = true := fun i hil => by
      obtain ⟨cs', hc, ht⟩ := hi i (by omega)
      obtain ⟨p, q, rfl, hp, hq⟩ := open_key ht
      obtain ⟨_, _, hat⟩ := World.cells?_some hc
      have e0 := hat 0 (by omega)
      have e1 := hat 1 (by omega)
      rw [Go.Deep.add_add] at e0 e1
      exact ⟨(p, q), ⟨by simpa using e0, by simpa using e1⟩, hp, hq⟩
    obtain ⟨ks, hk1, hk2⟩ := exists_list (0, 0) _ len hq
    refine ⟨ks, hk1, ?_, fun k hk => ?_⟩
    · rcases Nat.eq_zero_or_pos len with h0 | h0
      · exact .inl (by rw [hk1]; exact h0)
      · have hs : (a'.add (0 * 2)).spot = none := spot_none (hk2 0 h0).1.1
        obtain ⟨b, off, spot⟩ := a'
        have hs' : spot = none := by
          unfold Addr.add at hs
          split at hs <;> simp_all
        subst hs'
        have ha : ∀ j, (⟨b, off, none⟩ : Addr).add j = ⟨b, off + j, none⟩ := fun j => by unfold Addr.add; split <;> simp_all
        refine .inr ⟨b, off, rfl, ?_, fun k hk => ?_⟩
        · have := (hk2 0 h0).1.1
          rw [ha] at this
          exact World.block_lt_of_cell? w _ this
        · have := (hk2 k (by omega)).1
          rw [ha, ha] at this
          exact ⟨this.1, by rw [Nat.add_assoc]; exact this.2⟩
    · obtain ⟨i, hi, e⟩ := List.mem_iff_getElem.1 hk
      have := (hk2 i (by omega)).2
      rwa [List.getElem?_eq_getElem hi, Option.getD_some, e] at this
end Go.Proofs.Ytecfenoidcolfaa.Ke
