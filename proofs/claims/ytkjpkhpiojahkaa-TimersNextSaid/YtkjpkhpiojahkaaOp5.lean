/-
  A slice of calls of timers that came in, as the walks want it.
-/
import Derived.Test.YtkjpkhpiojahkaaT8
namespace Go.Proofs.Ytkjpkhpiojahkaa
set_option linter.unusedVariables false
open Go.RowKit Go.ChangeShapes Go.WideShapes Go.Deep

/-- calls of timers in memory: what is asked, the timer, the time -/
def OpsAt5 (w : World) (a : Option Addr) (os : List (Int × Int × Int)) : Prop :=
  (os.length = 0 ∨ ∃ b off, a = some ⟨b, off, none⟩ ∧ b < w.heap.size ∧ ∀ k, k < os.length → w.cell? ⟨b, off + k * 3, none⟩ = some (.int .i64 (os[k]?.getD (0, 0, 0)).1) ∧ w.cell? ⟨b, off + k * 3 + 1, none⟩ = some (.int .i64 (os[k]?.getD (0, 0, 0)).2.1) ∧ w.cell? ⟨b, off + k * 3 + 2, none⟩ = some (.int .i64 (os[k]?.getD (0, 0, 0)).2.2)) ∧
  ∀ k ∈ os, (Lit.int .i64 k.2.1).wf = true
theorem OpsAt5.get {w A : World} {a : Option Addr} {os : List (Int × Int × Int)} (h : OpsAt5 w a os) (hb : Below w.heap.size w A) {k : Nat} (hk : k < os.length) :
    ∃ b off o, a = some ⟨b, off, none⟩ ∧ os[k]? = some o ∧ A.cell? ⟨b, off + k * 3, none⟩ = some (.int .i64 o.1) ∧ A.cell? ⟨b, off + k * 3 + 1, none⟩ = some (.int .i64 o.2.1) ∧ A.cell? ⟨b, off + k * 3 + 2, none⟩ = some (.int .i64 o.2.2) ∧ (Lit.int .i64 o.2.1).wf = true := by
  obtain ⟨b, off, rfl, hbl, hc⟩ := h.1.resolve_left (by omega)
  obtain ⟨h0, h1, h2⟩ := hc k hk
  have ho : os[k]? = some os[k] := List.getElem?_eq_getElem hk
  rw [ho] at h0 h1 h2
  exact ⟨b, off, os[k], rfl, ho, (hb.cell (by exact hbl)).trans h0, (hb.cell (by exact hbl)).trans h1, (hb.cell (by exact hbl)).trans h2, h.2 _ (List.mem_of_getElem? ho)⟩

theorem Try.fields77 : ∃ f0 f1 f2 : Field, Try.prog.underlying 77 = some (.struct #[f0, f1, f2]) ∧ f0.type = 3 ∧ f1.type = 3 ∧ f2.type = 3 ∧ f0.offset = 0 ∧ f1.offset = 1 ∧ f2.offset = 2 :=
  ⟨_, _, _, Try.underlying77, rfl, rfl, rfl, rfl, rfl, rfl⟩
theorem cells_op5 : Try.prog.cellsOf 77 = 3 := by kernel_rfl

variable {Hd : Type} {enc : TypeId × Value → Hd} {w : World} {base : Nat} {spare : Nat → Bool} {held : Bool}
set_option maxRecDepth 100000 in
/-- three cells that are a call -/
theorem open_op5 {fuel : Nat} {cs : List Value} {x : DataW Hd × List MemPlace} (h : DataW.trod enc Try.prog w base spare held fuel 77 cs = some x) :
    ∃ r p q : Int, cs = [.int .i64 r, .int .i64 p, .int .i64 q] ∧ (Lit.int .i64 r).wf = true ∧ (Lit.int .i64 p).wf = true ∧ (Lit.int .i64 q).wf = true := by
  obtain ⟨f0, f1, f2, hs, t0, t1, t2, o0, o1, o2⟩ := Try.fields77
  obtain ⟨xs, n, _, _, hl, hxl, hf⟩ := DataW.trod_struct hs h
  rw [cells_op5] at hl
  match cs, hl, xs, hxl with
  | [c0, c1, c2], _, [y0, y1, y2], _ =>
    have h0 := hf 0 f0 rfl
    have h1 := hf 1 f1 rfl
    have h2 := hf 2 f2 rfl
    rw [t0, o0, Ke.cells3] at h0
    rw [t1, o1, Ke.cells3] at h1
    rw [t2, o2, Ke.cells3] at h2
    obtain ⟨r, hr, _, hr2⟩ := DataW.trod_int Try.underlying3 h0
    obtain ⟨p, hp, _, hp2⟩ := DataW.trod_int Try.underlying3 h1
    obtain ⟨q, hq, _, hq2⟩ := DataW.trod_int Try.underlying3 h2
    simp at hr hp hq
    exact ⟨r, p, q, by rw [hr, hp, hq], hr2, hp2, hq2⟩

theorem open_ops5 {fuel : Nat} {a : Option Addr} {len cap : Nat} {x : DataW Hd × List MemPlace} (h : DataW.trod enc Try.prog w base spare held fuel 71 [.slice a len cap] = some x) :
    ∃ os : List (Int × Int × Int), os.length = len ∧ OpsAt5 w a os := by
  rcases open_slice Try.underlying71 h with ⟨h0, _⟩ | ⟨a', len', cap', m, n, D, Pl, hcs, _, hl, _, hm, _, hi⟩
  · injection h0 with h0
    injection h0 with _ h0 _
    exact ⟨[], by rw [h0]; rfl, .inl rfl, by simp⟩
  · injection hcs with hcs
    injection hcs with h1 h2 h3
    subst h1
    subst h2
    subst h3
    have hlm : len ≤ m := by rw [hm]; split <;> omega
    rw [cells_op5] at hi
    have hq : ∀ i, i < len → ∃ k : Int × Int × Int, (w.cell? (a'.add (i * 3)) = some (.int .i64 k.1) ∧ w.cell? (a'.add (i * 3 + 1)) = some (.int .i64 k.2.1) ∧ w.cell? (a'.add (i * 3 + 2)) = some (.int .i64 k.2.2)) ∧ (Lit.int .i64 k.2.1).wf = true := fun i hil => by
      obtain ⟨cs', hc, ht⟩ := hi i (by omega)
      obtain ⟨r, p, q, rfl, _, hq, _⟩ := open_op5 ht
      obtain ⟨_, _, hat⟩ := World.cells?_some hc
      have e0 := hat 0 (by omega)
      have e1 := hat 1 (by omega)
      have e2 := hat 2 (by omega)
      rw [Go.Deep.add_add] at e0 e1 e2
      exact ⟨(r, p, q), ⟨by simpa using e0, by simpa using e1, by simpa using e2⟩, hq⟩
    obtain ⟨ks, hk1, hk2⟩ := Ke.exists_list (0, 0, 0) _ len hq
    refine ⟨ks, hk1, ?_, fun k hk => ?_⟩
    · rcases Nat.eq_zero_or_pos len with h0 | h0
      · exact .inl (by rw [hk1]; exact h0)
      · have hs : (a'.add (0 * 3)).spot = none := Ke.spot_none (hk2 0 h0).1.1
        obtain ⟨b, off, spot⟩ := a'
        have hs' : spot = none := by
          unfold Addr.add at hs
          split at hs <;> simp_all
        subst hs'
        have ha : ∀ j, (⟨b, off, none⟩ : Addr).add j = ⟨b, off + j, none⟩ := fun j => by unfold Addr.add; split <;> simp_all
        refine .inr ⟨b, off, rfl, ?_, fun k hk => ?_⟩
        · have := (hk2 0 h0).1.1
          rw [ha] at this
          exact World.block_lt_of_cell? w _ this
        · have := (hk2 k (by omega)).1
          rw [ha, ha, ha] at this
          exact ⟨this.1, by rw [Nat.add_assoc]; exact this.2.1, by rw [Nat.add_assoc]; exact this.2.2⟩
    · obtain ⟨i, hi, e⟩ := List.mem_iff_getElem.1 hk
      have := (hk2 i (by omega)).2
      rwa [List.getElem?_eq_getElem hi, Option.getD_some, e] at this
theorem few5_any {a : Option Addr} (n cap : Nat) (w : World) : Calls Try.prog 50 #[.slice a n cap] w fun e w' => e = .returned (.bool (decide ((n : Int) ≤ 60))) ∧ w = w' := by
  go_enter Try.func50, Try.ntmps50
  go_wp2_with fail
  go_ret
  exact ⟨rfl, rfl⟩
end Go.Proofs.Ytkjpkhpiojahkaa
