/-
  A slice of the queue's calls that came in; few.
-/
import Derived.Test.YtkjpkhpiojahkaaRr3
import Derived.Test.YtkjpkhpiojahkaaOps
namespace Go.Proofs.Ytkjpkhpiojahkaa
set_option linter.unusedVariables false
open Go.RowKit Go.ChangeShapes Go.WideShapes Go.Deep Hp
attribute [local go_sem] Oper.semAt_some

/-- a call: what, the time and the number, and the keys with the slice that holds them -/
structure Op4 where
  ask : Int
  t : Int
  id : Int
  la : Option Addr
  lc : Nat
  ks : List (Int × Int)
def op0 : Op4 := ⟨0, 0, 0, none, 0, []⟩
def OpCells (w : World) (p : Addr) (o : Op4) : Prop :=
  w.cell? p = some (.int .i64 o.ask) ∧ w.cell? (p.add 1) = some (.int .i64 o.t) ∧ w.cell? (p.add 2) = some (.int .i64 o.id) ∧ w.cell? (p.add 3) = some (.slice o.la o.ks.length o.lc)
def OpGood (w : World) (o : Op4) : Prop :=
  (Lit.int .i64 o.id).wf = true ∧ Ke.KeysAt w o.la o.ks ∧ (∀ k ∈ o.ks, (Lit.int .i64 k.2).wf = true) ∧ o.ks.length ≤ o.lc ∧ o.lc ≤ 9223372036854775807
def OpsAt4 (w : World) (a : Option Addr) (os : List Op4) : Prop :=
  (os.length = 0 ∨ ∃ b off, a = some ⟨b, off, none⟩ ∧ b < w.heap.size ∧ ∀ k, k < os.length → OpCells w ⟨b, off + k * 4, none⟩ (os[k]?.getD op0)) ∧ ∀ o ∈ os, OpGood w o
theorem OpsAt4.get {w A : World} {a : Option Addr} {os : List Op4} (h : OpsAt4 w a os) (hb : Below w.heap.size w A) {k : Nat} (hk : k < os.length) :
    ∃ b off o, a = some ⟨b, off, none⟩ ∧ os[k]? = some o ∧ A.cell? ⟨b, off + k * 4, none⟩ = some (.int .i64 o.ask) ∧ A.cell? ⟨b, off + k * 4 + 1, none⟩ = some (.int .i64 o.t) ∧ A.cell? ⟨b, off + k * 4 + 2, none⟩ = some (.int .i64 o.id) ∧
      A.cell? ⟨b, off + k * 4 + 3, none⟩ = some (.slice o.la o.ks.length o.lc) ∧ OpGood w o := by
  obtain ⟨b, off, ha, hlt, hc⟩ := h.1.resolve_left (by omega)
  have ho := List.getElem?_eq_getElem hk
  have hc := hc k hk
  rw [ho, Option.getD_some] at hc
  unfold OpCells at hc
  rw [add_zero', add_zero', add_zero'] at hc
  obtain ⟨c0, c1, c2, c3⟩ := hc
  have q := fun (p : Addr) (v : Value) (hp : p.block = b) (hv : w.cell? p = some v) => (hb.cell (p := p) (by rw [hp]; exact hlt)).trans hv
  exact ⟨b, off, os[k], ha, ho, q _ _ rfl c0, q _ _ rfl c1, q _ _ rfl c2, q _ _ rfl c3, h.2 _ (List.getElem_mem hk)⟩

theorem Try.fields35 : ∃ f0 f1 f2 : Field, Try.prog.underlying 35 = some (.struct #[f0, f1, f2]) ∧ f0.type = 3 ∧ f1.type = 24 ∧ f2.type = 30 ∧ f0.offset = 0 ∧ f1.offset = 1 ∧ f2.offset = 3 :=
  ⟨_, _, _, Try.underlying35, rfl, rfl, rfl, rfl, rfl, rfl⟩
theorem cells77 : Try.prog.cellsOf 35 = 4 := by kernel_rfl
theorem cells38s : Try.prog.cellsOf 30 = 1 := by kernel_rfl

section
variable {Hd : Type} {enc : TypeId × Value → Hd} {w : World} {base : Nat} {spare : Nat → Bool} {held : Bool}
set_option maxRecDepth 100000 in
theorem open_op4 {fuel : Nat} {cs : List Value} {x : DataW Hd × List MemPlace} (h : DataW.trod enc Try.prog w base spare held fuel 35 cs = some x) :
    ∃ o : Op4, cs = [.int .i64 o.ask, .int .i64 o.t, .int .i64 o.id, .slice o.la o.ks.length o.lc] ∧ OpGood w o := by
  obtain ⟨f0, f1, f2, hs, t0, t1, t2, o0, o1, o2⟩ := Try.fields35
  obtain ⟨xs, n, _, _, hl, hxl, hf⟩ := DataW.trod_struct hs h
  rw [cells77] at hl
  match cs, hl, xs, hxl with
  | [c0, c1, c2, c3], _, [y0, y1, y2], _ =>
    have h0 := hf 0 f0 rfl
    have h1 := hf 1 f1 rfl
    have h2 := hf 2 f2 rfl
    rw [t0, o0, Ke.cells3] at h0
    rw [t1, o1, Ke.cells38] at h1
    rw [t2, o2, cells38s] at h2
    obtain ⟨r, hr, _, hr2⟩ := DataW.trod_int Try.underlying3 h0
    obtain ⟨p, q, hpq, hp2, hq2⟩ := Ke.open_key h1
    simp at hr hpq
    have hsl : ∃ la ln lc, c3 = .slice la ln lc := by
      rcases open_slice Try.underlying30 h2 with ⟨e, _⟩ | ⟨a', len', cap', m, n, D, Pl, e, _⟩
      · simp at e; exact ⟨_, _, _, e⟩
      · simp at e; exact ⟨_, _, _, e⟩
    obtain ⟨la, ln, lc, rfl⟩ := hsl
    have h3 : DataW.trod enc Try.prog w base spare held n 30 [.slice la ln lc] = some y2 := by simpa using h2
    obtain ⟨ks, k1, k2, k3⟩ := Ke.open_keys h3
    obtain ⟨k4, k5⟩ := open_keys_cap h3
    exact ⟨⟨r, p, q, la, lc, ks⟩, by rw [hr, hpq.1, hpq.2, k1], hq2, k2, fun k hk => (k3 k hk).2, by rw [k1]; exact k4, k5⟩

theorem open_ops4 {fuel : Nat} {a : Option Addr} {len cap : Nat} {x : DataW Hd × List MemPlace} (h : DataW.trod enc Try.prog w base spare held fuel 22 [.slice a len cap] = some x) :
    ∃ os : List Op4, os.length = len ∧ OpsAt4 w a os := by
  rcases open_slice Try.underlying22 h with ⟨h0, _⟩ | ⟨a', len', cap', m, n, D, Pl, hcs, _, hl, _, hm, _, hi⟩
  · injection h0 with h0
    injection h0 with _ h0 _
    exact ⟨[], by rw [h0]; rfl, .inl rfl, by simp⟩
  · injection hcs with hcs
    injection hcs with h1 h2 h3
    subst h1
    subst h2
    subst h3
    have hlm : len ≤ m := by rw [hm]; split <;> omega
    rw [cells77] at hi
    have hq : ∀ i, i < len → ∃ o : Op4, OpCells w (a'.add (i * 4)) o ∧ OpGood w o := fun i hil => by
      obtain ⟨cs', hc, ht⟩ := hi i (by omega)
      obtain ⟨o, rfl, hg⟩ := open_op4 ht
      obtain ⟨_, _, hat⟩ := World.cells?_some hc
      have e0 := hat 0 (by omega)
      have e1 := hat 1 (by omega)
      have e2 := hat 2 (by omega)
      have e3 := hat 3 (by omega)
      exact ⟨o, ⟨by simpa [Go.Deep.add_add] using e0, by simpa using e1, by simpa using e2, by simpa using e3⟩, hg⟩
    obtain ⟨os, hk1, hk2⟩ := Ke.exists_list op0 _ len hq
    refine ⟨os, hk1, ?_, fun o ho => ?_⟩
    · rcases Nat.eq_zero_or_pos len with h0 | h0
      · exact .inl (by rw [hk1]; exact h0)
      · have hs : (a'.add (0 * 4)).spot = none := Ke.spot_none (hk2 0 h0).1.1
        obtain ⟨b, off, spot⟩ := a'
        have hs' : spot = none := by
          unfold Addr.add at hs
          split at hs <;> simp_all
        subst hs'
        refine .inr ⟨b, off, rfl, ?_, fun k hk => ?_⟩
        · have := (hk2 0 h0).1.1
          rw [add_zero'] at this
          exact World.block_lt_of_cell? w _ this
        · have := (hk2 k (by omega)).1
          rw [add_zero'] at this
          exact this
    · obtain ⟨i, hi, e⟩ := List.mem_iff_getElem.1 ho
      have := (hk2 i (by omega)).2
      rwa [List.getElem?_eq_getElem hi, Option.getD_some, e] at this
end

def fewP (os : List Op4) : Prop := (∀ o ∈ os, o.ks.length ≤ 20) ∧ os.length ≤ 40
instance (os : List Op4) : Decidable (fewP os) := by unfold fewP; infer_instance
set_option maxRecDepth 100000 in
set_option maxHeartbeats 2000000 in
theorem few4_any {w0 : World} {a : Option Addr} {os : List Op4} (h : OpsAt4 w0 a os) (cap : Nat) (w : World) (hb : Below w0.heap.size w0 w) (hl : os.length ≤ 9223372036854775807) :
    Calls Try.prog 26 #[.slice a os.length cap] w fun e w' => e = .returned (.bool (decide (fewP os))) ∧ w' = w := by
  obtain ⟨n, hn⟩ : ∃ n, os.length = n := ⟨_, rfl⟩
  have HO := Lib.hid h
  have HB := Lib.hid hb
  have HN := Lib.hid hn
  rw [hn] at hl ⊢
  clear h hb hn
  go_enter Try.func26, Try.ntmps26
  go_wp2_with fail
  go_loopg [3] n (fun gh s3 wr => ∃ i : Nat, i + gh = n ∧ s3 = .int .i64 (i : Int) ∧ wr = w ∧ ∀ j o, j < i → os[j]? = some o → o.ks.length ≤ 20)
  case atStart => exact ⟨0, by omega, rfl, rfl, fun j o hj => by omega⟩
  case round =>
    obtain ⟨i, hi, rfl, rfl, hall⟩ := hrel
    have HAll := Lib.hid hall
    clear hall
    by_cases hlt : i < n
    · have hltI : (i : Int) < (n : Int) := by omega
      have hi0 : (0 : Int) ≤ (i : Int) := by omega
      obtain ⟨b, off, o, rfl, ho, _, _, _, q3, _⟩ := HO.out.get HB.out (k := i) (by rw [HN.out]; exact hlt)
      by_cases h20 : o.ks.length ≤ 20
      · have hg : decide ((20 : Int) < (o.ks.length : Int)) = false := by simp; omega
        have HOo := Lib.hid ho
        clear ho
        go_wp2_with fail
        go_roundg (n - (i + 1))
        case measure => omega
        case rel =>
          refine ⟨i + 1, by omega, by go_num, rfl, fun j o' hj ho' => ?_⟩
          by_cases hji : j = i
          · subst hji
            rw [HOo.out] at ho'
            cases ho'
            exact h20
          · exact HAll.out j o' (by omega) ho'
      · have hg : decide ((20 : Int) < (o.ks.length : Int)) = true := by simp; omega
        have hne : ¬ fewP os := fun hf => h20 (hf.1 o (List.mem_of_getElem? ho))
        have HNe := Lib.hid hne
        clear ho hne
        go_wp2_with fail
        rw [decide_eq_false HNe.out]
        go_ret
        exact ⟨rfl, rfl⟩
    · have hin : i = n := by omega
      subst hin
      have he : decide (fewP os) = decide ((i : Int) ≤ 40) := by
        rw [decide_eq_decide]
        unfold fewP
        rw [HN.out]
        constructor
        · intro h; have := h.2; omega
        · intro h
          refine ⟨fun o ho => ?_, by omega⟩
          obtain ⟨j, hj, e⟩ := List.mem_iff_getElem.1 ho
          exact HAll.out j o (by rw [HN.out] at hj; exact hj) (by rw [List.getElem?_eq_getElem hj, e])
      have HE := Lib.hid he
      clear he
      go_wp2_with fail
      rw [HE.out]
      go_ret
      exact ⟨rfl, rfl⟩
end Go.Proofs.Ytkjpkhpiojahkaa
