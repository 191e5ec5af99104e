/-
  A slice of a clock's calls that came in; few. One call by value.
-/
import Derived.Test.YtkjpkhpiojahkaaCkA
import Derived.Test.YtkjpkhpiojahkaaLKO
namespace Go.Proofs.Ytkjpkhpiojahkaa
set_option linter.unusedVariables false
open Go.RowKit Go.ChangeShapes Go.WideShapes Go.Deep Hp
attribute [local go_sem] Oper.semAt_some
/-- a call: what, kind, number, time, and the latenesses with the slice that holds them -/
structure Op19 where
  ask : Int
  kind : Int
  id : Int
  at' : Int
  la : Option Addr
  lc : Nat
  zs : List Int
def op19 : Op19 := ⟨0, 0, 0, 0, none, 0, []⟩
def opV (o : Op19) : List Value := [.int .i64 o.ask, .int .i64 o.kind, .int .i64 o.id, .int .i64 o.at', .slice o.la o.zs.length o.lc]
def OpCells19 (w : World) (p : Addr) (o : Op19) : Prop :=
  w.cell? p = some (.int .i64 o.ask) ∧ w.cell? (p.add 1) = some (.int .i64 o.kind) ∧ w.cell? (p.add 2) = some (.int .i64 o.id) ∧ w.cell? (p.add 3) = some (.int .i64 o.at') ∧ w.cell? (p.add 4) = some (.slice o.la o.zs.length o.lc)
def OpGood19 (w : World) (o : Op19) : Prop := IntsAt w o.la o.zs
def OpsAt19 (w : World) (a : Option Addr) (os : List Op19) : Prop :=
  (os.length = 0 ∨ ∃ b off, a = some ⟨b, off, none⟩ ∧ b < w.heap.size ∧ ∀ k, k < os.length → OpCells19 w ⟨b, off + k * 5, none⟩ (os[k]?.getD op19)) ∧ ∀ o ∈ os, OpGood19 w o
theorem OpsAt19.get {w A : World} {a : Option Addr} {os : List Op19} (h : OpsAt19 w a os) (hb : Below w.heap.size w A) {k : Nat} (hk : k < os.length) :
    ∃ b off o, a = some ⟨b, off, none⟩ ∧ os[k]? = some o ∧ A.cell? ⟨b, off + k * 5, none⟩ = some (.int .i64 o.ask) ∧ A.cell? ⟨b, off + k * 5 + 1, none⟩ = some (.int .i64 o.kind) ∧ A.cell? ⟨b, off + k * 5 + 2, none⟩ = some (.int .i64 o.id) ∧
      A.cell? ⟨b, off + k * 5 + 3, none⟩ = some (.int .i64 o.at') ∧ A.cell? ⟨b, off + k * 5 + 4, none⟩ = some (.slice o.la o.zs.length o.lc) ∧ OpGood19 w o := by
  obtain ⟨b, off, ha, hlt, hc⟩ := h.1.resolve_left (by omega)
  have ho := List.getElem?_eq_getElem hk
  have hc := hc k hk
  rw [ho, Option.getD_some] at hc
  unfold OpCells19 at hc
  rw [add_zero', add_zero', add_zero', add_zero'] at hc
  obtain ⟨c0, c1, c2, c3, c4⟩ := hc
  have q := fun (p : Addr) (v : Value) (hp : p.block = b) (hv : w.cell? p = some v) => (hb.cell (p := p) (by rw [hp]; exact hlt)).trans hv
  exact ⟨b, off, os[k], ha, ho, q _ _ rfl c0, q _ _ rfl c1, q _ _ rfl c2, q _ _ rfl c3, q _ _ rfl c4, h.2 _ (List.getElem_mem hk)⟩
theorem Try.fields119 : ∃ f0 f1 f2 f3 f4 : Field, Try.prog.underlying 119 = some (.struct #[f0, f1, f2, f3, f4]) ∧ f0.type = 3 ∧ f1.type = 3 ∧ f2.type = 3 ∧ f3.type = 3 ∧ f4.type = 54 ∧ f0.offset = 0 ∧ f1.offset = 1 ∧ f2.offset = 2 ∧ f3.offset = 3 ∧ f4.offset = 4 :=
  ⟨_, _, _, _, _, Try.underlying119, rfl, rfl, rfl, rfl, rfl, rfl, rfl, rfl, rfl, rfl⟩
theorem cells119 : Try.prog.cellsOf 119 = 5 := by kernel_rfl
theorem cells54 : Try.prog.cellsOf 54 = 1 := by kernel_rfl
section
variable {Hd : Type} {enc : TypeId × Value → Hd} {w : World} {base : Nat} {held : Bool}
set_option maxRecDepth 100000 in
theorem open_op19 {fuel : Nat} {cs : List Value} {x : DataW Hd × List MemPlace} (h : DataW.trod enc Try.prog w base (fun _ => true) held fuel 119 cs = some x) :
    ∃ o : Op19, cs = opV o ∧ OpGood19 w o := by
  obtain ⟨f0, f1, f2, f3, f4, hs, t0, t1, t2, t3, t4, o0, o1, o2, o3, o4⟩ := Try.fields119
  obtain ⟨xs, n, _, _, hl, hxl, hf⟩ := DataW.trod_struct hs h
  rw [cells119] at hl
  match cs, hl, xs, hxl with
  | [c0, c1, c2, c3, c4], _, [y0, y1, y2, y3, y4], _ =>
    have h0 := hf 0 f0 rfl
    have h1 := hf 1 f1 rfl
    have h2 := hf 2 f2 rfl
    have h3 := hf 3 f3 rfl
    have h4 := hf 4 f4 rfl
    rw [t0, o0, Ke.cells3] at h0
    rw [t1, o1, Ke.cells3] at h1
    rw [t2, o2, Ke.cells3] at h2
    rw [t3, o3, Ke.cells3] at h3
    rw [t4, o4, cells54] at h4
    obtain ⟨r0, hr0, _, _⟩ := DataW.trod_int Try.underlying3 h0
    obtain ⟨r1, hr1, _, _⟩ := DataW.trod_int Try.underlying3 h1
    obtain ⟨r2, hr2, _, _⟩ := DataW.trod_int Try.underlying3 h2
    obtain ⟨r3, hr3, _, _⟩ := DataW.trod_int Try.underlying3 h3
    simp at hr0 hr1 hr2 hr3
    have hsl : ∃ la ln lc, c4 = .slice la ln lc := by
      rcases open_slice Try.underlying54 h4 with ⟨e, _⟩ | ⟨a', len', cap', m, n, D, Pl, e, _⟩
      · simp at e; exact ⟨_, _, _, e⟩
      · simp at e; exact ⟨_, _, _, e⟩
    obtain ⟨la, ln, lc, rfl⟩ := hsl
    have h5 : DataW.trod enc Try.prog w base (fun _ => true) held n 54 [.slice la ln lc] = some y4 := by simpa using h4
    obtain ⟨ks, k1, k2⟩ := open_intsR h5
    exact ⟨⟨r0, r1, r2, r3, la, lc, ks⟩, by unfold opV; rw [hr0, hr1, hr2, hr3, k1], k2.1⟩
set_option maxRecDepth 100000 in
theorem open_op19v {w' : World} {b0 : Nat} {r : Reach} {v : Value} {d : DataW Hd} {ps : List MemPlace}
    (hval : Value.okWide Try.prog w' r b0 119 v) (h : DataW.Trod enc Try.prog w base (fun _ => true) held 119 v d ps) :
    ∃ o : Op19, v = .agg (opV o).toArray ∧ OpGood19 w o := by
  obtain ⟨fuel, hf⟩ := h
  obtain ⟨f0, f1, f2, f3, f4, hs, _⟩ := Try.fields119
  obtain ⟨cs, rfl, _⟩ := okWide_struct hs hval
  obtain ⟨o, hcs, hg⟩ := open_op19 hf
  refine ⟨o, ?_, hg⟩
  have : cs.toList = opV o := by simpa [Value.cells] using hcs
  rw [← Array.toArray_toList (xs := cs), this]
theorem open_ops19 {fuel : Nat} {a : Option Addr} {len cap : Nat} {x : DataW Hd × List MemPlace} (h : DataW.trod enc Try.prog w base (fun _ => true) held fuel 111 [.slice a len cap] = some x) :
    ∃ os : List Op19, os.length = len ∧ OpsAt19 w a os := by
  rcases open_slice Try.underlying111 h with ⟨h0, _⟩ | ⟨a', len', cap', m, n, D, Pl, hcs, _, hl, _, hm, _, hi⟩
  · injection h0 with h0
    injection h0 with _ h0 _
    exact ⟨[], by rw [h0]; rfl, .inl rfl, by simp⟩
  · injection hcs with hcs
    injection hcs with h1 h2 h3
    subst h1
    subst h2
    subst h3
    have hlm : len ≤ m := by rw [hm]; split <;> omega
    rw [cells119] at hi
    have hq : ∀ i, i < len → ∃ o : Op19, OpCells19 w (a'.add (i * 5)) o ∧ OpGood19 w o := fun i hil => by
      obtain ⟨cs', hc, ht⟩ := hi i (by omega)
      obtain ⟨o, rfl, hg⟩ := open_op19 ht
      obtain ⟨_, _, hat⟩ := World.cells?_some hc
      have e0 := hat 0 (by omega)
      have e1 := hat 1 (by omega)
      have e2 := hat 2 (by omega)
      have e3 := hat 3 (by omega)
      have e4 := hat 4 (by omega)
      exact ⟨o, ⟨by simpa [opV, Go.Deep.add_add] using e0, by simpa [opV] using e1, by simpa [opV] using e2, by simpa [opV] using e3, by simpa [opV] using e4⟩, hg⟩
    obtain ⟨os, hk1, hk2⟩ := Ke.exists_list op19 _ len hq
    refine ⟨os, hk1, ?_, fun o ho => ?_⟩
    · rcases Nat.eq_zero_or_pos len with h0 | h0
      · exact .inl (by rw [hk1]; exact h0)
      · have hs : (a'.add (0 * 5)).spot = none := Ke.spot_none (hk2 0 h0).1.1
        obtain ⟨b, off, spot⟩ := a'
        have hs' : spot = none := by
          unfold Addr.add at hs
          split at hs <;> simp_all
        subst hs'
        refine .inr ⟨b, off, rfl, ?_, fun k hk => ?_⟩
        · have := (hk2 0 h0).1.1
          rw [add_zero'] at this
          exact World.block_lt_of_cell? w _ this
        · have := (hk2 k (by omega)).1
          rw [add_zero'] at this
          exact this
    · obtain ⟨i, hi, e⟩ := List.mem_iff_getElem.1 ho
      have := (hk2 i (by omega)).2
      rwa [List.getElem?_eq_getElem hi, Option.getD_some, e] at this
end
def fewP19 (os : List Op19) : Prop := (∀ o ∈ os, o.zs.length ≤ 20) ∧ os.length ≤ 60
instance (os : List Op19) : Decidable (fewP19 os) := by unfold fewP19; infer_instance
set_option maxRecDepth 100000 in
set_option maxHeartbeats 2000000 in
theorem few19_any {w0 : World} {a : Option Addr} {os : List Op19} (h : OpsAt19 w0 a os) (cap : Nat) (w : World) (hb : Below w0.heap.size w0 w) (hl : os.length ≤ 9223372036854775807) :
    Calls Try.prog 80 #[.slice a os.length cap] w fun e w' => e = .returned (.bool (decide (fewP19 os))) ∧ w' = w := by
  obtain ⟨n, hn⟩ : ∃ n, os.length = n := ⟨_, rfl⟩
  have HO := Lib.hid h
  have HB := Lib.hid hb
  have HN := Lib.hid hn
  rw [hn] at hl ⊢
  clear h hb hn
  go_enter Try.func80, Try.ntmps80
  go_wp2_with fail
  go_loopg [3] n (fun gh s3 wr => ∃ i : Nat, i + gh = n ∧ s3 = .int .i64 (i : Int) ∧ wr = w ∧ ∀ j o, j < i → os[j]? = some o → o.zs.length ≤ 20)
  case atStart => exact ⟨0, by omega, rfl, rfl, fun j o hj => by omega⟩
  case round =>
    obtain ⟨i, hi, rfl, rfl, hall⟩ := hrel
    have HAll := Lib.hid hall
    clear hall
    by_cases hlt : i < n
    · have hltI : (i : Int) < (n : Int) := by omega
      have hi0 : (0 : Int) ≤ (i : Int) := by omega
      obtain ⟨b, off, o, rfl, ho, _, _, _, _, q3, _⟩ := HO.out.get HB.out (k := i) (by rw [HN.out]; exact hlt)
      by_cases h20 : o.zs.length ≤ 20
      · have hg : decide ((20 : Int) < (o.zs.length : Int)) = false := by simp; omega
        have HOo := Lib.hid ho
        clear ho
        go_wp2_with fail
        go_roundg (n - (i + 1))
        case measure => omega
        case rel =>
          refine ⟨i + 1, by omega, by go_num, rfl, fun j o' hj ho' => ?_⟩
          by_cases hji : j = i
          · subst hji
            rw [HOo.out] at ho'
            cases ho'
            exact h20
          · exact HAll.out j o' (by omega) ho'
      · have hg : decide ((20 : Int) < (o.zs.length : Int)) = true := by simp; omega
        have hne : ¬ fewP19 os := fun hf => h20 (hf.1 o (List.mem_of_getElem? ho))
        have HNe := Lib.hid hne
        clear ho hne
        go_wp2_with fail
        rw [decide_eq_false HNe.out]
        go_ret
        exact ⟨rfl, rfl⟩
    · have hin : i = n := by omega
      subst hin
      have he : decide (fewP19 os) = decide ((i : Int) ≤ 60) := by
        rw [decide_eq_decide]
        unfold fewP19
        rw [HN.out]
        constructor
        · intro h; have := h.2; omega
        · intro h
          refine ⟨fun o ho => ?_, by omega⟩
          obtain ⟨j, hj, e⟩ := List.mem_iff_getElem.1 ho
          exact HAll.out j o (by rw [HN.out] at hj; exact hj) (by rw [List.getElem?_eq_getElem hj, e])
      have HE := Lib.hid he
      clear he
      go_wp2_with fail
      rw [HE.out]
      go_ret
      exact ⟨rfl, rfl⟩
end Go.Proofs.Ytkjpkhpiojahkaa
