/-
  Walks: two lists of keys, are they the same?
  Walk: the queue's example.
-/
import Derived.Test.YtkjpkhpiojahkaaRq5
import Derived.Test.YtkjpkhpiojahkaaAwake
/-! ### Walks: two lists of keys, are they the same? -/
namespace Go.Proofs.Ytkjpkhpiojahkaa
set_option linter.unusedVariables false
open Go.RowKit Hp
attribute [local go_sem] Oper.semAt_some

theorem keysAt_get {w : World} {a : Option Addr} {ks : List (Int × Int)} (h : Ke.KeysAt w a ks) {n : Nat} (hn : 0 < n) (hk : ks.length = n) : ∃ b off, a = some ⟨b, off, none⟩ ∧ b < w.heap.size ∧ ∀ k, k < n → w.cell? ⟨b, off + k * 2, none⟩ = some (.int .i64 (ks[k]?.getD (0, 0)).1) ∧ w.cell? ⟨b, off + k * 2 + 1, none⟩ = some (.int .i64 (ks[k]?.getD (0, 0)).2) := by
  subst hk
  exact h.resolve_left (by omega)

theorem neq32 (p q r s : Int) (w : World) : (binOp BinOp.neq 24 (.agg #[.int .i64 p, .int .i64 q]) (.agg #[.int .i64 r, .int .i64 s])).run Try.prog w = .ok (.bool (!decide (p = r ∧ q = s))) w := by
  go_simp
  by_cases h1 : p = r <;> by_cases h2 : q = s <;> simp [h1, h2]
theorem eql32 (p q r s : Int) (w : World) : (binOp BinOp.eql 24 (.agg #[.int .i64 p, .int .i64 q]) (.agg #[.int .i64 r, .int .i64 s])).run Try.prog w = .ok (.bool (decide (p = r ∧ q = s))) w := by
  go_simp
  by_cases h1 : p = r <;> by_cases h2 : q = s <;> simp [h1, h2]

set_option maxRecDepth 100000 in
set_option maxHeartbeats 4000000 in
theorem keys_ok (a b : Option Addr) (c d : Nat) (ks ms : List (Int × Int)) (w : World) (h1 : Ke.KeysAt w a ks) (h2 : Ke.KeysAt w b ms) (hl : ks.length < 10000000) (hl2 : ms.length < 10000000) :
    Calls Try.prog 32 #[.slice a ks.length c, .slice b ms.length d] w fun e w' => e = .returned (.bool (decide (ks = ms))) ∧ Below w.heap.size w w' := by
  obtain ⟨n, hn⟩ : ∃ n, ks.length = n := ⟨_, rfl⟩
  obtain ⟨m, hm⟩ : ∃ m, ms.length = m := ⟨_, rfl⟩
  rw [hn] at hl ⊢
  rw [hm] at hl2 ⊢
  have HN := Lib.hid hn
  have HM := Lib.hid hm
  by_cases hnm : n = m
  · subst hnm
    have H1 := Lib.hid (fun h0 => keysAt_get h1 (n := n) h0 hn)
    have H2 := Lib.hid (fun h0 => keysAt_get h2 (n := n) h0 hm)
    clear h1 h2 hn hm
    go_enter Try.func32, Try.ntmps32
    go_wp2_with fail
    go_loopg [5] n (fun gh s5 wr => ∃ i : Nat, i + gh = n ∧ s5 = .int .i64 (i : Int) ∧ Below w.heap.size w wr ∧ ∀ j, j < i → ks[j]?.getD (0, 0) = ms[j]?.getD (0, 0))
    case atStart => exact ⟨0, by omega, rfl, Below.refl _ _, fun j hj => by omega⟩
    case round =>
      obtain ⟨i, hi, rfl, hb, heq⟩ := hrel
      have HB := Lib.hid hb
      have HEq := Lib.hid heq
      clear heq
      by_cases hlt : i < n
      · have hltI : (i : Int) < (n : Int) := by omega
        have hi0 : (0 : Int) ≤ (i : Int) := by omega
        obtain ⟨b1, off1, rfl, hb1, hc1⟩ := H1.out (by omega)
        obtain ⟨b2, off2, rfl, hb2, hc2⟩ := H2.out (by omega)
        obtain ⟨x, hx⟩ : ∃ x, ks[i]?.getD (0, 0) = x := ⟨_, rfl⟩
        obtain ⟨y, hy⟩ : ∃ y, ms[i]?.getD (0, 0) = y := ⟨_, rfl⟩
        have q0 : wr.cell? ⟨b1, off1 + i * 2, none⟩ = some (.int .i64 x.1) := by rw [← hx]; exact (hb.cell (by exact hb1)).trans (hc1 i hlt).1
        have q1 : wr.cell? ⟨b1, off1 + i * 2 + 1, none⟩ = some (.int .i64 x.2) := by rw [← hx]; exact (hb.cell (by exact hb1)).trans (hc1 i hlt).2
        have r0 : wr.cell? ⟨b2, off2 + i * 2, none⟩ = some (.int .i64 y.1) := by rw [← hy]; exact (hb.cell (by exact hb2)).trans (hc2 i hlt).1
        have r1 : wr.cell? ⟨b2, off2 + i * 2 + 1, none⟩ = some (.int .i64 y.2) := by rw [← hy]; exact (hb.cell (by exact hb2)).trans (hc2 i hlt).2
        have HX := Lib.hid hx
        have HY := Lib.hid hy
        clear hb hx hy hc1 hc2
        by_cases hxy : x = y
        · have hq : ∀ w, (binOp BinOp.neq 24 (.agg #[.int .i64 x.1, .int .i64 x.2]) (.agg #[.int .i64 y.1, .int .i64 y.2])).run Try.prog w = .ok (.bool false) w := fun w => by
            rw [neq32, hxy]; simp
          have HXY := Lib.hid hxy
          clear hxy
          go_wp2_with fail
          go_region
          all_goals go_wp2_with fail
          all_goals
            go_roundg (n - (i + 1))
            case measure => omega
            case rel =>
              refine ⟨i + 1, by omega, by go_num, HB.out.trans (Below.drew (Below.refl _ _) |>.mono HB.out.size), fun j hj => ?_⟩
              by_cases hji : j = i
              · rw [hji, HX.out, HY.out, HXY.out]
              · exact HEq.out j (by omega)
        · have hq : ∀ w, (binOp BinOp.neq 24 (.agg #[.int .i64 x.1, .int .i64 x.2]) (.agg #[.int .i64 y.1, .int .i64 y.2])).run Try.prog w = .ok (.bool true) w := fun w => by
            rw [neq32, decide_eq_false (fun h => hxy (Prod.ext h.1 h.2))]; rfl
          have hne : ¬ ks = ms := fun e => hxy (by rw [← HX.out, ← HY.out, e])
          have HNe := Lib.hid hne
          clear hxy hne
          go_wp2_with fail
          go_region
          all_goals go_wp2_with fail
          all_goals
            rw [decide_eq_false HNe.out]
            go_ret
            exact ⟨rfl, HB.out.trans (Below.drew (Below.refl _ _) |>.mono HB.out.size)⟩
      · have hin : i = n := by omega
        subst hin
        have hee : ks = ms := by
          refine List.ext_getElem? fun j => ?_
          by_cases hj : j < i
          · have h := HEq.out j hj
            rw [List.getElem?_eq_getElem (by rw [HN.out]; exact hj), List.getElem?_eq_getElem (by rw [HM.out]; exact hj)] at h ⊢
            simpa using h
          · rw [List.getElem?_eq_none (by rw [HN.out]; omega), List.getElem?_eq_none (by rw [HM.out]; omega)]
        have HEe := Lib.hid hee
        clear hee hb
        go_wp2_with fail
        rw [decide_eq_true HEe.out]
        go_ret
        exact ⟨rfl, HB.out⟩
  · have hx : ¬ (n : Int) = (m : Int) := by omega
    have hne : ¬ ks = ms := fun e => hnm (by rw [← hn, ← hm, e])
    have HNe := Lib.hid hne
    clear h1 h2 hn hm hne
    go_enter Try.func32, Try.ntmps32
    go_wp2_with fail
    rw [decide_eq_false HNe.out]
    go_ret
    exact ⟨rfl, Below.refl _ _⟩
end Go.Proofs.Ytkjpkhpiojahkaa

/-! ### Walk: the queue's example. -/
namespace Go.Proofs.Ytkjpkhpiojahkaa
set_option linter.unusedVariables false
open Go.RowKit Hp
attribute [local go_sem] Oper.semAt_some

/-- a box that holds keys -/
theorem keysAt_box {w : World} {b : Nat} {F : Nat → Prop} {ks : List (Int × Int)} {cs : Array Value} (h : (boxA b 24 cs).holds w F) (hc : ∀ k, k < ks.length → cs[k * 2]? = some (.int .i64 (ks[k]?.getD (0, 0)).1) ∧ cs[k * 2 + 1]? = some (.int .i64 (ks[k]?.getD (0, 0)).2)) :
    Ke.KeysAt w (some ⟨b, 0, none⟩) ks := by
  refine .inr ⟨b, 0, rfl, lt_of_some h.1, fun k hk => ?_⟩
  obtain ⟨h1, h2⟩ := hc k hk
  rw [Nat.zero_add, boxA_cell h, boxA_cell h]
  exact ⟨h1, h2⟩
def ex3 : List (Int × Int) := [(5, 1), (3, 2), (5, 0)]
def exS : List (It Int) := [(2, 3), (0, 5), (1, 5)]
def kv (T : List (It Int)) : List (Int × Int) := T.map fun x => (x.2, x.1)
/-- a row of keys, as a slice of keys -/
theorem keysAt_own {w : World} {v : Value} {T : List (It Int)} (h : w.ownsRow 0 24 2 v T.length (T.flatMap keyC)) : ∃ a c, v = .slice a T.length c ∧ Ke.KeysAt w a (kv T) := by
  rcases own_parts h with ⟨h1, h2⟩ | ⟨g, cap, cur, h1, _, h3, _⟩
  · exact ⟨none, 0, by rw [h1, h2], .inl (by simpa [kv] using h2)⟩
  · refine ⟨_, _, h1, .inr ⟨g, 0, rfl, lt_of_some h3, fun k hk => ?_⟩⟩
    have hk' : k < T.length := by simpa [kv] using hk
    have hkv : (kv T)[k]?.getD (0, 0) = (T[k].2, T[k].1) := by simp [kv, List.getElem?_map, List.getElem?_eq_getElem hk']
    rw [hkv, Nat.zero_add]
    subst h1
    have hi : T[k]? = some T[k] := List.getElem?_eq_getElem hk'
    have h1 := flat_at keyC 2 keyC_len T k 0 _ hi (by omega)
    have h2 := flat_at keyC 2 keyC_len T k 1 _ hi (by omega)
    exact ⟨own_cellG h (by simpa [keyC] using h1), own_cellG h (by simpa [keyC] using h2)⟩
theorem On.keys1 {w0 w : World} {v : Value} {T : List (It Int)} {R : Ast} (h : On w0 w (sep (keysA v T) R)) : ∃ a c, v = .slice a T.length c ∧ Ke.KeysAt w a (kv T) := by
  obtain ⟨F, hF, _⟩ := h.get1
  exact keysAt_own hF.1

set_option maxRecDepth 100000 in
set_option maxHeartbeats 2000000 in
theorem qawake_ok (w : World) : Calls Try.prog 27 #[] w fun e w' => e = .returned (.bool true) ∧ Below w.heap.size w w' := by
  go_enter Try.func27, Try.ntmps27
  go_wp2_with fail
  refine (Q_new (On.emp w)).mono ?_
  rintro e w1 ⟨qb, rfl, h1⟩
  obtain ⟨bl, hbl⟩ : ∃ bl, w1.heap.size = bl := ⟨_, rfl⟩
  obtain ⟨w2, hw2⟩ : ∃ w2, w1.alloc (.cells #[.int .i64 5, .int .i64 1, .int .i64 3, .int .i64 2, .int .i64 5, .int .i64 0] 24) = w2 := ⟨_, rfl⟩
  have h2 := h1.new1 24 #[.int .i64 5, .int .i64 1, .int .i64 3, .int .i64 2, .int .i64 5, .int .i64 0]
  rw [hw2, hbl] at h2
  have hp : Calls Try.prog 92 #[.pointer (some ⟨qb, 0, none⟩), .slice (some ⟨bl, 0, none⟩) 3 3] w2 fun e w' => e = .returned (.int .i64 0) ∧ On w w' (sep (quA qb exS) (sep (boxA bl 24 #[.int .i64 5, .int .i64 1, .int .i64 3, .int .i64 2, .int .i64 5, .int .i64 0]) emp)) :=
    Q_put h2.left (some ⟨bl, 0, none⟩) 3 ex3 (fun A T hA => by
      obtain ⟨F, hF, _⟩ := hA.left.get1
      refine keysAt_box hF fun k hk => ?_
      match k, hk with
      | 0, _ => exact ⟨rfl, rfl⟩
      | 1, _ => exact ⟨rfl, rfl⟩
      | 2, _ => exact ⟨rfl, rfl⟩) (by decide) (by decide) (by decide) (by decide) 3 (by decide) (by decide) 0 rfl (fun h => absurd h (by decide))
  have HP := Lib.hid hp
  clear h1 h2 hp
  go_wp2_with fail
  refine HP.out.mono ?_
  rintro e w3 ⟨rfl, h3⟩
  have hsx : Sorted ltI exS := by unfold Sorted exS; decide
  have hf : Calls Try.prog 33 #[.pointer (some ⟨qb, 0, none⟩)] w3 fun e w' => e = .returned (.tuple #[.agg #[.int .i64 3, .int .i64 2], .int .i64 0]) ∧ Below w3.heap.size w3 w' := Q_first h3 hsx
  have HF := Lib.hid hf
  have H3 := Lib.hid h3
  clear hf h3 hbl hw2
  go_wp2_with fail
  refine HF.out.mono ?_
  rintro e w4 ⟨rfl, hb4⟩
  have h4 := H3.out.below hb4
  obtain ⟨b1, hb1⟩ : ∃ b1, w4.heap.size = b1 := ⟨_, rfl⟩
  obtain ⟨w5, hw5⟩ : ∃ w5, w4.alloc (.cells #[.int .i64 3, .int .i64 2] 24) = w5 := ⟨_, rfl⟩
  have h5 := h4.new1 24 #[.int .i64 3, .int .i64 2]
  rw [hw5, hb1] at h5
  have hf : Calls Try.prog 34 #[.pointer (some ⟨qb, 0, none⟩)] w5 fun e w' => e = .returned (.tuple #[.agg #[.int .i64 5, .int .i64 1], .int .i64 0]) ∧ Below w5.heap.size w5 w' := Q_last h5.left hsx
  have HF5 := Lib.hid hf
  have H5 := Lib.hid h5
  clear hf h4 h5 hb4
  go_wp2_with fail
  refine HF5.out.mono ?_
  rintro e w6 ⟨rfl, hb6⟩
  have h6 := H5.out.below hb6
  obtain ⟨b2, hb2⟩ : ∃ b2, w6.heap.size = b2 := ⟨_, rfl⟩
  obtain ⟨w7, hw7⟩ : ∃ w7, w6.alloc (.cells #[.int .i64 5, .int .i64 1] 24) = w7 := ⟨_, rfl⟩
  have h7 := h6.new1 24 #[.int .i64 5, .int .i64 1]
  rw [hw7, hb2] at h7
  have a0 : w7.cell? ⟨b2, 0, none⟩ = some (.int .i64 5) := (h7.box1 0).1
  have a1 : w7.cell? ⟨b2, 1, none⟩ = some (.int .i64 1) := (h7.box1 1).1
  have c0 : w7.cell? ⟨b1, 0, none⟩ = some (.int .i64 3) := (h7.left.box1 0).1
  have c1 : w7.cell? ⟨b1, 1, none⟩ = some (.int .i64 2) := (h7.left.box1 1).1
  have hls := Q_least (h7.sw1.sw0) hsx (by decide) 2
  have HLs := Lib.hid hls
  have hq1 : ∀ w, (binOp BinOp.eql 24 (.agg #[.int .i64 3, .int .i64 2]) (.agg #[.int .i64 3, .int .i64 2])).run Try.prog w = .ok (.bool true) w := fun w => by rw [eql32]; rfl
  have hq2 : ∀ w, (binOp BinOp.eql 24 (.agg #[.int .i64 5, .int .i64 1]) (.agg #[.int .i64 5, .int .i64 1])).run Try.prog w = .ok (.bool true) w := fun w => by rw [eql32]; rfl
  clear hls h6 h7 hb6
  go_wp2_with fail
  refine HLs.out.mono ?_
  rintro e w8 ⟨v, rfl, h8⟩
  obtain ⟨a, c, rfl, hk⟩ := h8.keys1
  have hls : leastS exS 2 = [(2, 3), (0, 5)] := rfl
  rw [hls] at h8 hk ⊢
  obtain ⟨w9, hw9⟩ : ∃ w9, w8.alloc (.cells #[.int .i64 3, .int .i64 2, .int .i64 5, .int .i64 0] 24) = w9 := ⟨_, rfl⟩
  obtain ⟨b3, hb3⟩ : ∃ b3, w8.heap.size = b3 := ⟨_, rfl⟩
  have h9 := h8.new1 24 #[.int .i64 3, .int .i64 2, .int .i64 5, .int .i64 0]
  rw [hw9, hb3] at h9
  obtain ⟨a', c', he, hk9⟩ := h9.left.keys1
  cases he
  obtain ⟨F9, hF9, _⟩ := h9.get1
  have hky : Calls Try.prog 32 #[.slice a 2 c, .slice (some ⟨b3, 0, none⟩) 2 2] w9 fun e w' => e = .returned (.bool true) ∧ Below w9.heap.size w9 w' :=
    keys_ok a (some ⟨b3, 0, none⟩) c 2 (kv [(2, 3), (0, 5)]) [(3, 2), (5, 0)] w9 hk9 (keysAt_box hF9 fun k hk => match k, hk with
      | 0, _ => ⟨rfl, rfl⟩
      | 1, _ => ⟨rfl, rfl⟩) (by decide) (by decide)
  have HKy := Lib.hid hky
  have H9 := Lib.hid h9
  clear hky h8 h9 hk hk9 hF9 hls
  go_wp2_with fail
  refine HKy.out.mono ?_
  rintro e wz ⟨rfl, hbz⟩
  have hz := H9.out.below hbz
  have HZ := Lib.hid hz.to_below
  clear hz hbz
  go_wp2_with fail
  go_ret
  exact ⟨rfl, HZ.out⟩
end Go.Proofs.Ytkjpkhpiojahkaa
