/-
  Walks: Until and its iterator.
-/
import Derived.Test.YtkjpkhpiojahkaaQP
namespace Go.Proofs.Ytkjpkhpiojahkaa
set_option linter.unusedVariables false
open Go.RowKit Hp
attribute [local go_sem] Oper.semAt_some

def upto (T : List (It Int)) (t : Int) : List (It Int) := T.takeWhile fun x => decide (x.2 ≤ t)
theorem upto_pre (T : List (It Int)) (t : Int) : upto T t <+: T := List.takeWhile_prefix _
theorem upto_at {T : List (It Int)} {t : Int} {i : Nat} {x : It Int} (hi : i ≤ (upto T t).length) (hx : T[i]? = some x) :
    (t < x.2 → (upto T t).length = i) ∧ (x.2 ≤ t → (upto T t)[i]? = some x) := by
  induction T generalizing i with
  | nil => simp at hx
  | cons y T ih =>
    unfold upto at hi ih ⊢
    rw [List.takeWhile_cons] at hi ⊢
    by_cases hy : y.2 ≤ t
    · rw [if_pos (by simpa using hy)] at hi ⊢
      cases i with
      | zero =>
        cases hx
        exact ⟨fun h => by omega, fun _ => rfl⟩
      | succ i =>
        have := ih (i := i) (by simpa using hi) (by simpa using hx)
        exact ⟨fun h => by simpa using this.1 h, fun h => by simpa using this.2 h⟩
    · rw [if_neg (by simpa using hy)] at hi ⊢
      have h0 : i = 0 := by simpa using hi
      subst h0
      cases hx
      exact ⟨fun _ => rfl, fun h => absurd h hy⟩

set_option maxRecDepth 100000 in
set_option maxHeartbeats 4000000 in
theorem until_iter2 (n : Nat) (bl bt : Nat) (v : Value) (T : List (It Int)) (t : Int) (w : World) (h1 : w.heap[bl]? = some (.cells #[v] 30 (0, 0))) (h2 : w.ownsRow 0 24 2 v T.length (T.flatMap keyC)) (h3 : w.heap[bt]? = some (.cells #[.int .i64 t] 3 (0, 0))) (hl : T.length < 900000) :
    Iter2 Fence.wide n Try.prog 104 #[.pointer (some ⟨bl, 0, none⟩), .pointer (some ⟨bt, 0, none⟩)] (fun (x : It Int) => #[.agg #[.int .i64 x.2, .int .i64 x.1]]) (fun j => j = bl ∨ v.ownBlock = some j ∨ j = bt) none' (upto T t) w := by
  intro l J Jx W hk hsz hJ hJx hY h0
  have c1 : W.cell? ⟨bl, 0, none⟩ = some v := hk.cell (by simp [World.cell?, h1]) (.inl (.inl rfl))
  obtain ⟨a, cap, rfl, hka⟩ := keysAt_own h2
  obtain ⟨m, hm⟩ : ∃ m, T.length = m := ⟨_, rfl⟩
  have HM := Lib.hid hm
  rw [hm] at c1 hl h1 h2 hk hY
  have HJ := Lib.hid hJ
  have HJx := Lib.hid hJx
  have HY := Lib.hid hY
  have hcells : ∀ A, Keeps (fun j => j = bl ∨ (Value.slice a m cap).ownBlock = some j ∨ j = bt) w A → 0 < m → ∃ b off, a = some ⟨b, off, none⟩ ∧ ∀ i x, T[i]? = some x → A.cell? ⟨b, off + i * 2, none⟩ = some (.int .i64 x.2) ∧ A.cell? ⟨b, off + i * 2 + 1, none⟩ = some (.int .i64 x.1) := fun A hA hm0 => by
    obtain ⟨b, off, rfl, hb, hc⟩ := keysAt_get hka hm0 (by rw [kv, List.length_map, hm])
    refine ⟨b, off, rfl, fun i x hx => ?_⟩
    have hi : i < m := by have := (List.getElem?_eq_some_iff.1 hx).1; omega
    have hc := hc i hi
    rw [kv, List.getElem?_map, hx] at hc
    have hob : (Value.slice (some ⟨b, off, none⟩) m cap).ownBlock = some b := rfl
    exact ⟨hA.cell hc.1 (.inr (.inl hob)), hA.cell hc.2 (.inr (.inl hob))⟩
  have HCells := Lib.hid hcells
  have HT3 := Lib.hid (fun A (hA : Keeps (fun j => j = bl ∨ (Value.slice a m cap).ownBlock = some j ∨ j = bt) w A) => hA.cell (p := ⟨bt, 0, none⟩) (v := .int .i64 t) (by simp [World.cell?, h3]) (.inr (.inr rfl)))
  have HK0 := Lib.hid (show Keeps (fun j => j = bl ∨ (Value.slice a m cap).ownBlock = some j ∨ j = bt) w W from hk.mono (fun j hj => .inl hj))
  have H0 := Lib.hid h0
  clear hJ hJx hY h0 h1 h2 h3 hk hka hcells hm
  refine callsIn_of_wp Try.func104 rfl trivial ?_ rfl
  simp only [Try.ntmps104, List.size_toArray, List.length_cons, List.length_nil, Nat.reduceAdd, Nat.reduceSub, Array.replicate_succ, Array.replicate_zero, List.push_toArray, List.append_toArray, List.nil_append, List.cons_append]
  gi_wp2_with fail
  gi_loopg [8] m (fun g s8 wr => ∃ i : Nat, i + g = m ∧ s8 = .int .i64 (i : Int) ∧ i ≤ (upto T t).length ∧ J none' ((upto T t).take i) wr ∧ Keeps (fun j => j = bl ∨ (Value.slice a m cap).ownBlock = some j ∨ j = bt) w wr ∧ W.heap.size ≤ wr.heap.size)
  case atStart => exact ⟨0, by omega, rfl, Nat.zero_le _, by rw [List.take_zero]; exact H0.out, HK0.out, Nat.le_refl _⟩
  case round =>
    obtain ⟨i, hi, rfl, hiu, hj, hkr, hzr⟩ := hrel
    by_cases hlt : i < m
    · have hltI : (i : Int) < (m : Int) := by omega
      have hi0 : (0 : Int) ≤ (i : Int) := by omega
      obtain ⟨b, off, rfl, hc⟩ := HCells.out wr hkr (by omega)
      obtain ⟨x, hx⟩ : ∃ x, T[i]? = some x := ⟨_, List.getElem?_eq_getElem (by rw [HM.out]; exact hlt)⟩
      obtain ⟨q0, q1⟩ := hc i x hx
      obtain ⟨ha1, ha2⟩ := upto_at hiu hx
      obtain ⟨kb, hkb⟩ : ∃ kb, wr.heap.size = kb := ⟨_, rfl⟩
      obtain ⟨wa, hwa⟩ : ∃ wa, wr.alloc (.cells #[.int .i64 x.2, .int .i64 x.1] 24) = wa := ⟨_, rfl⟩
      have hma : Mod none' wr wa := by rw [← hwa]; exact (Mod.refl _ wr).alloc _
      have oa : wa.heap[kb]? = some (.cells #[.int .i64 x.2, .int .i64 x.1] 24 (0, 0)) := by rw [← hwa, ← hkb]; exact heap_alloc_new wr _
      have k0 : wa.cell? ⟨kb, 0, none⟩ = some (.int .i64 x.2) := by simp [World.cell?, oa]
      have k1 : wa.cell? ⟨kb, 1, none⟩ = some (.int .i64 x.1) := by simp [World.cell?, oa]
      have hka := hkr.trans (hma.keeps (fun _ _ _ h => h))
      have k2 := HT3.out wa hka
      have hja := HJ.out none' none' _ _ _ hj (hma.mv _) (fun j hj => .inl hj)
      have hza := hma.size
      have HKa := Lib.hid hka
      have HJa := Lib.hid hja
      have HJr := Lib.hid hj
      have HKr := Lib.hid hkr
      by_cases hxt : x.2 ≤ t
      · have hxi := ha2 hxt
        have hil : i < (upto T t).length := (List.getElem?_eq_some_iff.1 hxi).1
        have htk : (upto T t).take (i + 1) = (upto T t).take i ++ [x] := by rw [List.take_add_one, hxi]; rfl
        have hpre : (upto T t).take i ++ [x] <+: upto T t := by rw [← htk]; exact List.take_prefix _ _
        obtain ⟨fn, tmps, assign, body, hy, hR⟩ := HY.out none' _ x wa hja (fun j hj => hj.elim) hpre
        have HR := Lib.hid hR
        have HTk := Lib.hid htk
        have HPre := Lib.hid hpre
        have hng : decide (t < x.2) = false := by simp; omega
        clear hR htk hpre hka hja hj hkr hc ha1 ha2 hma oa hxi hx
        gi_wp2_with fail
        refine ⟨fun h => (by cases h), HR.out.mono ?_⟩
        rintro e W3 (⟨rfl, hJ3, hk3, _⟩ | ⟨rfl, hJx3, _, _⟩)
        · have hz3 := hk3.size
          have hk3' := HKa.out.trans (hk3.mono (fun j hj => .inl hj))
          have HJ3 := Lib.hid hJ3
          have HK3 := Lib.hid hk3'
          clear hJ3 hk3 hk3' k0 k1 k2 q0 q1
          gi_wp2_with fail
          gi_roundg (m - (i + 1))
          case measure => omega
          case rel => exact ⟨i + 1, by omega, by go_num, hil, by rw [HTk.out]; exact HJ3.out, HK3.out, by omega⟩
        · have HJx3 := Lib.hid hJx3
          clear hJx3
          gi_wp2_with fail
          refine bodyPost_ret (results_none rfl _ _ _) rfl ?_
          exact ⟨⟨_, rfl⟩, .inr ⟨_, _, HPre.out, HJx3.out⟩⟩
      · have hxl := ha1 (by omega)
        have hng : decide (t < x.2) = true := by simp; omega
        rw [← hxl, List.take_length] at hja
        have HJ3 := Lib.hid hja
        clear hka hja hj hkr hc ha1 ha2 hma oa hx hxl
        gi_wp2_with fail
        refine ⟨fun _ h => (by cases h), ?_⟩
        gi_wp2_with fail
        refine bodyPost_ret (results_none rfl _ _ _) rfl ?_
        exact ⟨⟨_, rfl⟩, .inl ⟨_, HJ3.out⟩⟩
    · have hin : i = m := by omega
      subst hin
      rw [List.take_of_length_le (by rw [← HM.out]; exact (upto_pre T t).length_le)] at hj
      have HJ3 := Lib.hid hj
      clear hj hkr
      gi_wp2_with fail
      go_end0
      exact ⟨⟨_, rfl⟩, .inl ⟨_, HJ3.out⟩⟩

/-- a sequence of keys up to a time -/
def untA (bl bt : Nat) (T : List (It Int)) (t : Int) : Ast := exA fun v : Value => sep (boxA bl 30 #[v]) (sep (keysA v T) (boxA bt 3 #[.int .i64 t]))
set_option maxRecDepth 100000 in
set_option maxHeartbeats 2000000 in
theorem Q_until {w0 w : World} {qb : Nat} {S : List (It Int)} {R : Ast} (h : On w0 w (sep (quA qb S) R)) (hs : Sorted ltI S) (hl : S.length < 900000) (t : Int) :
    Calls Try.prog 37 #[.pointer (some ⟨qb, 0, none⟩), .int .i64 t] w fun e w' => ∃ bl bt, e = .returned (.func (.func 104) #[] #[.pointer (some ⟨bl, 0, none⟩), .pointer (some ⟨bt, 0, none⟩)]) ∧ On w0 w' (sep (untA bl bt S t) (sep (quA qb S) R)) := by
  obtain ⟨bt, hbt⟩ : ∃ bt, w.heap.size = bt := ⟨_, rfl⟩
  obtain ⟨w1, hw1⟩ : ∃ w1, w.alloc (.cells #[.int .i64 t] 3) = w1 := ⟨_, rfl⟩
  have h1 := h.new1 3 #[.int .i64 t]
  rw [hw1, hbt] at h1
  have hlen := Q_len h1.left
  have hls := Q_least_all h1.left hs (by omega) (S.length : Int) (Int.le_refl _)
  have HLen := Lib.hid hlen
  have HLs := Lib.hid hls
  clear h h1 hlen hls
  go_enter Try.func37, Try.ntmps37
  go_wp2_with fail
  clear hw1 hbt
  refine HLen.out.mono ?_
  rintro e w2 ⟨rfl, rfl⟩
  go_wp2_with fail
  refine HLs.out.mono ?_
  rintro e w3 ⟨v, rfl, h3⟩
  obtain ⟨a, c, rfl, _⟩ := h3.keys1
  obtain ⟨bl, hbl⟩ : ∃ bl, w3.heap.size = bl := ⟨_, rfl⟩
  obtain ⟨w4, hw4⟩ : ∃ w4, w3.alloc (.cells #[.slice a S.length c] 30) = w4 := ⟨_, rfl⟩
  have h4 := h3.new1 30 #[.slice a S.length c]
  rw [hw4, hbl] at h4
  have h5 : On w0 w4 (sep (untA bl bt S t) (sep (quA qb S) R)) :=
    On.ex_shut (f := fun v : Value => sep (boxA bl 30 #[v]) (sep (keysA v S) (boxA bt 3 #[.int .i64 t]))) (.slice a S.length c) (On.mono (h4.sw2) fun _ h => sep_assoc' (sep_monoR h fun _ => sep_assoc'))
  have H5 := Lib.hid h5
  clear h3 h4 h5
  go_wp2_with fail
  go_ret
  exact ⟨bl, bt, rfl, H5.out⟩
end Go.Proofs.Ytkjpkhpiojahkaa
