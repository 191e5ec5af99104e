/-
  Walks: Until and its iterator.
  Walks: the document's answer for the queue: Put, Move.
  Walks: the queue and the document's answer do a call.
  Walks: the queue and the document's answer: any call, and that they are the same.
  A slice of the queue's calls that came in; few.
  Walks: the document's Least and Until.
  Queues whose times are such as a queue takes.
  Which pieces book-keeping of loops does not touch.
  A row of the call's own that grows by append. Over any program.
-/
import Derived.Test.YtkjpkhpiojahkaaQue
import Derived.Test.YtkjpkhpiojahkaaCRU
import Derived.Deep.RegionLaw
import Derived.Deep.RegionHeld3
import Derived.Test.YtkjpkhpiojahkaaLKO
import Derived.Test.YtkjpkhpiojahkaaBase0
/-! ### Walks: Until and its iterator. -/
namespace Go.Proofs.Ytkjpkhpiojahkaa
set_option linter.unusedVariables false
open Go.RowKit Hp
attribute [local go_sem] Oper.semAt_some

def upto (T : List (It Int)) (t : Int) : List (It Int) := T.takeWhile fun x => decide (x.2 ≤ t)
theorem upto_pre (T : List (It Int)) (t : Int) : upto T t <+: T := List.takeWhile_prefix _
theorem upto_at {T : List (It Int)} {t : Int} {i : Nat} {x : It Int} (hi : i ≤ (upto T t).length) (hx : T[i]? = some x) :
    (t < x.2 → (upto T t).length = i) ∧ (x.2 ≤ t → (upto T t)[i]? = some x) := by
  induction T generalizing i with
  | nil => simp at hx
  | cons y T ih =>
    unfold upto at hi ih ⊢
    rw [List.takeWhile_cons] at hi ⊢
    by_cases hy : y.2 ≤ t
    · rw [if_pos (by simpa using hy)] at hi ⊢
      cases i with
      | zero =>
        cases hx
        exact ⟨fun h => by omega, fun _ => rfl⟩
      | succ i =>
        have := ih (i := i) (by simpa using hi) (by simpa using hx)
        exact ⟨fun h => by simpa using this.1 h, fun h => by simpa using this.2 h⟩
    · rw [if_neg (by simpa using hy)] at hi ⊢
      have h0 : i = 0 := by simpa using hi
      subst h0
      cases hx
      exact ⟨fun _ => rfl, fun h => absurd h hy⟩

set_option maxRecDepth 100000 in
set_option maxHeartbeats 4000000 in
theorem until_iter2 (n : Nat) (bl bt : Nat) (v : Value) (T : List (It Int)) (t : Int) (w : World) (h1 : w.heap[bl]? = some (.cells #[v] 30 (0, 0))) (h2 : w.ownsRow 0 24 2 v T.length (T.flatMap keyC)) (h3 : w.heap[bt]? = some (.cells #[.int .i64 t] 3 (0, 0))) (hl : T.length < 900000) :
    Iter2 Fence.wide n Try.prog 104 #[.pointer (some ⟨bl, 0, none⟩), .pointer (some ⟨bt, 0, none⟩)] (fun (x : It Int) => #[.agg #[.int .i64 x.2, .int .i64 x.1]]) (fun j => j = bl ∨ v.ownBlock = some j ∨ j = bt) none' (upto T t) w := by
  intro l J Jx W hk hsz hJ hJx hY h0
  have c1 : W.cell? ⟨bl, 0, none⟩ = some v := hk.cell (by simp [World.cell?, h1]) (.inl (.inl rfl))
  obtain ⟨a, cap, rfl, hka⟩ := keysAt_own h2
  obtain ⟨m, hm⟩ : ∃ m, T.length = m := ⟨_, rfl⟩
  have HM := Lib.hid hm
  rw [hm] at c1 hl h1 h2 hk hY
  have HJ := Lib.hid hJ
  have HJx := Lib.hid hJx
  have HY := Lib.hid hY
  have hcells : ∀ A, Keeps (fun j => j = bl ∨ (Value.slice a m cap).ownBlock = some j ∨ j = bt) w A → 0 < m → ∃ b off, a = some ⟨b, off, none⟩ ∧ ∀ i x, T[i]? = some x → A.cell? ⟨b, off + i * 2, none⟩ = some (.int .i64 x.2) ∧ A.cell? ⟨b, off + i * 2 + 1, none⟩ = some (.int .i64 x.1) := fun A hA hm0 => by
    obtain ⟨b, off, rfl, hb, hc⟩ := keysAt_get hka hm0 (by rw [kv, List.length_map, hm])
    refine ⟨b, off, rfl, fun i x hx => ?_⟩
    have hi : i < m := by have := (List.getElem?_eq_some_iff.1 hx).1; omega
    have hc := hc i hi
    rw [kv, List.getElem?_map, hx] at hc
    have hob : (Value.slice (some ⟨b, off, none⟩) m cap).ownBlock = some b := rfl
    exact ⟨hA.cell hc.1 (.inr (.inl hob)), hA.cell hc.2 (.inr (.inl hob))⟩
  have HCells := Lib.hid hcells
  have HT3 := Lib.hid (fun A (hA : Keeps (fun j => j = bl ∨ (Value.slice a m cap).ownBlock = some j ∨ j = bt) w A) => hA.cell (p := ⟨bt, 0, none⟩) (v := .int .i64 t) (by simp [World.cell?, h3]) (.inr (.inr rfl)))
  have HK0 := Lib.hid (show Keeps (fun j => j = bl ∨ (Value.slice a m cap).ownBlock = some j ∨ j = bt) w W from hk.mono (fun j hj => .inl hj))
  have H0 := Lib.hid h0
  clear hJ hJx hY h0 h1 h2 h3 hk hka hcells hm
  refine callsIn_of_wp Try.func104 rfl trivial ?_ rfl
  simp only [Try.ntmps104, List.size_toArray, List.length_cons, List.length_nil, Nat.reduceAdd, Nat.reduceSub, Array.replicate_succ, Array.replicate_zero, List.push_toArray, List.append_toArray, List.nil_append, List.cons_append]
  gi_wp2_with fail
  gi_loopg [8] m (fun g s8 wr => ∃ i : Nat, i + g = m ∧ s8 = .int .i64 (i : Int) ∧ i ≤ (upto T t).length ∧ J none' ((upto T t).take i) wr ∧ Keeps (fun j => j = bl ∨ (Value.slice a m cap).ownBlock = some j ∨ j = bt) w wr ∧ W.heap.size ≤ wr.heap.size)
  case atStart => exact ⟨0, by omega, rfl, Nat.zero_le _, by rw [List.take_zero]; exact H0.out, HK0.out, Nat.le_refl _⟩
  case round =>
    obtain ⟨i, hi, rfl, hiu, hj, hkr, hzr⟩ := hrel
    by_cases hlt : i < m
    · have hltI : (i : Int) < (m : Int) := by omega
      have hi0 : (0 : Int) ≤ (i : Int) := by omega
      obtain ⟨b, off, rfl, hc⟩ := HCells.out wr hkr (by omega)
      obtain ⟨x, hx⟩ : ∃ x, T[i]? = some x := ⟨_, List.getElem?_eq_getElem (by rw [HM.out]; exact hlt)⟩
      obtain ⟨q0, q1⟩ := hc i x hx
      obtain ⟨ha1, ha2⟩ := upto_at hiu hx
      obtain ⟨kb, hkb⟩ : ∃ kb, wr.heap.size = kb := ⟨_, rfl⟩
      obtain ⟨wa, hwa⟩ : ∃ wa, wr.alloc (.cells #[.int .i64 x.2, .int .i64 x.1] 24) = wa := ⟨_, rfl⟩
      have hma : Mod none' wr wa := by rw [← hwa]; exact (Mod.refl _ wr).alloc _
      have oa : wa.heap[kb]? = some (.cells #[.int .i64 x.2, .int .i64 x.1] 24 (0, 0)) := by rw [← hwa, ← hkb]; exact heap_alloc_new wr _
      have k0 : wa.cell? ⟨kb, 0, none⟩ = some (.int .i64 x.2) := by simp [World.cell?, oa]
      have k1 : wa.cell? ⟨kb, 1, none⟩ = some (.int .i64 x.1) := by simp [World.cell?, oa]
      have hka := hkr.trans (hma.keeps (fun _ _ _ h => h))
      have k2 := HT3.out wa hka
      have hja := HJ.out none' none' _ _ _ hj (hma.mv _) (fun j hj => .inl hj)
      have hza := hma.size
      have HKa := Lib.hid hka
      have HJa := Lib.hid hja
      have HJr := Lib.hid hj
      have HKr := Lib.hid hkr
      by_cases hxt : x.2 ≤ t
      · have hxi := ha2 hxt
        have hil : i < (upto T t).length := (List.getElem?_eq_some_iff.1 hxi).1
        have htk : (upto T t).take (i + 1) = (upto T t).take i ++ [x] := by rw [List.take_add_one, hxi]; rfl
        have hpre : (upto T t).take i ++ [x] <+: upto T t := by rw [← htk]; exact List.take_prefix _ _
        obtain ⟨fn, tmps, assign, body, hy, hR⟩ := HY.out none' _ x wa hja (fun j hj => hj.elim) hpre
        have HR := Lib.hid hR
        have HTk := Lib.hid htk
        have HPre := Lib.hid hpre
        have hng : decide (t < x.2) = false := by simp; omega
        clear hR htk hpre hka hja hj hkr hc ha1 ha2 hma oa hxi hx
        gi_wp2_with fail
        refine ⟨fun h => (by cases h), HR.out.mono ?_⟩
        rintro e W3 (⟨rfl, hJ3, hk3, _⟩ | ⟨rfl, hJx3, _, _⟩)
        · have hz3 := hk3.size
          have hk3' := HKa.out.trans (hk3.mono (fun j hj => .inl hj))
          have HJ3 := Lib.hid hJ3
          have HK3 := Lib.hid hk3'
          clear hJ3 hk3 hk3' k0 k1 k2 q0 q1
          gi_wp2_with fail
          gi_roundg (m - (i + 1))
          case measure => omega
          case rel => exact ⟨i + 1, by omega, by go_num, hil, by rw [HTk.out]; exact HJ3.out, HK3.out, by omega⟩
        · have HJx3 := Lib.hid hJx3
          clear hJx3
          gi_wp2_with fail
          refine bodyPost_ret (results_none rfl _ _ _) rfl ?_
          exact ⟨⟨_, rfl⟩, .inr ⟨_, _, HPre.out, HJx3.out⟩⟩
      · have hxl := ha1 (by omega)
        have hng : decide (t < x.2) = true := by simp; omega
        rw [← hxl, List.take_length] at hja
        have HJ3 := Lib.hid hja
        clear hka hja hj hkr hc ha1 ha2 hma oa hx hxl
        gi_wp2_with fail
        refine ⟨fun _ h => (by cases h), ?_⟩
        gi_wp2_with fail
        refine bodyPost_ret (results_none rfl _ _ _) rfl ?_
        exact ⟨⟨_, rfl⟩, .inl ⟨_, HJ3.out⟩⟩
    · have hin : i = m := by omega
      subst hin
      rw [List.take_of_length_le (by rw [← HM.out]; exact (upto_pre T t).length_le)] at hj
      have HJ3 := Lib.hid hj
      clear hj hkr
      gi_wp2_with fail
      go_end0
      exact ⟨⟨_, rfl⟩, .inl ⟨_, HJ3.out⟩⟩

/-- a sequence of keys up to a time -/
def untA (bl bt : Nat) (T : List (It Int)) (t : Int) : Ast := exA fun v : Value => sep (boxA bl 30 #[v]) (sep (keysA v T) (boxA bt 3 #[.int .i64 t]))
set_option maxRecDepth 100000 in
set_option maxHeartbeats 2000000 in
theorem Q_until {w0 w : World} {qb : Nat} {S : List (It Int)} {R : Ast} (h : On w0 w (sep (quA qb S) R)) (hs : Sorted ltI S) (hl : S.length < 900000) (t : Int) :
    Calls Try.prog 37 #[.pointer (some ⟨qb, 0, none⟩), .int .i64 t] w fun e w' => ∃ bl bt, e = .returned (.func (.func 104) #[] #[.pointer (some ⟨bl, 0, none⟩), .pointer (some ⟨bt, 0, none⟩)]) ∧ On w0 w' (sep (untA bl bt S t) (sep (quA qb S) R)) := by
  obtain ⟨bt, hbt⟩ : ∃ bt, w.heap.size = bt := ⟨_, rfl⟩
  obtain ⟨w1, hw1⟩ : ∃ w1, w.alloc (.cells #[.int .i64 t] 3) = w1 := ⟨_, rfl⟩
  have h1 := h.new1 3 #[.int .i64 t]
  rw [hw1, hbt] at h1
  have hlen := Q_len h1.left
  have hls := Q_least_all h1.left hs (by omega) (S.length : Int) (Int.le_refl _)
  have HLen := Lib.hid hlen
  have HLs := Lib.hid hls
  clear h h1 hlen hls
  go_enter Try.func37, Try.ntmps37
  go_wp2_with fail
  clear hw1 hbt
  refine HLen.out.mono ?_
  rintro e w2 ⟨rfl, rfl⟩
  go_wp2_with fail
  refine HLs.out.mono ?_
  rintro e w3 ⟨v, rfl, h3⟩
  obtain ⟨a, c, rfl, _⟩ := h3.keys1
  obtain ⟨bl, hbl⟩ : ∃ bl, w3.heap.size = bl := ⟨_, rfl⟩
  obtain ⟨w4, hw4⟩ : ∃ w4, w3.alloc (.cells #[.slice a S.length c] 30) = w4 := ⟨_, rfl⟩
  have h4 := h3.new1 30 #[.slice a S.length c]
  rw [hw4, hbl] at h4
  have h5 : On w0 w4 (sep (untA bl bt S t) (sep (quA qb S) R)) :=
    On.ex_shut (f := fun v : Value => sep (boxA bl 30 #[v]) (sep (keysA v S) (boxA bt 3 #[.int .i64 t]))) (.slice a S.length c) (On.mono (h4.sw2) fun _ h => sep_assoc' (sep_monoR h fun _ => sep_assoc'))
  have H5 := Lib.hid h5
  clear h3 h4 h5
  go_wp2_with fail
  go_ret
  exact ⟨bl, bt, rfl, H5.out⟩
end Go.Proofs.Ytkjpkhpiojahkaa

/-! ### Walks: the document's answer for the queue: Put, Move. -/
namespace Go.Proofs.Ytkjpkhpiojahkaa
set_option linter.unusedVariables false
open Go.RowKit Hp
attribute [local go_sem] Oper.semAt_some

section
variable {w0 w : World} {rb nb : Nat} {S S2 : List (It Int)} {R : Ast}
/-- one answer takes another one's list -/
theorem On.ref_move (h : On w0 w (sep (refA nb S2) (sep (refA rb S) R))) :
    ∃ a c v', w.cell? ⟨nb, 0, none⟩ = some (.slice a S2.length c) ∧ w.cell? ⟨rb, 0, none⟩ = some v' ∧ w.frozen? ⟨rb, 0, none⟩ = false ∧ On w0 (w.setCell ⟨rb, 0, none⟩ (.slice a S2.length c)) (sep (refA rb S2) R) := by
  obtain ⟨F, ⟨va, hra, hFa⟩, _⟩ := h.get1
  obtain ⟨F', ⟨vb, hrb, hFb⟩, _⟩ := h.left.get1
  obtain ⟨a, c, rfl⟩ := hra.slice
  refine ⟨a, c, vb, hra.c0, hrb.c0, hrb.f0, (h.assoc').step1 fun F0 ⟨Fa, Fb, ⟨v1, h1, h2⟩, ⟨v2, h3, h4⟩, h5, h6⟩ => ?_⟩
  have he : v1 = .slice a S2.length c := by
    have e1 := h1.c0
    rw [hra.c0] at e1
    exact (Option.some.inj e1).symm
  subst he
  have hne : ∀ j, (Value.slice a S2.length c).ownBlock = some j → ¬ j = rb := fun j hj e => h5 j ((h2 j).2 (.inr hj)) ((h4 j).2 (.inl e))
  have hst : Mod (fun j => j = rb) w (w.setCell ⟨rb, 0, none⟩ (.slice a S2.length c)) := (Mod.refl (fun j => j = rb) w).setCell (p := ⟨rb, 0, none⟩) (fun _ => rfl) _
  refine ⟨fun j => j = rb ∨ (Value.slice a S2.length c).ownBlock = some j, ⟨_, ⟨?_, own_same h1.2 fun j o hj ho _ => hst.obj ho (hne j hj)⟩, fun j => Iff.rfl⟩, hst.mono fun j hj _ => (h6 j).2 (.inr ((h4 j).2 (.inl hj))), fun j hj => ?_⟩
  · have := heap_setCell_at (k := 0) (v := .slice a S2.length c) h3.1
    simpa using this
  · rcases hj with hj | hj
    · exact .inl ((h6 j).2 (.inr ((h4 j).2 (.inl hj))))
    · exact .inl ((h6 j).2 (.inl ((h2 j).2 (.inr hj))))

set_option maxRecDepth 100000 in
set_option maxHeartbeats 4000000 in
theorem RR_put (h : On w0 w (sep (refA rb S) R)) (a : Option Addr) (cap : Nat) (ks : List (Int × Int)) (hk : ∀ A, On w0 A (sep (refA rb S) R) → Ke.KeysAt A a ks) (hl : S.length + ks.length < 800000) (i : Nat) (hi : i ≤ ks.length) (hok : ∀ j, j < i → okAt S ks j)
    (te : Int) (hte : te = if i < ks.length then checkE (addN S ks i) (kj ks i).1 (kj ks i).2 else 0) (hbad : i < ks.length → te ≠ 0) :
    Calls Try.prog 93 #[.pointer (some ⟨rb, 0, none⟩), .slice a ks.length cap] w fun e w' => e = .returned (.int .i64 te) ∧ On w0 w' (sep (refA rb (putT S ks ks.length i)) R) := by
  obtain ⟨n, hn⟩ : ∃ n, ks.length = n := ⟨_, rfl⟩
  rw [hn] at hl hi hte hbad ⊢
  obtain ⟨nb, hnb⟩ : ∃ nb, w.heap.size = nb := ⟨_, rfl⟩
  obtain ⟨x6, hx6⟩ : ∃ x6, w.alloc (.cells #[.slice none 0 0] 32) = x6 := ⟨_, rfl⟩
  have h6 : On w0 x6 (sep (refA nb []) (sep (refA rb S) R)) := by
    rw [← hx6, ← hnb]
    exact h.add ((Below.refl _ w).alloc (Nat.le_refl _) _) (refA_new w) (fun j hj => by omega)
  have h6d := h6.below ((Below.refl _ x6).drew)
  obtain ⟨F1, ⟨v1, hr1, _⟩, _⟩ := h6d.left.get1
  obtain ⟨F2, ⟨v2, hr2, _⟩, _⟩ := h6.get1
  obtain ⟨la, lcap, rfl⟩ := hr1.slice
  have t1 : x6.cell? ⟨rb, 0, none⟩ = some (.slice la S.length lcap) := hr1.c0
  have hv2 : v2 = .slice none 0 0 := by
    have h1 := hr2.c0
    rw [← hx6, ← hnb, World.cell?_alloc_at _ _ _ _ rfl] at h1
    exact (Option.some.inj h1).symm
  subst hv2
  have t2 : x6.cell? ⟨nb, 0, none⟩ = some (.slice none 0 0) := hr2.c0
  have t3 : x6.frozen? ⟨nb, 0, none⟩ = false := hr2.f0
  have hlr : rb < w.heap.size := by
    obtain ⟨F, ⟨v, hr, _⟩, _⟩ := h.get1
    exact lt_of_some hr.1
  have hn1 : ¬ rb = nb := by omega
  have hn2 : ¬ nb = rb := by omega
  have hobx : nb < x6.heap.size := lt_of_some hr2.1
  have HReads := Lib.hid (Reads.of_own hr1.2)
  have H6 := Lib.hid h6d
  have HT : Hid (x6.drew.cell? ⟨rb, 0, none⟩ = some (.slice la S.length lcap) ∧ x6.drew.cell? ⟨nb, 0, none⟩ = some (.slice none 0 0) ∧ x6.drew.frozen? ⟨nb, 0, none⟩ = false ∧ nb < x6.drew.heap.size) := Lib.hid ⟨t1, t2, t3, hobx⟩
  have hkey := keyC_one S
  have hmx : 0 + S.length ≤ maxLen := by unfold maxLen; omega
  have hby : (0 + S.length) * 16 ≤ 140737488355328 := by omega
  have HK := Lib.hid hk
  have HOk := Lib.hid hok
  have HTe := Lib.hid hte
  have HBad := Lib.hid hbad
  have HN := Lib.hid hn
  clear h h6 h6d hr1 hr2 hk hok hte hbad hn
  go_enter Try.func93, Try.ntmps93
  go_wp2_with fail
  refine wp_region_noPanic ?_
  go_region_law (first
    | (refine step_append_any (by rfl) _ _ 30 (by rfl) 24 2 16 keySlice (.slice none 0 0) 0 [] (by rfl) (World.ownsRow_nil _ _ _ _) (.slice la S.length lcap) S.length (S.flatMap keyC) (by rfl) HReads.out hkey hmx hby ?_; intro v' y1 hown hgrow hat; obtain ⟨q, nn, cc, rfl⟩ := own_form hown; have hby1 := below_grown hgrow (by intro j hj; simp [Value.ownBlock] at hj) (Nat.le_refl _); have s1 := zatB HT.out.1 hby1; have s2 := zatB HT.out.2.1 hby1; have s4 := (hby1.frozen (p := ⟨nb, 0, none⟩) HT.out.2.2.2).trans HT.out.2.2.1; have HOwn := Lib.hid hown; have HY1 := Lib.hid hby1; have HAt := Lib.hid hat; clear hown hgrow hat hby1))
  all_goals
    refine NoPanic.normal ?_
    have h7 : On w0 (y1.setCell ⟨nb, 0, none⟩ (.slice q nn cc)) (sep (refA nb S) (sep (refA rb S) R)) :=
      H6.out.step1 fun F hF => ref_set hF HY1.out HOwn.out (by omega) (by rfl) (own_new (B := x6.drew.heap.size) HAt.out (by simp [Value.ownBlock]) (Nat.le_refl _))
    have H7 := Lib.hid h7
    clear h7 t1 t2 t3 s1 s2 s4 hn1 hn2
    go_wp2_with fail
    go_loopg [6, 7] n (fun gh s6 s7 wr => ∃ j : Nat, j + gh = n ∧ s6 = .int .i64 (j : Int) ∧ j ≤ i ∧ On w0 wr (sep (refA nb (addN S ks j)) (sep (refA rb S) R)))
    case atStart => exact ⟨0, by omega, rfl, Nat.zero_le _, H7.out⟩
    case round =>
      obtain ⟨j, hj, rfl, hji, hon⟩ := hrel
      have hlA : (addN S ks j).length < 900000 := by have := addN_length (S := S) (ks := ks) j; omega
      by_cases hlt : j < n
      · have hltI : (j : Int) < (n : Int) := by omega
        have hj0 : (0 : Int) ≤ (j : Int) := by omega
        obtain ⟨b, off, rfl, hb, hc⟩ := keysAt_get (HK.out wr hon.out1) (n := n) (by omega) HN.out
        obtain ⟨p, hp⟩ : ∃ p, kj ks j = p := ⟨_, rfl⟩
        obtain ⟨q0, q1⟩ := hc j hlt
        have hp' : ks[j]?.getD (0, 0) = p := hp
        rw [hp'] at q0 q1
        have hrp := R_put hon hlA p.2 p.1
        have htm := fun w => rtime_any p.1 w
        by_cases hij : j < i
        · have hck := HOk.out j hij
          unfold okAt at hck
          rw [hp] at hck
          obtain ⟨h0, h1, h2⟩ := checkE_ok hck
          have hng : decide (p.2 < 0) = false := by simp; omega
          have hpe : putE (addN S ks j) p.2 = 0 := by unfold putE; rw [if_neg (by omega), h2]; rfl
          have hps : putS ltI (addN S ks j) p.2 p.1 = addN S ks (j + 1) := by rw [addN, hp']
          rw [hpe, hps] at hrp
          simp only [h1] at htm
          have HRp := Lib.hid hrp
          have HTm := Lib.hid htm
          clear hrp htm hck h0 h1 h2 hpe hps hp hp' hc hon
          go_wp2_with fail
          refine (HTm.out wr).mono ?_
          rintro e w3 ⟨rfl, rfl⟩
          go_wp2_with fail
          refine HRp.out.mono ?_
          rintro e w3 ⟨rfl, h3⟩
          have H3 := Lib.hid h3
          clear h3 q0 q1
          go_wp2_with fail
          go_roundg (n - (j + 1))
          case measure => omega
          case rel => exact ⟨j + 1, by omega, by go_num, by omega, H3.out⟩
        · have hje : j = i := by omega
          subst hje
          have hte := HTe.out
          rw [if_pos hlt, hp] at hte
          have hbad := HBad.out hlt
          have hend : ∀ A, On w0 A (sep (refA rb S) R) → On w0 A (sep (refA rb (putT S ks n j)) R) := fun A hA => by
            unfold putT; rw [if_pos hlt]; exact hA
          have HEnd := Lib.hid hend
          by_cases h0 : p.2 < 0
          · have hng : decide (p.2 < 0) = true := by simp; omega
            have ht1 : te = 1 := by rw [hte]; unfold checkE; rw [if_pos h0]
            have HT1 := Lib.hid ht1
            have H3 := Lib.hid (hend _ hon.out1)
            clear hrp htm hp hp' hc hon hte hbad hend ht1
            go_wp2_with fail
            rw [HT1.out]
            go_ret
            exact ⟨rfl, H3.out⟩
          · have hng : decide (p.2 < 0) = false := by simp; omega
            by_cases h1 : timeE p.1 = 0
            · have hhas : has (addN S ks j) p.2 = true := by
                cases hh : has (addN S ks j) p.2 with
                | true => rfl
                | false =>
                  rw [hte] at hbad
                  unfold checkE at hbad
                  rw [if_neg h0, if_pos h1, hh] at hbad
                  exact absurd rfl hbad
              have ht1 : te = 15 := by rw [hte]; unfold checkE; rw [if_neg h0, if_pos h1, hhas]; rfl
              have hpe : putE (addN S ks j) p.2 = 15 := by unfold putE; rw [if_neg h0, hhas]; rfl
              rw [hpe] at hrp
              simp only [h1] at htm
              have HRp := Lib.hid hrp
              have HTm := Lib.hid htm
              have HT1 := Lib.hid ht1
              clear hrp htm hp hp' hc hon hte hbad hend ht1 hpe hhas h1
              go_wp2_with fail
              refine (HTm.out wr).mono ?_
              rintro e w3 ⟨rfl, rfl⟩
              go_wp2_with fail
              refine HRp.out.mono ?_
              rintro e w3 ⟨rfl, h3⟩
              have H3 := Lib.hid (HEnd.out _ h3.out1)
              clear h3 q0 q1
              go_wp2_with fail
              rw [HT1.out]
              go_ret
              exact ⟨rfl, H3.out⟩
            · obtain ⟨tv, htv⟩ : ∃ tv, timeE p.1 = tv := ⟨_, rfl⟩
              have ht1 : te = tv := by rw [hte]; unfold checkE; rw [if_neg h0, if_neg h1, htv]
              have htv0 : (tv != 0) = true := by rw [← htv]; simpa using h1
              simp only [htv] at htm
              have HTm := Lib.hid htm
              have HT1 := Lib.hid ht1
              have H3 := Lib.hid (hend _ hon.out1)
              clear hrp htm hp hp' hc hon hte hbad hend ht1 h1 htv
              go_wp2_with fail
              refine (HTm.out wr).mono ?_
              rintro e w3 ⟨rfl, rfl⟩
              go_wp2_with fail
              rw [HT1.out]
              go_ret
              exact ⟨rfl, H3.out⟩
      · have hjn : j = n := by omega
        subst hjn
        have hij : i = j := by omega
        subst hij
        obtain ⟨a1, c1, v1, z1, z2, z3, z4⟩ := hon.ref_move
        have hte : te = 0 := by rw [HTe.out, if_neg (by omega)]
        have hpt : putT S ks i i = addN S ks i := by unfold putT; rw [if_neg (by omega)]
        have HTe0 := Lib.hid hte
        have HPt := Lib.hid hpt
        have HZ := Lib.hid z4
        clear hon z4 hte hpt
        go_wp2_with fail
        rw [HTe0.out, HPt.out]
        go_ret
        exact ⟨rfl, HZ.out⟩

set_option maxRecDepth 100000 in
set_option maxHeartbeats 4000000 in
theorem RR_move (h : On w0 w (sep (refA rb S) R)) (hd : S.Pairwise fun a b => a.1 ≠ b.1) (hl : S.length < 800000) (t id : Int) :
    Calls Try.prog 94 #[.pointer (some ⟨rb, 0, none⟩), .agg #[.int .i64 t, .int .i64 id]] w fun e w' => e = .returned (.int .i64 (moveE S t id)) ∧ On w0 w' (sep (refA rb (moveS S t id)) R) := by
  obtain ⟨b, hbb⟩ : ∃ b, w.heap.size = b := ⟨_, rfl⟩
  obtain ⟨w1, hw1⟩ : ∃ w1, w.alloc (.cells #[.int .i64 t, .int .i64 id] 24) = w1 := ⟨_, rfl⟩
  have h1 := h.new1 24 #[.int .i64 t, .int .i64 id]
  rw [hw1, hbb] at h1
  have k0 : w1.cell? ⟨b, 0, none⟩ = some (.int .i64 t) := (h1.box1 0).1
  have k1 : w1.cell? ⟨b, 1, none⟩ = some (.int .i64 id) := (h1.box1 1).1
  have hat := R_at h1.left (by omega) id
  have htm := rtime_any t w1
  have hch := R_change h1.left hd (by omega) id t
  cases hh : has S id with
  | false =>
    have he : moveE S t id = 14 := by unfold moveE; rw [hh]; rfl
    have hs : moveS S t id = S := by unfold moveS; rw [hh]; rfl
    have ha' : (if has S id = true then (idx S id : Int) else -1) = -1 := by rw [hh]; rfl
    rw [ha'] at hat
    rw [he, hs]
    have HAt := Lib.hid hat
    have H1 := Lib.hid h1.out1
    clear h h1 hat htm hch he hs ha' hh
    go_enter Try.func94, Try.ntmps94
    go_wp2_with fail
    refine HAt.out.mono ?_
    rintro e w2 ⟨rfl, rfl⟩
    go_wp2_with fail
    go_ret
    exact ⟨rfl, H1.out⟩
  | true =>
    have he : moveE S t id = timeE t := by unfold moveE; rw [hh]; rfl
    have ha' : (if has S id = true then (idx S id : Int) else -1) = (idx S id : Int) := by rw [hh]; rfl
    rw [ha'] at hat
    have hng : decide ((idx S id : Int) < 0) = false := by simp
    have hhe : hasE S id = 0 := by unfold hasE; rw [hh]; rfl
    rw [hhe] at hch
    obtain ⟨ix, hix⟩ : ∃ ix : Nat, idx S id = ix := ⟨_, rfl⟩
    rw [hix] at hat hng
    rw [he]
    by_cases ht0 : timeE t = 0
    · have hs : moveS S t id = chS ltI S id t := by unfold moveS; rw [hh, if_pos rfl, if_pos ht0]
      rw [hs, ht0]
      rw [ht0] at htm
      have HAt := Lib.hid hat
      have HTm := Lib.hid htm
      have HCh := Lib.hid hch
      clear h h1 hat htm hch he hs ha' hh ht0 hhe hix
      go_enter Try.func94, Try.ntmps94
      go_wp2_with fail
      refine HAt.out.mono ?_
      rintro e w2 ⟨rfl, rfl⟩
      go_wp2_with fail
      refine HTm.out.mono ?_
      rintro e w2 ⟨rfl, rfl⟩
      go_wp2_with fail
      refine HCh.out.mono ?_
      rintro e w2 ⟨rfl, h2⟩
      have H2 := Lib.hid h2.left.out1
      clear h2
      go_wp2_with fail
      go_ret
      exact ⟨rfl, H2.out⟩
    · have hs : moveS S t id = S := by unfold moveS; rw [hh, if_pos rfl, if_neg ht0]
      rw [hs]
      obtain ⟨tv, htv⟩ : ∃ tv, timeE t = tv := ⟨_, rfl⟩
      rw [htv] at htm ht0 ⊢
      have ht1 : (tv == 0) = false := by simpa using ht0
      have HAt := Lib.hid hat
      have HTm := Lib.hid htm
      have H1 := Lib.hid h1.out1
      clear h h1 hat htm hch he hs ha' hh ht0 hhe hix htv
      go_enter Try.func94, Try.ntmps94
      go_wp2_with fail
      refine HAt.out.mono ?_
      rintro e w2 ⟨rfl, rfl⟩
      go_wp2_with fail
      refine HTm.out.mono ?_
      rintro e w2 ⟨rfl, rfl⟩
      go_wp2_with fail
      go_ret
      exact ⟨rfl, H1.out⟩
end
end Go.Proofs.Ytkjpkhpiojahkaa

/-! ### Walks: the queue and the document's answer do a call. -/
namespace Go.Proofs.Ytkjpkhpiojahkaa
set_option linter.unusedVariables false
open Go.RowKit Hp
attribute [local go_sem] Oper.semAt_some

namespace Hp
/-- what a Put of any keys leaves -/
def putL (S : List (It Int)) (ks : List (Int × Int)) : List (It Int) := if ∀ j, j < ks.length → okAt S ks j then putAll S ks else S
def stepQ (S : List (It Int)) (ask t id : Int) (ks : List (Int × Int)) : List (It Int) := if ask = 0 then putL S ks else if ask = 1 then moveS S t id else if ask = 2 then without S id else S
section
variable {S : List (It Int)} {ks : List (Int × Int)} {ask t id : Int}
theorem putL_eq {i : Nat} (hi : i ≤ ks.length) (h1 : ∀ j, j < i → okAt S ks j) (h2 : i < ks.length → ¬ okAt S ks i) : putT S ks ks.length i = putL S ks := by
  unfold putT putL
  by_cases h : i < ks.length
  · rw [if_pos h, if_neg (fun hh => h2 h (hh i h))]
  · rw [if_neg h, if_pos (fun j hj => h1 j (by omega))]
    rfl
theorem putL_sorted (hs : Sorted ltI S) : Sorted ltI (putL S ks) := by
  unfold putL
  split
  · exact putAll_sorted hs
  · exact hs
theorem putL_length : (putL S ks).length ≤ S.length + ks.length := by
  unfold putL
  split
  · exact addN_length _
  · omega
theorem moveS_sorted (hs : Sorted ltI S) : Sorted ltI (moveS S t id) := by
  unfold moveS
  split
  · split
    · exact chS_sorted ltI_swo hs
    · exact hs
  · exact hs
theorem moveS_length : (moveS S t id).length ≤ S.length := by
  unfold moveS
  split
  · split
    · rename_i h _
      unfold chS
      rw [if_pos h, (ins_perm _ _).length_eq, List.length_cons]
      obtain ⟨k, hk⟩ := has_some h
      have : (without S id).length < S.length := by
        refine Nat.lt_of_le_of_ne without_length_le fun e => ?_
        have e2 : without S id = S := without_sub.eq_of_length e
        have := without_gone (S := S) (id := id) (id, k) (by rw [e2]; exact hk)
        exact this rfl
      omega
    · exact Nat.le_refl _
  · exact Nat.le_refl _
theorem stepQ_sorted (hs : Sorted ltI S) : Sorted ltI (stepQ S ask t id ks) := by
  unfold stepQ
  split
  · exact putL_sorted hs
  · split
    · exact moveS_sorted hs
    · split
      · exact without_sorted hs
      · exact hs
theorem stepQ_length : (stepQ S ask t id ks).length ≤ S.length + ks.length := by
  unfold stepQ
  split
  · exact putL_length
  · split
    · exact Nat.le_trans moveS_length (by omega)
    · split
      · exact Nat.le_trans without_length_le (by omega)
      · omega
end
end Hp

section
variable {w0 w : World} {qb rb : Nat} {S : List (It Int)} {R : Ast} {ask t id : Int} {la : Option Addr} {lc : Nat} {ks : List (Int × Int)}

set_option maxRecDepth 100000 in
set_option maxHeartbeats 4000000 in
theorem does4_put (h : On w0 w (sep (quA qb S) (sep (refA rb S) R))) (hl : S.length + ks.length < 700000) (hL : Ke.KeysAt w0 la ks) (hwf : ∀ k ∈ ks, (Lit.int .i64 k.2).wf = true) (hcap : ks.length ≤ lc) (hcm : lc ≤ 9223372036854775807) :
    Calls Try.prog 28 #[.pointer (some ⟨qb, 0, none⟩), .pointer (some ⟨rb, 0, none⟩), .agg #[.int .i64 0, .int .i64 t, .int .i64 id, .slice la ks.length lc]] w fun e w' => e = .returned (.bool true) ∧ On w0 w' (sep (quA qb (putL S ks)) (sep (refA rb (putL S ks)) R)) := by
  obtain ⟨n, hn⟩ : ∃ n, ks.length = n := ⟨_, rfl⟩
  obtain ⟨w1, hw1⟩ : ∃ w1, w.alloc (.cells #[.int .i64 0, .int .i64 t, .int .i64 id, .slice la n lc] 35) = w1 := ⟨_, rfl⟩
  obtain ⟨b, hb'⟩ : ∃ b, w.heap.size = b := ⟨_, rfl⟩
  have h1 : On w0 w1 (sep (quA qb S) (sep (refA rb S) (sep (boxA b 35 #[.int .i64 0, .int .i64 t, .int .i64 id, .slice la n lc]) R))) := by
    rw [← hw1, ← hb']
    exact h.new3 35 _
  have c0 : w1.cell? ⟨b, 0, none⟩ = some (.int .i64 0) := h1.box3 0
  have c3 : w1.cell? ⟨b, 3, none⟩ = some (.slice la n lc) := h1.box3 3
  have hd := h1.below ((Below.refl _ w1).drew)
  obtain ⟨i, hi1, hi2, hi3⟩ := first_bad (okAt S ks) ks.length
  have hbad : i < ks.length → checkE (addN S ks i) (kj ks i).1 (kj ks i).2 ≠ 0 := hi3
  have hput := Q_put hd la lc ks (fun A T hA => keysAt_below hL hA.to_below) hwf hcap hcm (by omega) i hi1 hi2 _ rfl (fun hi => by rw [if_pos hi]; exact hbad hi)
  have hrput := fun (A : World) (T : List (It Int)) (hA : On w0 A (sep (quA qb T) (sep (refA rb S) (sep (boxA b 35 #[.int .i64 0, .int .i64 t, .int .i64 id, .slice la n lc]) R)))) =>
    RR_put hA.left la lc ks (fun A hA => keysAt_below hL hA.to_below) (by omega) i hi1 hi2 _ rfl (fun hi => by rw [if_pos hi]; exact hbad hi)
  obtain ⟨ee, hee⟩ : ∃ ee, (if i < ks.length then checkE (addN S ks i) (kj ks i).1 (kj ks i).2 else 0) = ee := ⟨_, rfl⟩
  have hee2 : (if i < ks.length then checkE (addN S ks i) (ks[i]?.getD (0, 0)).1 (ks[i]?.getD (0, 0)).2 else 0) = ee := hee
  rw [hee2, putL_eq hi1 hi2 hi3, hn] at hput
  simp only [hee] at hrput
  simp only [putL_eq hi1 hi2 hi3] at hrput
  simp only [hn] at hrput
  have hcl : ∀ (A : World) S1 S2, On w0 A (sep (quA qb S1) (sep (refA rb S2) (sep (boxA b 35 #[.int .i64 0, .int .i64 t, .int .i64 id, .slice la n lc]) R))) → A.cell? ⟨b, 3, none⟩ = some (.slice la n lc) := fun A S1 S2 hA => hA.box3 3
  rw [hn]
  have HPut := Lib.hid hput
  have HRput := Lib.hid hrput
  have HCl := Lib.hid hcl
  clear h h1 hd hput hrput hcl hee hee2 hi1 hi2 hi3 hbad hL hwf
  go_enter Try.func28, Try.ntmps28
  go_wp2_with fail
  go_region_held3 (fun A0 => A0.cell? ⟨b, 3, none⟩ = some (.slice la n lc))
    (first | assumption | go_keep)
    (first
      | (go_at_call 92; refine HPut.out.mono ?_; rintro e A1 ⟨rfl, h1⟩; have k0 := HCl.out A1 _ _ h1; have H1 := Lib.hid h1; clear h1)
      | (go_at_call 93; refine (HRput.out _ _ H1.out).mono ?_; rintro e A2 ⟨rfl, h2⟩; have l0 := HCl.out A2 _ _ h2.left; have H2 := Lib.hid h2.left; clear h2))
  go_wp2
  go_ret
  exact ⟨rfl, H2.out.drop3⟩

set_option maxRecDepth 100000 in
set_option maxHeartbeats 4000000 in
theorem does4_move (h : On w0 w (sep (quA qb S) (sep (refA rb S) R))) (hl : S.length < 700000) (hw : (Lit.int .i64 id).wf = true) (n : Nat) :
    Calls Try.prog 28 #[.pointer (some ⟨qb, 0, none⟩), .pointer (some ⟨rb, 0, none⟩), .agg #[.int .i64 1, .int .i64 t, .int .i64 id, .slice la n lc]] w fun e w' => e = .returned (.bool true) ∧ On w0 w' (sep (quA qb (moveS S t id)) (sep (refA rb (moveS S t id)) R)) := by
  have hdist := h.qu_distinct
  obtain ⟨w1, hw1⟩ : ∃ w1, w.alloc (.cells #[.int .i64 1, .int .i64 t, .int .i64 id, .slice la n lc] 35) = w1 := ⟨_, rfl⟩
  obtain ⟨b, hb'⟩ : ∃ b, w.heap.size = b := ⟨_, rfl⟩
  have h1 : On w0 w1 (sep (quA qb S) (sep (refA rb S) (sep (boxA b 35 #[.int .i64 1, .int .i64 t, .int .i64 id, .slice la n lc]) R))) := by
    rw [← hw1, ← hb']
    exact h.new3 35 _
  have c0 : w1.cell? ⟨b, 0, none⟩ = some (.int .i64 1) := h1.box3 0
  have c1 : w1.cell? ⟨b, 1, none⟩ = some (.int .i64 t) := h1.box3 1
  have c2 : w1.cell? ⟨b, 2, none⟩ = some (.int .i64 id) := h1.box3 2
  have hd := h1.below ((Below.refl _ w1).drew)
  have hput := Q_move hd (by omega) t id hw
  have hrput := fun (A : World) (T : List (It Int)) (hA : On w0 A (sep (quA qb T) (sep (refA rb S) (sep (boxA b 35 #[.int .i64 1, .int .i64 t, .int .i64 id, .slice la n lc]) R)))) =>
    RR_move hA.left hdist (by omega) t id
  obtain ⟨ee, hee⟩ : ∃ ee, moveE S t id = ee := ⟨_, rfl⟩
  rw [hee] at hput
  simp only [hee] at hrput
  have hcl : ∀ (A : World) S1 S2, On w0 A (sep (quA qb S1) (sep (refA rb S2) (sep (boxA b 35 #[.int .i64 1, .int .i64 t, .int .i64 id, .slice la n lc]) R))) → A.cell? ⟨b, 1, none⟩ = some (.int .i64 t) ∧ A.cell? ⟨b, 2, none⟩ = some (.int .i64 id) := fun A S1 S2 hA => ⟨hA.box3 1, hA.box3 2⟩
  have HPut := Lib.hid hput
  have HRput := Lib.hid hrput
  have HCl := Lib.hid hcl
  clear h h1 hd hput hrput hcl hee hdist
  go_enter Try.func28, Try.ntmps28
  go_wp2_with fail
  go_region_held3 (fun A0 => A0.cell? ⟨b, 1, none⟩ = some (.int .i64 t) ∧ A0.cell? ⟨b, 2, none⟩ = some (.int .i64 id))
    (first | (refine ⟨?_, ?_⟩ <;> assumption) | go_keep)
    (first
      | (go_at_call 36; refine HPut.out.mono ?_; rintro e A1 ⟨rfl, h1⟩; obtain ⟨k0, k1⟩ := HCl.out A1 _ _ h1; have H1 := Lib.hid h1; clear h1)
      | (go_at_call 94; refine (HRput.out _ _ H1.out).mono ?_; rintro e A2 ⟨rfl, h2⟩; obtain ⟨l0, l1⟩ := HCl.out A2 _ _ h2.left; have H2 := Lib.hid h2.left; clear h2))
  go_wp2
  go_ret
  exact ⟨rfl, H2.out.drop3⟩
set_option maxRecDepth 100000 in
set_option maxHeartbeats 4000000 in
theorem does4_drop (h : On w0 w (sep (quA qb S) (sep (refA rb S) R))) (hl : S.length < 700000) (hw : (Lit.int .i64 id).wf = true) (n : Nat) :
    Calls Try.prog 28 #[.pointer (some ⟨qb, 0, none⟩), .pointer (some ⟨rb, 0, none⟩), .agg #[.int .i64 2, .int .i64 t, .int .i64 id, .slice la n lc]] w fun e w' => e = .returned (.bool true) ∧ On w0 w' (sep (quA qb (without S id)) (sep (refA rb (without S id)) R)) := by
  have hdist := h.qu_distinct
  obtain ⟨w1, hw1⟩ : ∃ w1, w.alloc (.cells #[.int .i64 2, .int .i64 t, .int .i64 id, .slice la n lc] 35) = w1 := ⟨_, rfl⟩
  obtain ⟨b, hb'⟩ : ∃ b, w.heap.size = b := ⟨_, rfl⟩
  have h1 : On w0 w1 (sep (quA qb S) (sep (refA rb S) (sep (boxA b 35 #[.int .i64 2, .int .i64 t, .int .i64 id, .slice la n lc]) R))) := by
    rw [← hw1, ← hb']
    exact h.new3 35 _
  have c0 : w1.cell? ⟨b, 0, none⟩ = some (.int .i64 2) := h1.box3 0
  have c2 : w1.cell? ⟨b, 2, none⟩ = some (.int .i64 id) := h1.box3 2
  have hat := R_at h1.left (by omega) id
  have hget := Q_get h1 (by omega) id hw
  cases hh : has S id with
  | false =>
    have he : hasE S id = 14 := by unfold hasE; rw [hh]; rfl
    have hka : keyAt 0 S id = 0 := keyAt_none hh
    have hia : idAt S id = 0 := by unfold idAt; rw [hh]; rfl
    have ha' : (if has S id = true then (idx S id : Int) else -1) = -1 := by rw [hh]; rfl
    rw [ha'] at hat
    rw [he, hka, hia] at hget
    have HAt := Lib.hid hat
    have HGet := Lib.hid hget
    have H1 := Lib.hid h1
    have HDr := Lib.hid (fun (A : World) (R' : Ast) (hA : On w0 A (sep (quA qb S) R')) => Q_drop hA (by omega) id hw)
    simp only [he, hka, hia] at HDr
    have hwo := without_none hh
    simp only [hwo] at HDr
    rw [hwo]
    clear h h1 hat hget hdist he hka hia ha' hh hwo
    go_enter Try.func28, Try.ntmps28
    go_wp2_with fail
    refine HAt.out.mono ?_
    rintro e w2 ⟨rfl, rfl⟩
    go_wp2_with fail
    refine HGet.out.mono ?_
    rintro e w2 ⟨rfl, hb2⟩
    obtain ⟨kb, hkb⟩ : ∃ kb, w2.heap.size = kb := ⟨_, rfl⟩
    obtain ⟨wz, hwz⟩ : ∃ wz, w2.alloc (.cells #[.int .i64 0, .int .i64 0] 24) = wz := ⟨_, rfl⟩
    have hz := (H1.out.below hb2).new1 24 #[.int .i64 0, .int .i64 0]
    rw [hwz, hkb] at hz
    have z0 : wz.cell? ⟨kb, 0, none⟩ = some (.int .i64 0) := (hz.box1 0).1
    have z1 : wz.cell? ⟨kb, 1, none⟩ = some (.int .i64 0) := (hz.box1 1).1
    have z2 : wz.frozen? ⟨kb, 0, none⟩ = false := (hz.box1 0).2
    have z3 : wz.frozen? ⟨kb, 1, none⟩ = false := (hz.box1 1).2
    obtain ⟨w3, hw3⟩ : ∃ w3, (wz.setCell ⟨kb, 0, none⟩ (.int .i64 0)).setCell ⟨kb, 1, none⟩ (.int .i64 0) = w3 := ⟨_, rfl⟩
    have h3 : On w0 w3 (sep (boxA kb 24 #[.int .i64 0, .int .i64 0]) (sep (quA qb S) (sep (refA rb S) (sep (boxA b 35 #[.int .i64 2, .int .i64 t, .int .i64 id, .slice la n lc]) R)))) := by
      rw [← hw3]; exact (hz.box_set 0 (.int .i64 0)).box_set 1 (.int .i64 0)
    have d0 : w3.cell? ⟨b, 0, none⟩ = some (.int .i64 2) := ((h3.sw2.sw1.sw0).box1 0).1
    have d2 : w3.cell? ⟨b, 2, none⟩ = some (.int .i64 id) := ((h3.sw2.sw1.sw0).box1 2).1
    have k0 : w3.cell? ⟨kb, 0, none⟩ = some (.int .i64 0) := (h3.box1 0).1
    have hdr := HDr.out w3 _ (h3.sw0)
    have HDr3 := Lib.hid hdr
    clear h3 hdr hb2 c0 c2
    go_wp2_with fail
    clear hw3 hkb d0 d2 k0
    refine HDr3.out.mono ?_
    rintro e w5 ⟨rfl, h5⟩
    have g0 : w5.cell? ⟨kb, 0, none⟩ = some (.int .i64 0) := (h5.sw0.box1 0).1
    have g1 : w5.cell? ⟨kb, 1, none⟩ = some (.int .i64 0) := (h5.sw0.box1 1).1
    have g2 : w5.frozen? ⟨kb, 0, none⟩ = false := (h5.sw0.box1 0).2
    have g3 : w5.frozen? ⟨kb, 1, none⟩ = false := (h5.sw0.box1 1).2
    obtain ⟨w6, hw6⟩ : ∃ w6, (w5.setCell ⟨kb, 0, none⟩ (.int .i64 0)).setCell ⟨kb, 1, none⟩ (.int .i64 0) = w6 := ⟨_, rfl⟩
    have h6 := (h5.sw0.box_set 0 (.int .i64 0)).box_set 1 (.int .i64 0)
    rw [hw6] at h6
    have d0 : w6.cell? ⟨b, 0, none⟩ = some (.int .i64 2) := ((h6.sw2.sw1.sw0).box1 0).1
    have d2 : w6.cell? ⟨b, 2, none⟩ = some (.int .i64 id) := ((h6.sw2.sw1.sw0).box1 2).1
    have k0 : w6.cell? ⟨kb, 0, none⟩ = some (.int .i64 0) := (h6.box1 0).1
    have k1 : w6.cell? ⟨kb, 1, none⟩ = some (.int .i64 0) := (h6.box1 1).1
    have hq : ∀ w, (binOp BinOp.eql 24 (.agg #[.int .i64 0, .int .i64 0]) (.agg #[.int .i64 0, .int .i64 0])).run Try.prog w = .ok (.bool true) w := fun w => by rw [eql32]; simp
    have H9 := Lib.hid h6.out1.drop3
    clear h6 h5
    go_wp2_with fail
    go_ret
    exact ⟨rfl, H9.out⟩
  | true =>
    have he : hasE S id = 0 := by unfold hasE; rw [hh]; rfl
    obtain ⟨k, hix⟩ := idx_some hh
    have hka : keyAt 0 S id = k := keyAt_mem hdist (List.mem_of_getElem? hix)
    have hia : idAt S id = id := by unfold idAt; rw [hh]; rfl
    have ha' : (if has S id = true then (idx S id : Int) else -1) = (idx S id : Int) := by rw [hh]; rfl
    have hil := idx_lt.2 hh
    rw [ha'] at hat
    rw [he, hka, hia] at hget
    obtain ⟨ix, hixx⟩ : ∃ ix : Nat, idx S id = ix := ⟨_, rfl⟩
    rw [hixx] at hat hix hil
    have hng : decide ((ix : Int) < 0) = false := by simp
    have hilI : (ix : Int) < (S.length : Int) := by omega
    have hi0 : (0 : Int) ≤ (ix : Int) := by omega
    have HAt := Lib.hid hat
    have HGet := Lib.hid hget
    have H1 := Lib.hid h1
    have HIx := Lib.hid hix
    have HDr := Lib.hid (fun (A : World) (R' : Ast) (hA : On w0 A (sep (quA qb S) R')) => Q_drop hA (by omega) id hw)
    simp only [he, hka, hia] at HDr
    have HRd := Lib.hid (fun (A : World) (R' : Ast) (hA : On w0 A (sep (refA rb S) R')) => R_drop hA hdist (by omega) id)
    simp only [he, hka] at HRd
    clear h h1 hat hget hdist he hka hia ha' hh hix hil hixx
    go_enter Try.func28, Try.ntmps28
    go_wp2_with fail
    refine HAt.out.mono ?_
    rintro e w2 ⟨rfl, rfl⟩
    go_wp2_with fail
    refine HGet.out.mono ?_
    rintro e w2 ⟨rfl, hb2⟩
    obtain ⟨kb, hkb⟩ : ∃ kb, w2.heap.size = kb := ⟨_, rfl⟩
    obtain ⟨w3, hw3⟩ : ∃ w3, w2.alloc (.cells #[.int .i64 k, .int .i64 id] 24) = w3 := ⟨_, rfl⟩
    have h3 := (H1.out.below hb2).new1 24 #[.int .i64 k, .int .i64 id]
    rw [hw3, hkb] at h3
    have d0 : w3.cell? ⟨b, 0, none⟩ = some (.int .i64 2) := ((h3.sw2.sw1.sw0).box1 0).1
    have d2 : w3.cell? ⟨b, 2, none⟩ = some (.int .i64 id) := ((h3.sw2.sw1.sw0).box1 2).1
    have k0 : w3.cell? ⟨kb, 0, none⟩ = some (.int .i64 k) := (h3.box1 0).1
    have hdr := HDr.out w3 _ (h3.sw0)
    have HDr3 := Lib.hid hdr
    clear h3 hdr hb2 c0 c2
    go_wp2_with fail
    clear hw3 hkb d0 d2 k0
    refine HDr3.out.mono ?_
    rintro e w5 ⟨rfl, h5⟩
    have g0 : w5.cell? ⟨kb, 0, none⟩ = some (.int .i64 k) := (h5.sw0.box1 0).1
    have g1 : w5.cell? ⟨kb, 1, none⟩ = some (.int .i64 id) := (h5.sw0.box1 1).1
    have g2 : w5.frozen? ⟨kb, 0, none⟩ = false := (h5.sw0.box1 0).2
    have g3 : w5.frozen? ⟨kb, 1, none⟩ = false := (h5.sw0.box1 1).2
    obtain ⟨w6, hw6⟩ : ∃ w6, (w5.setCell ⟨kb, 0, none⟩ (.int .i64 k)).setCell ⟨kb, 1, none⟩ (.int .i64 id) = w6 := ⟨_, rfl⟩
    have h6 := (h5.sw0.box_set 0 (.int .i64 k)).box_set 1 (.int .i64 id)
    rw [hw6] at h6
    have d0 : w6.cell? ⟨b, 0, none⟩ = some (.int .i64 2) := ((h6.sw2.sw1.sw0).box1 0).1
    have d2 : w6.cell? ⟨b, 2, none⟩ = some (.int .i64 id) := ((h6.sw2.sw1.sw0).box1 2).1
    have k0 : w6.cell? ⟨kb, 0, none⟩ = some (.int .i64 k) := (h6.box1 0).1
    have k1 : w6.cell? ⟨kb, 1, none⟩ = some (.int .i64 id) := (h6.box1 1).1
    have hq : ∀ w, (binOp BinOp.eql 24 (.agg #[.int .i64 k, .int .i64 id]) (.agg #[.int .i64 k, .int .i64 id])).run Try.prog w = .ok (.bool true) w := fun w => by rw [eql32]; simp
    obtain ⟨v, hraw⟩ := h6.out1.ref2
    obtain ⟨g, cap, rfl, hcap, y0, y1, hgl⟩ := hraw.at HIx.out
    have yc := hraw.c0
    obtain ⟨kb2, hkb2⟩ : ∃ kb2, w6.heap.size = kb2 := ⟨_, rfl⟩
    obtain ⟨w7, hw7⟩ : ∃ w7, w6.alloc (.cells #[.int .i64 k, .int .i64 id] 24) = w7 := ⟨_, rfl⟩
    have h7 := h6.new1 24 #[.int .i64 k, .int .i64 id]
    rw [hw7, hkb2] at h7
    have m0 : w7.cell? ⟨b, 0, none⟩ = some (.int .i64 2) := ((h7.sw3.sw2.sw1.sw0).box1 0).1
    have m2 : w7.cell? ⟨b, 2, none⟩ = some (.int .i64 id) := ((h7.sw3.sw2.sw1.sw0).box1 2).1
    have m3 : w7.cell? ⟨kb, 0, none⟩ = some (.int .i64 k) := (h7.sw0.box1 0).1
    have m4 : w7.cell? ⟨kb, 1, none⟩ = some (.int .i64 id) := (h7.sw0.box1 1).1
    have m5 : w7.cell? ⟨kb2, 0, none⟩ = some (.int .i64 k) := (h7.box1 0).1
    have m6 : w7.cell? ⟨kb2, 1, none⟩ = some (.int .i64 id) := (h7.box1 1).1
    have hrd := HRd.out w7 _ (h7.sw2.sw1.sw0)
    have HRd7 := Lib.hid hrd
    clear h6 h7 hraw hrd h5
    go_wp2_with fail
    refine HRd7.out.mono ?_
    rintro e w8 ⟨rfl, h8⟩
    have n3 : w8.cell? ⟨kb, 0, none⟩ = some (.int .i64 k) := ((h8.sw1.sw0).box1 0).1
    have n4 : w8.cell? ⟨kb, 1, none⟩ = some (.int .i64 id) := ((h8.sw1.sw0).box1 1).1
    have n5 : w8.cell? ⟨kb2, 0, none⟩ = some (.int .i64 k) := (h8.sw0.box1 0).1
    have n6 : w8.cell? ⟨kb2, 1, none⟩ = some (.int .i64 id) := (h8.sw0.box1 1).1
    have H9 := Lib.hid ((h8.sw0.sw1.sw2).out1.out1.drop3)
    clear h8 hw7 hkb2
    go_wp2_with fail
    go_ret
    exact ⟨rfl, H9.out⟩

set_option maxRecDepth 100000 in
set_option maxHeartbeats 4000000 in
theorem does4_get (h : On w0 w (sep (quA qb S) (sep (refA rb S) R))) (hl : S.length < 700000) (hw : (Lit.int .i64 id).wf = true) (n : Nat) (ha0 : ask ≠ 0) (ha1 : ask ≠ 1) (ha2 : ask ≠ 2) :
    Calls Try.prog 28 #[.pointer (some ⟨qb, 0, none⟩), .pointer (some ⟨rb, 0, none⟩), .agg #[.int .i64 ask, .int .i64 t, .int .i64 id, .slice la n lc]] w fun e w' => e = .returned (.bool true) ∧ On w0 w' (sep (quA qb (S)) (sep (refA rb (S)) R)) := by
  have hdist := h.qu_distinct
  obtain ⟨w1, hw1⟩ : ∃ w1, w.alloc (.cells #[.int .i64 ask, .int .i64 t, .int .i64 id, .slice la n lc] 35) = w1 := ⟨_, rfl⟩
  obtain ⟨b, hb'⟩ : ∃ b, w.heap.size = b := ⟨_, rfl⟩
  have h1 : On w0 w1 (sep (quA qb S) (sep (refA rb S) (sep (boxA b 35 #[.int .i64 ask, .int .i64 t, .int .i64 id, .slice la n lc]) R))) := by
    rw [← hw1, ← hb']
    exact h.new3 35 _
  have c0 : w1.cell? ⟨b, 0, none⟩ = some (.int .i64 ask) := h1.box3 0
  have c2 : w1.cell? ⟨b, 2, none⟩ = some (.int .i64 id) := h1.box3 2
  have hat := R_at h1.left (by omega) id
  have hget := Q_get h1 (by omega) id hw
  have a0 : (ask == 0) = false := by simpa using ha0
  have a1 : (ask == 1) = false := by simpa using ha1
  have a2 : (ask == 2) = false := by simpa using ha2
  cases hh : has S id with
  | false =>
    have he : hasE S id = 14 := by unfold hasE; rw [hh]; rfl
    have hka : keyAt 0 S id = 0 := keyAt_none hh
    have hia : idAt S id = 0 := by unfold idAt; rw [hh]; rfl
    have ha' : (if has S id = true then (idx S id : Int) else -1) = -1 := by rw [hh]; rfl
    rw [ha'] at hat
    rw [he, hka, hia] at hget
    have HAt := Lib.hid hat
    have HGet := Lib.hid hget
    have H1 := Lib.hid h1
    clear h h1 hat hget hdist he hka hia ha' hh
    go_enter Try.func28, Try.ntmps28
    go_wp2_with fail
    refine HAt.out.mono ?_
    rintro e w2 ⟨rfl, rfl⟩
    go_wp2_with fail
    refine HGet.out.mono ?_
    rintro e w2 ⟨rfl, hb2⟩
    obtain ⟨kb, hkb⟩ : ∃ kb, w2.heap.size = kb := ⟨_, rfl⟩
    obtain ⟨wz, hwz⟩ : ∃ wz, w2.alloc (.cells #[.int .i64 0, .int .i64 0] 24) = wz := ⟨_, rfl⟩
    have hz := (H1.out.below hb2).new1 24 #[.int .i64 0, .int .i64 0]
    rw [hwz, hkb] at hz
    have z0 : wz.cell? ⟨kb, 0, none⟩ = some (.int .i64 0) := (hz.box1 0).1
    have z1 : wz.cell? ⟨kb, 1, none⟩ = some (.int .i64 0) := (hz.box1 1).1
    have z2 : wz.frozen? ⟨kb, 0, none⟩ = false := (hz.box1 0).2
    have z3 : wz.frozen? ⟨kb, 1, none⟩ = false := (hz.box1 1).2
    obtain ⟨w3, hw3⟩ : ∃ w3, (wz.setCell ⟨kb, 0, none⟩ (.int .i64 0)).setCell ⟨kb, 1, none⟩ (.int .i64 0) = w3 := ⟨_, rfl⟩
    have h3 : On w0 w3 (sep (boxA kb 24 #[.int .i64 0, .int .i64 0]) (sep (quA qb S) (sep (refA rb S) (sep (boxA b 35 #[.int .i64 ask, .int .i64 t, .int .i64 id, .slice la n lc]) R)))) := by
      rw [← hw3]; exact (hz.box_set 0 (.int .i64 0)).box_set 1 (.int .i64 0)
    have d0 : w3.cell? ⟨b, 0, none⟩ = some (.int .i64 ask) := ((h3.sw2.sw1.sw0).box1 0).1
    have d2 : w3.cell? ⟨b, 2, none⟩ = some (.int .i64 id) := ((h3.sw2.sw1.sw0).box1 2).1
    have k0 : w3.cell? ⟨kb, 0, none⟩ = some (.int .i64 0) := (h3.box1 0).1
    have k1 : w3.cell? ⟨kb, 1, none⟩ = some (.int .i64 0) := (h3.box1 1).1
    have hq : ∀ w, (binOp BinOp.eql 24 (.agg #[.int .i64 0, .int .i64 0]) (.agg #[.int .i64 0, .int .i64 0])).run Try.prog w = .ok (.bool true) w := fun w => by rw [eql32]; simp
    have H9 := Lib.hid h3.out1.drop3
    clear h3 hb2 c0 c2
    go_wp2_with fail
    go_ret
    exact ⟨rfl, H9.out⟩
  | true =>
    have he : hasE S id = 0 := by unfold hasE; rw [hh]; rfl
    obtain ⟨k, hix⟩ := idx_some hh
    have hka : keyAt 0 S id = k := keyAt_mem hdist (List.mem_of_getElem? hix)
    have hia : idAt S id = id := by unfold idAt; rw [hh]; rfl
    have ha' : (if has S id = true then (idx S id : Int) else -1) = (idx S id : Int) := by rw [hh]; rfl
    have hil := idx_lt.2 hh
    rw [ha'] at hat
    rw [he, hka, hia] at hget
    obtain ⟨ix, hixx⟩ : ∃ ix : Nat, idx S id = ix := ⟨_, rfl⟩
    rw [hixx] at hat hix hil
    have hng : decide ((ix : Int) < 0) = false := by simp
    have hilI : (ix : Int) < (S.length : Int) := by omega
    have hi0 : (0 : Int) ≤ (ix : Int) := by omega
    have HAt := Lib.hid hat
    have HGet := Lib.hid hget
    have H1 := Lib.hid h1
    have HIx := Lib.hid hix
    clear h h1 hat hget hdist he hka hia ha' hh hix hil hixx
    go_enter Try.func28, Try.ntmps28
    go_wp2_with fail
    refine HAt.out.mono ?_
    rintro e w2 ⟨rfl, rfl⟩
    go_wp2_with fail
    refine HGet.out.mono ?_
    rintro e w2 ⟨rfl, hb2⟩
    obtain ⟨kb, hkb⟩ : ∃ kb, w2.heap.size = kb := ⟨_, rfl⟩
    obtain ⟨w3, hw3⟩ : ∃ w3, w2.alloc (.cells #[.int .i64 k, .int .i64 id] 24) = w3 := ⟨_, rfl⟩
    have h3 := (H1.out.below hb2).new1 24 #[.int .i64 k, .int .i64 id]
    rw [hw3, hkb] at h3
    have d0 : w3.cell? ⟨b, 0, none⟩ = some (.int .i64 ask) := ((h3.sw2.sw1.sw0).box1 0).1
    have d2 : w3.cell? ⟨b, 2, none⟩ = some (.int .i64 id) := ((h3.sw2.sw1.sw0).box1 2).1
    have k0 : w3.cell? ⟨kb, 0, none⟩ = some (.int .i64 k) := (h3.box1 0).1
    have k1 : w3.cell? ⟨kb, 1, none⟩ = some (.int .i64 id) := (h3.box1 1).1
    have hq : ∀ w, (binOp BinOp.eql 24 (.agg #[.int .i64 k, .int .i64 id]) (.agg #[.int .i64 k, .int .i64 id])).run Try.prog w = .ok (.bool true) w := fun w => by rw [eql32]; simp
    obtain ⟨v, hraw⟩ := h3.out1.ref2
    obtain ⟨g, cap, rfl, hcap, y0, y1, hgl⟩ := hraw.at HIx.out
    have yc := hraw.c0
    obtain ⟨kb2, hkb2⟩ : ∃ kb2, w3.heap.size = kb2 := ⟨_, rfl⟩
    obtain ⟨w7, hw7⟩ : ∃ w7, w3.alloc (.cells #[.int .i64 k, .int .i64 id] 24) = w7 := ⟨_, rfl⟩
    have h7 := h3.new1 24 #[.int .i64 k, .int .i64 id]
    rw [hw7, hkb2] at h7
    have m0 : w7.cell? ⟨b, 0, none⟩ = some (.int .i64 ask) := ((h7.sw3.sw2.sw1.sw0).box1 0).1
    have m2 : w7.cell? ⟨b, 2, none⟩ = some (.int .i64 id) := ((h7.sw3.sw2.sw1.sw0).box1 2).1
    have m3 : w7.cell? ⟨kb, 0, none⟩ = some (.int .i64 k) := (h7.sw0.box1 0).1
    have m4 : w7.cell? ⟨kb, 1, none⟩ = some (.int .i64 id) := (h7.sw0.box1 1).1
    have m5 : w7.cell? ⟨kb2, 0, none⟩ = some (.int .i64 k) := (h7.box1 0).1
    have m6 : w7.cell? ⟨kb2, 1, none⟩ = some (.int .i64 id) := (h7.box1 1).1
    have H9 := Lib.hid h3.out1.drop3
    have H9 := Lib.hid h7.out1.out1.drop3
    clear h3 h7 hraw hb2 c0 c2
    go_wp2_with fail
    go_ret
    exact ⟨rfl, H9.out⟩

end
end Go.Proofs.Ytkjpkhpiojahkaa

/-! ### Walks: the queue and the document's answer: any call, and that they are the same. -/
namespace Go.Proofs.Ytkjpkhpiojahkaa
set_option linter.unusedVariables false
open Go.RowKit Hp
attribute [local go_sem] Oper.semAt_some

section
variable {w0 w : World} {qb rb : Nat} {S : List (It Int)} {R : Ast} {ask t id : Int} {la : Option Addr} {lc : Nat} {ks : List (Int × Int)}

theorem does4_ok (h : On w0 w (sep (quA qb S) (sep (refA rb S) R))) (hl : S.length + ks.length < 700000) (hL : Ke.KeysAt w0 la ks) (hwf : ∀ k ∈ ks, (Lit.int .i64 k.2).wf = true) (hcap : ks.length ≤ lc) (hcm : lc ≤ 9223372036854775807) (ask t id : Int) (hw : (Lit.int .i64 id).wf = true) :
    Calls Try.prog 28 #[.pointer (some ⟨qb, 0, none⟩), .pointer (some ⟨rb, 0, none⟩), .agg #[.int .i64 ask, .int .i64 t, .int .i64 id, .slice la ks.length lc]] w fun e w' => e = .returned (.bool true) ∧ On w0 w' (sep (quA qb (stepQ S ask t id ks)) (sep (refA rb (stepQ S ask t id ks)) R)) := by
  unfold stepQ
  by_cases h0 : ask = 0
  · rw [if_pos h0, h0]
    exact does4_put h hl hL hwf hcap hcm
  · rw [if_neg h0]
    by_cases h1 : ask = 1
    · rw [if_pos h1, h1]
      exact does4_move h (by omega) hw _
    · rw [if_neg h1]
      by_cases h2 : ask = 2
      · rw [if_pos h2, h2]
        exact does4_drop h (by omega) hw _
      · rw [if_neg h2]
        exact does4_get h (by omega) hw _ h0 h1 h2

theorem RefRaw.keys {v : Value} (h : RefRaw w rb v S) : ∃ a c, v = .slice a S.length c ∧ Ke.KeysAt w a (kv S) := keysAt_own h.2

theorem On.ref_open (h : On w0 w (sep (refA rb S) R)) : ∃ a c, On w0 w (sep (boxA rb 32 #[.slice a S.length c]) (sep (keysA (.slice a S.length c) S) R)) := by
  obtain ⟨F, ⟨Fa, Fb, ⟨v, hr, hF⟩, h2, h3, h4⟩, hb, hl⟩ := h
  obtain ⟨a, c, rfl⟩ := hr.slice
  refine ⟨a, c, F, ⟨fun j => j = rb, fun j => (Value.slice a S.length c).ownBlock = some j ∨ Fb j, ⟨hr.1, fun j => Iff.rfl⟩, ⟨_, Fb, ⟨hr.2, fun j => Iff.rfl⟩, h2, fun j hj hb => h3 j ((hF j).2 (.inr hj)) hb, fun j => Iff.rfl⟩, fun j hj hj2 => ?_, fun j => ?_⟩, hb, hl⟩
  · rcases hj2 with h | h
    · exact hr.ne h hj
    · exact h3 j ((hF j).2 (.inl hj)) h
  · rw [h4, hF, or_assoc]
theorem On.ref_shut {v : Value} (h : On w0 w (sep (boxA rb 32 #[v]) (sep (keysA v S) R))) : On w0 w (sep (refA rb S) R) :=
  h.mono fun F hF => sep_mono (sep_assoc' hF) fun F' ⟨Fa, Fb, ha, hb, _, h4⟩ => ⟨v, ⟨ha.1, hb.1⟩, fun j => by rw [h4, ha.2, hb.2]⟩

set_option maxRecDepth 100000 in
set_option maxHeartbeats 4000000 in
theorem same4_ok (h : On w0 w (sep (quA qb S) (sep (refA rb S) R))) (hs : Sorted ltI S) (hl : S.length < 800000) :
    Calls Try.prog 39 #[.pointer (some ⟨qb, 0, none⟩), .pointer (some ⟨rb, 0, none⟩)] w fun e w' => e = .returned (.bool true) ∧ On w0 w' (sep (quA qb S) (sep (refA rb S) R)) := by
  have hf := Q_first h hs
  obtain ⟨p1, hp1⟩ : ∃ p, (S.headD (0, 0)).2 = p := ⟨_, rfl⟩
  obtain ⟨q1, hq1⟩ : ∃ p, (S.headD (0, 0)).1 = p := ⟨_, rfl⟩
  obtain ⟨e1, he1⟩ : ∃ p, headE S = p := ⟨_, rfl⟩
  obtain ⟨p2, hp2⟩ : ∃ p, (S.reverse.headD (0, 0)).2 = p := ⟨_, rfl⟩
  obtain ⟨q2, hq2⟩ : ∃ p, (S.reverse.headD (0, 0)).1 = p := ⟨_, rfl⟩
  obtain ⟨e2, he2⟩ : ∃ p, headE S.reverse = p := ⟨_, rfl⟩
  obtain ⟨n, hn⟩ : ∃ n, S.length = n := ⟨_, rfl⟩
  rw [hp1, hq1, he1] at hf
  have HF := Lib.hid hf
  have H0 := Lib.hid h
  have HP1 := Lib.hid hp1
  have HQ1 := Lib.hid hq1
  have HE1 := Lib.hid he1
  have HP2 := Lib.hid hp2
  have HQ2 := Lib.hid hq2
  have HE2 := Lib.hid he2
  have HS := Lib.hid hs
  have HN := Lib.hid hn
  rw [hn] at hl
  clear h hf hp1 hq1 he1 hp2 hq2 he2 hs hn
  go_enter Try.func39, Try.ntmps39
  go_wp2_with fail
  refine HF.out.mono ?_
  rintro e w1 ⟨rfl, hb1⟩
  obtain ⟨ba, hba⟩ : ∃ ba, w1.heap.size = ba := ⟨_, rfl⟩
  obtain ⟨w2, hw2⟩ : ∃ w2, w1.alloc (.cells #[.int .i64 p1, .int .i64 q1] 24) = w2 := ⟨_, rfl⟩
  have h2 := (H0.out.below hb1).new1 24 #[.int .i64 p1, .int .i64 q1]
  rw [hw2, hba] at h2
  have hf := Q_last h2.left HS.out
  rw [HP2.out, HQ2.out, HE2.out] at hf
  have HF2 := Lib.hid hf
  have H2 := Lib.hid h2
  clear hf h2 hb1
  go_wp2_with fail
  clear hw2 hba
  refine HF2.out.mono ?_
  rintro e w3 ⟨rfl, hb3⟩
  obtain ⟨bb, hbb⟩ : ∃ bb, w3.heap.size = bb := ⟨_, rfl⟩
  obtain ⟨w4, hw4⟩ : ∃ w4, w3.alloc (.cells #[.int .i64 p2, .int .i64 q2] 24) = w4 := ⟨_, rfl⟩
  have h4 := (H2.out.below hb3).new1 24 #[.int .i64 p2, .int .i64 q2]
  rw [hw4, hbb] at h4
  obtain ⟨ra, rc, h5⟩ := (h4.sw2.sw1.sw0).ref_open
  rw [HN.out] at h5
  have c0' := (h5.box1 0).1
  have c0 : w4.cell? ⟨rb, 0, none⟩ = some (.slice ra n rc) := c0'
  have hd := (h5.sw3.sw2.sw1.sw0).below ((Below.refl _ w4).drew)
  have hlen := Q_len hd
  rw [HN.out] at hlen
  have hlst : Calls Try.prog 29 #[.pointer (some ⟨qb, 0, none⟩), .int .i64 ((n : Int) + 1)] w4.drew fun e w' => ∃ a c, e = .returned (.slice a n c) ∧ w'.cell? ⟨rb, 0, none⟩ = some (.slice ra n rc) ∧ Hid (Calls Try.prog 32 #[.slice a n c, .slice ra n rc] w' fun e w' => e = .returned (.bool true) ∧ w'.cell? ⟨rb, 0, none⟩ = some (.slice ra n rc) ∧ Hid (On w0 w' (sep (quA qb S) (sep (boxA rb 32 #[.slice ra n rc]) (sep (keysA (.slice ra n rc) S) (sep (boxA bb 24 #[.int .i64 p2, .int .i64 q2]) (sep (boxA ba 24 #[.int .i64 p1, .int .i64 q1]) R))))))) := by
    refine (Q_least_all hd HS.out (by rw [HN.out]; omega) ((n : Int) + 1) (by rw [HN.out]; omega)).mono fun e w' ⟨v, he, ho⟩ => ?_
    obtain ⟨a1, c1, rfl, _⟩ := ho.keys1
    rw [HN.out] at he ho
    have hc : w'.cell? ⟨rb, 0, none⟩ = some (.slice ra n rc) := ((ho.sw1.sw0).box1 0).1
    exact ⟨a1, c1, he, hc, Lib.hid (((ho.sw2.sw1).keys2_same (by rw [HN.out]; omega)).mono fun e w2 ⟨h1, h2⟩ => ⟨h1, zatB hc h2, Lib.hid (ho.below h2).out1⟩)⟩
  have HLen := Lib.hid hlen
  have HLst := Lib.hid hlst
  have hnn : ((n : Int) != (n : Int)) = false := by simp
  have hwr : IntKind.i64.wrap ((n : Int) + 1) = (n : Int) + 1 := IntWalk.i64_in _ (by omega)
  clear h4 h5 hd hlen hlst hb3 c0'
  go_wp2_with fail
  go_region_held3 (fun A0 => A0.cell? ⟨rb, 0, none⟩ = some (.slice ra n rc))
    (first | assumption | go_keep)
    (first
      | (go_at_call 30; refine HLen.out.mono ?_; rintro e A1 ⟨rfl, rfl⟩)
      | (go_at_call 29; refine HLst.out.mono ?_; rintro e A1 ⟨a1, c1, rfl, k1, HK1⟩)
      | (go_at_call 32; refine HK1.out.mono ?_; rintro e A2 ⟨rfl, k2, HK2⟩))
  by_cases h0 : n = 0
  · have hS : S = [] := List.eq_nil_of_length_eq_zero (by rw [HN.out, h0])
    have z1 : p1 = 0 := by rw [← HP1.out, hS]; rfl
    have z2 : q1 = 0 := by rw [← HQ1.out, hS]; rfl
    have z3 : p2 = 0 := by rw [← HP2.out, hS]; rfl
    have z4 : q2 = 0 := by rw [← HQ2.out, hS]; rfl
    have z5 : e1 = 14 := by rw [← HE1.out, hS]; rfl
    have z6 : e2 = 14 := by rw [← HE2.out, hS]; rfl
    subst z1 z2 z3 z4 z5 z6 h0
    have a0 : A2.cell? ⟨ba, 0, none⟩ = some (.int .i64 0) := ((HK2.out.sw3.sw2.sw1.sw0).box1 0).1
    have a1 : A2.cell? ⟨ba, 1, none⟩ = some (.int .i64 0) := ((HK2.out.sw3.sw2.sw1.sw0).box1 1).1
    have b0 : A2.cell? ⟨bb, 0, none⟩ = some (.int .i64 0) := ((HK2.out.sw2.sw1.sw0).box1 0).1
    have b1 : A2.cell? ⟨bb, 1, none⟩ = some (.int .i64 0) := ((HK2.out.sw2.sw1.sw0).box1 1).1
    have hq : ∀ w, (binOp BinOp.eql 24 (.agg #[.int .i64 0, .int .i64 0]) (.agg #[.int .i64 0, .int .i64 0])).run Try.prog w = .ok (.bool true) w := fun w => by rw [eql32]; rfl
    have H9 : Hid (On w0 A2 (sep (quA qb S) (sep (refA rb S) R))) := Lib.hid (On.left (On.ref_shut ((HK2.out.sw2.sw1.sw0.sw3.sw2.sw1.sw2.sw3).out1.out1)))
    clear hS
    go_wp2_with fail
    go_ret
    exact ⟨rfl, H9.out⟩
  · have hn0 : ((n : Int) == 0) = false := by simp; omega
    obtain ⟨m, rfl⟩ : ∃ m, n = m + 1 := ⟨n - 1, by omega⟩
    obtain ⟨x, hx⟩ : ∃ x, S[0]? = some x := ⟨_, List.getElem?_eq_getElem (by rw [HN.out]; omega)⟩
    obtain ⟨y, hy⟩ : ∃ y, S[m]? = some y := ⟨_, List.getElem?_eq_getElem (by rw [HN.out]; omega)⟩
    have hhd : S.headD (0, 0) = x := by
      cases S with
      | nil => cases hx
      | cons z S => cases hx; rfl
    have hrd : S.reverse.headD (0, 0) = y := by
      have h1 : S.reverse[0]? = some y := by
        rw [List.getElem?_reverse (by rw [HN.out]; omega), HN.out]
        simpa using hy
      cases hr : S.reverse with
      | nil => rw [hr] at h1; cases h1
      | cons z T => rw [hr] at h1; cases h1; rfl
    have hne : S ≠ [] := fun e => by rw [e] at hx; cases hx
    have z1 : p1 = x.2 := by rw [← HP1.out, hhd]
    have z2 : q1 = x.1 := by rw [← HQ1.out, hhd]
    have z3 : p2 = y.2 := by rw [← HP2.out, hrd]
    have z4 : q2 = y.1 := by rw [← HQ2.out, hrd]
    have z5 : e1 = 0 := by rw [← HE1.out]; unfold headE; rw [if_neg (by simpa using hne)]
    have z6 : e2 = 0 := by rw [← HE2.out]; unfold headE; rw [if_neg (by simpa using hne)]
    obtain ⟨ra', rc', hre, hkr⟩ := (HK2.out.sw1.sw0).keys1
    rw [HN.out] at hre
    cases hre
    obtain ⟨b, off, rfl, _, hc⟩ := keysAt_get hkr (n := m + 1) (by omega) (by rw [kv, List.length_map, HN.out])
    obtain ⟨r0, r1⟩ := hc 0 (by omega)
    obtain ⟨r2, r3⟩ := hc m (by omega)
    rw [kv, List.getElem?_map, hx] at r0 r1
    rw [kv, List.getElem?_map, hy] at r2 r3
    simp only [Option.map_some, Option.getD_some, Nat.zero_mul, Nat.add_zero] at r0 r1 r2 r3
    subst z1 z2 z3 z4 z5 z6
    have a0 : A2.cell? ⟨ba, 0, none⟩ = some (.int .i64 x.2) := ((HK2.out.sw3.sw2.sw1.sw0).box1 0).1
    have a1 : A2.cell? ⟨ba, 1, none⟩ = some (.int .i64 x.1) := ((HK2.out.sw3.sw2.sw1.sw0).box1 1).1
    have b0 : A2.cell? ⟨bb, 0, none⟩ = some (.int .i64 y.2) := ((HK2.out.sw2.sw1.sw0).box1 0).1
    have b1 : A2.cell? ⟨bb, 1, none⟩ = some (.int .i64 y.1) := ((HK2.out.sw2.sw1.sw0).box1 1).1
    have hq1 : ∀ w, (binOp BinOp.eql 24 (.agg #[.int .i64 x.2, .int .i64 x.1]) (.agg #[.int .i64 x.2, .int .i64 x.1])).run Try.prog w = .ok (.bool true) w := fun w => by rw [eql32]; simp
    have hq2 : ∀ w, (binOp BinOp.eql 24 (.agg #[.int .i64 y.2, .int .i64 y.1]) (.agg #[.int .i64 y.2, .int .i64 y.1])).run Try.prog w = .ok (.bool true) w := fun w => by rw [eql32]; simp
    have hwr2 : IntKind.i64.wrap (((m + 1 : Nat) : Int) - 1) = (m : Int) := by rw [IntWalk.i64_in _ (by omega)]; omega
    have hm1 : (0 : Int) < ((m + 1 : Nat) : Int) := by omega
    have hm2 : (m : Int) < ((m + 1 : Nat) : Int) := by omega
    have hm3 : (0 : Int) ≤ (m : Int) := by omega
    have hwr3 : IntKind.i64.wrap (m : Int) = (m : Int) := IntWalk.i64_in _ (by omega)
    have hm4 : (m : Int) < (m : Int) + 1 := by omega
    have hm5 : (0 : Int) < (m : Int) + 1 := by omega
    have H9 : Hid (On w0 A2 (sep (quA qb S) (sep (refA rb S) R))) := Lib.hid (On.left (On.ref_shut ((HK2.out.sw2.sw1.sw0.sw3.sw2.sw1.sw2.sw3).out1.out1)))
    clear hx hy hhd hrd hne hkr hc hwr hnn
    go_wp2_with fail
    refine wp_region_loose (fun A => A = A2.drew) (by kernel_rfl) (by kernel_rfl) rfl ?_
    iterate 29 (refine loose_val (v := ?_) (by rfl) ?_ ?_; rotate_left; (focus (intro A' hA'; subst hA'; go_simp; first | done | with_reducible rfl)); simp only [Act.put, List.setIfInBounds_toArray, List.set_cons_zero, List.set_cons_succ])
    refine loose_nil ?_
    intro A3 hA3
    subst hA3
    have H10 := Lib.hid (H9.out.below ((Below.refl _ A2).drew))
    go_wp2_with fail
    go_ret
    exact ⟨rfl, H10.out⟩
end
end Go.Proofs.Ytkjpkhpiojahkaa

/-! ### A slice of the queue's calls that came in; few. -/
namespace Go.Proofs.Ytkjpkhpiojahkaa
set_option linter.unusedVariables false
open Go.RowKit Go.ChangeShapes Go.WideShapes Go.Deep Hp
attribute [local go_sem] Oper.semAt_some

/-- a call: what, the time and the number, and the keys with the slice that holds them -/
structure Op4 where
  ask : Int
  t : Int
  id : Int
  la : Option Addr
  lc : Nat
  ks : List (Int × Int)
def op0 : Op4 := ⟨0, 0, 0, none, 0, []⟩
def OpCells (w : World) (p : Addr) (o : Op4) : Prop :=
  w.cell? p = some (.int .i64 o.ask) ∧ w.cell? (p.add 1) = some (.int .i64 o.t) ∧ w.cell? (p.add 2) = some (.int .i64 o.id) ∧ w.cell? (p.add 3) = some (.slice o.la o.ks.length o.lc)
def OpGood (w : World) (o : Op4) : Prop :=
  (Lit.int .i64 o.id).wf = true ∧ Ke.KeysAt w o.la o.ks ∧ (∀ k ∈ o.ks, (Lit.int .i64 k.2).wf = true) ∧ o.ks.length ≤ o.lc ∧ o.lc ≤ 9223372036854775807
def OpsAt4 (w : World) (a : Option Addr) (os : List Op4) : Prop :=
  (os.length = 0 ∨ ∃ b off, a = some ⟨b, off, none⟩ ∧ b < w.heap.size ∧ ∀ k, k < os.length → OpCells w ⟨b, off + k * 4, none⟩ (os[k]?.getD op0)) ∧ ∀ o ∈ os, OpGood w o
theorem OpsAt4.get {w A : World} {a : Option Addr} {os : List Op4} (h : OpsAt4 w a os) (hb : Below w.heap.size w A) {k : Nat} (hk : k < os.length) :
    ∃ b off o, a = some ⟨b, off, none⟩ ∧ os[k]? = some o ∧ A.cell? ⟨b, off + k * 4, none⟩ = some (.int .i64 o.ask) ∧ A.cell? ⟨b, off + k * 4 + 1, none⟩ = some (.int .i64 o.t) ∧ A.cell? ⟨b, off + k * 4 + 2, none⟩ = some (.int .i64 o.id) ∧
      A.cell? ⟨b, off + k * 4 + 3, none⟩ = some (.slice o.la o.ks.length o.lc) ∧ OpGood w o := by
  obtain ⟨b, off, ha, hlt, hc⟩ := h.1.resolve_left (by omega)
  have ho := List.getElem?_eq_getElem hk
  have hc := hc k hk
  rw [ho, Option.getD_some] at hc
  unfold OpCells at hc
  rw [add_zero', add_zero', add_zero'] at hc
  obtain ⟨c0, c1, c2, c3⟩ := hc
  have q := fun (p : Addr) (v : Value) (hp : p.block = b) (hv : w.cell? p = some v) => (hb.cell (p := p) (by rw [hp]; exact hlt)).trans hv
  exact ⟨b, off, os[k], ha, ho, q _ _ rfl c0, q _ _ rfl c1, q _ _ rfl c2, q _ _ rfl c3, h.2 _ (List.getElem_mem hk)⟩

theorem Try.fields35 : ∃ f0 f1 f2 : Field, Try.prog.underlying 35 = some (.struct #[f0, f1, f2]) ∧ f0.type = 3 ∧ f1.type = 24 ∧ f2.type = 30 ∧ f0.offset = 0 ∧ f1.offset = 1 ∧ f2.offset = 3 :=
  ⟨_, _, _, Try.underlying35, rfl, rfl, rfl, rfl, rfl, rfl⟩
theorem cells77 : Try.prog.cellsOf 35 = 4 := by kernel_rfl
theorem cells38s : Try.prog.cellsOf 30 = 1 := by kernel_rfl

section
variable {Hd : Type} {enc : TypeId × Value → Hd} {w : World} {base : Nat} {spare : Nat → Bool} {held : Bool}
set_option maxRecDepth 100000 in
theorem open_op4 {fuel : Nat} {cs : List Value} {x : DataW Hd × List MemPlace} (h : DataW.trod enc Try.prog w base spare held fuel 35 cs = some x) :
    ∃ o : Op4, cs = [.int .i64 o.ask, .int .i64 o.t, .int .i64 o.id, .slice o.la o.ks.length o.lc] ∧ OpGood w o := by
  obtain ⟨f0, f1, f2, hs, t0, t1, t2, o0, o1, o2⟩ := Try.fields35
  obtain ⟨xs, n, _, _, hl, hxl, hf⟩ := DataW.trod_struct hs h
  rw [cells77] at hl
  match cs, hl, xs, hxl with
  | [c0, c1, c2, c3], _, [y0, y1, y2], _ =>
    have h0 := hf 0 f0 rfl
    have h1 := hf 1 f1 rfl
    have h2 := hf 2 f2 rfl
    rw [t0, o0, Ke.cells3] at h0
    rw [t1, o1, Ke.cells38] at h1
    rw [t2, o2, cells38s] at h2
    obtain ⟨r, hr, _, hr2⟩ := DataW.trod_int Try.underlying3 h0
    obtain ⟨p, q, hpq, hp2, hq2⟩ := Ke.open_key h1
    simp at hr hpq
    have hsl : ∃ la ln lc, c3 = .slice la ln lc := by
      rcases open_slice Try.underlying30 h2 with ⟨e, _⟩ | ⟨a', len', cap', m, n, D, Pl, e, _⟩
      · simp at e; exact ⟨_, _, _, e⟩
      · simp at e; exact ⟨_, _, _, e⟩
    obtain ⟨la, ln, lc, rfl⟩ := hsl
    have h3 : DataW.trod enc Try.prog w base spare held n 30 [.slice la ln lc] = some y2 := by simpa using h2
    obtain ⟨ks, k1, k2, k3⟩ := Ke.open_keys h3
    obtain ⟨k4, k5⟩ := open_keys_cap h3
    exact ⟨⟨r, p, q, la, lc, ks⟩, by rw [hr, hpq.1, hpq.2, k1], hq2, k2, fun k hk => (k3 k hk).2, by rw [k1]; exact k4, k5⟩

theorem open_ops4 {fuel : Nat} {a : Option Addr} {len cap : Nat} {x : DataW Hd × List MemPlace} (h : DataW.trod enc Try.prog w base spare held fuel 22 [.slice a len cap] = some x) :
    ∃ os : List Op4, os.length = len ∧ OpsAt4 w a os := by
  rcases open_slice Try.underlying22 h with ⟨h0, _⟩ | ⟨a', len', cap', m, n, D, Pl, hcs, _, hl, _, hm, _, hi⟩
  · injection h0 with h0
    injection h0 with _ h0 _
    exact ⟨[], by rw [h0]; rfl, .inl rfl, by simp⟩
  · injection hcs with hcs
    injection hcs with h1 h2 h3
    subst h1
    subst h2
    subst h3
    have hlm : len ≤ m := by rw [hm]; split <;> omega
    rw [cells77] at hi
    have hq : ∀ i, i < len → ∃ o : Op4, OpCells w (a'.add (i * 4)) o ∧ OpGood w o := fun i hil => by
      obtain ⟨cs', hc, ht⟩ := hi i (by omega)
      obtain ⟨o, rfl, hg⟩ := open_op4 ht
      obtain ⟨_, _, hat⟩ := World.cells?_some hc
      have e0 := hat 0 (by omega)
      have e1 := hat 1 (by omega)
      have e2 := hat 2 (by omega)
      have e3 := hat 3 (by omega)
      exact ⟨o, ⟨by simpa [Go.Deep.add_add] using e0, by simpa using e1, by simpa using e2, by simpa using e3⟩, hg⟩
    obtain ⟨os, hk1, hk2⟩ := Ke.exists_list op0 _ len hq
    refine ⟨os, hk1, ?_, fun o ho => ?_⟩
    · rcases Nat.eq_zero_or_pos len with h0 | h0
      · exact .inl (by rw [hk1]; exact h0)
      · have hs : (a'.add (0 * 4)).spot = none := Ke.spot_none (hk2 0 h0).1.1
        obtain ⟨b, off, spot⟩ := a'
        have hs' : spot = none := by
          unfold Addr.add at hs
          split at hs <;> simp_all
        subst hs'
        refine .inr ⟨b, off, rfl, ?_, fun k hk => ?_⟩
        · have := (hk2 0 h0).1.1
          rw [add_zero'] at this
          exact World.block_lt_of_cell? w _ this
        · have := (hk2 k (by omega)).1
          rw [add_zero'] at this
          exact this
    · obtain ⟨i, hi, e⟩ := List.mem_iff_getElem.1 ho
      have := (hk2 i (by omega)).2
      rwa [List.getElem?_eq_getElem hi, Option.getD_some, e] at this
end

def fewP (os : List Op4) : Prop := (∀ o ∈ os, o.ks.length ≤ 20) ∧ os.length ≤ 40
instance (os : List Op4) : Decidable (fewP os) := by unfold fewP; infer_instance
set_option maxRecDepth 100000 in
set_option maxHeartbeats 2000000 in
theorem few4_any {w0 : World} {a : Option Addr} {os : List Op4} (h : OpsAt4 w0 a os) (cap : Nat) (w : World) (hb : Below w0.heap.size w0 w) (hl : os.length ≤ 9223372036854775807) :
    Calls Try.prog 26 #[.slice a os.length cap] w fun e w' => e = .returned (.bool (decide (fewP os))) ∧ w' = w := by
  obtain ⟨n, hn⟩ : ∃ n, os.length = n := ⟨_, rfl⟩
  have HO := Lib.hid h
  have HB := Lib.hid hb
  have HN := Lib.hid hn
  rw [hn] at hl ⊢
  clear h hb hn
  go_enter Try.func26, Try.ntmps26
  go_wp2_with fail
  go_loopg [3] n (fun gh s3 wr => ∃ i : Nat, i + gh = n ∧ s3 = .int .i64 (i : Int) ∧ wr = w ∧ ∀ j o, j < i → os[j]? = some o → o.ks.length ≤ 20)
  case atStart => exact ⟨0, by omega, rfl, rfl, fun j o hj => by omega⟩
  case round =>
    obtain ⟨i, hi, rfl, rfl, hall⟩ := hrel
    have HAll := Lib.hid hall
    clear hall
    by_cases hlt : i < n
    · have hltI : (i : Int) < (n : Int) := by omega
      have hi0 : (0 : Int) ≤ (i : Int) := by omega
      obtain ⟨b, off, o, rfl, ho, _, _, _, q3, _⟩ := HO.out.get HB.out (k := i) (by rw [HN.out]; exact hlt)
      by_cases h20 : o.ks.length ≤ 20
      · have hg : decide ((20 : Int) < (o.ks.length : Int)) = false := by simp; omega
        have HOo := Lib.hid ho
        clear ho
        go_wp2_with fail
        go_roundg (n - (i + 1))
        case measure => omega
        case rel =>
          refine ⟨i + 1, by omega, by go_num, rfl, fun j o' hj ho' => ?_⟩
          by_cases hji : j = i
          · subst hji
            rw [HOo.out] at ho'
            cases ho'
            exact h20
          · exact HAll.out j o' (by omega) ho'
      · have hg : decide ((20 : Int) < (o.ks.length : Int)) = true := by simp; omega
        have hne : ¬ fewP os := fun hf => h20 (hf.1 o (List.mem_of_getElem? ho))
        have HNe := Lib.hid hne
        clear ho hne
        go_wp2_with fail
        rw [decide_eq_false HNe.out]
        go_ret
        exact ⟨rfl, rfl⟩
    · have hin : i = n := by omega
      subst hin
      have he : decide (fewP os) = decide ((i : Int) ≤ 40) := by
        rw [decide_eq_decide]
        unfold fewP
        rw [HN.out]
        constructor
        · intro h; have := h.2; omega
        · intro h
          refine ⟨fun o ho => ?_, by omega⟩
          obtain ⟨j, hj, e⟩ := List.mem_iff_getElem.1 ho
          exact HAll.out j o (by rw [HN.out] at hj; exact hj) (by rw [List.getElem?_eq_getElem hj, e])
      have HE := Lib.hid he
      clear he
      go_wp2_with fail
      rw [HE.out]
      go_ret
      exact ⟨rfl, rfl⟩
end Go.Proofs.Ytkjpkhpiojahkaa

/-! ### Walks: the document's Least and Until. -/
namespace Go.Proofs.Ytkjpkhpiojahkaa
set_option linter.unusedVariables false
open Go.RowKit Hp
attribute [local go_sem] Oper.semAt_some

theorem keysAt_take {w : World} {a : Option Addr} {ks : List (Int × Int)} {i : Nat} (h : Ke.KeysAt w a ks) : Ke.KeysAt w a (ks.take i) := by
  rcases h with h | ⟨b, off, rfl, hb, h⟩
  · exact .inl (by rw [List.length_take]; omega)
  · refine .inr ⟨b, off, rfl, hb, fun k hk => ?_⟩
    rw [List.length_take] at hk
    rw [List.getElem?_take_of_lt (by omega)]
    exact h k (by omega)

section
variable {w0 w : World} {rb : Nat} {S : List (It Int)} {R : Ast}
set_option maxRecDepth 100000 in
set_option maxHeartbeats 4000000 in
theorem RL_least (h : On w0 w (sep (refA rb S) R)) (hl : S.length < 900000) (n : Int) :
    Calls Try.prog 40 #[.pointer (some ⟨rb, 0, none⟩), .int .i64 n] w fun e w' => ∃ a c, e = .returned (.slice a (leastS S n).length c) ∧ Below w.heap.size w w' ∧ Ke.KeysAt w' a (kv (leastS S n)) := by
  by_cases hn : n < 1
  · have e : leastS S n = [] := by unfold leastS; rw [if_pos hn]
    rw [e]
    go_enter Try.func40, Try.ntmps40
    go_wp2_with fail
    go_ret
    exact ⟨none, 0, rfl, Below.refl _ _, .inl rfl⟩
  · obtain ⟨m, hm⟩ : ∃ m, S.length = m := ⟨_, rfl⟩
    obtain ⟨k, hk⟩ : ∃ k : Nat, n = (k : Int) := ⟨n.toNat, by omega⟩
    have e : leastS S n = S.take k := by unfold leastS; rw [if_neg hn, hk, Int.toNat_natCast]
    rw [e]
    obtain ⟨ra, rc, h5⟩ := h.ref_open
    obtain ⟨ra', rc', hre, hkr⟩ := h5.out1.keys1
    cases hre
    rw [hm] at h5 hl
    have c0 : w.cell? ⟨rb, 0, none⟩ = some (.slice ra m rc) := (h5.box1 0).1
    obtain ⟨_, _, hre, hrc1, hrc2, _⟩ := h5.out1.keys_cap rfl (n := m) (by rw [kv, List.length_map, hm])
    cases hre
    have HKr := Lib.hid hkr
    have HM := Lib.hid hm
    clear h h5 hkr e hm
    subst hk
    have hk0 : (0 : Int) ≤ (k : Int) := by omega
    have c0' : w.drew.cell? ⟨rb, 0, none⟩ = some (.slice ra m rc) := c0
    have hb : Below w.heap.size w w.drew := (Below.refl _ w).drew
    have hkd : Ke.KeysAt w.drew ra (kv S) := HKr.out
    by_cases hmk : m < k
    · have ht : S.take k = S := List.take_of_length_le (by rw [HM.out]; omega)
      rw [ht, HM.out]
      obtain ⟨a', hsl, hka⟩ := slice_keys_to ra m rc m (kv S) (by rw [kv, List.length_map, HM.out]) (Nat.le_refl _) hrc1
      have hka' := hka _ hkd
      rw [List.take_of_length_le (by rw [kv, List.length_map, HM.out]; exact Nat.le_refl _)] at hka'
      have HKa := Lib.hid hka'
      have HB := Lib.hid hb
      clear hka hka' ht hkd hb
      go_enter Try.func40, Try.ntmps40
      go_wp2_with fail
      refine wp_region_loose (fun A => A = w.drew) (by kernel_rfl) (by kernel_rfl) rfl ?_
      iterate 13 (first
        | (refine loose_skip (by rfl) ?_; simp only [Act.put, List.setIfInBounds_toArray, List.set_cons_zero, List.set_cons_succ])
        | (refine loose_val (v := ?_) (by rfl) ?_ ?_; rotate_left; (focus (intro A' hA'; subst hA'; go_simp; first | done | with_reducible rfl)); simp only [Act.put, List.setIfInBounds_toArray, List.set_cons_zero, List.set_cons_succ]))
      refine loose_nil ?_
      intro A3 hA3
      subst hA3
      go_wp2_with fail
      go_ret
      exact ⟨_, _, rfl, HB.out, HKa.out⟩
    · have hlk : (S.take k).length = k := by rw [List.length_take, HM.out]; omega
      rw [hlk]
      obtain ⟨a', hsl, hka⟩ := slice_keys_to ra m rc k (kv S) (by rw [kv, List.length_map, HM.out]) (by omega) hrc1
      have hka' := hka _ hkd
      rw [kv, ← List.map_take] at hka'
      have HKa := Lib.hid hka'
      have HB := Lib.hid hb
      clear hka hka' hlk hkd hb
      go_enter Try.func40, Try.ntmps40
      go_wp2_with fail
      refine wp_region_loose (fun A => A = w.drew) (by kernel_rfl) (by kernel_rfl) rfl ?_
      iterate 13 (first
        | (refine loose_skip (by rfl) ?_; simp only [Act.put, List.setIfInBounds_toArray, List.set_cons_zero, List.set_cons_succ])
        | (refine loose_val (v := ?_) (by rfl) ?_ ?_; rotate_left; (focus (intro A' hA'; subst hA'; go_simp; first | done | with_reducible rfl)); simp only [Act.put, List.setIfInBounds_toArray, List.set_cons_zero, List.set_cons_succ]))
      refine loose_nil ?_
      intro A3 hA3
      subst hA3
      go_wp2_with fail
      go_ret
      exact ⟨_, _, rfl, HB.out, HKa.out⟩

/-- the first keys of a slice; a slice that is none has no room -/
theorem slice_keys_to2 (a : Option Addr) (n cap i : Nat) (ks : List (Int × Int)) (hk : ks.length = n) (hi : i ≤ n) (hc : n ≤ cap) (hn : a = none → cap = 0) :
    ∃ a', (∀ w, (Instr.slice 30 (.slice a n cap) none (some (.int .i64 (i : Int))) none).run Try.prog w = .ok (.slice a' i cap) w) ∧ (∀ w, Ke.KeysAt w a ks → Ke.KeysAt w a' (ks.take i)) ∧ (a' = none → cap = 0) := by
  by_cases h0 : cap = 0
  · obtain ⟨a', h1, h2⟩ := slice_keys_to a n cap i ks hk hi hc
    exact ⟨a', h1, h2, fun _ => h0⟩
  · obtain ⟨ad, rfl⟩ : ∃ ad, a = some ad := by
      cases a with
      | none => exact absurd (hn rfl) h0
      | some ad => exact ⟨ad, rfl⟩
    obtain ⟨a', h1, h2⟩ := slice_keys_to (some ad) n cap i ks hk hi hc
    refine ⟨a', h1, h2, fun he => ?_⟩
    subst he
    have e1 := h1 default
    rw [run_slice_h default 30 (some ad) n cap elem38 .i64 (i : Int) (by omega) (by omega), size38] at e1
    simp [Result.andThen, sliced, h0] at e1
theorem On.keys_none {w0 w : World} {a : Option Addr} {n c : Nat} {T : List (It Int)} {R : Ast} (h : On w0 w (sep (keysA (.slice a n c) T) R)) : a = none → c = 0 := fun ha => by
  subst ha
  obtain ⟨F, hF, _⟩ := h.get1
  rcases own_parts hF.1 with ⟨h1, h2⟩ | ⟨g, cap, cur, h1, _⟩
  · cases h1; rfl
  · cases h1
set_option maxRecDepth 100000 in
set_option maxHeartbeats 4000000 in
theorem RL_until (h : On w0 w (sep (refA rb S) R)) (hl : S.length < 900000) (t : Int) :
    Calls Try.prog 41 #[.pointer (some ⟨rb, 0, none⟩), .int .i64 t] w fun e w' => ∃ a c, e = .returned (.slice a (upto S t).length c) ∧ Below w.heap.size w w' ∧ Ke.KeysAt w' a (kv (upto S t)) ∧ (a = none → c = 0) := by
  obtain ⟨m, hm⟩ : ∃ m, S.length = m := ⟨_, rfl⟩
  obtain ⟨u, hu⟩ : ∃ u, (upto S t).length = u := ⟨_, rfl⟩
  rw [hu]
  have hum : u ≤ m := by rw [← hu, ← hm]; exact (upto_pre S t).length_le
  obtain ⟨ra, rc, h5⟩ := h.ref_open
  obtain ⟨ra', rc', hre, hkr⟩ := h5.out1.keys1
  cases hre
  rw [hm] at h5 hl
  have c0 : w.cell? ⟨rb, 0, none⟩ = some (.slice ra m rc) := (h5.box1 0).1
  obtain ⟨_, _, hre, hrc1, hrc2, _⟩ := h5.out1.keys_cap rfl (n := m) (by rw [kv, List.length_map, hm])
  cases hre
  obtain ⟨a', hsl, hka, hno⟩ := slice_keys_to2 ra m rc u (kv S) (by rw [kv, List.length_map, hm]) hum hrc1 h5.out1.keys_none
  have HNo := Lib.hid hno
  have hut : (kv S).take u = kv (upto S t) := by
    rw [kv, kv, ← List.map_take, ← hu]
    congr 1
    exact (List.prefix_iff_eq_take.1 (upto_pre S t)).symm
  have HKa := Lib.hid (fun A (hA : Below w.heap.size w A) => hut ▸ hka A (keysAt_below hkr hA))
  have HKr := Lib.hid hkr
  have HM := Lib.hid hm
  have HU := Lib.hid hu
  clear h h5 hkr hm hu hka hut hno
  go_enter Try.func41, Try.ntmps41
  go_wp2_with fail
  have HC0 := Lib.hid (fun A (hA : Below w.heap.size w A) => zatB c0 hA)
  clear c0
  go_loopg [5] m (fun gh s5 wr => ∃ i : Nat, i + gh = m ∧ s5 = .int .i64 (i : Int) ∧ i ≤ u ∧ Below w.heap.size w wr)
  case atStart => exact ⟨0, by omega, rfl, by omega, Below.refl _ _⟩
  case round =>
    obtain ⟨i, hi, rfl, hiu, hb⟩ := hrel
    have c1 := HC0.out wr hb
    have c2 : wr.drew.cell? ⟨rb, 0, none⟩ = some (.slice ra m rc) := c1
    by_cases hlt : i < m
    · have hltI : (i : Int) < (m : Int) := by omega
      have hi0 : (0 : Int) ≤ (i : Int) := by omega
      obtain ⟨b, off, rfl, _, hc⟩ := keysAt_get (keysAt_below HKr.out hb) (n := m) (by omega) (by rw [kv, List.length_map, HM.out])
      obtain ⟨x, hx⟩ : ∃ x, S[i]? = some x := ⟨_, List.getElem?_eq_getElem (by rw [HM.out]; exact hlt)⟩
      obtain ⟨r0, r1⟩ := hc i hlt
      rw [kv, List.getElem?_map, hx] at r0 r1
      simp only [Option.map_some, Option.getD_some] at r0 r1
      obtain ⟨ha1, ha2⟩ := upto_at (T := S) (t := t) (i := i) (by rw [HU.out]; exact hiu) hx
      rw [HU.out] at ha1
      by_cases hxt : x.2 ≤ t
      · have hiu2 : i + 1 ≤ u := by have := (List.getElem?_eq_some_iff.1 (ha2 hxt)).1; rw [HU.out] at this; exact this
        have HB := Lib.hid hb
        clear ha1 ha2 hc hx r1 hb
        go_wp2_with fail
        go_roundg (m - (i + 1))
        case measure => omega
        case rel => exact ⟨i + 1, by omega, by go_num, hiu2, HB.out⟩
      · have hiu2 : u = i := ha1 (by omega)
        subst hiu2
        have hka := HKa.out wr hb
        have HKw := Lib.hid hka
        have HB := Lib.hid hb
        clear ha1 ha2 hc hx r1 hb hka
        go_wp2_with fail
        go_ret
        first | exact ⟨_, _, rfl, HB.out, HKw.out, HNo.out⟩ | exact ⟨_, ⟨_, rfl⟩, HB.out, HKw.out, HNo.out⟩
    · have him : i = m := by omega
      have hum2 : u = i := by omega
      subst him
      subst hum2
      have hka := HKa.out wr hb
      have HKw := Lib.hid hka
      have HB := Lib.hid hb
      clear hb hka
      go_wp2_with fail
      go_ret
      first | exact ⟨_, _, rfl, HB.out, HKw.out, HNo.out⟩ | exact ⟨_, ⟨_, rfl⟩, HB.out, HKw.out, HNo.out⟩
end
end Go.Proofs.Ytkjpkhpiojahkaa

/-! ### Queues whose times are such as a queue takes. -/
namespace Go.Proofs.Ytkjpkhpiojahkaa
set_option linter.unusedVariables false
open Go.RowKit Hp
namespace Hp
/-- every time of a queue is one that it takes -/
def Timed (S : List (It Int)) : Prop := ∀ x ∈ S, timeE x.2 = 0
theorem Timed.putL {S : List (It Int)} {ks : List (Int × Int)} (h : Timed S) : Timed (putL S ks) := by
  unfold Hp.putL
  split
  · rename_i hok
    have hp := okAll_puts (S := S) (ks := ks) hok
    intro x hx
    rcases List.mem_append.1 ((putAll_perm hp).subset hx) with hx | hx
    · exact h x hx
    · obtain ⟨k, hk, rfl⟩ := List.mem_map.1 hx
      exact (hp.1 k hk).2.1
  · exact h
theorem Timed.moveS {S : List (It Int)} {t id : Int} (h : Timed S) : Timed (moveS S t id) := by
  unfold Go.Proofs.Ytkjpkhpiojahkaa.moveS
  split
  · split
    · rename_i hh ht
      unfold chS
      rw [if_pos hh]
      intro x hx
      rcases ins_mem.1 hx with hx | hx
      · rw [hx]; exact ht
      · exact h x (without_sub.subset hx)
    · exact h
  · exact h
theorem Timed.stepQ {S : List (It Int)} {ask t id : Int} {ks : List (Int × Int)} (h : Timed S) : Timed (stepQ S ask t id ks) := by
  unfold Hp.stepQ
  split
  · exact h.putL
  · split
    · exact h.moveS
    · split
      · exact fun x hx => h x (without_sub.subset hx)
      · exact h
end Hp
end Go.Proofs.Ytkjpkhpiojahkaa

/-! ### Which pieces book-keeping of loops does not touch. -/
namespace Go.Proofs.Ytkjpkhpiojahkaa
set_option linter.unusedVariables false
open Go.RowKit Hp

theorem Ke.HeapAt.mv {w w' : World} {hb lf : Nat} {lt : (Int × Int) → (Int × Int) → Bool} {F S : Nat → Prop} {B : Nat} {M : List (It (Int × Int))} (h : Ke.HeapAt w hb lf lt F M) (hm : Mv S B w w') (hS : ∀ j, F j → ¬ S j) : Ke.HeapAt w' hb lf lt F M := by
  obtain ⟨v, mb, A, f, h1, h2, h3, h4, h5, h6, h7, h8⟩ := h
  refine ⟨v, mb, A, f, ⟨hm.obj h1.st rfl (hS _ h6), own_same h1.row fun j o hj ho hc => hm.obj ho hc (hS j (h7 j (.inl hj))), h1.map.of_obj fun o ho hc => hm.obj ho hc (hS mb (h7 mb (.inr rfl)))⟩, h2, h3, h4, h5, h6, h7, fun j hj => Nat.lt_of_lt_of_le (h8 j hj) hm.size⟩
theorem Plain.hk (hb lf : Nat) (lt : (Int × Int) → (Int × Int) → Bool) (M : List (It (Int × Int))) : Plain (Ke.HK hb lf lt M) := ⟨fun h hm hS => Ke.HeapAt.mv h hm hS⟩
theorem Plain.ex {α : Type} {f : α → Ast} (h : ∀ a, Plain (f a)) : Plain (exA f) := ⟨fun ⟨a, ha⟩ hm hS => ⟨a, (h a).mv ha hm hS⟩⟩
theorem Plain.emp : Plain emp := ⟨fun h _ _ => h⟩
theorem Plain.qu (qb : Nat) (S : List (It Int)) : Plain (quA qb S) := Plain.ex fun _ => (Plain.box _ _ _).sep ((Plain.hk _ _ _ _).sep (Plain.hk _ _ _ _))
theorem Plain.keys (v : Value) (T : List (It Int)) : Plain (keysA v T) := Plain.row _ _ _ _ _
theorem Plain.unt (bl bt : Nat) (T : List (It Int)) (t : Int) : Plain (untA bl bt T t) := Plain.ex fun _ => (Plain.box _ _ _).sep ((Plain.keys _ _).sep (Plain.box _ _ _))
theorem Plain.ref (rb : Nat) (S : List (It Int)) : Plain (refA rb S) :=
  ⟨fun ⟨v, ⟨h1, h2⟩, h3⟩ hm hS => ⟨v, ⟨hm.obj h1 rfl (hS rb ((h3 rb).2 (.inl rfl))), own_same h2 fun j o hj ho hc => hm.obj ho hc (hS j ((h3 j).2 (.inr hj)))⟩, h3⟩⟩
/-- the sequence of keys up to a time hands them out -/
theorem unt_iter (n : Nat) {w : World} {K : Nat → Prop} {bl bt : Nat} {T : List (It Int)} {t : Int} (hl : T.length < 900000) (h : (untA bl bt T t).holds w K) :
    Iter2 Fence.wide n Try.prog 104 #[.pointer (some ⟨bl, 0, none⟩), .pointer (some ⟨bt, 0, none⟩)] (fun (x : It Int) => #[.agg #[.int .i64 x.2, .int .i64 x.1]]) K none' (upto T t) w := by
  obtain ⟨v, Fa, Fb, h1, ⟨Fc, Fd, h2, h3, _, h4⟩, _, h5⟩ := h
  have e : K = fun j => j = bl ∨ v.ownBlock = some j ∨ j = bt := by
    funext j
    refine propext ⟨fun hj => ?_, fun hj => ?_⟩
    · rcases (h5 j).1 hj with h | h
      · exact .inl ((h1.2 j).1 h)
      · rcases (h4 j).1 h with h | h
        · exact .inr (.inl ((h2.2 j).1 h))
        · exact .inr (.inr ((h3.2 j).1 h))
    · rcases hj with h | h | h
      · exact (h5 j).2 (.inl ((h1.2 j).2 h))
      · exact (h5 j).2 (.inr ((h4 j).2 (.inl ((h2.2 j).2 h))))
      · exact (h5 j).2 (.inr ((h4 j).2 (.inr ((h3.2 j).2 h))))
  rw [e]
  exact until_iter2 n bl bt v T t w h1.1 h2.1 h3.1 hl
end Go.Proofs.Ytkjpkhpiojahkaa

/-! ### A row of the call's own that grows by append. Over any program. -/
namespace Go.Proofs.Ytkjpkhpiojahkaa
set_option linter.unusedVariables false
open Go.RowKit Hp

theorem On.row_push {w0 w w1 w' : World} {v v' : Value} {t size n m : Nat} {xs ys : List Value} {R : Ast} (h : On w0 w (sep (rowA v t size n xs) R)) (hb : Below w.heap.size w w1) (hg : w1.grownBy w' v.ownBlock)
    (hown : w'.ownsRow 0 t size v' m ys) (hat : v'.ownBlock = v.ownBlock ∨ v'.ownBlock = some w1.heap.size) : On w0 w' (sep (rowA v' t size m ys) R) := by
  refine h.step1 fun F hF => ?_
  have hg' : Mod (fun j => v.ownBlock = some j) w1 w' := (Mod.refl _ w1).grown hg fun k hk _ => ⟨hk, fun o ho' => by
    rcases own_parts hF.1 with ⟨h1, _⟩ | ⟨g, cap, cur, h1, _, h3, _⟩
    · rw [h1] at hk; simp [Value.ownBlock] at hk
    · rw [h1] at hk; simp [Value.ownBlock] at hk
      subst hk
      have h4 := (Mod.of_below (S := none') hb).obj h3 (fun h => h)
      rw [h4] at ho'
      cases ho'
      rfl⟩
  have hs := hb.size
  refine ⟨fun j => v'.ownBlock = some j, ⟨hown, fun j => Iff.rfl⟩, ((Mod.of_below hb).trans' hg').mono fun j hj _ => (hF.2 j).2 hj, fun j hj => ?_⟩
  rcases hat with h1 | h1
  · rw [h1] at hj; exact .inl ((hF.2 j).2 hj)
  · rw [h1] at hj; cases hj; exact .inr (by omega)
theorem cells_reads (w : World) (cs : Array Value) (t : Nat) : Reads (w.alloc (.cells cs t)) (.slice (some ⟨w.heap.size, 0, none⟩) 1 1) cs.size 1 cs.toList := by
  refine .inr ⟨_, _, rfl, by simp, fun j u hu => ?_⟩
  rw [add_zero', World.cell?_alloc_at _ _ _ _ rfl]
  simpa using hu
end Go.Proofs.Ytkjpkhpiojahkaa
