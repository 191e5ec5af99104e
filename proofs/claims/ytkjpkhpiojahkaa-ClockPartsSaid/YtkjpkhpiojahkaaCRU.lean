/-
  Walk: Change.
  Walks: the document's answer for heaps: At, Ahead, Drop.
  Walks: the document's answer for heaps: lay, Put, Change.
  Heaps told by lists in order: one contract for each call, whatever the case.
  Walks: the document's answer for heaps: At, Drop, Put, Change, whatever the case.
  Walk: a call with both.
  Walk: the heap is the document's answer's.
  Walk: the law HeapPlays.
-/
import Derived.Test.YtkjpkhpiojahkaaLow
import Derived.Deep.RegionHeld3
import Derived.Test.YtkjpkhpiojahkaaBase0
/-! ### Walk: Change.
  Walks: the document's answer for heaps: At, Ahead, Drop. -/
/-! ### Walk: Change. -/
namespace Go.Proofs.Ytkjpkhpiojahkaa
set_option linter.unusedVariables false
open Go.RowKit Hp

theorem Raw.set_key {w : World} {A : List (It Int)} {g cap : Nat} (h : w.ownsRow 0 202 2 (.slice (some ⟨g, 0, none⟩) A.length cap) A.length (A.flatMap itC)) {i : Nat} {id k0 : Int} (hi : A[i]? = some (id, k0)) (k : Int) :
    (w.setCell ⟨g, i * 2 + 1, none⟩ (.int .i64 k)).ownsRow 0 202 2 (.slice (some ⟨g, 0, none⟩) A.length cap) A.length ((A.set i (id, k)).flatMap itC) := by
  have hil := (List.getElem?_eq_some_iff.1 hi).1
  have h2 := own_setG (i := i * 2 + 1) (y := .int .i64 k) h
  have hl := flat_length itC 2 itC_len A
  have e := flat_set itC 2 itC_len A i (id, k) hil ((A.flatMap itC).set (i * 2 + 1) (.int .i64 k)) (by simp [hl]) (fun j hj => by
    rw [List.getElem?_set]
    by_cases h1 : i * 2 + 1 = j
    · subst h1
      simp [hl, hj, itC]
    · rw [if_neg h1]
      by_cases h3 : i * 2 = j
      · subst h3
        have := flat_at itC 2 itC_len A i 0 _ hi (by omega)
        rw [Nat.add_zero] at this
        rw [this]
        simp [itC]
      · rw [if_neg (by omega)])
  rw [← e]
  exact h2

section
variable {w : World} {hb lf : Nat} {lt : Int → Int → Bool} {F : Nat → Prop} {M : List (It Int)}

end
end Go.Proofs.Ytkjpkhpiojahkaa

/-! ### Walks: the document's answer for heaps: At, Ahead, Drop. -/
namespace Go.Proofs.Ytkjpkhpiojahkaa
set_option linter.unusedVariables false
open Go.RowKit Hp

/-- a number and its key as the document's answer lays them -/
def keyC (x : It Int) : List Value := [.int .i64 x.2, .int .i64 x.1]
theorem keyC_len (x : It Int) : (keyC x).length = 2 := rfl
theorem keyC_one (S : List (It Int)) : ∀ u ∈ S.flatMap keyC, u.oneCell' = true := by
  intro u hu
  obtain ⟨x, _, hx⟩ := List.mem_flatMap.1 hu
  simp [keyC] at hx
  rcases hx with rfl | rfl <;> rfl

/-- the document's answer's list -/
def RefRaw (w : World) (rb : Nat) (v : Value) (S : List (It Int)) : Prop := w.heap[rb]? = some (.cells #[v] 32 (0, 0)) ∧ w.ownsRow 0 24 2 v S.length (S.flatMap keyC)
def refA (rb : Nat) (S : List (It Int)) : Ast where
  holds w F := ∃ v, RefRaw w rb v S ∧ ∀ j, F j ↔ j = rb ∨ v.ownBlock = some j
  stable := fun ⟨v, ⟨h1, h2⟩, h3⟩ hm hS => ⟨v, ⟨hm.obj h1 (hS rb ((h3 rb).2 (.inl rfl))), own_same h2 fun j o hj ho _ => hm.obj ho (hS j ((h3 j).2 (.inr hj)))⟩, h3⟩
  lt := fun ⟨v, ⟨h1, h2⟩, h3⟩ hj => by
    rcases (h3 _).1 hj with rfl | h
    · exact lt_of_some h1
    · exact own_lt h2 h

section
variable {w w' : World} {rb : Nat} {v : Value} {S : List (It Int)}
theorem RefRaw.c0 (h : RefRaw w rb v S) : w.cell? ⟨rb, 0, none⟩ = some v := by simp [World.cell?, h.1]
theorem RefRaw.f0 (h : RefRaw w rb v S) : w.frozen? ⟨rb, 0, none⟩ = false := by simp [World.frozen?, h.1]
theorem RefRaw.same (h : RefRaw w rb v S) (hs : w'.heap = w.heap) : RefRaw w' rb v S := ⟨by rw [hs]; exact h.1, own_same h.2 fun j o _ ho _ => by rw [hs]; exact ho⟩
theorem RefRaw.below (h : RefRaw w rb v S) (hb : Below w.heap.size w w') : RefRaw w' rb v S := by
  have hm : Mod none' w w' := Mod.of_below hb
  exact ⟨hm.obj h.1 (fun h => h), own_same h.2 fun j o _ ho _ => hm.obj ho (fun h => h)⟩
theorem RefRaw.slice (h : RefRaw w rb v S) : ∃ a cap, v = .slice a S.length cap := by
  rcases own_parts h.2 with ⟨rfl, h0⟩ | ⟨g, cap, cur, rfl, _⟩
  · exact ⟨none, 0, by rw [h0]⟩
  · exact ⟨_, _, rfl⟩
theorem RefRaw.ne (h : RefRaw w rb v S) {g : Nat} (hg : v.ownBlock = some g) : g ≠ rb := by
  rcases own_parts h.2 with ⟨rfl, h0⟩ | ⟨g', cap, cur, rfl, _, hg', _⟩
  · simp [Value.ownBlock] at hg
  · simp [Value.ownBlock] at hg
    subst hg
    intro e
    subst e
    have := h.1
    rw [hg'] at this
    cases this
theorem RefRaw.at (h : RefRaw w rb v S) {i : Nat} {x : It Int} (hi : S[i]? = some x) :
    ∃ g cap, v = .slice (some ⟨g, 0, none⟩) S.length cap ∧ S.length ≤ cap ∧ w.cell? ⟨g, i * 2, none⟩ = some (.int .i64 x.2) ∧ w.cell? ⟨g, i * 2 + 1, none⟩ = some (.int .i64 x.1) ∧ g < w.heap.size := by
  have hlt := (List.getElem?_eq_some_iff.1 hi).1
  rcases own_parts h.2 with ⟨rfl, h0⟩ | ⟨g, cap, cur, rfl, _, hg, hlc, _⟩
  · omega
  have h2 := h.2
  refine ⟨g, cap, rfl, hlc, own_cellG h2 ?_, own_cellG h2 ?_, lt_of_some hg⟩
  · have := flat_at keyC 2 keyC_len S i 0 x hi (by omega)
    simpa [keyC] using this
  · have := flat_at keyC 2 keyC_len S i 1 x hi (by omega)
    simpa [keyC] using this

set_option maxRecDepth 100000 in
set_option maxHeartbeats 1000000 in
theorem At_any (h : RefRaw w rb v S) (hS : S.length < 1000000) (id : Int) (i : Nat) (hi : i ≤ S.length) (h0 : ∀ j, j < i → (S.getD j (0, 0)).1 ≠ id) (h1 : ∀ x, S[i]? = some x → x.1 = id) :
    Calls Try.prog 95 #[.pointer (some ⟨rb, 0, none⟩), .int .i64 id] w fun e w' => e = .returned (.int .i64 (if i < S.length then (i : Int) else -1)) ∧ w = w' := by
  have c0 := h.c0
  obtain ⟨a, cap, rfl⟩ := h.slice
  have hlt : rb < w.heap.size := lt_of_some h.1
  have H := Lib.hid h
  have H0 := Lib.hid h0
  have H1 := Lib.hid h1
  obtain ⟨r, hr⟩ : ∃ r : Int, (if i < S.length then (i : Int) else -1) = r := ⟨_, rfl⟩
  rw [hr]
  have HR := Lib.hid hr
  clear h h0 h1 hr
  go_enter Try.func95, Try.ntmps95
  go_wp2
  go_loopg [5] S.length (fun gh s5 wr => ∃ j : Nat, j + gh = S.length ∧ s5 = .int .i64 (j : Int) ∧ j ≤ i ∧ wr = w)
  case atStart => exact ⟨0, by omega, rfl, by omega, rfl⟩
  case round =>
    obtain ⟨j, hj, rfl, hji, rfl⟩ := hrel
    by_cases hjl : j < S.length
    · obtain ⟨⟨x1, x2⟩, hx⟩ : ∃ x, S[j]? = some x := ⟨_, List.getElem?_eq_getElem hjl⟩
      obtain ⟨g, cap', he, hlc, d0, d1, hg⟩ := H.out.at hx
      cases he
      dsimp only at d0 d1
      have hjI : (j : Int) < (S.length : Int) := by omega
      have hj0 : (0 : Int) ≤ (j : Int) := by omega
      have hjlN := hjl
      by_cases hji2 : j = i
      · have hid : x1 = id := H1.out _ (by rw [← hji2]; exact hx)
        have hres : (j : Int) = r := by rw [← HR.out, if_pos (by omega), hji2]
        have HRes := Lib.hid hres
        have hb : (x1 == id) = true := by simp [hid]
        clear hx hid hres hji2 hji
        go_wp2
        go_ret
        exact ⟨ret_int HRes.out, rfl⟩
      · have hne : x1 ≠ id := by
          have := H0.out j (by omega)
          rwa [getD_of hjl, (List.getElem?_eq_some_iff.1 hx).2] at this
        have hb : (x1 == id) = false := by simp [hne]
        clear hx hne
        go_wp2
        go_roundg (S.length - (j + 1))
        case measure => omega
        case rel => exact ⟨j + 1, by omega, by go_num, by omega, rfl⟩
    · have hjI : ¬ (j : Int) < (S.length : Int) := by omega
      have hil : ¬ i < S.length := by omega
      have hres : (-1 : Int) = r := by rw [← HR.out, if_neg hil]
      have HRes := Lib.hid hres
      clear hil hres
      go_wp2
      go_ret
      exact ⟨ret_int HRes.out, rfl⟩
end

theorem idx_of (S : List (It Int)) (id : Int) : ∃ i, i ≤ S.length ∧ (∀ j, j < i → (S.getD j (0, 0)).1 ≠ id) ∧ ∀ x, S[i]? = some x → x.1 = id := by
  induction S with
  | nil => exact ⟨0, Nat.le_refl _, fun j h => by omega, fun x h => by simp at h⟩
  | cons y S ih =>
    by_cases hy : y.1 = id
    · exact ⟨0, by simp, fun j h => by omega, fun x h => by simp at h; rw [← h]; exact hy⟩
    · obtain ⟨i, h1, h2, h3⟩ := ih
      refine ⟨i + 1, by simpa using h1, fun j hj => ?_, fun x hx => h3 x (by simpa using hx)⟩
      match j with
      | 0 => simpa using hy
      | j + 1 => simpa using h2 j (by omega)

theorem Ahead_any (a1 a2 b1 b2 : Int) (w : World) : Calls Try.prog 122 #[.agg #[.int .i64 a1, .int .i64 a2], .agg #[.int .i64 b1, .int .i64 b2]] w fun e w' => e = .returned (.bool (bef (a1, a2) (b1, b2))) ∧ Below w.heap.size w w' := by
  go_enter Try.func122, Try.ntmps122
  go_wp2
  all_goals go_ret
  all_goals refine ⟨ret_bool ?_, ((Below.refl _ w).alloc (Nat.le_refl _) _).alloc (by simp) _⟩
  all_goals simp [bef, *]

theorem Try.info24 : (Try.prog.info? 24).map (fun i => (i.zero, i.size, i.bytes)) = some (some (.agg #[.int .i64 0, .int .i64 0]), 2, 16) := by kernel_rfl
theorem keys_at {w : World} {rb g cap : Nat} {S : List (It Int)} (h : RefRaw w rb (.slice (some ⟨g, 0, none⟩) S.length cap) S) (k : Nat) (T : List (It Int)) (hT : ∃ T', S.drop k = T ++ T') : ∀ j u, (T.flatMap keyC)[j]? = some u → w.cell? ((⟨g, k * 2, none⟩ : Addr).add j) = some u := fun j u hu => by
  obtain ⟨T', hT⟩ := hT
  have ha : (⟨g, k * 2, none⟩ : Addr).add j = ⟨g, k * 2 + j, none⟩ := by unfold Addr.add; split <;> simp_all
  rw [ha]
  refine own_cellG h.2 ?_
  by_cases hk : k ≤ S.length
  · have e : S.flatMap keyC = (S.take k).flatMap keyC ++ (T.flatMap keyC ++ T'.flatMap keyC) := by
      rw [← List.flatMap_append, ← hT, ← List.flatMap_append, List.take_append_drop]
    have hl : ((S.take k).flatMap keyC).length = k * 2 := by rw [flat_length keyC 2 keyC_len, List.length_take]; congr 1; omega
    rw [e, List.getElem?_append_right (by omega), hl, Nat.add_sub_cancel_left, List.getElem?_append_left (List.getElem?_eq_some_iff.1 hu).1]
    exact hu
  · rw [List.drop_eq_nil_of_le (by omega)] at hT
    have := (List.append_eq_nil_iff.1 hT.symm).1
    rw [this] at hu
    simp at hu

theorem below_grown {w w' : World} {row : Option Nat} {B : Nat} (h : w.grownBy w' row) (hr : ∀ j, row = some j → B ≤ j) (hB : B ≤ w.heap.size) : Below B w w' :=
  ⟨h.os, h.tape, h.output, h.size, fun k hk => h.block k (by omega) (fun e => by have := hr k e.symm; omega)⟩
theorem own_form {w : World} {B t size n : Nat} {v : Value} {xs : List Value} (h : w.ownsRow B t size v n xs) : ∃ q nn cc, v = .slice q nn cc := by
  rcases own_parts h with ⟨h1, _⟩ | ⟨_, _, _, h1, _⟩ <;> exact ⟨_, _, _, h1⟩

theorem own_new {v v0 : Value} {B H : Nat} (h : v.ownBlock = v0.ownBlock ∨ v.ownBlock = some H) (h0 : v0.ownBlock = none) (hB : B ≤ H) : ∀ j, v.ownBlock = some j → B ≤ j := fun j hj => by
  rcases h with h | h
  · rw [h, h0] at hj; cases hj
  · rw [h] at hj; cases hj; exact hB
theorem own_new2 {v v0 : Value} {B H : Nat} (h : v.ownBlock = v0.ownBlock ∨ v.ownBlock = some H) (h0 : ∀ j, v0.ownBlock = some j → B ≤ j) (hB : B ≤ H) : ∀ j, v.ownBlock = some j → B ≤ j := fun j hj => by
  rcases h with h | h
  · exact h0 j (by rw [← h]; exact hj)
  · rw [h] at hj; cases hj; exact hB

section
variable {w : World} {rb : Nat} {S : List (It Int)} {F : Nat → Prop}

theorem ref_set {w2 : World} {v : Value} {S' : List (It Int)} {n : Nat} {xs : List Value} (h : (refA rb S).holds w F) (hb : Below w.heap.size w w2) (hown : w2.ownsRow 0 24 2 v n xs) (hn : n = S'.length) (hx : xs = S'.flatMap keyC)
    (hv : ∀ j, v.ownBlock = some j → w.heap.size ≤ j) : Step F w (w2.setCell ⟨rb, 0, none⟩ v) (refA rb S') := by
  obtain ⟨v0, ⟨h1, h2⟩, h3⟩ := h
  subst hn hx
  have hrl : rb < w.heap.size := lt_of_some h1
  have hset : Mod (fun j => j = rb) w2 (w2.setCell ⟨rb, 0, none⟩ v) := (Mod.refl (fun j => j = rb) w2).setCell (p := ⟨rb, 0, none⟩) (fun _ => rfl) _
  refine ⟨fun j => j = rb ∨ v.ownBlock = some j, ⟨v, ⟨?_, own_same hown fun j o hj ho _ => hset.obj ho (fun e => by have := hv j hj; omega)⟩, fun j => Iff.rfl⟩,
    (Mod.of_below (S := F) hb).trans hset (fun j hj _ => by rw [hj]; exact (h3 rb).2 (.inl rfl)), fun j hj => ?_⟩
  · have := (Mod.of_below (S := none') hb).obj h1 (fun h => h)
    have := heap_setCell_at (k := 0) (v := v) this
    simpa using this
  · rcases hj with rfl | hj
    · exact .inl ((h3 j).2 (.inl rfl))
    · exact .inr (hv j hj)

set_option maxRecDepth 100000 in
set_option maxHeartbeats 2000000 in
theorem RDrop_some (h : (refA rb S).holds w F) (hS : S.length < 1000000) {i : Nat} {id k : Int} (hi : S[i]? = some (id, k)) (hd : ∀ j, j < i → (S.getD j (0, 0)).1 ≠ id) :
    Calls Try.prog 97 #[.pointer (some ⟨rb, 0, none⟩), .int .i64 id] w fun e w' => e = .returned (.tuple #[.int .i64 k, .int .i64 0]) ∧ Step F w w' (refA rb (S.take i ++ S.drop (i + 1))) := by
  obtain ⟨i0, hi0, hz0, hz1, hz2⟩ := info_parts2 Try.info24
  have HH := Lib.hid h
  obtain ⟨v, hraw, hF⟩ := h
  have hil := (List.getElem?_eq_some_iff.1 hi).1
  have hat := At_any hraw hS id i (by omega) hd (fun x hx => by rw [hi] at hx; cases hx; rfl)
  rw [if_pos hil] at hat
  have c0 := hraw.c0
  have f0 := hraw.f0
  obtain ⟨g, cap, rfl, hlc, d0, _, hg⟩ := hraw.at hi
  dsimp only at d0
  have hgr := hraw.ne (g := g) rfl
  have hrl : rb < w.heap.size := lt_of_some hraw.1
  have hi0' : (0 : Int) ≤ (i : Int) := by omega
  have hilI : (i : Int) < (S.length : Int) := by omega
  have hicI : (i : Int) ≤ (cap : Int) := by omega
  have hlcI : (S.length : Int) ≤ (cap : Int) := by omega
  have hi1 : (i : Int) + 1 ≤ (S.length : Int) := by omega
  have hcapB : (cap : Int) ≤ 9223372036854775807 := by
    rcases own_parts hraw.2 with ⟨h1, _⟩ | ⟨g', cap', cur, h1, _, _, _, h2, _⟩
    · cases h1
    · cases h1; unfold maxLen at h2; omega
  have hn1 := keys_at hraw 0 (S.take i) ⟨S.drop i, by simp⟩
  rw [Nat.zero_mul] at hn1
  have hn2 := keys_at hraw (i + 1) (S.drop (i + 1)) ⟨[], by simp⟩
  have hl1 : ((S.take i).flatMap keyC).length = i * 2 := by rw [flat_length keyC 2 keyC_len, List.length_take]; congr 1; omega
  have hl2 : ((S.drop (i + 1)).flatMap keyC).length = (S.length - (i + 1)) * 2 := by rw [flat_length keyC 2 keyC_len, List.length_drop]
  have HAt := Lib.hid hat
  have HRaw := Lib.hid hraw
  have HF := Lib.hid hF
  have HN1 := Lib.hid hn1
  have HN2 := Lib.hid hn2
  have o1 := keyC_one (S.take i)
  have o2 := keyC_one (S.drop (i + 1))
  clear hat hraw hF hn1 hn2 hd hi hil
  by_cases hcap : cap = i + 1
  · have hdn := Lib.hid (show (S.drop (i + 1)).flatMap keyC = [] by rw [List.drop_eq_nil_of_le (by omega)]; rfl)
    go_enter Try.func97, Try.ntmps97
    go_wp2_with (first | (go_at_call 95; refine HAt.out.mono ?_; rintro e w' ⟨rfl, rfl⟩) | (at_builtin; refine wpList_append_own_at _ rfl _ _ 30 rfl 0 24 i0 (.agg #[.int .i64 0, .int .i64 0]) 2 16 Try.underlying30 hi0 hz0 hz1 hz2 rfl (by decide) (.slice none 0 0) 0 [] rfl (World.ownsRow_nil _ _ _ _) ⟨g, 0, none⟩ i (i + 1) ((S.take i).flatMap keyC) rfl hl1 HN1.out o1 (by unfold maxLen; omega) (by omega) (Nat.zero_le _) ?_; intro v1 w1 hown hgrow _ hat; rw [Nat.zero_add, List.nil_append] at hown; have hb1 := below_grown hgrow (by intro j hj; simp [Value.ownBlock] at hj) (Nat.le_refl _); have c1 := zatB c0 hb1; have f1 := (hb1.frozen (p := ⟨rb, 0, none⟩) hrl).trans f0; obtain ⟨q, nn, cc, rfl⟩ := own_form hown; have HOwn := Lib.hid hown; have HB1 := Lib.hid hb1; have HA1 := Lib.hid (own_new (B := w.heap.size) hat (by simp [Value.ownBlock]) (Nat.le_refl _)); clear hown hgrow hat hb1) | (at_builtin; refine wpList_append_own_at _ rfl _ _ 30 rfl 0 24 i0 (.agg #[.int .i64 0, .int .i64 0]) 2 16 Try.underlying30 hi0 hz0 hz1 hz2 rfl (by decide) (.slice q nn cc) i ((S.take i).flatMap keyC) rfl HOwn.out ⟨g, 0, none⟩ (S.length - (i + 1)) 0 ((S.drop (i + 1)).flatMap keyC) rfl hl2 (fun j u hu => by rw [hdn.out] at hu; simp at hu) o2 (by unfold maxLen; omega) (by omega) (Nat.zero_le _) ?_; intro v2 w2 hown2 hgrow2 _ hat2; have hb2 := below_grown (B := w.heap.size) hgrow2 HA1.out HB1.out.size; have c2 := zatB c0 (HB1.out.trans hb2); have f2 := ((HB1.out.trans hb2).frozen (p := ⟨rb, 0, none⟩) hrl).trans f0; obtain ⟨q2, nn2, cc2, rfl⟩ := own_form hown2; have HOwn2 := Lib.hid hown2; have HB2 := Lib.hid (HB1.out.trans hb2); have HA2 := Lib.hid (own_new2 (B := w.heap.size) hat2 HA1.out HB1.out.size); clear hown2 hgrow2 hat2 hb2))
    go_ret2
    refine ⟨rfl, ref_set HH.out HB2.out HOwn2.out ?_ ?_ HA2.out⟩
    · rw [List.length_append, List.length_take, List.length_drop]; omega
    · rw [List.flatMap_append]
  · have hcap2 : i + 1 < cap := by omega
    go_enter Try.func97, Try.ntmps97
    go_wp2_with (first | (go_at_call 95; refine HAt.out.mono ?_; rintro e w' ⟨rfl, rfl⟩) | (at_builtin; refine wpList_append_own_at _ rfl _ _ 30 rfl 0 24 i0 (.agg #[.int .i64 0, .int .i64 0]) 2 16 Try.underlying30 hi0 hz0 hz1 hz2 rfl (by decide) (.slice none 0 0) 0 [] rfl (World.ownsRow_nil _ _ _ _) ⟨g, 0, none⟩ i cap ((S.take i).flatMap keyC) rfl hl1 HN1.out o1 (by unfold maxLen; omega) (by omega) (Nat.zero_le _) ?_; intro v1 w1 hown hgrow _ hat; rw [Nat.zero_add, List.nil_append] at hown; have hb1 := below_grown hgrow (by intro j hj; simp [Value.ownBlock] at hj) (Nat.le_refl _); have c1 := zatB c0 hb1; have f1 := (hb1.frozen (p := ⟨rb, 0, none⟩) hrl).trans f0; obtain ⟨q, nn, cc, rfl⟩ := own_form hown; have HOwn := Lib.hid hown; have HB1 := Lib.hid hb1; have HA1 := Lib.hid (own_new (B := w.heap.size) hat (by simp [Value.ownBlock]) (Nat.le_refl _)); clear hown hgrow hat hb1) | (at_builtin; refine wpList_append_own_at _ rfl _ _ 30 rfl 0 24 i0 (.agg #[.int .i64 0, .int .i64 0]) 2 16 Try.underlying30 hi0 hz0 hz1 hz2 rfl (by decide) (.slice q nn cc) i ((S.take i).flatMap keyC) rfl HOwn.out ⟨g, (i + 1) * 2, none⟩ (S.length - (i + 1)) (cap - (i + 1)) ((S.drop (i + 1)).flatMap keyC) rfl hl2 (fun j u hu => zatB (HN2.out j u hu) HB1.out) o2 (by unfold maxLen; omega) (by omega) (Nat.zero_le _) ?_; intro v2 w2 hown2 hgrow2 _ hat2; have hb2 := below_grown (B := w.heap.size) hgrow2 HA1.out HB1.out.size; have c2 := zatB c0 (HB1.out.trans hb2); have f2 := ((HB1.out.trans hb2).frozen (p := ⟨rb, 0, none⟩) hrl).trans f0; obtain ⟨q2, nn2, cc2, rfl⟩ := own_form hown2; have HOwn2 := Lib.hid hown2; have HB2 := Lib.hid (HB1.out.trans hb2); have HA2 := Lib.hid (own_new2 (B := w.heap.size) hat2 HA1.out HB1.out.size); clear hown2 hgrow2 hat2 hb2))
    go_ret2
    refine ⟨rfl, ref_set HH.out HB2.out HOwn2.out ?_ ?_ HA2.out⟩
    · rw [List.length_append, List.length_take, List.length_drop]; omega
    · rw [List.flatMap_append]
end
end Go.Proofs.Ytkjpkhpiojahkaa

/-! ### Walks: the document's answer for heaps: lay, Put, Change. -/
namespace Go.Proofs.Ytkjpkhpiojahkaa
set_option linter.unusedVariables false
open Go.RowKit Hp

theorem bef_eq (x y : It Int) : bef (x.2, x.1) (y.2, y.1) = Hp.ahead ltI x y := by
  rw [Bool.eq_iff_iff, ahead_iff]
  simp [bef, ltI]
  omega
theorem ins_at (x : It Int) : ∀ (S : List (It Int)), ∃ i, i ≤ S.length ∧ (∀ j, j < i → Hp.ahead ltI (S.getD j (0, 0)) x = true) ∧ (∀ y, S[i]? = some y → Hp.ahead ltI y x = false) ∧ ins ltI x S = S.take i ++ x :: S.drop i
  | [] => ⟨0, Nat.le_refl _, fun j h => by omega, fun y h => by simp at h, rfl⟩
  | y :: S => by
    by_cases hy : Hp.ahead ltI y x = true
    · obtain ⟨i, h1, h2, h3, h4⟩ := ins_at x S
      refine ⟨i + 1, by simpa using h1, fun j hj => ?_, fun z hz => h3 z (by simpa using hz), by rw [ins, if_pos hy, h4]; rfl⟩
      match j with
      | 0 => simpa using hy
      | j + 1 => simpa using h2 j (by omega)
    · refine ⟨0, by simp, fun j h => by omega, fun z hz => ?_, by rw [ins, if_neg hy]; rfl⟩
      simp at hz
      rw [← hz]
      simpa using hy

theorem push_key {w w1 : World} {v v' : Value} {n B : Nat} {xs : List Value} {o : Obj} (hown : w1.ownsRow 0 24 2 v' (n + 1) xs) (hg : (w.alloc o).grownBy w1 v.ownBlock)
    (hat : v'.ownBlock = v.ownBlock ∨ v'.ownBlock = some (w.alloc o).heap.size) (hv : ∀ j, v.ownBlock = some j → B ≤ j) (hB : B ≤ w.heap.size) :
    ∃ q nn cc, v' = .slice q nn cc ∧ Below B w w1 ∧ ∀ j, v'.ownBlock = some j → B ≤ j := by
  obtain ⟨q, nn, cc, rfl⟩ := own_form hown
  have hz : B ≤ (w.alloc o).heap.size := by rw [World.size_alloc]; omega
  exact ⟨q, nn, cc, rfl, ((Below.refl _ w).alloc hB _).trans (below_grown hg hv hz), own_new2 hat hv hz⟩

theorem run_append_nilx {P : Program} {w : World} (t ty e : TypeId) (i : TypeInfo) (ht : P.underlying t = some (.slice e)) (hi : P.info? e = some i) {base size n : Nat} {v : Value} {xs : List Value} (hown : w.ownsRow base e size v n xs) :
    (Builtin.append_ #[t, t] ty #[v, .slice none 0 0]).run P w = .ok v w := by
  rcases own_parts hown with ⟨rfl, rfl⟩ | ⟨g, cap, cur, rfl, _, _, hlc, _⟩
  · simp [Builtin.append_, run_underlying ht, sizeOf, typeInfo, hi, Builtin.lenOf, Builtin.firstCells]
  · simp [Builtin.append_, run_underlying ht, sizeOf, typeInfo, hi, Builtin.lenOf, Builtin.firstCells, loadCells, hlc, storeCells]
theorem wpList_append_nilx {P : Program} {w : World} {ops : Array Oper} {rest : List Oper} {o : Oper} {a : Act} {Q : Exit → Act → World → Prop} (hgd : o.guard = none) (s x : Operand) (t e : TypeId) (i : TypeInfo)
    (ho : o.op = .call { callee := .builtin .append, args := #[s, x], argTypes := #[t, t] }) (ht : P.underlying t = some (.slice e)) (hi : P.info? e = some i) {base size n : Nat} {v : Value} {xs : List Value} (hown : w.ownsRow base e size v n xs)
    (hs : a.eval s = v) (hx : a.eval x = .slice none 0 0) (h : wpList P ops Q rest (a.put o.dst v) w) : wpList P ops Q (o :: rest) a w := by
  refine wpList_plain hgd fun K hK => ?_
  have hr := run_append_nilx (P := P) t o.type e i ht hi hown
  unfold Oper.wp execOp
  simp only [ho, resolve, invoke, builtin, Sem.run_bind, Sem.run_pure, Result.andThen_ok, List.map_toArray, List.map_cons, List.map_nil, hs, hx, hr]
  exact hK _ _ h

section
variable {w : World} {rb : Nat} {S : List (It Int)} {F : Nat → Prop}

set_option maxRecDepth 100000 in
set_option maxHeartbeats 4000000 in
theorem lay_ok (h : (refA rb S).holds w F) (hS : S.length < 1000000) (id k : Int) :
    Calls Try.prog 158 #[.pointer (some ⟨rb, 0, none⟩), .agg #[.int .i64 k, .int .i64 id]] w fun e w' => e = .returned (.tuple #[]) ∧ Step F w w' (refA rb (ins ltI (id, k) S)) := by
  obtain ⟨i0, hi0, hz0, hz1, hz2⟩ := info_parts2 Try.info24
  obtain ⟨i, hil, hah, hna, hins⟩ := ins_at (id, k) S
  rw [hins]
  have HH := Lib.hid h
  obtain ⟨v, hraw, hF⟩ := h
  have c0 := hraw.c0
  have f0 := hraw.f0
  have hrl : rb < w.heap.size := lt_of_some hraw.1
  obtain ⟨la, lcap, rfl⟩ := hraw.slice
  obtain ⟨w1, hw1⟩ : ∃ w1, w.alloc (.cells #[.int .i64 k, .int .i64 id] 24) = w1 := ⟨_, rfl⟩
  have hb1 : Below w.heap.size w w1 := by rw [← hw1]; exact (Below.refl _ w).alloc (Nat.le_refl _) _
  have hs1 : w1.heap.size = w.heap.size + 1 := by rw [← hw1]; simp
  have x0 : w1.cell? ⟨w.heap.size, 0, none⟩ = some (.int .i64 k) := by rw [← hw1, World.cell?_alloc_at _ _ _ _ rfl]; rfl
  have x1 : w1.cell? ⟨w.heap.size, 1, none⟩ = some (.int .i64 id) := by rw [← hw1, World.cell?_alloc_at _ _ _ _ rfl]; rfl
  have hraw1 := hraw.below hb1
  have hcl : ∀ A, Below w1.heap.size w1 A → A.cell? ⟨rb, 0, none⟩ = some (.slice la S.length lcap) ∧ A.frozen? ⟨rb, 0, none⟩ = false ∧ A.cell? ⟨w.heap.size, 0, none⟩ = some (.int .i64 k) ∧ A.cell? ⟨w.heap.size, 1, none⟩ = some (.int .i64 id) := fun A hA => by
    have := hraw1.below hA
    exact ⟨this.c0, this.f0, zatB x0 hA, zatB x1 hA⟩
  have hat : ∀ A, Below w1.heap.size w1 A → ∀ j y, S[j]? = some y → ∃ g cap, la = some ⟨g, 0, none⟩ ∧ A.cell? ⟨g, j * 2, none⟩ = some (.int .i64 y.2) ∧ A.cell? ⟨g, j * 2 + 1, none⟩ = some (.int .i64 y.1) ∧ g < w1.heap.size ∧ (lcap = cap ∧ S.length ≤ cap) := fun A hA j y hy => by
    obtain ⟨g, cap, he, hlc, d0, d1, hg⟩ := hraw1.at hy
    injection he with e1 e2 e3
    exact ⟨g, cap, e1, zatB d0 hA, zatB d1 hA, hg, e3, hlc⟩
  have hlcI : (S.length : Int) ≤ (lcap : Int) := by
    rcases own_parts hraw.2 with ⟨h1, h2⟩ | ⟨_, _, _, h1, _, _, h2, _⟩
    · omega
    · injection h1 with _ _ e3; omega
  have HCl := Lib.hid hcl
  have HAt := Lib.hid hat
  have HRaw := Lib.hid hraw1
  have HAh := Lib.hid hah
  have HNa := Lib.hid hna
  have HB1 := Lib.hid hb1
  have hilI : (i : Int) ≤ (S.length : Int) := by omega
  obtain ⟨q0, q1, q2, q3⟩ := hcl w1 (Below.refl _ _)
  clear hcl hat hraw hraw1 hah hna hins hF x0 x1 hb1
  go_enter Try.func158, Try.ntmps158
  go_wp2
  go_loopg [4, 5] (S.length + 1) (fun gh s4 s5 wr => ∃ (j : Nat) (q : Option Addr) (nn cc : Nat), j + gh = S.length + 1 ∧ j ≤ i ∧ s4 = .slice q nn cc ∧ s5 = .int .i64 (j : Int) ∧
    wr.ownsRow 0 24 2 (.slice q nn cc) j ((S.take j).flatMap keyC) ∧ Below w1.heap.size w1 wr ∧ ∀ m, (Value.slice q nn cc).ownBlock = some m → w1.heap.size ≤ m)
  case atStart => exact ⟨0, none, 0, 0, by omega, by omega, rfl, rfl, World.ownsRow_nil _ _ _ _, Below.refl _ _, by simp [Value.ownBlock]⟩
  case round =>
    obtain ⟨j, q, nn, cc, hj, hji, rfl, rfl, hown, hbr, hqn⟩ := hrel
    obtain ⟨p0, p1, p2, p3⟩ := HCl.out wr hbr
    have HOwn := Lib.hid hown
    have HBr := Lib.hid hbr
    have HQn := Lib.hid hqn
    have hszr := hbr.size
    have hj0 : (0 : Int) ≤ (j : Int) := by omega
    clear hown hbr hqn
    by_cases hji2 : j < i
    · have hjl : j < S.length := by omega
      obtain ⟨⟨y1, y2⟩, hy⟩ : ∃ y, S[j]? = some y := ⟨_, List.getElem?_eq_getElem hjl⟩
      obtain ⟨g, cap, rfl, d0, d1, hg, hcap⟩ := HAt.out wr HBr.out j _ hy
      dsimp only at d0 d1
      have hjlI : (j : Int) < (S.length : Int) := by omega
      have hahj := HAh.out j hji2
      rw [getD_of hjl, (List.getElem?_eq_some_iff.1 hy).2, ← bef_eq] at hahj
      have hgr : g < wr.heap.size := by omega
      have hrr : rb < wr.heap.size := by omega
      have hxr : w.heap.size < wr.heap.size := by omega
      have HY := Lib.hid hy
      have HHa := Lib.hid hahj
      clear hy hahj
      go_wp2_with fail
      have hcall : ∀ A, Below wr.heap.size wr A → Calls Try.prog 122 #[.agg #[.int .i64 y2, .int .i64 y1], .agg #[.int .i64 k, .int .i64 id]] A fun e w' => e = .returned (.bool true) ∧ Below wr.heap.size wr w' := fun A hA => by
        have := Ahead_any y2 y1 k id A
        rw [HHa.out] at this
        exact this.mono fun e w' ⟨he, hb⟩ => ⟨he, hA.trans (hb.mono hA.size)⟩
      have HCall := Lib.hid hcall
      clear hcall
      refine wp_region_loose (fun A => Below wr.heap.size wr A) (by kernel_rfl) (by kernel_rfl) ((Below.refl _ wr).drew) ?_
      iterate 16 (refine loose_val (v := ?_) (by rfl) ?_ ?_; rotate_left; (focus (intro A' hA'; have r0 := zatB p0 hA'; have r2 := zatB p2 hA'; have r3 := zatB p3 hA'; have r4 := zatB d0 hA'; have r5 := zatB d1 hA'; go_simp; first | done | with_reducible rfl)); simp only [Act.put, List.setIfInBounds_toArray, List.set_cons_zero, List.set_cons_succ])
      refine loose_call HCall.out (by rfl) ?_ ?_
      · intro A hA
        go_simp
        done
      simp only [Act.put, List.setIfInBounds_toArray, List.set_cons_zero, List.set_cons_succ]
      iterate 1 (refine loose_val (v := ?_) (by rfl) ?_ ?_; rotate_left; (focus (intro A' hA'; have r0 := zatB p0 hA'; have r2 := zatB p2 hA'; have r3 := zatB p3 hA'; have r4 := zatB d0 hA'; have r5 := zatB d1 hA'; go_simp; first | done | with_reducible rfl)); simp only [Act.put, List.setIfInBounds_toArray, List.set_cons_zero, List.set_cons_succ])
      refine loose_nil ?_
      intro wz hz
      have hszz : w1.heap.size ≤ wz.heap.size := by have := hz.size; omega
      have HBz := Lib.hid (HBr.out.trans (hz.mono hszr))
      have HOz := Lib.hid ((own_same HOwn.out fun m o hm ho _ => (Mod.of_below (S := none') hz).obj ho (fun h => h)).alloc (.cells #[.int .i64 y2, .int .i64 y1] 24))
      have HQz := HQn
      have s0 := zatB p0 hz
      have s4 := zatB d0 hz
      have s5 := zatB d1 hz
      have HNews := Lib.hid (World.news_of_block (cs := #[.int .i64 y2, .int .i64 y1]) (t := 24) (fr := (0, 0)) (heap_alloc_new wz _))
      have hone : ∀ u ∈ [Value.int .i64 y2, .int .i64 y1], u.oneCell' = true := by simp [Value.oneCell']
      have hj6 : (j : Int) + 1 ≤ 1000000 := by omega
      clear p0 p1 p2 p3 d0 d1 hz
      go_wp2_with (at_builtin; refine wpList_append_own_at _ rfl _ _ 30 rfl 0 24 i0 (.agg #[.int .i64 0, .int .i64 0]) 2 16 Try.underlying30 hi0 hz0 hz1 hz2 rfl (by decide) (.slice q nn cc) j ((S.take j).flatMap keyC) rfl HOz.out ⟨wz.heap.size, 0, none⟩ 1 1 [.int .i64 y2, .int .i64 y1] rfl rfl HNews.out hone (by unfold maxLen; omega) (by omega) (Nat.zero_le _) ?_; intro v' wn hown hgrow _ hat; obtain ⟨q', nn', cc', rfl, hbn, hqn'⟩ := push_key hown hgrow hat HQz.out hszz; have HOwn' := Lib.hid hown; have HBn := Lib.hid hbn; have HQn' := Lib.hid hqn'; clear hown hgrow hat hbn hqn'; skip)
      go_roundg (S.length + 1 - (j + 1))
      case measure => omega
      case rel =>
        refine ⟨j + 1, q', nn', cc', by omega, by omega, rfl, by go_num, ?_, HBz.out.trans (HBn.out.mono (Nat.le_refl _)), HQn'.out⟩
        have e : (S.take (j + 1)).flatMap keyC = (S.take j).flatMap keyC ++ [.int .i64 y2, .int .i64 y1] := by rw [List.take_add_one, HY.out, List.flatMap_append]; rfl
        rw [e]
        exact HOwn'.out
    · have hjeq : j = i := by omega
      subst hjeq
      have HLen := Lib.hid (show S.length + 0 = S.length from rfl)
      by_cases hjl : j < S.length
      · obtain ⟨⟨y1, y2⟩, hy⟩ : ∃ y, S[j]? = some y := ⟨_, List.getElem?_eq_getElem hjl⟩
        obtain ⟨g, cap, rfl, d0, d1, hg, hcap⟩ := HAt.out wr HBr.out j _ hy
        dsimp only at d0 d1
        have hjlI : (j : Int) < (S.length : Int) := by omega
        have hnaj := HNa.out _ hy
        rw [← bef_eq] at hnaj
        have HHa := Lib.hid hnaj
        have hl2 : ((S.drop j).flatMap keyC).length = (S.length - j) * 2 := by rw [flat_length keyC 2 keyC_len, List.length_drop]
        have hgr : g < wr.heap.size := by omega
        have hrr : rb < wr.heap.size := by omega
        have hxr : w.heap.size < wr.heap.size := by omega
        obtain ⟨rfl, hlc⟩ := hcap
        have hjc : j < lcap := by omega
        have hjcI : (j : Int) ≤ (lcap : Int) := by omega
        have hn2 := keys_at HRaw.out j (S.drop j) ⟨[], by simp⟩
        have HN2 := Lib.hid hn2
        clear hy hnaj hn2
        go_wp2_with fail
        have hcall : ∀ A, Below wr.heap.size wr A → Calls Try.prog 122 #[.agg #[.int .i64 y2, .int .i64 y1], .agg #[.int .i64 k, .int .i64 id]] A fun e w' => e = .returned (.bool false) ∧ Below wr.heap.size wr w' := fun A hA => by
          have := Ahead_any y2 y1 k id A
          rw [HHa.out] at this
          exact this.mono fun e w' ⟨he, hb⟩ => ⟨he, hA.trans (hb.mono hA.size)⟩
        have HCall := Lib.hid hcall
        clear hcall
        refine wp_region_loose (fun A => Below wr.heap.size wr A) (by kernel_rfl) (by kernel_rfl) ((Below.refl _ wr).drew) ?_
        iterate 16 (refine loose_val (v := ?_) (by rfl) ?_ ?_; rotate_left; (focus (intro A' hA'; have r0 := zatB p0 hA'; have r2 := zatB p2 hA'; have r3 := zatB p3 hA'; have r4 := zatB d0 hA'; have r5 := zatB d1 hA'; go_simp; first | done | with_reducible rfl)); simp only [Act.put, List.setIfInBounds_toArray, List.set_cons_zero, List.set_cons_succ])
        refine loose_call HCall.out (by rfl) ?_ ?_
        · intro A hA
          go_simp
          done
        simp only [Act.put, List.setIfInBounds_toArray, List.set_cons_zero, List.set_cons_succ]
        iterate 1 (refine loose_val (v := ?_) (by rfl) ?_ ?_; rotate_left; (focus (intro A' hA'; have r0 := zatB p0 hA'; have r2 := zatB p2 hA'; have r3 := zatB p3 hA'; have r4 := zatB d0 hA'; have r5 := zatB d1 hA'; go_simp; first | done | with_reducible rfl)); simp only [Act.put, List.setIfInBounds_toArray, List.set_cons_zero, List.set_cons_succ])
        refine loose_nil ?_
        intro wz hz
        have hszz : w1.heap.size ≤ wz.heap.size := by have := hz.size; omega
        have hbz := HBr.out.trans (hz.mono hszr)
        have HBz := Lib.hid hbz
        obtain ⟨s0, s1, s2, s3⟩ := HCl.out wz hbz
        have HOz := Lib.hid ((own_same HOwn.out fun m o hm ho _ => (Mod.of_below (S := none') hz).obj ho (fun h => h)).alloc (.cells #[.int .i64 k, .int .i64 id] 24))
        have HQz := HQn
        have HNews := Lib.hid (World.news_of_block (cs := #[.int .i64 k, .int .i64 id]) (t := 24) (fr := (0, 0)) (heap_alloc_new wz _))
        have hone : ∀ u ∈ [Value.int .i64 k, .int .i64 id], u.oneCell' = true := by simp [Value.oneCell']
        clear d0 d1
        clear p0 p1 p2 p3 hz hbz
        go_wp2_with (first | (at_builtin; refine wpList_append_own_at _ rfl _ _ 30 rfl 0 24 i0 (.agg #[.int .i64 0, .int .i64 0]) 2 16 Try.underlying30 hi0 hz0 hz1 hz2 rfl (by decide) (.slice q nn cc) j ((S.take j).flatMap keyC) rfl HOz.out ⟨wz.heap.size, 0, none⟩ 1 1 [.int .i64 k, .int .i64 id] rfl rfl HNews.out hone (by unfold maxLen; omega) (by omega) (Nat.zero_le _) ?_; intro v' wn hown hgrow _ hat; obtain ⟨q', nn', cc', rfl, hbn, hqn'⟩ := push_key hown hgrow hat HQz.out hszz; have HOwn' := Lib.hid hown; have HBn := Lib.hid hbn; have HQn' := Lib.hid hqn'; clear hown hgrow hat hbn hqn'; have hbn2 := HBz.out.trans (HBn.out.mono (Nat.le_refl _)); have HBn2 := Lib.hid hbn2; obtain ⟨t0, t1, _, _⟩ := HCl.out _ hbn2; clear hbn2) | (at_builtin; refine wpList_append_own_at _ rfl _ _ 30 rfl 0 24 i0 (.agg #[.int .i64 0, .int .i64 0]) 2 16 Try.underlying30 hi0 hz0 hz1 hz2 rfl (by decide) (.slice q' nn' cc') (j + 1) ((S.take j).flatMap keyC ++ [.int .i64 k, .int .i64 id]) rfl HOwn'.out ⟨g, j * 2, none⟩ (S.length - j) (lcap - j) ((S.drop j).flatMap keyC) rfl hl2 (fun m u hu => zatB (HN2.out m u hu) HBn2.out) (keyC_one _) (by unfold maxLen; omega) (by omega) (Nat.zero_le _) ?_; intro v2 w2 hown2 hgrow2 _ hat2; have hb2 := below_grown (B := w1.heap.size) hgrow2 HQn'.out HBn2.out.size; have hb3 := HBn2.out.trans hb2; obtain ⟨t2, t3, _, _⟩ := HCl.out _ hb3; obtain ⟨q2, nn2, cc2, rfl⟩ := own_form hown2; have HOwn2 := Lib.hid hown2; have HB2 := Lib.hid hb3; have HA2 := Lib.hid (own_new2 (B := w1.heap.size) hat2 HQn'.out HBn2.out.size); clear hown2 hgrow2 hat2 hb2 hb3))
        go_end0
        refine ⟨rfl, ref_set HH.out (HB1.out.trans (HB2.out.mono (by omega))) HOwn2.out ?_ ?_ (fun m hm => Nat.le_trans (by omega) (HA2.out m hm))⟩
        · rw [List.length_append, List.length_cons, List.length_take, List.length_drop]; omega
        · rw [List.flatMap_append, List.flatMap_cons, List.append_assoc]; rfl
      · have hjl2 : S.length = j := by omega
        have hjlI : ¬ ((j : Int) < (S.length : Int)) := by omega
        have hdn := Lib.hid (show (S.drop j).flatMap keyC = [] by rw [List.drop_eq_nil_of_le (by omega)]; rfl)
        have hl2 : ((S.drop j).flatMap keyC).length = (S.length - j) * 2 := by rw [flat_length keyC 2 keyC_len, List.length_drop]
        have HL2 := Lib.hid hjl2
        clear hjl2
        rcases own_parts HRaw.out.2 with ⟨hv, hS0⟩ | ⟨g, cap, cur, hv, _, hgc, hlc, _⟩
        · injection hv with e1 e2 e3
          subst e1 e3
          have hj00 : j = 0 := by omega
          subst hj00
          clear hjl hjlI
          go_wp2_with fail
          refine wp_region_loose (fun A => Below wr.heap.size wr A) (by kernel_rfl) (by kernel_rfl) ((Below.refl _ wr).drew) ?_
          iterate 8 (refine loose_val (v := ?_) (by rfl) ?_ ?_; rotate_left; (focus (intro A' hA'; have r0 := zatB p0 hA'; have r2 := zatB p2 hA'; have r3 := zatB p3 hA';  go_simp; first | done | with_reducible rfl)); simp only [Act.put, List.setIfInBounds_toArray, List.set_cons_zero, List.set_cons_succ])
          iterate 9 (refine loose_skip (by rfl) ?_; simp only [Act.put, List.setIfInBounds_toArray, List.set_cons_zero, List.set_cons_succ])
          iterate 1 (refine loose_val (v := ?_) (by rfl) ?_ ?_; rotate_left; (focus (intro A' hA'; have r0 := zatB p0 hA'; have r2 := zatB p2 hA'; have r3 := zatB p3 hA';  go_simp; first | done | with_reducible rfl)); simp only [Act.put, List.setIfInBounds_toArray, List.set_cons_zero, List.set_cons_succ])
          refine loose_nil ?_
          intro wz hz
          have hszz : w1.heap.size ≤ wz.heap.size := by have := hz.size; omega
          have hbz := HBr.out.trans (hz.mono hszr)
          have HBz := Lib.hid hbz
          obtain ⟨s0, s1, s2, s3⟩ := HCl.out wz hbz
          have HOz := Lib.hid ((own_same HOwn.out fun m o hm ho _ => (Mod.of_below (S := none') hz).obj ho (fun h => h)).alloc (.cells #[.int .i64 k, .int .i64 id] 24))
          have HQz := HQn
          have HNews := Lib.hid (World.news_of_block (cs := #[.int .i64 k, .int .i64 id]) (t := 24) (fr := (0, 0)) (heap_alloc_new wz _))
          have hone : ∀ u ∈ [Value.int .i64 k, .int .i64 id], u.oneCell' = true := by simp [Value.oneCell']
          clear p0 p1 p2 p3 hz hbz
          go_wp2_with (first | (at_builtin; refine wpList_append_own_at _ rfl _ _ 30 rfl 0 24 i0 (.agg #[.int .i64 0, .int .i64 0]) 2 16 Try.underlying30 hi0 hz0 hz1 hz2 rfl (by decide) (.slice q nn cc) 0 ((S.take 0).flatMap keyC) rfl HOz.out ⟨wz.heap.size, 0, none⟩ 1 1 [.int .i64 k, .int .i64 id] rfl rfl HNews.out hone (by unfold maxLen; omega) (by omega) (Nat.zero_le _) ?_; intro v' wn hown hgrow _ hat; obtain ⟨q', nn', cc', rfl, hbn, hqn'⟩ := push_key hown hgrow hat HQz.out hszz; have HOwn' := Lib.hid hown; have HBn := Lib.hid hbn; have HQn' := Lib.hid hqn'; clear hown hgrow hat hbn hqn'; have hbn2 := HBz.out.trans (HBn.out.mono (Nat.le_refl _)); have HBn2 := Lib.hid hbn2; obtain ⟨t0, t1, _, _⟩ := HCl.out _ hbn2; clear hbn2) | (at_builtin; refine wpList_append_nilx rfl _ _ 30 24 i0 rfl Try.underlying30 hi0 HOwn'.out rfl rfl ?_))
          go_end0
          refine ⟨rfl, ref_set HH.out (HB1.out.trans (HBn2.out.mono (by omega))) HOwn'.out ?_ ?_ (fun m hm => Nat.le_trans (by omega) (HQn'.out m hm))⟩
          · simp only [List.length_cons]; omega
          · rw [List.length_eq_zero_iff.1 hS0]; rfl
        · injection hv with e1 e2 e3
          subst e1 e3
          have hg := lt_of_some hgc
          have hgr : g < wr.heap.size := by omega
          have hrr : rb < wr.heap.size := by omega
          have hxr : w.heap.size < wr.heap.size := by omega
          clear hgc
          by_cases hjc : lcap = j
          · go_wp2_with fail
            refine wp_region_loose (fun A => Below wr.heap.size wr A) (by kernel_rfl) (by kernel_rfl) ((Below.refl _ wr).drew) ?_
            iterate 8 (refine loose_val (v := ?_) (by rfl) ?_ ?_; rotate_left; (focus (intro A' hA'; have r0 := zatB p0 hA'; have r2 := zatB p2 hA'; have r3 := zatB p3 hA';  go_simp; first | done | with_reducible rfl)); simp only [Act.put, List.setIfInBounds_toArray, List.set_cons_zero, List.set_cons_succ])
            iterate 9 (refine loose_skip (by rfl) ?_; simp only [Act.put, List.setIfInBounds_toArray, List.set_cons_zero, List.set_cons_succ])
            iterate 1 (refine loose_val (v := ?_) (by rfl) ?_ ?_; rotate_left; (focus (intro A' hA'; have r0 := zatB p0 hA'; have r2 := zatB p2 hA'; have r3 := zatB p3 hA';  go_simp; first | done | with_reducible rfl)); simp only [Act.put, List.setIfInBounds_toArray, List.set_cons_zero, List.set_cons_succ])
            refine loose_nil ?_
            intro wz hz
            have hszz : w1.heap.size ≤ wz.heap.size := by have := hz.size; omega
            have hbz := HBr.out.trans (hz.mono hszr)
            have HBz := Lib.hid hbz
            obtain ⟨s0, s1, s2, s3⟩ := HCl.out wz hbz
            have HOz := Lib.hid ((own_same HOwn.out fun m o hm ho _ => (Mod.of_below (S := none') hz).obj ho (fun h => h)).alloc (.cells #[.int .i64 k, .int .i64 id] 24))
            have HQz := HQn
            have HNews := Lib.hid (World.news_of_block (cs := #[.int .i64 k, .int .i64 id]) (t := 24) (fr := (0, 0)) (heap_alloc_new wz _))
            have hone : ∀ u ∈ [Value.int .i64 k, .int .i64 id], u.oneCell' = true := by simp [Value.oneCell']
            clear p0 p1 p2 p3 hz hbz
            go_wp2_with (first | (at_builtin; refine wpList_append_own_at _ rfl _ _ 30 rfl 0 24 i0 (.agg #[.int .i64 0, .int .i64 0]) 2 16 Try.underlying30 hi0 hz0 hz1 hz2 rfl (by decide) (.slice q nn cc) j ((S.take j).flatMap keyC) rfl HOz.out ⟨wz.heap.size, 0, none⟩ 1 1 [.int .i64 k, .int .i64 id] rfl rfl HNews.out hone (by unfold maxLen; omega) (by omega) (Nat.zero_le _) ?_; intro v' wn hown hgrow _ hat; obtain ⟨q', nn', cc', rfl, hbn, hqn'⟩ := push_key hown hgrow hat HQz.out hszz; have HOwn' := Lib.hid hown; have HBn := Lib.hid hbn; have HQn' := Lib.hid hqn'; clear hown hgrow hat hbn hqn'; have hbn2 := HBz.out.trans (HBn.out.mono (Nat.le_refl _)); have HBn2 := Lib.hid hbn2; obtain ⟨t0, t1, _, _⟩ := HCl.out _ hbn2; clear hbn2) | (at_builtin; refine wpList_append_own_at _ rfl _ _ 30 rfl 0 24 i0 (.agg #[.int .i64 0, .int .i64 0]) 2 16 Try.underlying30 hi0 hz0 hz1 hz2 rfl (by decide) (.slice q' nn' cc') (j + 1) ((S.take j).flatMap keyC ++ [.int .i64 k, .int .i64 id]) rfl HOwn'.out ⟨g, 0, none⟩ (S.length - j) 0 ((S.drop j).flatMap keyC) rfl hl2 (fun m u hu => by rw [hdn.out] at hu; simp at hu) (keyC_one _) (by unfold maxLen; omega) (by omega) (Nat.zero_le _) ?_; intro v2 w2 hown2 hgrow2 _ hat2; have hb2 := below_grown (B := w1.heap.size) hgrow2 HQn'.out HBn2.out.size; have hb3 := HBn2.out.trans hb2; obtain ⟨t2, t3, _, _⟩ := HCl.out _ hb3; obtain ⟨q2, nn2, cc2, rfl⟩ := own_form hown2; have HOwn2 := Lib.hid hown2; have HB2 := Lib.hid hb3; have HA2 := Lib.hid (own_new2 (B := w1.heap.size) hat2 HQn'.out HBn2.out.size); clear hown2 hgrow2 hat2 hb2 hb3))
            go_end0
            refine ⟨rfl, ref_set HH.out (HB1.out.trans (HB2.out.mono (by omega))) HOwn2.out ?_ ?_ (fun m hm => Nat.le_trans (by omega) (HA2.out m hm))⟩
            · rw [List.length_append, List.length_cons, List.length_take, List.length_drop]; omega
            · rw [List.flatMap_append, List.flatMap_cons, List.append_assoc]; rfl
          · have hjc2 : j < lcap := by have := HL2.out; omega
            have hjcI : (j : Int) ≤ (lcap : Int) := by omega
            go_wp2_with fail
            refine wp_region_loose (fun A => Below wr.heap.size wr A) (by kernel_rfl) (by kernel_rfl) ((Below.refl _ wr).drew) ?_
            iterate 8 (refine loose_val (v := ?_) (by rfl) ?_ ?_; rotate_left; (focus (intro A' hA'; have r0 := zatB p0 hA'; have r2 := zatB p2 hA'; have r3 := zatB p3 hA';  go_simp; first | done | with_reducible rfl)); simp only [Act.put, List.setIfInBounds_toArray, List.set_cons_zero, List.set_cons_succ])
            iterate 9 (refine loose_skip (by rfl) ?_; simp only [Act.put, List.setIfInBounds_toArray, List.set_cons_zero, List.set_cons_succ])
            iterate 1 (refine loose_val (v := ?_) (by rfl) ?_ ?_; rotate_left; (focus (intro A' hA'; have r0 := zatB p0 hA'; have r2 := zatB p2 hA'; have r3 := zatB p3 hA';  go_simp; first | done | with_reducible rfl)); simp only [Act.put, List.setIfInBounds_toArray, List.set_cons_zero, List.set_cons_succ])
            refine loose_nil ?_
            intro wz hz
            have hszz : w1.heap.size ≤ wz.heap.size := by have := hz.size; omega
            have hbz := HBr.out.trans (hz.mono hszr)
            have HBz := Lib.hid hbz
            obtain ⟨s0, s1, s2, s3⟩ := HCl.out wz hbz
            have HOz := Lib.hid ((own_same HOwn.out fun m o hm ho _ => (Mod.of_below (S := none') hz).obj ho (fun h => h)).alloc (.cells #[.int .i64 k, .int .i64 id] 24))
            have HQz := HQn
            have HNews := Lib.hid (World.news_of_block (cs := #[.int .i64 k, .int .i64 id]) (t := 24) (fr := (0, 0)) (heap_alloc_new wz _))
            have hone : ∀ u ∈ [Value.int .i64 k, .int .i64 id], u.oneCell' = true := by simp [Value.oneCell']
            clear p0 p1 p2 p3 hz hbz
            go_wp2_with (first | (at_builtin; refine wpList_append_own_at _ rfl _ _ 30 rfl 0 24 i0 (.agg #[.int .i64 0, .int .i64 0]) 2 16 Try.underlying30 hi0 hz0 hz1 hz2 rfl (by decide) (.slice q nn cc) j ((S.take j).flatMap keyC) rfl HOz.out ⟨wz.heap.size, 0, none⟩ 1 1 [.int .i64 k, .int .i64 id] rfl rfl HNews.out hone (by unfold maxLen; omega) (by omega) (Nat.zero_le _) ?_; intro v' wn hown hgrow _ hat; obtain ⟨q', nn', cc', rfl, hbn, hqn'⟩ := push_key hown hgrow hat HQz.out hszz; have HOwn' := Lib.hid hown; have HBn := Lib.hid hbn; have HQn' := Lib.hid hqn'; clear hown hgrow hat hbn hqn'; have hbn2 := HBz.out.trans (HBn.out.mono (Nat.le_refl _)); have HBn2 := Lib.hid hbn2; obtain ⟨t0, t1, _, _⟩ := HCl.out _ hbn2; clear hbn2) | (at_builtin; refine wpList_append_own_at _ rfl _ _ 30 rfl 0 24 i0 (.agg #[.int .i64 0, .int .i64 0]) 2 16 Try.underlying30 hi0 hz0 hz1 hz2 rfl (by decide) (.slice q' nn' cc') (j + 1) ((S.take j).flatMap keyC ++ [.int .i64 k, .int .i64 id]) rfl HOwn'.out ⟨g, j * 2, none⟩ (S.length - j) (lcap - j) ((S.drop j).flatMap keyC) rfl hl2 (fun m u hu => by rw [hdn.out] at hu; simp at hu) (keyC_one _) (by unfold maxLen; omega) (by omega) (Nat.zero_le _) ?_; intro v2 w2 hown2 hgrow2 _ hat2; have hb2 := below_grown (B := w1.heap.size) hgrow2 HQn'.out HBn2.out.size; have hb3 := HBn2.out.trans hb2; obtain ⟨t2, t3, _, _⟩ := HCl.out _ hb3; obtain ⟨q2, nn2, cc2, rfl⟩ := own_form hown2; have HOwn2 := Lib.hid hown2; have HB2 := Lib.hid hb3; have HA2 := Lib.hid (own_new2 (B := w1.heap.size) hat2 HQn'.out HBn2.out.size); clear hown2 hgrow2 hat2 hb2 hb3))
            go_end0
            refine ⟨rfl, ref_set HH.out (HB1.out.trans (HB2.out.mono (by omega))) HOwn2.out ?_ ?_ (fun m hm => Nat.le_trans (by omega) (HA2.out m hm))⟩
            · rw [List.length_append, List.length_cons, List.length_take, List.length_drop]; omega
            · rw [List.flatMap_append, List.flatMap_cons, List.append_assoc]; rfl
end
end Go.Proofs.Ytkjpkhpiojahkaa

/-! ### Heaps told by lists in order: one contract for each call, whatever the case.
  Walks: the document's answer for heaps: At, Drop, Put, Change, whatever the case. -/
/-! ### Heaps told by lists in order: one contract for each call, whatever the case. -/
namespace Go.Proofs.Ytkjpkhpiojahkaa
set_option linter.unusedVariables false
open Go.RowKit Hp

namespace Hp
section
variable {α : Type} {lt : α → α → Bool} {S : List (It α)} {id : Int} {k d : α}
def has (S : List (It α)) (id : Int) : Bool := S.any fun x => x.1 == id
def without (S : List (It α)) (id : Int) : List (It α) := S.filter fun x => x.1 != id
def keyAt (d : α) (S : List (It α)) (id : Int) : α := ((S.find? fun x => x.1 == id).map (·.2)).getD d
def hasE (S : List (It α)) (id : Int) : Int := if has S id then 0 else 14
def putE (S : List (It α)) (id : Int) : Int := if id < 0 then 1 else if has S id then 15 else 0
def putS (lt : α → α → Bool) (S : List (It α)) (id : Int) (k : α) : List (It α) := if id < 0 then S else if has S id then S else ins lt (id, k) S
def chS (lt : α → α → Bool) (S : List (It α)) (id : Int) (k : α) : List (It α) := if has S id then ins lt (id, k) (without S id) else S
def headE (S : List (It α)) : Int := if S.isEmpty then 14 else 0

theorem has_none : has S id = false ↔ ∀ x ∈ S, x.1 ≠ id := by
  simp only [has, List.any_eq_false, beq_iff_eq]
theorem has_some (h : has S id = true) : ∃ k, (id, k) ∈ S := by
  obtain ⟨⟨i, k⟩, h1, h2⟩ := List.any_eq_true.1 h
  have : i = id := by simpa using h2
  exact ⟨k, this ▸ h1⟩
theorem has_mem (h : (id, k) ∈ S) : has S id = true := List.any_eq_true.2 ⟨_, h, by simp⟩
theorem uniq (hd : S.Pairwise fun a b => a.1 ≠ b.1) {a b : It α} (ha : a ∈ S) (hb : b ∈ S) (he : a.1 = b.1) : a = b := by
  induction S with
  | nil => cases ha
  | cons y S ih =>
    rw [List.pairwise_cons] at hd
    rcases List.mem_cons.1 ha with ha | ha <;> rcases List.mem_cons.1 hb with hb | hb
    · rw [ha, hb]
    · exact absurd (ha ▸ he) (hd.1 _ hb)
    · exact absurd (hb ▸ he.symm) (hd.1 _ ha)
    · exact ih hd.2 ha hb
theorem keyAt_mem (hd : S.Pairwise fun a b => a.1 ≠ b.1) (h : (id, k) ∈ S) : keyAt d S id = k := by
  unfold keyAt
  cases hf : S.find? fun x => x.1 == id with
  | none => have := List.find?_eq_none.1 hf _ h; simp at this
  | some y =>
    have h1 := List.find?_some hf
    have := uniq hd (List.mem_of_find?_eq_some hf) h (by simpa using h1)
    rw [this]; rfl
theorem keyAt_none (h : has S id = false) : keyAt d S id = d := by
  unfold keyAt
  rw [List.find?_eq_none.2 fun x hx => by simpa using has_none.1 h x hx]; rfl
theorem without_none (h : has S id = false) : without S id = S := List.filter_eq_self.2 fun x hx => by simpa using has_none.1 h x hx
theorem without_gone : ∀ x ∈ without S id, x.1 ≠ id := fun x hx => by simpa using (List.mem_filter.1 hx).2
theorem without_sub : (without S id).Sublist S := List.filter_sublist
theorem without_sorted (hs : Sorted lt S) : Sorted lt (without S id) := hs.sublist without_sub
theorem without_length_le : (without S id).length ≤ S.length := List.length_filter_le _ _
theorem without_erase [BEq α] [LawfulBEq α] (hd : S.Pairwise fun a b => a.1 ≠ b.1) (h : (id, k) ∈ S) : without S id = S.erase (id, k) := by
  induction S with
  | nil => cases h
  | cons y S ih =>
    rw [List.pairwise_cons] at hd
    by_cases hy : y = (id, k)
    · subst hy
      rw [List.erase_cons_head]
      have : without S id = S := without_none (has_none.2 fun x hx => (hd.1 x hx).symm)
      simpa [without] using this
    · rw [List.erase_cons_tail (by simpa using hy)]
      have hm : (id, k) ∈ S := (List.mem_cons.1 h).resolve_left fun e => hy e.symm
      have h1 : (y.1 != id) = true := by simpa using hd.1 _ hm
      have := ih hd.2 hm
      unfold without at this ⊢
      rw [List.filter_cons_of_pos (p := fun x : It α => x.1 != id) h1, this]
theorem Sorted.distinct (ho : Swo lt) (h : S.Pairwise fun a b => a.1 ≠ b.1) : (S.map (·.1)).Nodup := Sorted.nodup_ids ho h
theorem putS_sorted (ho : Swo lt) (hs : Sorted lt S) : Sorted lt (putS lt S id k) := by
  unfold putS
  split
  · exact hs
  · split
    · exact hs
    · rename_i h; exact ins_sorted ho hs (has_none.1 (by simpa using h))
theorem chS_sorted (ho : Swo lt) (hs : Sorted lt S) : Sorted lt (chS lt S id k) := by
  unfold chS
  split
  · exact ins_sorted ho (without_sorted hs) without_gone
  · exact hs
theorem putS_length : (putS lt S id k).length ≤ S.length + 1 := by
  unfold putS
  split
  · omega
  · split
    · omega
    · rw [ins_length]; omega
theorem chS_length : (chS lt S id k).length ≤ S.length + 1 := by
  unfold chS
  split
  · rw [ins_length]; have := without_length_le (S := S) (id := id); omega
  · omega
theorem getElem_split {i : Nat} (h : S[i]? = some (id, k)) (hd : ∀ j, j < i → (S.getD j (0, d)).1 ≠ id) (hn : S.Pairwise fun a b => a.1 ≠ b.1) : S.take i ++ S.drop (i + 1) = without S id := by
  have hi := (List.getElem?_eq_some_iff.1 h).1
  have e : S = S.take i ++ (id, k) :: S.drop (i + 1) := by
    rw [← (List.getElem?_eq_some_iff.1 h).2, ← List.drop_eq_getElem_cons hi, List.take_append_drop]
  have h2 := hn
  rw [e, List.pairwise_append, List.pairwise_cons] at h2
  have e1 : (S.take i).filter (fun x => x.1 != id) = S.take i := List.filter_eq_self.2 fun x hx => by
    simpa using h2.2.2 x hx (id, k) List.mem_cons_self
  have e2 : (S.drop (i + 1)).filter (fun x => x.1 != id) = S.drop (i + 1) := List.filter_eq_self.2 fun x hx => by
    simpa using (h2.2.1.1 x hx).symm
  unfold without
  conv => rhs; rw [e, List.filter_append, List.filter_cons_of_neg (by simp), e1, e2]
end
end Hp

section
variable {w0 w : World} {hb : Nat} {S : List (It Int)} {R : Ast} {id k : Int}
theorem On.distinct (h : On w0 w (sep (H hb S) R)) : S.Pairwise fun a b => a.1 ≠ b.1 := by
  obtain ⟨F, hF, _⟩ := h.get1
  exact HeapAt.distinct hF
theorem U_put (h : On w0 w (sep (H hb S) R)) (hl : S.length < 900000) (id k : Int) (hw : (Lit.int .i64 id).wf = true) :
    Calls Try.prog 116 #[.pointer (some ⟨hb, 0, none⟩), .int .i64 id, .int .i64 k] w fun e w' => e = .returned (.int .i64 (putE S id)) ∧ On w0 w' (sep (H hb (putS ltI S id k)) R) := by
  unfold putE putS
  obtain ⟨F, hF, _⟩ := h.get1
  by_cases h0 : id < 0
  · rw [if_pos h0, if_pos h0]
    exact (Put_bad hF hw h0).mono fun e w' ⟨he, hww⟩ => ⟨he, hww ▸ h⟩
  · rw [if_neg h0, if_neg h0]
    cases hh : has S id with
    | true =>
      obtain ⟨k0, hk⟩ := has_some hh
      rw [if_pos rfl, if_pos rfl]
      exact (Put_there hF hk).mono fun e w' ⟨he, hww⟩ => ⟨he, hww ▸ h⟩
    | false =>
      rw [if_neg (by simp), if_neg (by simp)]
      exact (H_put h id k (by omega) hw (has_none.1 hh) (by omega)).mono fun e w' ⟨he, ho⟩ => ⟨he, ho.mono1 (H_perm (ins_perm _ _).symm)⟩
theorem U_drop (h : On w0 w (sep (H hb S) R)) (hl : S.length < 900000) (id : Int) (hw : (Lit.int .i64 id).wf = true) :
    Calls Try.prog 155 #[.pointer (some ⟨hb, 0, none⟩), .int .i64 id] w fun e w' => e = .returned (.tuple #[.int .i64 (keyAt 0 S id), .int .i64 (hasE S id)]) ∧ On w0 w' (sep (H hb (without S id)) R) := by
  unfold hasE
  obtain ⟨F, hF, _⟩ := h.get1
  cases hh : has S id with
  | true =>
    obtain ⟨k0, hk⟩ := has_some hh
    rw [if_pos rfl, without_erase h.distinct hk, keyAt_mem h.distinct hk]
    exact H_drop h hk (by omega)
  | false =>
    rw [if_neg (by simp), without_none hh, keyAt_none hh]
    exact (Drop_none hF hw (has_none.1 hh)).mono fun e w' ⟨he, hww⟩ => ⟨he, hww ▸ h⟩
theorem U_take (h : On w0 w (sep (H hb S) R)) (hs : Sorted ltI S) (hl : S.length < 900000) :
    Calls Try.prog 118 #[.pointer (some ⟨hb, 0, none⟩)] w fun e w' => e = .returned (.tuple #[.int .i64 (S.headD (0, 0)).1, .int .i64 (S.headD (0, 0)).2, .int .i64 (headE S)]) ∧ On w0 w' (sep (H hb S.tail) R) := by
  cases S with
  | nil => exact H_take_none h
  | cons x S => exact H_take h hs (by rw [List.length_cons] at hl; show S.length < 999999; omega)
theorem U_peek (h : On w0 w (sep (H hb S) R)) (hs : Sorted ltI S) :
    Calls Try.prog 154 #[.pointer (some ⟨hb, 0, none⟩)] w fun e w' => e = .returned (.tuple #[.int .i64 (S.headD (0, 0)).1, .int .i64 (S.headD (0, 0)).2, .int .i64 (headE S)]) ∧ Below w.heap.size w w' := by
  obtain ⟨F, hF, _⟩ := h.get1
  cases S with
  | nil => exact Peek_none hF
  | cons x S => exact (Peek_some lessI hF hs).mono fun e w' ⟨he, hb⟩ => ⟨he, by first | exact hb | (subst hb; exact Below.refl _ _)⟩
end
end Go.Proofs.Ytkjpkhpiojahkaa

/-! ### Walks: the document's answer for heaps: At, Drop, Put, Change, whatever the case. -/
namespace Go.Proofs.Ytkjpkhpiojahkaa
set_option linter.unusedVariables false
open Go.RowKit Hp

/-- a number's place in a list -/
def idx (S : List (It Int)) (id : Int) : Nat := S.findIdx fun x => x.1 == id
theorem idx_le (S : List (It Int)) (id : Int) : idx S id ≤ S.length := List.findIdx_le_length
theorem idx_not (S : List (It Int)) (id : Int) {j : Nat} (hj : j < idx S id) : (S.getD j (0, 0)).1 ≠ id := by
  have hl : j < S.length := Nat.lt_of_lt_of_le hj (idx_le S id)
  have := List.not_of_lt_findIdx hj
  rw [getD_of hl]
  simpa using this
theorem idx_at {S : List (It Int)} {id : Int} {x : It Int} (h : S[idx S id]? = some x) : x.1 = id := by
  obtain ⟨hl, he⟩ := List.getElem?_eq_some_iff.1 h
  have := List.findIdx_getElem (p := fun x : It Int => x.1 == id) (w := hl)
  rw [← he]
  exact eq_of_beq this
theorem idx_lt {S : List (It Int)} {id : Int} : idx S id < S.length ↔ has S id = true := by
  rw [idx, List.findIdx_lt_length, has, List.any_eq_true]
theorem idx_some {S : List (It Int)} {id : Int} (h : has S id = true) : ∃ k, S[idx S id]? = some (id, k) := by
  have hl := idx_lt.2 h
  have hx := List.getElem?_eq_getElem hl
  have h1 := idx_at hx
  refine ⟨(S[idx S id]).2, ?_⟩
  rw [hx]
  exact congrArg some (Prod.ext h1 rfl)

section
variable {w0 w : World} {rb : Nat} {S : List (It Int)} {R : Ast} {id k : Int} {F : Nat → Prop}

theorem R_at (h : On w0 w (sep (refA rb S) R)) (hl : S.length < 900000) (id : Int) :
    Calls Try.prog 95 #[.pointer (some ⟨rb, 0, none⟩), .int .i64 id] w fun e w' => e = .returned (.int .i64 (if has S id then (idx S id : Int) else -1)) ∧ w = w' := by
  obtain ⟨F, ⟨v, hr, _⟩, _⟩ := h.get1
  have := At_any hr (by omega) id (idx S id) (idx_le S id) (fun j hj => idx_not S id hj) (fun x hx => idx_at hx)
  cases hh : has S id with
  | true => rw [if_pos (idx_lt.2 hh)] at this; rw [if_pos rfl]; exact this
  | false => rw [if_neg (by rw [idx_lt, hh]; simp)] at this; rw [if_neg (by simp)]; exact this

set_option maxRecDepth 100000 in
set_option maxHeartbeats 1000000 in
theorem RDrop_none (h : (refA rb S).holds w F) (hl : S.length < 900000) (id : Int) (hh : has S id = false) :
    Calls Try.prog 97 #[.pointer (some ⟨rb, 0, none⟩), .int .i64 id] w fun e w' => e = .returned (.tuple #[.int .i64 0, .int .i64 14]) ∧ w = w' := by
  obtain ⟨v, hr, _⟩ := h
  have hat := At_any hr (by omega) id (idx S id) (idx_le S id) (fun j hj => idx_not S id hj) (fun x hx => idx_at hx)
  rw [if_neg (by rw [idx_lt, hh]; simp)] at hat
  have HAt := Lib.hid hat
  clear hat hh hr
  go_enter Try.func97, Try.ntmps97
  go_wp2_with (go_at_call 95; refine HAt.out.mono ?_; rintro e w' ⟨rfl, rfl⟩)
  go_ret2
  exact ⟨rfl, rfl⟩

theorem R_drop (h : On w0 w (sep (refA rb S) R)) (hn : S.Pairwise fun a b => a.1 ≠ b.1) (hl : S.length < 900000) (id : Int) :
    Calls Try.prog 97 #[.pointer (some ⟨rb, 0, none⟩), .int .i64 id] w fun e w' => e = .returned (.tuple #[.int .i64 (keyAt 0 S id), .int .i64 (hasE S id)]) ∧ On w0 w' (sep (refA rb (without S id)) R) := by
  unfold hasE
  cases hh : has S id with
  | true =>
    obtain ⟨k, hk⟩ := idx_some hh
    rw [if_pos rfl, keyAt_mem hn (List.mem_of_getElem? hk), ← getElem_split (d := 0) hk (fun j hj => idx_not S id hj) hn]
    exact h.call1 (B := refA rb _) fun F hF => RDrop_some hF (by omega) hk fun j hj => idx_not S id hj
  | false =>
    obtain ⟨F, hF, _⟩ := h.get1
    rw [if_neg (by simp), keyAt_none hh, without_none hh]
    exact (RDrop_none hF hl id hh).mono fun e w' ⟨he, hww⟩ => ⟨he, hww ▸ h⟩

set_option maxRecDepth 100000 in
set_option maxHeartbeats 1000000 in
theorem R_put (h : On w0 w (sep (refA rb S) R)) (hl : S.length < 900000) (id k : Int) :
    Calls Try.prog 140 #[.pointer (some ⟨rb, 0, none⟩), .agg #[.int .i64 k, .int .i64 id]] w fun e w' => e = .returned (.int .i64 (putE S id)) ∧ On w0 w' (sep (refA rb (putS ltI S id k)) R) := by
  obtain ⟨w1, hw1⟩ : ∃ w1, w.alloc (.cells #[.int .i64 k, .int .i64 id] 24) = w1 := ⟨_, rfl⟩
  have hb1 : Below w.heap.size w w1 := by rw [← hw1]; exact (Below.refl _ w).alloc (Nat.le_refl _) _
  have x0 : w1.cell? ⟨w.heap.size, 0, none⟩ = some (.int .i64 k) := by rw [← hw1, World.cell?_alloc_at _ _ _ _ rfl]; rfl
  have x1 : w1.cell? ⟨w.heap.size, 1, none⟩ = some (.int .i64 id) := by rw [← hw1, World.cell?_alloc_at _ _ _ _ rfl]; rfl
  have h1 := h.below hb1
  have hat := R_at h1 hl id
  have H1 := Lib.hid h1
  have HAt := Lib.hid hat
  unfold putE putS
  clear h h1 hat hb1
  by_cases hneg : id < 0
  · rw [if_pos hneg, if_pos hneg]
    have hng : (id < 0) = True := by simp [hneg]
    go_enter Try.func140, Try.ntmps140
    go_wp2
    go_ret
    exact ⟨rfl, H1.out⟩
  · rw [if_neg hneg, if_neg hneg]
    cases hh : has S id with
    | true =>
      rw [if_pos rfl, if_pos rfl]
      rw [hh, if_pos rfl] at HAt
      have hi0 : (0 : Int) ≤ (idx S id : Int) := by omega
      clear hh
      go_enter Try.func140, Try.ntmps140
      go_wp2_with fail
      refine HAt.out.mono ?_
      rintro e w' ⟨rfl, rfl⟩
      go_wp2
      go_ret
      exact ⟨rfl, H1.out⟩
    | false =>
      rw [if_neg (by simp), if_neg (by simp)]
      rw [hh, if_neg (by simp)] at HAt
      have hlay := H1.out.call1 (B := refA rb (ins ltI (id, k) S)) fun F hF => lay_ok hF (by omega) id k
      have HLay := Lib.hid hlay
      clear hh hlay
      go_enter Try.func140, Try.ntmps140
      go_wp2_with fail
      refine HAt.out.mono ?_
      rintro e w' ⟨rfl, rfl⟩
      go_wp2_with fail
      refine HLay.out.mono ?_
      rintro e w2 ⟨rfl, h2⟩
      have H2 := Lib.hid h2
      clear h2
      go_wp2
      go_ret
      exact ⟨rfl, H2.out⟩

set_option maxRecDepth 100000 in
set_option maxHeartbeats 1000000 in
theorem R_change (h : On w0 w (sep (refA rb S) R)) (hn : S.Pairwise fun a b => a.1 ≠ b.1) (hl : S.length < 900000) (id k : Int) :
    Calls Try.prog 141 #[.pointer (some ⟨rb, 0, none⟩), .agg #[.int .i64 k, .int .i64 id]] w fun e w' => e = .returned (.int .i64 (hasE S id)) ∧ On w0 w' (sep (refA rb (chS ltI S id k)) R) := by
  obtain ⟨w1, hw1⟩ : ∃ w1, w.alloc (.cells #[.int .i64 k, .int .i64 id] 24) = w1 := ⟨_, rfl⟩
  have hb1 : Below w.heap.size w w1 := by rw [← hw1]; exact (Below.refl _ w).alloc (Nat.le_refl _) _
  have x0 : w1.heap[w.heap.size]? = some (.cells #[.int .i64 k, .int .i64 id] 24 (0, 0)) := by rw [← hw1]; exact heap_alloc_new w _
  have h1 : On w0 w1 (sep (refA rb S) (sep (boxA w.heap.size 24 #[.int .i64 k, .int .i64 id]) R)) := by
    rw [← hw1]
    exact (h.add ((Below.refl _ w).alloc (Nat.le_refl _) _) (boxA_new w 24 #[.int .i64 k, .int .i64 id]) (fun j hj => by omega)).left
  have hdr := R_drop h1 hn hl id
  have HDr := Lib.hid hdr
  have c1 : w1.cell? ⟨w.heap.size, 1, none⟩ = some (.int .i64 id) := by simp [World.cell?, x0]
  unfold hasE chS
  unfold hasE at HDr
  clear h h1 hdr hb1 x0
  cases hh : has S id with
  | true =>
    rw [if_pos rfl, if_pos rfl]
    rw [hh, if_pos rfl] at HDr
    clear hh
    go_enter Try.func141, Try.ntmps141
    go_wp2_with fail
    refine HDr.out.mono ?_
    rintro e w2 ⟨rfl, h2⟩
    have hlay := h2.call1 (B := refA rb (ins ltI (id, k) (without S id))) fun F hF => lay_ok hF (by have := without_length_le (S := S) (id := id); omega) id k
    obtain ⟨Fx, hFx, _⟩ := h2.out1.get1
    have d0 := boxA_cell hFx 0
    have d1 := boxA_cell hFx 1
    have e0 : (#[Value.int .i64 k, .int .i64 id])[0]? = some (.int .i64 k) := rfl
    have e1 : (#[Value.int .i64 k, .int .i64 id])[1]? = some (.int .i64 id) := rfl
    rw [e0] at d0
    rw [e1] at d1
    have HLay := Lib.hid hlay
    clear h2 hFx hlay e0 e1
    go_wp2_with fail
    refine HLay.out.mono ?_
    rintro e w3 ⟨rfl, h3⟩
    have H3 := Lib.hid (h3.left.out1)
    clear h3
    go_wp2
    go_ret
    exact ⟨rfl, H3.out⟩
  | false =>
    rw [if_neg (by simp), if_neg (by simp)]
    rw [hh, if_neg (by simp), without_none hh] at HDr
    clear hh
    go_enter Try.func141, Try.ntmps141
    go_wp2_with fail
    refine HDr.out.mono ?_
    rintro e w2 ⟨rfl, h2⟩
    have H2 := Lib.hid (h2.left.out1)
    clear h2
    go_wp2
    go_ret
    exact ⟨rfl, H2.out⟩
end
end Go.Proofs.Ytkjpkhpiojahkaa

/-! ### Walk: a call with both. -/
namespace Go.Proofs.Ytkjpkhpiojahkaa
set_option linter.unusedVariables false
open Go.RowKit Hp

def stepS (S : List (It Int)) (ask id k : Int) : List (It Int) :=
  if ask = 0 then putS ltI S id k else if ask = 1 then chS ltI S id k else if ask = 2 then without S id else if ask = 3 then S else if ask = 4 then S.tail else S
theorem stepS_sorted {S : List (It Int)} {ask id k : Int} (hs : Sorted ltI S) : Sorted ltI (stepS S ask id k) := by
  unfold stepS
  split
  · exact putS_sorted ltI_swo hs
  split
  · exact chS_sorted ltI_swo hs
  split
  · exact without_sorted hs
  split
  · exact hs
  split
  · exact hs.sublist (List.tail_sublist S)
  · exact hs
theorem stepS_length {S : List (It Int)} {ask id k : Int} : (stepS S ask id k).length ≤ S.length + 1 := by
  unfold stepS
  split
  · exact putS_length
  split
  · exact chS_length
  split
  · have := without_length_le (S := S) (id := id); omega
  split
  · omega
  split
  · simp; omega
  · omega

section
variable {w0 w : World} {A B R : Ast} {b t : Nat} {cs : Array Value}
theorem On.box3 (h : On w0 w (sep A (sep B (sep (boxA b t cs) R)))) (k : Nat) : w.cell? ⟨b, k, none⟩ = cs[k]? := by
  obtain ⟨F, hF, _⟩ := h.out1.out1.get1
  exact boxA_cell hF k
theorem On.box3_free (h : On w0 w (sep A (sep B (sep (boxA b t cs) R)))) (k : Nat) : w.frozen? ⟨b, k, none⟩ = false := by
  obtain ⟨F, hF, _⟩ := h.out1.out1.get1
  exact boxA_free hF k
theorem On.box3_set (h : On w0 w (sep A (sep B (sep (boxA b t cs) R)))) (k : Nat) (v : Value) : On w0 (w.setCell ⟨b, k, none⟩ v) (sep A (sep B (sep (boxA b t (cs.setIfInBounds k v)) R))) :=
  (h.third.step1 fun _ hF => boxA_set hF k v).sink2
theorem On.new3 (h : On w0 w (sep A (sep B R))) (t : Nat) (cs : Array Value) : On w0 (w.alloc (.cells cs t)) (sep A (sep B (sep (boxA w.heap.size t cs) R))) :=
  (h.add ((Below.refl _ w).alloc (Nat.le_refl _) _) (boxA_new w t cs) (fun j hj => by omega)).sink2
theorem On.drop3 (h : On w0 w (sep A (sep B (sep (boxA b t cs) R)))) : On w0 w (sep A (sep B R)) := h.third.out1
theorem On.ref2 {rb : Nat} {S : List (It Int)} (h : On w0 w (sep A (sep (refA rb S) R))) : ∃ v, RefRaw w rb v S := by
  obtain ⟨F, ⟨v, hr, _⟩, _⟩ := h.out1.get1
  exact ⟨v, hr⟩
end

section
variable {w0 w : World} {hb rb : Nat} {S : List (It Int)} {R : Ast} {ask id k : Int}

theorem On.ref_ne {v : Value} {b t g : Nat} {cs : Array Value} (h : On w0 w (sep (refA rb S) (sep (boxA b t cs) R))) (hr : RefRaw w rb v S) (hg : v.ownBlock = some g) : g ≠ b := by
  obtain ⟨F, ⟨Fa, Fb, ⟨v', hr', hFa⟩, ⟨Fc, Fd, hc, _, _, hFb⟩, hdis, _⟩, _⟩ := h
  have : v' = v := Option.some.inj (hr'.c0.symm.trans hr.c0)
  subst this
  intro e
  subst e
  exact hdis g ((hFa g).2 (.inr hg)) ((hFb g).2 (.inl ((hc.2 g).2 rfl)))
theorem U_take8 (h : On w0 w (sep (H hb S) R)) (hs : Sorted ltI S) (hl : S.length < 800000) :
    Calls Try.prog 118 #[.pointer (some ⟨hb, 0, none⟩)] w fun e w' => e = .returned (.tuple #[.int .i64 (S.headD (0, 0)).1, .int .i64 (S.headD (0, 0)).2, .int .i64 (headE S)]) ∧ On w0 w' (sep (H hb S.tail) R) := U_take h hs (by omega)
theorem U_peek8 (h : On w0 w (sep (H hb S) R)) (hs : Sorted ltI S) (_hl : S.length < 800000) :
    Calls Try.prog 154 #[.pointer (some ⟨hb, 0, none⟩)] w fun e w' => e = .returned (.tuple #[.int .i64 (S.headD (0, 0)).1, .int .i64 (S.headD (0, 0)).2, .int .i64 (headE S)]) ∧ Below w.heap.size w w' := U_peek h hs
theorem without_head {x : It Int} {S : List (It Int)} (hn : (x :: S).Pairwise fun a b => a.1 ≠ b.1) : without (x :: S) x.1 = S := by
  rw [List.pairwise_cons] at hn
  have : without S x.1 = S := without_none (has_none.2 fun y hy => (hn.1 y hy).symm)
  simpa [without] using this

end
end Go.Proofs.Ytkjpkhpiojahkaa

/-! ### Walk: the heap is the document's answer's. -/
namespace Go.Proofs.Ytkjpkhpiojahkaa
set_option linter.unusedVariables false
open Go.RowKit Hp
attribute [local go_sem] Oper.semAt_some

section
variable {w : World} {hb rb : Nat} {S : List (It Int)} {F : Nat → Prop} {v : Value}

end
end Go.Proofs.Ytkjpkhpiojahkaa

/-! ### Walk: the law HeapPlays. -/
namespace Go.Proofs.Ytkjpkhpiojahkaa
set_option linter.unusedVariables false
open Go.RowKit Hp

/-- calls of a slice that came in: what is asked, the key, the number -/
def OpsAt (w : World) (a : Option Addr) (os : List (Int × Int × Int)) : Prop :=
  (os.length = 0 ∨ ∃ b off, a = some ⟨b, off, none⟩ ∧ b < w.heap.size ∧ ∀ k, k < os.length → w.cell? ⟨b, off + k * 3, none⟩ = some (.int .i64 (os[k]?.getD (0, 0, 0)).1) ∧
    w.cell? ⟨b, off + k * 3 + 1, none⟩ = some (.int .i64 (os[k]?.getD (0, 0, 0)).2.1) ∧ w.cell? ⟨b, off + k * 3 + 2, none⟩ = some (.int .i64 (os[k]?.getD (0, 0, 0)).2.2)) ∧
  ∀ o ∈ os, (Lit.int .i64 o.2.2).wf = true

theorem refA_new (w : World) : (refA w.heap.size []).holds (w.alloc (.cells #[.slice none 0 0] 32)) (fun j => j = w.heap.size) :=
  ⟨.slice none 0 0, ⟨heap_alloc_new w _, World.ownsRow_nil _ _ _ _⟩, fun j => by simp [Value.ownBlock]⟩

end Go.Proofs.Ytkjpkhpiojahkaa
