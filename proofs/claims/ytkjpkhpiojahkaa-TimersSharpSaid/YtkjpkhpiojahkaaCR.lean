/-
  Walk: Change.
  Walks: the document's answer for heaps: At, Ahead, Drop.
-/
import Derived.Test.YtkjpkhpiojahkaaCA
import Derived.Test.YtkjpkhpiojahkaaL3
/-! ### Walk: Change. -/
namespace Go.Proofs.Ytkjpkhpiojahkaa
set_option linter.unusedVariables false
open Go.RowKit Hp

theorem Raw.set_key {w : World} {A : List (It Int)} {g cap : Nat} (h : w.ownsRow 0 202 2 (.slice (some ⟨g, 0, none⟩) A.length cap) A.length (A.flatMap itC)) {i : Nat} {id k0 : Int} (hi : A[i]? = some (id, k0)) (k : Int) :
    (w.setCell ⟨g, i * 2 + 1, none⟩ (.int .i64 k)).ownsRow 0 202 2 (.slice (some ⟨g, 0, none⟩) A.length cap) A.length ((A.set i (id, k)).flatMap itC) := by
  have hil := (List.getElem?_eq_some_iff.1 hi).1
  have h2 := own_setG (i := i * 2 + 1) (y := .int .i64 k) h
  have hl := flat_length itC 2 itC_len A
  have e := flat_set itC 2 itC_len A i (id, k) hil ((A.flatMap itC).set (i * 2 + 1) (.int .i64 k)) (by simp [hl]) (fun j hj => by
    rw [List.getElem?_set]
    by_cases h1 : i * 2 + 1 = j
    · subst h1
      simp [hl, hj, itC]
    · rw [if_neg h1]
      by_cases h3 : i * 2 = j
      · subst h3
        have := flat_at itC 2 itC_len A i 0 _ hi (by omega)
        rw [Nat.add_zero] at this
        rw [this]
        simp [itC]
      · rw [if_neg (by omega)])
  rw [← e]
  exact h2

section
variable {w : World} {hb lf : Nat} {lt : Int → Int → Bool} {F : Nat → Prop} {M : List (It Int)}

end
end Go.Proofs.Ytkjpkhpiojahkaa

/-! ### Walks: the document's answer for heaps: At, Ahead, Drop. -/
namespace Go.Proofs.Ytkjpkhpiojahkaa
set_option linter.unusedVariables false
open Go.RowKit Hp

/-- a number and its key as the document's answer lays them -/
def keyC (x : It Int) : List Value := [.int .i64 x.2, .int .i64 x.1]
theorem keyC_len (x : It Int) : (keyC x).length = 2 := rfl
theorem keyC_one (S : List (It Int)) : ∀ u ∈ S.flatMap keyC, u.oneCell' = true := by
  intro u hu
  obtain ⟨x, _, hx⟩ := List.mem_flatMap.1 hu
  simp [keyC] at hx
  rcases hx with rfl | rfl <;> rfl

/-- the document's answer's list -/
def RefRaw (w : World) (rb : Nat) (v : Value) (S : List (It Int)) : Prop := w.heap[rb]? = some (.cells #[v] 32 (0, 0)) ∧ w.ownsRow 0 24 2 v S.length (S.flatMap keyC)
def refA (rb : Nat) (S : List (It Int)) : Ast where
  holds w F := ∃ v, RefRaw w rb v S ∧ ∀ j, F j ↔ j = rb ∨ v.ownBlock = some j
  stable := fun ⟨v, ⟨h1, h2⟩, h3⟩ hm hS => ⟨v, ⟨hm.obj h1 (hS rb ((h3 rb).2 (.inl rfl))), own_same h2 fun j o hj ho _ => hm.obj ho (hS j ((h3 j).2 (.inr hj)))⟩, h3⟩
  lt := fun ⟨v, ⟨h1, h2⟩, h3⟩ hj => by
    rcases (h3 _).1 hj with rfl | h
    · exact lt_of_some h1
    · exact own_lt h2 h

section
variable {w w' : World} {rb : Nat} {v : Value} {S : List (It Int)}
theorem RefRaw.c0 (h : RefRaw w rb v S) : w.cell? ⟨rb, 0, none⟩ = some v := by simp [World.cell?, h.1]
theorem RefRaw.f0 (h : RefRaw w rb v S) : w.frozen? ⟨rb, 0, none⟩ = false := by simp [World.frozen?, h.1]
theorem RefRaw.same (h : RefRaw w rb v S) (hs : w'.heap = w.heap) : RefRaw w' rb v S := ⟨by rw [hs]; exact h.1, own_same h.2 fun j o _ ho _ => by rw [hs]; exact ho⟩
theorem RefRaw.below (h : RefRaw w rb v S) (hb : Below w.heap.size w w') : RefRaw w' rb v S := by
  have hm : Mod none' w w' := Mod.of_below hb
  exact ⟨hm.obj h.1 (fun h => h), own_same h.2 fun j o _ ho _ => hm.obj ho (fun h => h)⟩
theorem RefRaw.slice (h : RefRaw w rb v S) : ∃ a cap, v = .slice a S.length cap := by
  rcases own_parts h.2 with ⟨rfl, h0⟩ | ⟨g, cap, cur, rfl, _⟩
  · exact ⟨none, 0, by rw [h0]⟩
  · exact ⟨_, _, rfl⟩
theorem RefRaw.ne (h : RefRaw w rb v S) {g : Nat} (hg : v.ownBlock = some g) : g ≠ rb := by
  rcases own_parts h.2 with ⟨rfl, h0⟩ | ⟨g', cap, cur, rfl, _, hg', _⟩
  · simp [Value.ownBlock] at hg
  · simp [Value.ownBlock] at hg
    subst hg
    intro e
    subst e
    have := h.1
    rw [hg'] at this
    cases this
theorem RefRaw.at (h : RefRaw w rb v S) {i : Nat} {x : It Int} (hi : S[i]? = some x) :
    ∃ g cap, v = .slice (some ⟨g, 0, none⟩) S.length cap ∧ S.length ≤ cap ∧ w.cell? ⟨g, i * 2, none⟩ = some (.int .i64 x.2) ∧ w.cell? ⟨g, i * 2 + 1, none⟩ = some (.int .i64 x.1) ∧ g < w.heap.size := by
  have hlt := (List.getElem?_eq_some_iff.1 hi).1
  rcases own_parts h.2 with ⟨rfl, h0⟩ | ⟨g, cap, cur, rfl, _, hg, hlc, _⟩
  · omega
  have h2 := h.2
  refine ⟨g, cap, rfl, hlc, own_cellG h2 ?_, own_cellG h2 ?_, lt_of_some hg⟩
  · have := flat_at keyC 2 keyC_len S i 0 x hi (by omega)
    simpa [keyC] using this
  · have := flat_at keyC 2 keyC_len S i 1 x hi (by omega)
    simpa [keyC] using this

set_option maxRecDepth 100000 in
set_option maxHeartbeats 1000000 in
theorem At_any (h : RefRaw w rb v S) (hS : S.length < 1000000) (id : Int) (i : Nat) (hi : i ≤ S.length) (h0 : ∀ j, j < i → (S.getD j (0, 0)).1 ≠ id) (h1 : ∀ x, S[i]? = some x → x.1 = id) :
    Calls Try.prog 95 #[.pointer (some ⟨rb, 0, none⟩), .int .i64 id] w fun e w' => e = .returned (.int .i64 (if i < S.length then (i : Int) else -1)) ∧ w = w' := by
  have c0 := h.c0
  obtain ⟨a, cap, rfl⟩ := h.slice
  have hlt : rb < w.heap.size := lt_of_some h.1
  have H := Lib.hid h
  have H0 := Lib.hid h0
  have H1 := Lib.hid h1
  obtain ⟨r, hr⟩ : ∃ r : Int, (if i < S.length then (i : Int) else -1) = r := ⟨_, rfl⟩
  rw [hr]
  have HR := Lib.hid hr
  clear h h0 h1 hr
  go_enter Try.func95, Try.ntmps95
  go_wp2
  go_loopg [5] S.length (fun gh s5 wr => ∃ j : Nat, j + gh = S.length ∧ s5 = .int .i64 (j : Int) ∧ j ≤ i ∧ wr = w)
  case atStart => exact ⟨0, by omega, rfl, by omega, rfl⟩
  case round =>
    obtain ⟨j, hj, rfl, hji, rfl⟩ := hrel
    by_cases hjl : j < S.length
    · obtain ⟨⟨x1, x2⟩, hx⟩ : ∃ x, S[j]? = some x := ⟨_, List.getElem?_eq_getElem hjl⟩
      obtain ⟨g, cap', he, hlc, d0, d1, hg⟩ := H.out.at hx
      cases he
      dsimp only at d0 d1
      have hjI : (j : Int) < (S.length : Int) := by omega
      have hj0 : (0 : Int) ≤ (j : Int) := by omega
      have hjlN := hjl
      by_cases hji2 : j = i
      · have hid : x1 = id := H1.out _ (by rw [← hji2]; exact hx)
        have hres : (j : Int) = r := by rw [← HR.out, if_pos (by omega), hji2]
        have HRes := Lib.hid hres
        have hb : (x1 == id) = true := by simp [hid]
        clear hx hid hres hji2 hji
        go_wp2
        go_ret
        exact ⟨ret_int HRes.out, rfl⟩
      · have hne : x1 ≠ id := by
          have := H0.out j (by omega)
          rwa [getD_of hjl, (List.getElem?_eq_some_iff.1 hx).2] at this
        have hb : (x1 == id) = false := by simp [hne]
        clear hx hne
        go_wp2
        go_roundg (S.length - (j + 1))
        case measure => omega
        case rel => exact ⟨j + 1, by omega, by go_num, by omega, rfl⟩
    · have hjI : ¬ (j : Int) < (S.length : Int) := by omega
      have hil : ¬ i < S.length := by omega
      have hres : (-1 : Int) = r := by rw [← HR.out, if_neg hil]
      have HRes := Lib.hid hres
      clear hil hres
      go_wp2
      go_ret
      exact ⟨ret_int HRes.out, rfl⟩
end

theorem idx_of (S : List (It Int)) (id : Int) : ∃ i, i ≤ S.length ∧ (∀ j, j < i → (S.getD j (0, 0)).1 ≠ id) ∧ ∀ x, S[i]? = some x → x.1 = id := by
  induction S with
  | nil => exact ⟨0, Nat.le_refl _, fun j h => by omega, fun x h => by simp at h⟩
  | cons y S ih =>
    by_cases hy : y.1 = id
    · exact ⟨0, by simp, fun j h => by omega, fun x h => by simp at h; rw [← h]; exact hy⟩
    · obtain ⟨i, h1, h2, h3⟩ := ih
      refine ⟨i + 1, by simpa using h1, fun j hj => ?_, fun x hx => h3 x (by simpa using hx)⟩
      match j with
      | 0 => simpa using hy
      | j + 1 => simpa using h2 j (by omega)

theorem Ahead_any (a1 a2 b1 b2 : Int) (w : World) : Calls Try.prog 122 #[.agg #[.int .i64 a1, .int .i64 a2], .agg #[.int .i64 b1, .int .i64 b2]] w fun e w' => e = .returned (.bool (bef (a1, a2) (b1, b2))) ∧ Below w.heap.size w w' := by
  go_enter Try.func122, Try.ntmps122
  go_wp2
  all_goals go_ret
  all_goals refine ⟨ret_bool ?_, ((Below.refl _ w).alloc (Nat.le_refl _) _).alloc (by simp) _⟩
  all_goals simp [bef, *]

theorem Try.info24 : (Try.prog.info? 24).map (fun i => (i.zero, i.size, i.bytes)) = some (some (.agg #[.int .i64 0, .int .i64 0]), 2, 16) := by kernel_rfl
theorem keys_at {w : World} {rb g cap : Nat} {S : List (It Int)} (h : RefRaw w rb (.slice (some ⟨g, 0, none⟩) S.length cap) S) (k : Nat) (T : List (It Int)) (hT : ∃ T', S.drop k = T ++ T') : ∀ j u, (T.flatMap keyC)[j]? = some u → w.cell? ((⟨g, k * 2, none⟩ : Addr).add j) = some u := fun j u hu => by
  obtain ⟨T', hT⟩ := hT
  have ha : (⟨g, k * 2, none⟩ : Addr).add j = ⟨g, k * 2 + j, none⟩ := by unfold Addr.add; split <;> simp_all
  rw [ha]
  refine own_cellG h.2 ?_
  by_cases hk : k ≤ S.length
  · have e : S.flatMap keyC = (S.take k).flatMap keyC ++ (T.flatMap keyC ++ T'.flatMap keyC) := by
      rw [← List.flatMap_append, ← hT, ← List.flatMap_append, List.take_append_drop]
    have hl : ((S.take k).flatMap keyC).length = k * 2 := by rw [flat_length keyC 2 keyC_len, List.length_take]; congr 1; omega
    rw [e, List.getElem?_append_right (by omega), hl, Nat.add_sub_cancel_left, List.getElem?_append_left (List.getElem?_eq_some_iff.1 hu).1]
    exact hu
  · rw [List.drop_eq_nil_of_le (by omega)] at hT
    have := (List.append_eq_nil_iff.1 hT.symm).1
    rw [this] at hu
    simp at hu

theorem below_grown {w w' : World} {row : Option Nat} {B : Nat} (h : w.grownBy w' row) (hr : ∀ j, row = some j → B ≤ j) (hB : B ≤ w.heap.size) : Below B w w' :=
  ⟨h.os, h.tape, h.output, h.size, fun k hk => h.block k (by omega) (fun e => by have := hr k e.symm; omega)⟩
theorem own_form {w : World} {B t size n : Nat} {v : Value} {xs : List Value} (h : w.ownsRow B t size v n xs) : ∃ q nn cc, v = .slice q nn cc := by
  rcases own_parts h with ⟨h1, _⟩ | ⟨_, _, _, h1, _⟩ <;> exact ⟨_, _, _, h1⟩

theorem own_new {v v0 : Value} {B H : Nat} (h : v.ownBlock = v0.ownBlock ∨ v.ownBlock = some H) (h0 : v0.ownBlock = none) (hB : B ≤ H) : ∀ j, v.ownBlock = some j → B ≤ j := fun j hj => by
  rcases h with h | h
  · rw [h, h0] at hj; cases hj
  · rw [h] at hj; cases hj; exact hB
theorem own_new2 {v v0 : Value} {B H : Nat} (h : v.ownBlock = v0.ownBlock ∨ v.ownBlock = some H) (h0 : ∀ j, v0.ownBlock = some j → B ≤ j) (hB : B ≤ H) : ∀ j, v.ownBlock = some j → B ≤ j := fun j hj => by
  rcases h with h | h
  · exact h0 j (by rw [← h]; exact hj)
  · rw [h] at hj; cases hj; exact hB

section
variable {w : World} {rb : Nat} {S : List (It Int)} {F : Nat → Prop}

theorem ref_set {w2 : World} {v : Value} {S' : List (It Int)} {n : Nat} {xs : List Value} (h : (refA rb S).holds w F) (hb : Below w.heap.size w w2) (hown : w2.ownsRow 0 24 2 v n xs) (hn : n = S'.length) (hx : xs = S'.flatMap keyC)
    (hv : ∀ j, v.ownBlock = some j → w.heap.size ≤ j) : Step F w (w2.setCell ⟨rb, 0, none⟩ v) (refA rb S') := by
  obtain ⟨v0, ⟨h1, h2⟩, h3⟩ := h
  subst hn hx
  have hrl : rb < w.heap.size := lt_of_some h1
  have hset : Mod (fun j => j = rb) w2 (w2.setCell ⟨rb, 0, none⟩ v) := (Mod.refl (fun j => j = rb) w2).setCell (p := ⟨rb, 0, none⟩) (fun _ => rfl) _
  refine ⟨fun j => j = rb ∨ v.ownBlock = some j, ⟨v, ⟨?_, own_same hown fun j o hj ho _ => hset.obj ho (fun e => by have := hv j hj; omega)⟩, fun j => Iff.rfl⟩,
    (Mod.of_below (S := F) hb).trans hset (fun j hj _ => by rw [hj]; exact (h3 rb).2 (.inl rfl)), fun j hj => ?_⟩
  · have := (Mod.of_below (S := none') hb).obj h1 (fun h => h)
    have := heap_setCell_at (k := 0) (v := v) this
    simpa using this
  · rcases hj with rfl | hj
    · exact .inl ((h3 j).2 (.inl rfl))
    · exact .inr (hv j hj)

set_option maxRecDepth 100000 in
set_option maxHeartbeats 2000000 in
theorem RDrop_some (h : (refA rb S).holds w F) (hS : S.length < 1000000) {i : Nat} {id k : Int} (hi : S[i]? = some (id, k)) (hd : ∀ j, j < i → (S.getD j (0, 0)).1 ≠ id) :
    Calls Try.prog 97 #[.pointer (some ⟨rb, 0, none⟩), .int .i64 id] w fun e w' => e = .returned (.tuple #[.int .i64 k, .int .i64 0]) ∧ Step F w w' (refA rb (S.take i ++ S.drop (i + 1))) := by
  obtain ⟨i0, hi0, hz0, hz1, hz2⟩ := info_parts2 Try.info24
  have HH := Lib.hid h
  obtain ⟨v, hraw, hF⟩ := h
  have hil := (List.getElem?_eq_some_iff.1 hi).1
  have hat := At_any hraw hS id i (by omega) hd (fun x hx => by rw [hi] at hx; cases hx; rfl)
  rw [if_pos hil] at hat
  have c0 := hraw.c0
  have f0 := hraw.f0
  obtain ⟨g, cap, rfl, hlc, d0, _, hg⟩ := hraw.at hi
  dsimp only at d0
  have hgr := hraw.ne (g := g) rfl
  have hrl : rb < w.heap.size := lt_of_some hraw.1
  have hi0' : (0 : Int) ≤ (i : Int) := by omega
  have hilI : (i : Int) < (S.length : Int) := by omega
  have hicI : (i : Int) ≤ (cap : Int) := by omega
  have hlcI : (S.length : Int) ≤ (cap : Int) := by omega
  have hi1 : (i : Int) + 1 ≤ (S.length : Int) := by omega
  have hcapB : (cap : Int) ≤ 9223372036854775807 := by
    rcases own_parts hraw.2 with ⟨h1, _⟩ | ⟨g', cap', cur, h1, _, _, _, h2, _⟩
    · cases h1
    · cases h1; unfold maxLen at h2; omega
  have hn1 := keys_at hraw 0 (S.take i) ⟨S.drop i, by simp⟩
  rw [Nat.zero_mul] at hn1
  have hn2 := keys_at hraw (i + 1) (S.drop (i + 1)) ⟨[], by simp⟩
  have hl1 : ((S.take i).flatMap keyC).length = i * 2 := by rw [flat_length keyC 2 keyC_len, List.length_take]; congr 1; omega
  have hl2 : ((S.drop (i + 1)).flatMap keyC).length = (S.length - (i + 1)) * 2 := by rw [flat_length keyC 2 keyC_len, List.length_drop]
  have HAt := Lib.hid hat
  have HRaw := Lib.hid hraw
  have HF := Lib.hid hF
  have HN1 := Lib.hid hn1
  have HN2 := Lib.hid hn2
  have o1 := keyC_one (S.take i)
  have o2 := keyC_one (S.drop (i + 1))
  clear hat hraw hF hn1 hn2 hd hi hil
  by_cases hcap : cap = i + 1
  · have hdn := Lib.hid (show (S.drop (i + 1)).flatMap keyC = [] by rw [List.drop_eq_nil_of_le (by omega)]; rfl)
    go_enter Try.func97, Try.ntmps97
    go_wp2_with (first | (go_at_call 95; refine HAt.out.mono ?_; rintro e w' ⟨rfl, rfl⟩) | (at_builtin; refine wpList_append_own_at _ rfl _ _ 30 rfl 0 24 i0 (.agg #[.int .i64 0, .int .i64 0]) 2 16 Try.underlying30 hi0 hz0 hz1 hz2 rfl (by decide) (.slice none 0 0) 0 [] rfl (World.ownsRow_nil _ _ _ _) ⟨g, 0, none⟩ i (i + 1) ((S.take i).flatMap keyC) rfl hl1 HN1.out o1 (by unfold maxLen; omega) (by omega) (Nat.zero_le _) ?_; intro v1 w1 hown hgrow _ hat; rw [Nat.zero_add, List.nil_append] at hown; have hb1 := below_grown hgrow (by intro j hj; simp [Value.ownBlock] at hj) (Nat.le_refl _); have c1 := zatB c0 hb1; have f1 := (hb1.frozen (p := ⟨rb, 0, none⟩) hrl).trans f0; obtain ⟨q, nn, cc, rfl⟩ := own_form hown; have HOwn := Lib.hid hown; have HB1 := Lib.hid hb1; have HA1 := Lib.hid (own_new (B := w.heap.size) hat (by simp [Value.ownBlock]) (Nat.le_refl _)); clear hown hgrow hat hb1) | (at_builtin; refine wpList_append_own_at _ rfl _ _ 30 rfl 0 24 i0 (.agg #[.int .i64 0, .int .i64 0]) 2 16 Try.underlying30 hi0 hz0 hz1 hz2 rfl (by decide) (.slice q nn cc) i ((S.take i).flatMap keyC) rfl HOwn.out ⟨g, 0, none⟩ (S.length - (i + 1)) 0 ((S.drop (i + 1)).flatMap keyC) rfl hl2 (fun j u hu => by rw [hdn.out] at hu; simp at hu) o2 (by unfold maxLen; omega) (by omega) (Nat.zero_le _) ?_; intro v2 w2 hown2 hgrow2 _ hat2; have hb2 := below_grown (B := w.heap.size) hgrow2 HA1.out HB1.out.size; have c2 := zatB c0 (HB1.out.trans hb2); have f2 := ((HB1.out.trans hb2).frozen (p := ⟨rb, 0, none⟩) hrl).trans f0; obtain ⟨q2, nn2, cc2, rfl⟩ := own_form hown2; have HOwn2 := Lib.hid hown2; have HB2 := Lib.hid (HB1.out.trans hb2); have HA2 := Lib.hid (own_new2 (B := w.heap.size) hat2 HA1.out HB1.out.size); clear hown2 hgrow2 hat2 hb2))
    go_ret2
    refine ⟨rfl, ref_set HH.out HB2.out HOwn2.out ?_ ?_ HA2.out⟩
    · rw [List.length_append, List.length_take, List.length_drop]; omega
    · rw [List.flatMap_append]
  · have hcap2 : i + 1 < cap := by omega
    go_enter Try.func97, Try.ntmps97
    go_wp2_with (first | (go_at_call 95; refine HAt.out.mono ?_; rintro e w' ⟨rfl, rfl⟩) | (at_builtin; refine wpList_append_own_at _ rfl _ _ 30 rfl 0 24 i0 (.agg #[.int .i64 0, .int .i64 0]) 2 16 Try.underlying30 hi0 hz0 hz1 hz2 rfl (by decide) (.slice none 0 0) 0 [] rfl (World.ownsRow_nil _ _ _ _) ⟨g, 0, none⟩ i cap ((S.take i).flatMap keyC) rfl hl1 HN1.out o1 (by unfold maxLen; omega) (by omega) (Nat.zero_le _) ?_; intro v1 w1 hown hgrow _ hat; rw [Nat.zero_add, List.nil_append] at hown; have hb1 := below_grown hgrow (by intro j hj; simp [Value.ownBlock] at hj) (Nat.le_refl _); have c1 := zatB c0 hb1; have f1 := (hb1.frozen (p := ⟨rb, 0, none⟩) hrl).trans f0; obtain ⟨q, nn, cc, rfl⟩ := own_form hown; have HOwn := Lib.hid hown; have HB1 := Lib.hid hb1; have HA1 := Lib.hid (own_new (B := w.heap.size) hat (by simp [Value.ownBlock]) (Nat.le_refl _)); clear hown hgrow hat hb1) | (at_builtin; refine wpList_append_own_at _ rfl _ _ 30 rfl 0 24 i0 (.agg #[.int .i64 0, .int .i64 0]) 2 16 Try.underlying30 hi0 hz0 hz1 hz2 rfl (by decide) (.slice q nn cc) i ((S.take i).flatMap keyC) rfl HOwn.out ⟨g, (i + 1) * 2, none⟩ (S.length - (i + 1)) (cap - (i + 1)) ((S.drop (i + 1)).flatMap keyC) rfl hl2 (fun j u hu => zatB (HN2.out j u hu) HB1.out) o2 (by unfold maxLen; omega) (by omega) (Nat.zero_le _) ?_; intro v2 w2 hown2 hgrow2 _ hat2; have hb2 := below_grown (B := w.heap.size) hgrow2 HA1.out HB1.out.size; have c2 := zatB c0 (HB1.out.trans hb2); have f2 := ((HB1.out.trans hb2).frozen (p := ⟨rb, 0, none⟩) hrl).trans f0; obtain ⟨q2, nn2, cc2, rfl⟩ := own_form hown2; have HOwn2 := Lib.hid hown2; have HB2 := Lib.hid (HB1.out.trans hb2); have HA2 := Lib.hid (own_new2 (B := w.heap.size) hat2 HA1.out HB1.out.size); clear hown2 hgrow2 hat2 hb2))
    go_ret2
    refine ⟨rfl, ref_set HH.out HB2.out HOwn2.out ?_ ?_ HA2.out⟩
    · rw [List.length_append, List.length_take, List.length_drop]; omega
    · rw [List.flatMap_append]
end
end Go.Proofs.Ytkjpkhpiojahkaa
