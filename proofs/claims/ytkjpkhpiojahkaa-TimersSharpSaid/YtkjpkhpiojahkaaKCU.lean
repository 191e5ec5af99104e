/-
  Walk: Change.
  Heaps of keys, as pieces of memory: one contract for each call.
-/
import Derived.Test.YtkjpkhpiojahkaaKAA
import Derived.Deep.RegionHeld3
import Derived.Test.YtkjpkhpiojahkaaUR
import Derived.Test.YtkjpkhpiojahkaaBase
/-! ### Walk: Change. -/
namespace Go.Proofs.Ytkjpkhpiojahkaa.Ke
set_option linter.unusedVariables false
open Go.RowKit Hp

theorem Raw.set_key {w : World} {A : List (It (Int × Int))} {g cap : Nat} (h : w.ownsRow 0 191 3 (.slice (some ⟨g, 0, none⟩) A.length cap) A.length (A.flatMap itC)) {i : Nat} {id : Int} {k0 : Int × Int} (hi : A[i]? = some (id, k0)) (k : Int × Int) :
    ((w.setCell ⟨g, i * 3 + 1, none⟩ (.int .i64 k.1)).setCell ⟨g, i * 3 + 2, none⟩ (.int .i64 k.2)).ownsRow 0 191 3 (.slice (some ⟨g, 0, none⟩) A.length cap) A.length ((A.set i (id, k)).flatMap itC) := by
  have hil := (List.getElem?_eq_some_iff.1 hi).1
  have h2 := own_setG (i := i * 3 + 2) (y := .int .i64 k.2) (own_setG (i := i * 3 + 1) (y := .int .i64 k.1) h)
  have hl := flat_length itC 3 itC_len A
  have e := flat_set itC 3 itC_len A i (id, k) hil (((A.flatMap itC).set (i * 3 + 1) (.int .i64 k.1)).set (i * 3 + 2) (.int .i64 k.2)) (by simp [hl]) (fun j hj => by
    rw [List.getElem?_set, List.getElem?_set]
    by_cases h1 : i * 3 + 2 = j
    · subst h1
      simp [hl, hj, itC]
    · rw [if_neg h1]
      by_cases h2 : i * 3 + 1 = j
      · subst h2
        simp [hl, hj, itC]
      · rw [if_neg h2]
        by_cases h3 : i * 3 = j
        · subst h3
          have := flat_at itC 3 itC_len A i 0 _ hi (by omega)
          rw [Nat.add_zero] at this
          rw [this]
          simp [itC]
        · rw [if_neg (by omega)])
  rw [← e]
  exact h2

section
variable {w : World} {hb lf : Nat} {lt : (Int × Int) → (Int × Int) → Bool} {F : Nat → Prop} {M : List (It (Int × Int))}

set_option maxRecDepth 100000 in
set_option maxHeartbeats 4000000 in
theorem Change_some {u : World} (HL : LessI lf lt) (h0 : HeapAt u hb lf lt F M) {id : Int} {k0 : Int × Int} (hm : (id, k0) ∈ M) (k : Int × Int) (hM : M.length < 1000000) :
    Calls Try.prog 103 #[.pointer (some ⟨hb, 0, none⟩), .int .i64 id, .agg #[.int .i64 k.1, .int .i64 k.2]] u fun e w' => e = .returned (.int .i64 0) ∧ HeapTo u w' hb lf lt F ((id, k) :: M.erase (id, k0)) := by
  obtain ⟨w, hw⟩ : ∃ w, u.alloc (.cells #[.int .i64 k.1, .int .i64 k.2] 24) = w := ⟨_, rfl⟩
  have hbu : Below u.heap.size u w := by rw [← hw]; exact (Below.refl _ u).alloc (Nat.le_refl _) _
  have p0 : w.cell? ⟨u.heap.size, 0, none⟩ = some (.int .i64 k.1) := by rw [← hw, World.cell?_alloc_at _ _ _ _ rfl]; rfl
  have p1 : w.cell? ⟨u.heap.size, 1, none⟩ = some (.int .i64 k.2) := by rw [← hw, World.cell?_alloc_at _ _ _ _ rfl]; rfl
  have h := h0.below hbu
  have hltF : ∀ j, F j → j < u.heap.size := fun j hj => h0.lt_F hj
  have hwf := (h.ids _ hm).2
  obtain ⟨v, mb, A, f, hraw, hheap, hpos, hperm, hids, hF1, hF2, hF3⟩ := h
  obtain ⟨i, hi, hf⟩ := HeapAt.place hraw hpos hperm hm
  have hth := there_some hraw hwf hf
  have hc1 := hraw.c1
  have hlt := hraw.lt
  have hil := (List.getElem?_eq_some_iff.1 hi).1
  have hAl : A.length < 1000000 := by rw [hperm.length_eq]; exact hM
  have hyd : A.getD i (0, 0, 0) = (id, k0) := by rw [getD_of (by omega)]; rw [List.getElem?_eq_getElem (by omega)] at hi; exact Option.some.inj hi
  obtain ⟨g, cap, rfl, d0, ⟨d1, d2⟩, f0, ⟨f1, f2⟩, hg⟩ := hraw.cell hi
  dsimp only at d0 d1 d2
  have hgg := hraw.own_ne (j := g) rfl
  obtain ⟨W, hW⟩ : ∃ W, (w.setCell ⟨g, i * 3 + 1, none⟩ (.int .i64 k.1)).setCell ⟨g, i * 3 + 2, none⟩ (.int .i64 k.2) = W := ⟨_, rfl⟩
  have hset : Mod (fun j => j = g) w W := by rw [← hW]; exact ((Mod.refl (fun j => j = g) w).setCell (p := ⟨g, i * 3 + 1, none⟩) (fun _ => rfl) _).setCell (p := ⟨g, i * 3 + 2, none⟩) (fun _ => rfl) _
  have hrW : Raw W.drew hb lf (.slice (some ⟨g, 0, none⟩) A.length cap) mb (A.set i (id, k)) A.length f :=
    ⟨hset.obj hraw.st (fun e => hgg.1 e.symm), by rw [List.length_set]; have := Raw.set_key hraw.row hi k; rw [hW] at this; exact own_same this fun j o _ ho _ => ho, hraw.map.mod hset.drew (fun e => hgg.2.1 e.symm)⟩
  have hpos1 : Pos (A.set i (id, k)) (0, 0, 0) f := by
    have := hpos.change hil k
    rwa [hyd] at this
  have hcp := change_perm hil (0, 0, 0) (id, k)
  rw [hyd] at hcp
  have hids2 : ∀ y ∈ A.set i (id, k), 0 ≤ y.1 ∧ (Lit.int .i64 y.1).wf = true := fun y hy => by
    rcases List.mem_cons.1 (hcp.mem_iff.1 hy) with rfl | h
    · exact hids (id, k0) hm
    · exact hids y (hperm.mem_iff.1 (List.mem_of_mem_erase h))
  have hup := up_then HL hrW hil hheap hpos1 (fun y hy => (hids2 y hy).2) (by unfold maxLen; omega) (by omega)
  have hfoot : ∀ j, Foot (.slice (some ⟨g, 0, none⟩) A.length cap) mb j → F j := hF2
  have hfin : ∀ (w' : World) (A' : List (It (Int × Int))) (f' : Int → Option Nat), Mod F w w' → Raw w' hb lf (.slice (some ⟨g, 0, none⟩) A.length cap) mb A' A.length f' → A'.Perm (A.set i (id, k)) → IsHeap lt A' (0, 0, 0) → Pos A' (0, 0, 0) f' →
      HeapTo u w' hb lf lt F ((id, k) :: M.erase (id, k0)) := fun w' A' f' h1 h2 h3 h4 h5 => by
    have hl : A'.length = A.length := by rw [h3.length_eq, List.length_set]
    have hp : A'.Perm ((id, k) :: M.erase (id, k0)) := h3.trans (hcp.trans ((hperm.erase _).cons _))
    exact ⟨F, ⟨_, mb, A', f', by rw [hl]; exact h2, h4, h5, hp, fun x hx => hids2 x (h3.mem_iff.1 (hp.mem_iff.2 hx)), hF1, hF2, fun j hj => Nat.lt_of_lt_of_le (hF3 j hj) h1.size⟩, (Mod.of_below (S := F) hbu).trans h1 (fun _ h _ => h), fun _ h => .inl h⟩
  have hMs : Mod F w W.drew := (hset.mono (fun j hj _ => by rw [hj]; exact hF2 g (.inl rfl))).drew
  have hi0 : (0 : Int) ≤ (i : Int) := by omega
  have hilI : (i : Int) < (A.length : Int) := by omega
  have hgu : ¬ g = u.heap.size := fun e => by have := hltF g (hF2 g (.inl rfl)); omega
  have hgu2 : ¬ u.heap.size = g := fun e => hgu e.symm
  have hgh : ¬ g = hb := hgg.1
  have hgh2 : ¬ hb = g := fun e => hgg.1 e.symm
  have wc1 : W.cell? ⟨hb, 1, none⟩ = some (.slice (some ⟨g, 0, none⟩) A.length cap) := hset.cell hc1 hgh2
  have wc2 : W.cell? ⟨u.heap.size, 0, none⟩ = some (.int .i64 k.1) := hset.cell p0 hgu2
  have wc3 : W.cell? ⟨u.heap.size, 1, none⟩ = some (.int .i64 k.2) := hset.cell p1 hgu2
  have HTh := Lib.hid hth
  have HUp := Lib.hid hup
  have HFin := Lib.hid hfin
  have HFoot := Lib.hid hfoot
  have HIds := Lib.hid hids2
  have HMs := Lib.hid hMs
  clear hth hup hfin hfoot hids2 hMs hids hF1 hF2 hF3 hcp hpos1 hrW hset hgg hyd hf hi hm hwf hperm hpos hheap hraw h0 hbu hltF
  go_enter Try.func103, Try.ntmps103
  go_wp2_with (first | (go_at_call 145; refine HTh.out.mono ?_; rintro e w' ⟨rfl, rfl⟩))
  go_region_held3 (fun A0 => A0.cell? ⟨hb, 1, none⟩ = some (.slice (some ⟨g, 0, none⟩) A.length cap) ∧ A0.cell? ⟨u.heap.size, 0, none⟩ = some (.int .i64 k.1) ∧ A0.cell? ⟨u.heap.size, 1, none⟩ = some (.int .i64 k.2))
    (first | (refine ⟨?_, ?_, ?_⟩ <;> assumption) | go_keep) (first | fail)
  go_wp2_with fail
  refine HUp.out.mono ?_
  rintro e w4 ⟨rfl, A', f', i', hr4, hp4, hpos4, hm4, hi4, hfx4, hxe4, hdn4⟩
  have c4 := hr4.c2
  have hA'l : A'.length = A.length := by rw [hp4.length_eq, List.length_set]
  have hlk : (Instr.lookup 182 (.map (some mb)) (.int .i64 id) false).run Try.prog w4 = .ok (.int .i64 (i' : Int)) w4 := by
    have := hr4.map.toI.lookup (t := 182) (e := 3) Try.underlying3 Try.underlying182 (zero3 w4) (x := id) (HIds.out (id, k) (List.mem_of_getElem? (i := i) (by rw [List.getElem?_set_self hil]))).2
    rw [lift_some hfx4] at this
    exact this
  have hdown := down_any HL hr4 hi4 hdn4 (hpos4.but hi4) (fun y hy => (HIds.out y (hp4.mem_iff.1 hy)).2) (by unfold maxLen; omega) (by omega)
  rw [hxe4, hfx4, show (some i').isSome = true from rfl, if_pos rfl] at hdown
  have HDown := Lib.hid hdown
  have HM4 := Lib.hid (HMs.out.trans hm4 (fun j hj _ => HFoot.out j hj))
  have HP4 := Lib.hid hp4
  clear hr4 hp4 hpos4 hm4 hi4 hfx4 hxe4 hdn4 hdown hA'l
  go_wp2_with (first | (go_at_call 147; refine HDown.out.mono ?_; rintro e w5 ⟨rfl, A5, f5, hr5, hp5, hh5, hpos5, hm5⟩; have HTo := Lib.hid (HFin.out w5 A5 f5 (HM4.out.trans hm5 (fun j hj _ => HFoot.out j hj)) hr5 (hp5.trans HP4.out) hh5 hpos5); clear hr5 hp5 hh5 hpos5 hm5))
  go_ret
  exact ⟨rfl, HTo.out⟩
end
end Go.Proofs.Ytkjpkhpiojahkaa.Ke

/-! ### Heaps of keys, as pieces of memory: one contract for each call. -/
namespace Go.Proofs.Ytkjpkhpiojahkaa.Ke
set_option linter.unusedVariables false
open Go.RowKit Hp

/-- a heap of keys, as a piece of memory -/
def HK (hb lf : Nat) (lt : (Int × Int) → (Int × Int) → Bool) (M : List (It (Int × Int))) : Ast where
  holds w F := HeapAt w hb lf lt F M
  stable := fun h hm hS => h.mod hm hS
  lt := fun h hj => h.lt_F hj

/-- the order that goes the other way -/
def feb (a b : Int × Int) : Bool := bef b a
theorem feb_swo : Swo feb := ⟨fun a => by unfold feb; rw [nbef_iff]; omega, fun a b c h1 h2 => by unfold feb at *; rw [bef_iff] at *; omega, fun a b c h1 h2 => by unfold feb at *; rw [nbef_iff] at *; omega⟩
set_option maxHeartbeats 1000000 in
theorem feb_any (a1 a2 b1 b2 : Int) (w : World) : Calls Try.prog 91 #[.agg #[.int .i64 a1, .int .i64 a2], .agg #[.int .i64 b1, .int .i64 b2]] w fun e w' => e = .returned (.bool (feb (a1, a2) (b1, b2))) ∧ Below w.heap.size w w' := by
  obtain ⟨w1, hw1⟩ : ∃ w1, (w.alloc (.cells #[.int .i64 a1, .int .i64 a2] 24)).alloc (.cells #[.int .i64 b1, .int .i64 b2] 24) = w1 := ⟨_, rfl⟩
  have hb1 : Below w.heap.size w w1 := by rw [← hw1]; exact ((Below.refl _ w).alloc (Nat.le_refl _) _).alloc (by simp) _
  have p0 : w1.cell? ⟨w.heap.size, 0, none⟩ = some (.int .i64 a1) := by rw [← hw1, World.cell?_alloc_past _ _ _ (by simp), World.cell?_alloc_at _ _ _ _ rfl]; rfl
  have p1 : w1.cell? ⟨w.heap.size, 1, none⟩ = some (.int .i64 a2) := by rw [← hw1, World.cell?_alloc_past _ _ _ (by simp), World.cell?_alloc_at _ _ _ _ rfl]; rfl
  have p2 : w1.cell? ⟨w.heap.size + 1, 0, none⟩ = some (.int .i64 b1) := by rw [← hw1, World.cell?_alloc_at _ _ _ _ (by simp)]; rfl
  have p3 : w1.cell? ⟨w.heap.size + 1, 1, none⟩ = some (.int .i64 b2) := by rw [← hw1, World.cell?_alloc_at _ _ _ _ (by simp)]; rfl
  have HC := Lib.hid (before_any b1 b2 a1 a2 w1)
  have HB := Lib.hid hb1
  clear hb1
  go_enter Try.func91, Try.ntmps91
  go_wp2_with fail
  refine HC.out.mono ?_
  rintro e w2 ⟨rfl, hb2⟩
  have HB2 := Lib.hid (HB.out.trans (hb2.mono HB.out.size))
  clear hb2
  go_wp2
  go_ret
  exact ⟨rfl, HB2.out⟩
theorem lessF : LessI 91 feb := ⟨enters_of Try.func91 (by kernel_rfl) rfl, fun x y w => feb_any x.1 x.2 y.1 y.2 w, feb_swo⟩

def putM (S : List (It (Int × Int))) (id : Int) (k : Int × Int) : List (It (Int × Int)) := if id < 0 then S else if has S id then S else (id, k) :: S
def chM (S : List (It (Int × Int))) (id : Int) (k : Int × Int) : List (It (Int × Int)) := if has S id then (id, k) :: without S id else S

section
variable {w0 w : World} {hb lf : Nat} {lt : (Int × Int) → (Int × Int) → Bool} {S : List (It (Int × Int))} {R : Ast} {id : Int} {k : Int × Int}
theorem distinctK (h : On w0 w (sep (HK hb lf lt S) R)) : S.Pairwise fun a b => a.1 ≠ b.1 := by
  obtain ⟨F, hF, _⟩ := h.get1
  exact HeapAt.distinct hF
theorem permK {M' : List (It (Int × Int))} (hp : S.Perm M') (F : Nat → Prop) (h : (HK hb lf lt S).holds w F) : (HK hb lf lt M').holds w F := HeapAt.perm h hp
theorem KU_new (h : On w0 w R) (lf : Nat) (lt : (Int × Int) → (Int × Int) → Bool) : Calls Try.prog 90 #[.func (.func lf) #[] #[]] w fun e w' => ∃ hb, e = .returned (.tuple #[.pointer (some ⟨hb, 0, none⟩), .int .i64 0]) ∧ On w0 w' (sep (HK hb lf lt []) R) :=
  (New_ok lt w).mono fun _ _ ⟨hb, F, he, h1, h2, h3⟩ => ⟨hb, he, h.add (B := HK hb lf lt []) h2 h1 h3⟩
theorem KU_put (HL : LessI lf lt) (h : On w0 w (sep (HK hb lf lt S) R)) (hl : S.length < 900000) (id : Int) (k : Int × Int) (hw : (Lit.int .i64 id).wf = true) :
    Calls Try.prog 139 #[.pointer (some ⟨hb, 0, none⟩), .int .i64 id, .agg #[.int .i64 k.1, .int .i64 k.2]] w fun e w' => e = .returned (.int .i64 (putE S id)) ∧ On w0 w' (sep (HK hb lf lt (putM S id k)) R) := by
  unfold putE putM
  obtain ⟨F, hF, _⟩ := h.get1
  by_cases h0 : id < 0
  · rw [if_pos h0, if_pos h0]
    exact (Put_bad hF hw h0).mono fun e w' ⟨he, hb⟩ => ⟨he, h.below hb⟩
  · rw [if_neg h0, if_neg h0]
    cases hh : has S id with
    | true =>
      obtain ⟨k0, hk⟩ := has_some hh
      rw [if_pos rfl, if_pos rfl]
      exact (Put_there hF hk).mono fun e w' ⟨he, hb⟩ => ⟨he, h.below hb⟩
    | false =>
      rw [if_neg (by simp), if_neg (by simp)]
      exact h.call1 (B := HK hb lf lt ((id, k) :: S)) fun F hF => Put_ok HL hF id k (by omega) hw (has_none.1 hh) (by omega)
theorem KU_change (HL : LessI lf lt) (h : On w0 w (sep (HK hb lf lt S) R)) (hl : S.length < 900000) (id : Int) (k : Int × Int) (hw : (Lit.int .i64 id).wf = true) :
    Calls Try.prog 103 #[.pointer (some ⟨hb, 0, none⟩), .int .i64 id, .agg #[.int .i64 k.1, .int .i64 k.2]] w fun e w' => e = .returned (.int .i64 (hasE S id)) ∧ On w0 w' (sep (HK hb lf lt (chM S id k)) R) := by
  unfold hasE chM
  obtain ⟨F, hF, _⟩ := h.get1
  cases hh : has S id with
  | true =>
    obtain ⟨k0, hk⟩ := has_some hh
    rw [if_pos rfl, if_pos rfl, without_erase (distinctK h) hk]
    exact h.call1 (B := HK hb lf lt ((id, k) :: S.erase (id, k0))) fun F hF => Change_some HL hF hk k (by omega)
  | false =>
    rw [if_neg (by simp), if_neg (by simp)]
    exact (Change_none hF hw (has_none.1 hh)).mono fun e w' ⟨he, hb⟩ => ⟨he, h.below hb⟩
theorem KU_drop (HL : LessI lf lt) (h : On w0 w (sep (HK hb lf lt S) R)) (hl : S.length < 900000) (id : Int) (hw : (Lit.int .i64 id).wf = true) :
    Calls Try.prog 142 #[.pointer (some ⟨hb, 0, none⟩), .int .i64 id] w fun e w' => e = .returned (.tuple #[.agg #[.int .i64 (keyAt (0, 0) S id).1, .int .i64 (keyAt (0, 0) S id).2], .int .i64 (hasE S id)]) ∧ On w0 w' (sep (HK hb lf lt (without S id)) R) := by
  unfold hasE
  obtain ⟨F, hF, _⟩ := h.get1
  cases hh : has S id with
  | true =>
    obtain ⟨k0, hk⟩ := has_some hh
    rw [if_pos rfl, without_erase (distinctK h) hk, keyAt_mem (distinctK h) hk]
    exact h.call1 (B := HK hb lf lt (S.erase (id, k0))) fun F hF => Drop_some HL hF hk (by omega)
  | false =>
    rw [if_neg (by simp), without_none hh, keyAt_none hh]
    exact (Drop_none hF hw (has_none.1 hh)).mono fun e w' ⟨he, hb⟩ => ⟨he, h.below hb⟩
theorem KU_get (h : On w0 w (sep (HK hb lf lt S) R)) (hl : S.length < 900000) (id : Int) (hw : (Lit.int .i64 id).wf = true) :
    Calls Try.prog 101 #[.pointer (some ⟨hb, 0, none⟩), .int .i64 id] w fun e w' => e = .returned (.tuple #[.agg #[.int .i64 (keyAt (0, 0) S id).1, .int .i64 (keyAt (0, 0) S id).2], .int .i64 (hasE S id)]) ∧ Below w.heap.size w w' := by
  unfold hasE
  obtain ⟨F, hF, _⟩ := h.get1
  cases hh : has S id with
  | true =>
    obtain ⟨k0, hk⟩ := has_some hh
    rw [if_pos rfl, keyAt_mem (distinctK h) hk]
    exact Get_some hF hk (by omega)
  | false =>
    rw [if_neg (by simp), keyAt_none hh]
    exact Get_none hF hw (has_none.1 hh)
theorem KU_peek (HL : LessI lf lt) (h : On w0 w (sep (HK hb lf lt S) R)) {T : List (It (Int × Int))} (hp : S.Perm T) (hs : Sorted lt T) :
    Calls Try.prog 100 #[.pointer (some ⟨hb, 0, none⟩)] w fun e w' => e = .returned (.tuple #[.int .i64 (T.headD (0, 0, 0)).1, .agg #[.int .i64 (T.headD (0, 0, 0)).2.1, .int .i64 (T.headD (0, 0, 0)).2.2], .int .i64 (headE T)]) ∧ Below w.heap.size w w' := by
  obtain ⟨F, hF, _⟩ := h.get1
  have hF := HeapAt.perm hF hp
  cases T with
  | nil => exact Peek_none hF
  | cons x T => exact Peek_some HL hF hs
theorem KU_len (h : On w0 w (sep (HK hb lf lt S) R)) :
    Calls Try.prog 99 #[.pointer (some ⟨hb, 0, none⟩)] w fun e w' => e = .returned (.int .i64 (S.length : Int)) ∧ w = w' := by
  obtain ⟨F, hF, _⟩ := h.get1
  exact Len_ok hF
theorem KU_copy (h : On w0 w (sep (HK hb lf lt S) R)) (hl : S.length < 900000) :
    Calls Try.prog 105 #[.pointer (some ⟨hb, 0, none⟩)] w fun e w' => ∃ hc, e = .returned (.pointer (some ⟨hc, 0, none⟩)) ∧ On w0 w' (sep (HK hc lf lt S) (sep (HK hb lf lt S) R)) := by
  obtain ⟨F, hF, _⟩ := h.get1
  refine (Copy_ok hF (by omega)).mono ?_
  rintro e w' ⟨hb', F', he, h1, h2, h3⟩
  exact ⟨hb', he, h.add h2 (B := HK hb' lf lt S) h1 h3⟩
end
end Go.Proofs.Ytkjpkhpiojahkaa.Ke
