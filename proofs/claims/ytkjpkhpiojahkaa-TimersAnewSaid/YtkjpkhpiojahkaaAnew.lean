/-
  Timers: plain facts on timers that are armed again, and on a clock that goes on in two steps. No program in sight.
-/
import Derived.Test.YtkjpkhpiojahkaaT7
namespace Go.Proofs.Ytkjpkhpiojahkaa
set_option linter.unusedVariables false
open Go.RowKit Hp

/-- the last time for which a timer was armed -/
def lastT (ks : List (Int × Int)) (id : Int) : Int := ks.foldl (fun m k => if k.2 = id ∧ timeE k.1 = 0 then k.1 else m) (-1)
theorem lastT_snoc (ks : List (Int × Int)) (k : Int × Int) (id : Int) : lastT (ks ++ [k]) id = if k.2 = id ∧ timeE k.1 = 0 then k.1 else lastT ks id := by
  unfold lastT
  rw [List.foldl_append]
  rfl
/-- what arming leaves -/
structure Anew (ks : List (Int × Int)) (S : List (It Int)) : Prop where
  sorted : Sorted ltI S
  timed : Timed S
  len : S.length ≤ ks.length
  ids : ∀ x ∈ S, 0 ≤ x.1
  last : ∀ x ∈ S, lastT ks x.1 = x.2
theorem Anew.start : Anew [] [] := ⟨List.Pairwise.nil, (fun x hx => by cases hx), by simp, (fun x hx => by cases hx), (fun x hx => by cases hx)⟩
theorem Anew.arm {ks : List (Int × Int)} {S : List (It Int)} (h : Anew ks S) (k : Int × Int) (hl : ks.length < 1024) : Anew (ks ++ [k]) (armS S 1024 k.2 k.1) := by
  have hlen := h.len
  by_cases he : armE S 1024 k.2 k.1 = 0
  · have e : armS S 1024 k.2 k.1 = ins ltI (k.2, k.1) (without S k.2) := by unfold armS; rw [if_pos he]
    have hid : ¬ k.2 < 0 := fun h => by unfold armE at he; rw [if_pos h] at he; cases he
    have ht : timeE k.1 = 0 := by
      unfold armE at he
      rw [if_neg hid] at he
      split at he
      · assumption
      · exact he
    rw [e]
    refine ⟨ins_sorted ltI_swo (h.sorted.sublist without_sub) (fun y hy => ?_), fun x hx => ?_, ?_, fun x hx => ?_, fun x hx => ?_⟩
    · have := (List.mem_filter.1 hy).2
      simpa using this
    · rcases ins_mem.1 hx with rfl | hx
      · exact ht
      · exact h.timed x (without_sub.subset hx)
    · rw [ins_length, List.length_append, List.length_singleton]
      have := without_length_le (S := S) (id := k.2)
      omega
    · rcases ins_mem.1 hx with rfl | hx
      · exact Int.not_lt.1 hid
      · exact h.ids x (without_sub.subset hx)
    · rw [lastT_snoc]
      rcases ins_mem.1 hx with rfl | hx
      · rw [if_pos ⟨rfl, ht⟩]
      · have hne : x.1 ≠ k.2 := by simpa using (List.mem_filter.1 hx).2
        rw [if_neg fun hc => hne hc.1.symm]
        exact h.last x (without_sub.subset hx)
  · have e : armS S 1024 k.2 k.1 = S := by unfold armS; rw [if_neg he]
    rw [e]
    refine ⟨h.sorted, h.timed, by rw [List.length_append]; omega, h.ids, fun x hx => ?_⟩
    rw [lastT_snoc, if_neg]
    · exact h.last x hx
    · rintro ⟨h1, h2⟩
      apply he
      have := h.ids x hx
      unfold armE
      rw [if_neg (by omega), if_pos h2, if_neg (by omega)]
theorem upto_two {S : List (It Int)} {t0 t1 : Int} (h : t0 ≤ t1) : upto S t0 ++ upto (late S t0) t1 = upto S t1 := by
  induction S with
  | nil => rfl
  | cons x S ih =>
    by_cases hx : x.2 ≤ t0
    · have e : late (x :: S) t0 = late S t0 := by unfold late; rw [upto_head hx]; rfl
      rw [e, upto_head hx, upto_head (by omega), List.cons_append, ih]
    · have e0 : upto (x :: S) t0 = [] := by unfold upto; rw [List.takeWhile_cons_of_neg (by simpa using hx)]
      have e : late (x :: S) t0 = x :: S := by unfold late; rw [e0]; rfl
      rw [e, e0, List.nil_append]
/-- what fired, with how late it was -/
def lateC (p : It Int × Int) : List Value := [.int .i64 p.1.1, .int .i64 p.1.2, .int .i64 p.2]
theorem lateC_len (p : It Int × Int) : (lateC p).length = 3 := rfl
def withL (t : Int) (U : List (It Int)) : List (It Int × Int) := U.map fun x => (x, t - x.2)
theorem withL_flat (t : Int) (U : List (It Int)) : (withL t U).flatMap lateC = U.flatMap (firedC t) := by
  unfold withL
  rw [List.flatMap_map]
  rfl
def lateA (v : Value) (X : List (It Int × Int)) : Ast := rowA v 64 3 X.length (X.flatMap lateC)
theorem Plain.lateA (v : Value) (X : List (It Int × Int)) : Plain (lateA v X) := Plain.row _ _ _ _ _
theorem On.late_at {w0 w : World} {v : Value} {X : List (It Int × Int)} {R : Ast} (h : On w0 w (sep (lateA v X) R)) : ∃ a c, v = .slice a X.length c ∧
    ∀ k p, X[k]? = some p → ∃ b off, a = some ⟨b, off, none⟩ ∧ w.cell? ⟨b, off + k * 3, none⟩ = some (.int .i64 p.1.1) ∧ w.cell? ⟨b, off + k * 3 + 1, none⟩ = some (.int .i64 p.1.2) ∧ w.cell? ⟨b, off + k * 3 + 2, none⟩ = some (.int .i64 p.2) := by
  obtain ⟨F, hF, _⟩ := h.get1
  have h1 : w.ownsRow 0 64 3 v X.length (X.flatMap lateC) := hF.1
  rcases own_parts h1 with ⟨h2, h3⟩ | ⟨g, cap, cur, h2, _⟩
  · exact ⟨none, 0, by rw [h2, h3], fun k p hp => by have := (List.getElem?_eq_some_iff.1 hp).1; omega⟩
  · subst h2
    refine ⟨_, _, rfl, fun k p hp => ⟨g, 0, rfl, ?_⟩⟩
    have e : ∀ j, j < 3 → (X.flatMap lateC)[k * 3 + j]? = (lateC p)[j]? := fun j hj => flat_at lateC 3 lateC_len X k j p hp hj
    refine ⟨?_, ?_, ?_⟩
    · rw [Nat.zero_add]; exact own_cellG h1 (e 0 (by omega))
    · rw [Nat.zero_add]; exact own_cellG h1 (e 1 (by omega))
    · rw [Nat.zero_add]; exact own_cellG h1 (e 2 (by omega))
theorem own_len {w : World} {B n m c t size : Nat} {q : Option Addr} {xs : List Value} (h : w.ownsRow B t size (.slice q n c) m xs) : n = m := by
  rcases own_parts h with ⟨h1, h2⟩ | ⟨g, cap, cur, h1, _⟩
  · injection h1 with _ h1 _
    rw [h1, h2]
  · injection h1
theorem fired_one (t : Int) (U : List (It Int)) : ∀ u ∈ U.flatMap (firedC t), u.oneCell' = true := fun u hu => by
  obtain ⟨x, _, hx⟩ := List.mem_flatMap.1 hu
  simp only [firedC, List.mem_cons, List.not_mem_nil, or_false] at hx
  rcases hx with rfl | rfl | rfl <;> rfl
theorem On.late_get {w0 w : World} {a : Option Addr} {n c k : Nat} {X : List (It Int × Int)} {p : It Int × Int} {R : Ast} (h : On w0 w (sep (lateA (.slice a n c) X) R)) (hp : X[k]? = some p) :
    ∃ b off, a = some ⟨b, off, none⟩ ∧ w.cell? ⟨b, off + k * 3, none⟩ = some (.int .i64 p.1.1) ∧ w.cell? ⟨b, off + k * 3 + 1, none⟩ = some (.int .i64 p.1.2) ∧ w.cell? ⟨b, off + k * 3 + 2, none⟩ = some (.int .i64 p.2) := by
  obtain ⟨a', c', he, hf⟩ := h.late_at
  injection he with he1 he2 he3
  subst he1
  exact hf k p hp
theorem On.to_late {w0 w : World} {v : Value} {m : Nat} {xs : List Value} {X : List (It Int × Int)} {R : Ast} (h : On w0 w (sep (rowA v 64 3 m xs) R)) (hm : X.length = m) (hx : X.flatMap lateC = xs) : On w0 w (sep (lateA v X) R) := by
  subst hm
  subst hx
  exact h
/-- the two steps against the one -/
theorem two_late {U0 U1 : List (It Int)} {t0 t1 : Int} (h : t0 ≤ t1) {k : Nat} {x : It Int} (hx : (U0 ++ U1)[k]? = some x) :
    ∃ l, (withL t0 U0 ++ withL t1 U1)[k]? = some (x, l) ∧ l ≤ t1 - x.2 := by
  unfold withL
  rcases Nat.lt_or_ge k U0.length with hk | hk
  · rw [List.getElem?_append_left hk] at hx
    exact ⟨t0 - x.2, by rw [List.getElem?_append_left (by simpa using hk), List.getElem?_map, hx]; rfl, by omega⟩
  · rw [List.getElem?_append_right hk] at hx
    exact ⟨t1 - x.2, by rw [List.getElem?_append_right (by simpa using hk), List.getElem?_map, List.length_map, hx]; rfl, Int.le_refl _⟩
end Go.Proofs.Ytkjpkhpiojahkaa
