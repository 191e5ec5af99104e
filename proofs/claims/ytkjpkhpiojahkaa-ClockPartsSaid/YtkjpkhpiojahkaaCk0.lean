/-
  Clock: what each call does, as functions on lists. No program in sight.
-/
import Derived.Test.YtkjpkhpiojahkaaTA
import Derived.Test.YtkjpkhpiojahkaaPl1
namespace Go.Proofs.Ytkjpkhpiojahkaa
set_option linter.unusedVariables false
open Go.RowKit Hp

/-- a clock: its queue, for which times timers are, latenesses, the time, how late the latest one was -/
structure Ck where
  S : List (It Int)
  ats : List Int
  lates : List Int
  now : Int
  worst : Int
/-- a timer that fired: kind, number, for when, how late, when -/
structure Ev where
  kind : Int
  id : Int
  at' : Int
  late : Int
  now : Int
def nm (k id : Int) : Int := k * 64 + id
def mayT (k id : Int) : Prop := 0 ≤ k ∧ k < 8 ∧ 0 ≤ id ∧ id < 64
instance (k id : Int) : Decidable (mayT k id) := by unfold mayT; infer_instance
def Ck.at (c : Ck) (n : Int) : Int := c.ats[n.toNat]?.getD 0
def afterE (t b : Int) : Int := if timeE t = 0 then (if b < 0 then 10 else if 1099511627776 - t ≤ b then 21 else 0) else timeE t
def Ck.late1 (c : Ck) : Int := c.lates.headD 0
def Ck.fires (c : Ck) (a : Int) : Int := max a c.now + c.late1
def Ck.setE (c : Ck) (k id a : Int) : Int := if mayT k id then (if timeE a = 0 then afterE (max a c.now) c.late1 else timeE a) else 1
def Ck.set (c : Ck) (k id a : Int) : Ck :=
  if c.setE k id a = 0 then { c with S := ins ltI (nm k id, c.fires a) (without c.S (nm k id)), ats := c.ats.set (nm k id).toNat a, lates := c.lates.tail } else c
def Ck.clearE (c : Ck) (k id : Int) : Int := if mayT k id then hasE c.S (nm k id) else 1
def Ck.clear (c : Ck) (k id : Int) : Ck := if mayT k id then { c with S := without c.S (nm k id) } else c
def lateE (l : List Int) : Int := if l.any fun x => decide (x < 0) || decide (1073741824 < x) then 10 else 0
def Ck.lateC (c : Ck) (l : List Int) : Ck := if lateE l = 0 then { c with lates := c.lates ++ l } else c
def Ck.whenE (c : Ck) (k id : Int) : Int := if mayT k id then hasE c.S (nm k id) else 1
def Ck.whenA (c : Ck) (k id : Int) : Int := if c.whenE k id = 0 then c.at (nm k id) else 0
def Ck.whenF (c : Ck) (k id : Int) : Int := if c.whenE k id = 0 then keyAt 0 c.S (nm k id) else 0
def Ck.stepE (c : Ck) (to : Int) : Int := if timeE to = 0 then (if to < c.now then 10 else 0) else timeE to
/-- what fires next, up to a time -/
def Ck.evOf (c : Ck) (x : It Int) : Ev := ⟨x.1 / 64, x.1 % 64, c.at x.1, x.2 - c.at x.1, x.2⟩
def Ck.stepV (c : Ck) (to : Int) : Option Ev := if c.stepE to = 0 then (match c.S with | [] => none | x :: _ => if to < x.2 then none else some (c.evOf x)) else none
def Ck.step (c : Ck) (to : Int) : Ck :=
  if c.stepE to = 0 then (match c.S with
    | [] => { c with now := to }
    | x :: T => if to < x.2 then { c with now := to } else { c with S := T, now := x.2, worst := max c.worst (x.2 - c.at x.1) }) else c
/-- all that fires, up to a time -/
def Ck.run : Nat → Ck → Int → List Ev × Ck
  | 0, c, _ => ([], c)
  | f + 1, c, to => match c.stepV to with
    | none => ([], c.step to)
    | some v => let (l, d) := Ck.run f (c.step to) to; (v :: l, d)
def Ck.new : Ck := ⟨[], List.replicate 512 0, [], 0, 0⟩
/-- what holds of each clock -/
structure CkOk (c : Ck) : Prop where
  sorted : Sorted ltI c.S
  ids : ∀ x ∈ c.S, 0 ≤ x.1 ∧ x.1 < 512
  dist : c.S.Pairwise fun a b => a.1 ≠ b.1
  times : ∀ x ∈ c.S, timeE x.2 = 0
  len : c.ats.length = 512
  ats : ∀ a ∈ c.ats, 0 ≤ a ∧ a < 1099511627776
  lates : ∀ l ∈ c.lates, 0 ≤ l ∧ l ≤ 1073741824
  now : timeE c.now = 0
  wor : 0 ≤ c.worst ∧ c.worst < 1099511627776
theorem timeE_iff {t : Int} : timeE t = 0 ↔ 0 ≤ t ∧ t < 1099511627776 := by
  unfold timeE
  constructor
  · intro h
    split at h
    · cases h
    · split at h
      · cases h
      · omega
  · rintro ⟨h1, h2⟩
    rw [if_neg (by omega), if_neg (by omega)]
theorem nm_range {k id : Int} (h : mayT k id) : 0 ≤ nm k id ∧ nm k id < 512 := by
  obtain ⟨h1, h2, h3, h4⟩ := h
  unfold nm
  omega
theorem nm_inj {k id k' id' : Int} (h : mayT k id) (h' : mayT k' id') (e : nm k id = nm k' id') : k = k' ∧ id = id' := by
  obtain ⟨h1, h2, h3, h4⟩ := h
  obtain ⟨g1, g2, g3, g4⟩ := h'
  unfold nm at e
  omega
theorem nm_div {k id : Int} (h : mayT k id) : nm k id / 64 = k ∧ nm k id % 64 = id := by
  obtain ⟨h1, h2, h3, h4⟩ := h
  unfold nm
  omega
theorem CkOk.new : CkOk Ck.new :=
  ⟨List.Pairwise.nil, (fun x h => by cases h), List.Pairwise.nil, (fun x h => by cases h), List.length_replicate, (fun a h => by
    have := (List.mem_replicate.1 h).2
    omega), (fun l h => by cases h), by decide, by decide⟩
section
variable {c : Ck} {k id a to : Int}
theorem CkOk.few (h : CkOk c) : c.S.length ≤ 512 := by
  have h1 : (c.S.map (·.1)).Nodup := by
    rw [List.nodup_iff_pairwise_ne, List.pairwise_map]
    exact h.dist
  have := nodup_sub_length h1 (m := (List.range 512).map fun (i : Nat) => (i : Int)) fun x hx => by
    obtain ⟨y, hy, rfl⟩ := List.mem_map.1 hx
    obtain ⟨h2, h3⟩ := h.ids y hy
    exact List.mem_map.2 ⟨y.1.toNat, List.mem_range.2 (by omega), by omega⟩
  simpa using this
theorem CkOk.room (h : CkOk c) {n : Int} (h0 : 0 ≤ n ∧ n < 512) (hn : has c.S n = false) : c.S.length < 512 := by
  have h1 : (n :: c.S.map (·.1)).Nodup := by
    refine List.nodup_cons.2 ⟨fun hm => ?_, ?_⟩
    · obtain ⟨y, hy, e⟩ := List.mem_map.1 hm
      exact has_none.1 hn y hy e
    · rw [List.nodup_iff_pairwise_ne, List.pairwise_map]
      exact h.dist
  have := nodup_sub_length h1 (m := (List.range 512).map fun (i : Nat) => (i : Int)) fun x hx => by
    rcases List.mem_cons.1 hx with rfl | hx
    · exact List.mem_map.2 ⟨x.toNat, List.mem_range.2 (by omega), by omega⟩
    · obtain ⟨y, hy, rfl⟩ := List.mem_map.1 hx
      obtain ⟨h2, h3⟩ := h.ids y hy
      exact List.mem_map.2 ⟨y.1.toNat, List.mem_range.2 (by omega), by omega⟩
  simp only [List.length_cons, List.length_map, List.length_range] at this
  omega
theorem CkOk.late1 (h : CkOk c) : 0 ≤ c.late1 ∧ c.late1 ≤ 1073741824 := by
  unfold Ck.late1
  cases hl : c.lates with
  | nil => exact ⟨by decide, by decide⟩
  | cons x l => exact h.lates x (by rw [hl]; exact List.mem_cons_self ..)
theorem CkOk.atR (h : CkOk c) (n : Int) : 0 ≤ c.at n ∧ c.at n < 1099511627776 := by
  unfold Ck.at
  cases hg : c.ats[n.toNat]? with
  | none => exact ⟨by decide, by decide⟩
  | some x => exact h.ats x (List.mem_of_getElem? hg)
theorem setE_ok (h : c.setE k id a = 0) : mayT k id ∧ timeE a = 0 ∧ timeE (max a c.now) = 0 ∧ 0 ≤ c.late1 ∧ c.fires a < 1099511627776 := by
  unfold Ck.setE at h
  split at h
  · rename_i h1
    split at h
    · rename_i h2
      unfold afterE at h
      split at h
      · rename_i h3
        split at h
        · cases h
        · split at h
          · cases h
          · refine ⟨h1, h2, h3, by omega, ?_⟩
            unfold Ck.fires
            omega
      · rename_i h3
        exact absurd h h3
    · rename_i h2
      exact absurd h h2
  · cases h
theorem fires_time (h : CkOk c) (he : c.setE k id a = 0) : timeE (c.fires a) = 0 := by
  obtain ⟨_, h2, h3, h4, h5⟩ := setE_ok he
  have := timeE_iff.1 h3
  refine timeE_iff.2 ⟨?_, h5⟩
  unfold Ck.fires
  omega
theorem armE_set (h : CkOk c) (he : c.setE k id a = 0) : armE c.S 512 (nm k id) (c.fires a) = 0 := by
  obtain ⟨h1, _⟩ := setE_ok he
  obtain ⟨h2, h3⟩ := nm_range h1
  unfold armE
  rw [if_neg (by omega), if_pos (fires_time h he), if_neg]
  rintro ⟨h4, h5⟩
  have := h.room ⟨h2, h3⟩ h4
  omega
theorem armS_set (h : CkOk c) (he : c.setE k id a = 0) : armS c.S 512 (nm k id) (c.fires a) = (c.set k id a).S := by
  unfold armS Ck.set
  rw [if_pos (armE_set h he), if_pos he]
theorem without_mem {S : List (It Int)} {n : Int} {x : It Int} : x ∈ without S n ↔ x ∈ S ∧ x.1 ≠ n := by
  unfold without
  rw [List.mem_filter]
  simp
theorem CkOk.set (h : CkOk c) : CkOk (c.set k id a) := by
  unfold Ck.set
  split
  · rename_i he
    obtain ⟨h1, h2, h3, h4, h5⟩ := setE_ok he
    have hr := nm_range h1
    have ha := timeE_iff.1 h2
    refine ⟨ins_sorted ltI_swo (without_sorted h.sorted) without_gone, fun x hx => ?_, ?_, fun x hx => ?_, by rw [List.length_set]; exact h.len, fun x hx => ?_, fun l hl => h.lates l (List.mem_of_mem_tail hl), h.now, h.wor⟩
    · rcases ins_mem.1 hx with rfl | hx
      · exact hr
      · exact h.ids x (without_mem.1 hx).1
    · refine distinct_perm (ins_perm _ _).symm (List.pairwise_cons.2 ⟨fun y hy => Ne.symm (without_gone y hy), h.dist.sublist without_sub⟩)
    · rcases ins_mem.1 hx with rfl | hx
      · exact fires_time h he
      · exact h.times x (without_mem.1 hx).1
    · rcases List.mem_or_eq_of_mem_set hx with hx | rfl
      · exact h.ats x hx
      · exact ha
  · exact h
theorem CkOk.clear (h : CkOk c) : CkOk (c.clear k id) := by
  unfold Ck.clear
  split
  · exact ⟨without_sorted h.sorted, fun x hx => h.ids x (without_mem.1 hx).1, h.dist.sublist without_sub, fun x hx => h.times x (without_mem.1 hx).1, h.len, h.ats, h.lates, h.now, h.wor⟩
  · exact h
theorem lateE_ok {l : List Int} (h : lateE l = 0) : ∀ x ∈ l, 0 ≤ x ∧ x ≤ 1073741824 := by
  unfold lateE at h
  split at h
  · cases h
  · rename_i h1
    intro x hx
    have h2 : ¬ (decide (x < 0) || decide (1073741824 < x)) = true := fun hh => h1 (List.any_eq_true.2 ⟨x, hx, hh⟩)
    simp only [Bool.or_eq_true, decide_eq_true_eq, not_or] at h2
    omega
theorem lateE_bad {l : List Int} {x : Int} (hx : x ∈ l) (h : x < 0 ∨ 1073741824 < x) : lateE l = 10 := by
  unfold lateE
  rw [if_pos (List.any_eq_true.2 ⟨x, hx, by simp; exact h⟩)]
theorem lateE_good {l : List Int} (h : ∀ x ∈ l, 0 ≤ x ∧ x ≤ 1073741824) : lateE l = 0 := by
  unfold lateE
  rw [if_neg]
  intro hh
  obtain ⟨x, hx, h1⟩ := List.any_eq_true.1 hh
  have := h x hx
  simp only [Bool.or_eq_true, decide_eq_true_eq] at h1
  omega
theorem CkOk.lateC {l : List Int} (h : CkOk c) : CkOk (c.lateC l) := by
  unfold Ck.lateC
  split
  · rename_i he
    refine ⟨h.sorted, h.ids, h.dist, h.times, h.len, h.ats, fun x hx => ?_, h.now, h.wor⟩
    rcases List.mem_append.1 hx with hx | hx
    · exact h.lates x hx
    · exact lateE_ok he x hx
  · exact h
theorem stepE_ok (h : c.stepE to = 0) : timeE to = 0 ∧ c.now ≤ to := by
  unfold Ck.stepE at h
  split at h
  · rename_i h1
    split at h
    · cases h
    · exact ⟨h1, by omega⟩
  · rename_i h1
    exact absurd h h1
theorem CkOk.step (h : CkOk c) : CkOk (c.step to) := by
  unfold Ck.step
  split
  · rename_i he
    obtain ⟨h1, h2⟩ := stepE_ok he
    split
    · exact ⟨h.sorted, h.ids, h.dist, h.times, h.len, h.ats, h.lates, h1, h.wor⟩
    · rename_i x T hs
      have hso := h.sorted
      have hd := h.dist
      rw [hs] at hso hd
      split
      · exact ⟨h.sorted, h.ids, h.dist, h.times, h.len, h.ats, h.lates, h1, h.wor⟩
      · have hx := h.times x (by rw [hs]; exact List.mem_cons_self ..)
        have hx2 := timeE_iff.1 hx
        have := h.atR x.1
        have hw := h.wor
        exact ⟨(List.pairwise_cons.1 hso).2, fun y hy => h.ids y (by rw [hs]; exact List.mem_cons_of_mem _ hy), (List.pairwise_cons.1 hd).2, fun y hy => h.times y (by rw [hs]; exact List.mem_cons_of_mem _ hy), h.len, h.ats, h.lates, hx, by show 0 ≤ max _ _ ∧ max _ _ < _; omega⟩
  · exact h
end
/-! ### all that fires up to a time -/
def worstOf (c : Ck) (T : List (It Int)) (m : Int) : Int := T.foldl (fun m x => max m (x.2 - c.at x.1)) m
def Ck.gone (c : Ck) (to : Int) : Ck := { c with S := c.S.drop (upto c.S to).length, now := to, worst := worstOf c (upto c.S to) c.worst }
theorem stepE_zero {c : Ck} {to : Int} (h1 : timeE to = 0) (h2 : c.now ≤ to) : c.stepE to = 0 := by
  unfold Ck.stepE
  rw [if_pos h1, if_neg (by omega)]
theorem run_ok : ∀ (f : Nat) (c : Ck) (to : Int), c.S.length < f → c.stepE to = 0 → Ck.run f c to = ((upto c.S to).map c.evOf, c.gone to)
  | 0, c, to, hf, _ => by omega
  | f + 1, c, to, hf, he => by
    obtain ⟨S, ats, lates, now, worst⟩ := c
    cases S with
    | nil =>
      show (match Ck.stepV _ to with | none => _ | some v => _) = _
      have h1 : Ck.stepV ⟨[], ats, lates, now, worst⟩ to = none := by unfold Ck.stepV; rw [if_pos he]
      have h2 : Ck.step ⟨[], ats, lates, now, worst⟩ to = ⟨[], ats, lates, to, worst⟩ := by unfold Ck.step; rw [if_pos he]
      rw [h1]
      show ([], Ck.step _ to) = _
      rw [h2]
      rfl
    | cons x T =>
      show (match Ck.stepV _ to with | none => _ | some v => _) = _
      by_cases hx : to < x.2
      · have h1 : Ck.stepV ⟨x :: T, ats, lates, now, worst⟩ to = none := by
          unfold Ck.stepV
          rw [if_pos he]
          show (if to < x.2 then none else _) = _
          rw [if_pos hx]
        have h2 : Ck.step ⟨x :: T, ats, lates, now, worst⟩ to = ⟨x :: T, ats, lates, to, worst⟩ := by
          unfold Ck.step
          rw [if_pos he]
          show (if to < x.2 then _ else _) = _
          rw [if_pos hx]
        have h3 : upto (x :: T) to = [] := by unfold upto; rw [List.takeWhile_cons, if_neg (by simpa using hx)]
        rw [h1]
        show ([], Ck.step _ to) = _
        rw [h2]
        unfold Ck.gone
        show _ = (List.map _ (upto (x :: T) to), _)
        simp only [h3]
        rfl
      · have h1 : Ck.stepV ⟨x :: T, ats, lates, now, worst⟩ to = some (Ck.evOf ⟨x :: T, ats, lates, now, worst⟩ x) := by
          unfold Ck.stepV
          rw [if_pos he]
          show (if to < x.2 then none else _) = _
          rw [if_neg hx]
        have h2 : Ck.step ⟨x :: T, ats, lates, now, worst⟩ to = ⟨T, ats, lates, x.2, max worst (x.2 - Ck.at ⟨x :: T, ats, lates, now, worst⟩ x.1)⟩ := by
          unfold Ck.step
          rw [if_pos he]
          show (if to < x.2 then _ else _) = _
          rw [if_neg hx]
        have h3 : upto (x :: T) to = x :: upto T to := by unfold upto; rw [List.takeWhile_cons, if_pos (by simp; omega)]
        have h4 := run_ok f ⟨T, ats, lates, x.2, max worst (x.2 - Ck.at ⟨x :: T, ats, lates, now, worst⟩ x.1)⟩ to (by simp only [List.length_cons] at hf; exact Nat.lt_of_succ_lt_succ hf) (stepE_zero (stepE_ok he).1 (by show x.2 ≤ to; omega))
        rw [h1]
        show (let (l, d) := Ck.run f (Ck.step _ to) to; (_ :: l, d)) = _
        rw [h2, h4]
        unfold Ck.gone
        show (_ :: List.map _ (upto T to), _) = (List.map _ (upto (x :: T) to), _)
        simp only [h3]
        rfl
theorem run_bad {f : Nat} {c : Ck} {to : Int} (he : c.stepE to ≠ 0) : Ck.run (f + 1) c to = ([], c) := by
  show (match Ck.stepV _ to with | none => _ | some v => _) = _
  have h1 : c.stepV to = none := by unfold Ck.stepV; rw [if_neg he]
  have h2 : c.step to = c := by unfold Ck.step; rw [if_neg he]
  rw [h1]
  show ([], Ck.step _ to) = _
  rw [h2]
end Go.Proofs.Ytkjpkhpiojahkaa
