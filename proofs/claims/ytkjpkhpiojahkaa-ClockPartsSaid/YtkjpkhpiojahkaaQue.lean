/-
  Queues of servers, told by a list in order; as pieces of memory.
  Walks: a queue's New, Len, Get, First, Last, Drop, check, Move.
  Walks: a queue's check, Move, Copy.
  Walks: a queue's Move, Copy.
  Walk: a queue's Put.
  Walks: a queue's Least.
  Walks: two lists of keys, are they the same?
  Walk: the queue's example.
  Plain: which keys may be put into a queue.
  Walks: any keys are put; slices of keys; a list of keys grows.
-/
import Derived.Test.YtkjpkhpiojahkaaKC
import Derived.Test.YtkjpkhpiojahkaaCRU
import Derived.Deep.RegionHeld3
import Derived.Test.YtkjpkhpiojahkaaLKO
import Derived.Test.YtkjpkhpiojahkaaBase0
import Derived.Test.YtkjpkhpiojahkaaLow
/-! ### Queues of servers, told by a list in order; as pieces of memory.
  Walks: a queue's New, Len, Get, First, Last, Drop, check, Move. -/
/-! ### Queues of servers, told by a list in order; as pieces of memory. -/
namespace Go.Proofs.Ytkjpkhpiojahkaa
set_option linter.unusedVariables false
open Go.RowKit Hp

/-- the numbers of a list, with their keys, as the heaps of a queue hold them -/
def itq (S : List (It Int)) : List (It (Int × Int)) := S.map fun x => (x.1, (x.2, x.1))
section
variable {S : List (It Int)} {id t : Int}
theorem itq_length : (itq S).length = S.length := List.length_map ..
theorem itq_has : has (itq S) id = has S id := by simp [has, itq, List.any_map]; rfl
theorem itq_without : without (itq S) id = itq (without S id) := by simp [without, itq, List.filter_map]; rfl
theorem itq_mem {k : Int} (h : (id, k) ∈ S) : (id, (k, id)) ∈ itq S := List.mem_map.2 ⟨_, h, rfl⟩
theorem itq_distinct (h : S.Pairwise fun a b => a.1 ≠ b.1) : (itq S).Pairwise fun a b => a.1 ≠ b.1 := List.pairwise_map.2 h
theorem distinct_itq (h : (itq S).Pairwise fun a b => a.1 ≠ b.1) : S.Pairwise fun a b => a.1 ≠ b.1 := (List.pairwise_map (f := fun x : It Int => (x.1, (x.2, x.1)))).1 h
def idAt (S : List (It Int)) (id : Int) : Int := if has S id then id else 0
theorem itq_keyAt (hd : S.Pairwise fun a b => a.1 ≠ b.1) : keyAt (0, 0) (itq S) id = (keyAt 0 S id, idAt S id) := by
  unfold idAt
  cases hh : has S id with
  | true =>
    obtain ⟨k, hk⟩ := has_some hh
    rw [keyAt_mem (itq_distinct hd) (itq_mem hk), keyAt_mem hd hk, if_pos rfl]
  | false =>
    rw [keyAt_none (by rw [itq_has]; exact hh), keyAt_none hh, if_neg (by simp)]
theorem itq_perm {T : List (It Int)} (h : S.Perm T) : (itq S).Perm (itq T) := h.map _
theorem itq_put : (Ke.putM (itq S) id (t, id)).Perm (itq (putS ltI S id t)) := by
  unfold Ke.putM putS
  rw [itq_has]
  split
  · exact List.Perm.refl _
  · split
    · exact List.Perm.refl _
    · exact (itq_perm (ins_perm (id, t) S)).symm
theorem itq_ch : (Ke.chM (itq S) id (t, id)).Perm (itq (chS ltI S id t)) := by
  unfold Ke.chM chS
  rw [itq_has]
  split
  · rw [itq_without]; exact (itq_perm (ins_perm (id, t) (without S id))).symm
  · exact List.Perm.refl _
theorem ke_bef_eq (x y : It Int) : Ke.bef (x.2, x.1) (y.2, y.1) = Hp.ahead ltI x y := by
  rw [Bool.eq_iff_iff, ahead_iff, Ke.bef_iff]
  simp [ltI]
  omega
theorem itq_sorted (h : Sorted ltI S) : Sorted Ke.bef (itq S) := by
  unfold Sorted itq
  rw [List.pairwise_map]
  exact h.imp fun {a b} hab => by rw [ahead_iff]; left; rw [ke_bef_eq]; exact hab
theorem itq_rev (h : Sorted ltI S) : Sorted Ke.feb (itq S.reverse) := by
  unfold Sorted itq
  rw [List.pairwise_map, List.pairwise_reverse]
  exact h.imp fun {a b} hab => by rw [ahead_iff]; left; show Ke.bef (a.2, a.1) (b.2, b.1) = true; rw [ke_bef_eq]; exact hab
theorem itq_rperm : (itq S).Perm (itq S.reverse) := itq_perm (List.reverse_perm S).symm
end

/-- a piece that is one of many -/
def exA {α : Type} (f : α → Ast) : Ast where
  holds w F := ∃ a, (f a).holds w F
  stable := fun ⟨a, h⟩ hm hS => ⟨a, (f a).stable h hm hS⟩
  lt := fun ⟨a, h⟩ hj => (f a).lt h hj
section
variable {w0 w : World} {α : Type} {f : α → Ast} {R : Ast}
theorem On.ex_open (h : On w0 w (sep (exA f) R)) : ∃ a, On w0 w (sep (f a) R) := by
  obtain ⟨F, ⟨Fa, Fb, ⟨a, ha⟩, h1, h2, h3⟩, h4⟩ := h
  exact ⟨a, F, ⟨Fa, Fb, ha, h1, h2, h3⟩, h4⟩
theorem On.ex_shut (a : α) (h : On w0 w (sep (f a) R)) : On w0 w (sep (exA f) R) := h.mono1 fun _ hF => ⟨a, hF⟩
end

/-- a queue -/
def quA (qb : Nat) (S : List (It Int)) : Ast := exA fun h : Nat × Nat => sep (boxA qb 138 #[.pointer (some ⟨h.1, 0, none⟩), .pointer (some ⟨h.2, 0, none⟩)]) (sep (Ke.HK h.1 31 Ke.bef (itq S)) (Ke.HK h.2 91 Ke.feb (itq S)))
section
variable {w0 w : World} {qb : Nat} {S : List (It Int)} {R : Ast}
theorem On.qu_open (h : On w0 w (sep (quA qb S) R)) : ∃ h1 h2, On w0 w (sep (boxA qb 138 #[.pointer (some ⟨h1, 0, none⟩), .pointer (some ⟨h2, 0, none⟩)]) (sep (Ke.HK h1 31 Ke.bef (itq S)) (sep (Ke.HK h2 91 Ke.feb (itq S)) R))) := by
  obtain ⟨⟨h1, h2⟩, h⟩ := h.ex_open
  exact ⟨h1, h2, h.assoc.mono fun _ h => sep_monoR h fun _ => sep_assoc⟩
theorem On.qu_shut {h1 h2 : Nat} (h : On w0 w (sep (boxA qb 138 #[.pointer (some ⟨h1, 0, none⟩), .pointer (some ⟨h2, 0, none⟩)]) (sep (Ke.HK h1 31 Ke.bef (itq S)) (sep (Ke.HK h2 91 Ke.feb (itq S)) R)))) : On w0 w (sep (quA qb S) R) :=
  On.ex_shut (f := fun h : Nat × Nat => sep (boxA qb 138 #[.pointer (some ⟨h.1, 0, none⟩), .pointer (some ⟨h.2, 0, none⟩)]) (sep (Ke.HK h.1 31 Ke.bef (itq S)) (Ke.HK h.2 91 Ke.feb (itq S)))) (h1, h2)
    (h.mono fun _ h => sep_assoc' (sep_monoR h fun _ => sep_assoc'))
theorem On.qu_distinct (h : On w0 w (sep (quA qb S) R)) : S.Pairwise fun a b => a.1 ≠ b.1 := by
  obtain ⟨h1, h2, h⟩ := h.qu_open
  exact distinct_itq (Ke.distinctK h.out1)
theorem On.qu_ids (h : On w0 w (sep (quA qb S) R)) : ∀ x ∈ S, 0 ≤ x.1 ∧ (Lit.int .i64 x.1).wf = true := fun x hx => by
  obtain ⟨h1, h2, h⟩ := h.qu_open
  obtain ⟨F, hF, _⟩ := h.out1.get1
  exact Ke.HeapAt.ids hF _ (itq_mem (id := x.1) (k := x.2) hx)
end

/-- what is wrong with a time -/
def timeE (t : Int) : Int := if t < 0 then 10 else if 1099511627776 ≤ t then 21 else 0
theorem time_any (t : Int) (w : World) : Calls Try.prog 102 #[.int .i64 t] w fun e w' => e = .returned (.int .i64 (timeE t)) ∧ w = w' := by
  go_enter Try.func102, Try.ntmps102
  go_wp2
  all_goals go_ret
  all_goals exact ⟨ret_int (by unfold timeE; split <;> (try split) <;> first | rfl | omega), rfl⟩
theorem rtime_any (t : Int) (w : World) : Calls Try.prog 136 #[.int .i64 t] w fun e w' => e = .returned (.int .i64 (timeE t)) ∧ w = w' := by
  go_enter Try.func136, Try.ntmps136
  go_wp2
  all_goals go_ret
  all_goals exact ⟨ret_int (by unfold timeE; split <;> (try split) <;> first | rfl | omega), rfl⟩
end Go.Proofs.Ytkjpkhpiojahkaa

/-! ### Walks: a queue's New, Len, Get, First, Last, Drop, check, Move. -/
namespace Go.Proofs.Ytkjpkhpiojahkaa
set_option linter.unusedVariables false
open Go.RowKit Hp

section
variable {w0 w : World} {qb : Nat} {S : List (It Int)} {R : Ast}

set_option maxRecDepth 100000 in
set_option maxHeartbeats 1000000 in
theorem Q_new (h : On w0 w R) : Calls Try.prog 25 #[] w fun e w' => ∃ qb, e = .returned (.pointer (some ⟨qb, 0, none⟩)) ∧ On w0 w' (sep (quA qb []) R) := by
  have H0 := Lib.hid (Ke.KU_new h 31 Ke.bef)
  clear h
  go_enter Try.func25, Try.ntmps25
  go_wp2_with fail
  refine H0.out.mono ?_
  rintro e w1 ⟨h1, rfl, k1⟩
  have H1 := Lib.hid (Ke.KU_new k1 91 Ke.feb)
  clear k1
  go_wp2_with fail
  refine H1.out.mono ?_
  rintro e w2 ⟨h2, rfl, k2⟩
  have hon : On w0 (w2.alloc (.cells #[.pointer (some ⟨h1, 0, none⟩), .pointer (some ⟨h2, 0, none⟩)] 138)) (sep (quA w2.heap.size []) R) := by
    have := k2.add ((Below.refl _ w2).alloc (Nat.le_refl _) _) (boxA_new w2 138 #[.pointer (some ⟨h1, 0, none⟩), .pointer (some ⟨h2, 0, none⟩)]) (fun j hj => by omega)
    exact (this.sw1).qu_shut
  have HO := Lib.hid hon
  clear k2 hon
  go_wp2
  go_ret
  exact ⟨_, rfl, HO.out⟩

set_option maxRecDepth 100000 in
set_option maxHeartbeats 1000000 in
theorem Q_len (h : On w0 w (sep (quA qb S) R)) : Calls Try.prog 30 #[.pointer (some ⟨qb, 0, none⟩)] w fun e w' => e = .returned (.int .i64 (S.length : Int)) ∧ w = w' := by
  obtain ⟨h1, h2, h⟩ := h.qu_open
  obtain ⟨c0, f0⟩ := h.box1 0
  have c0' : w.cell? ⟨qb, 0, none⟩ = some (.pointer (some ⟨h1, 0, none⟩)) := c0
  have hl := Ke.KU_len (h.sw0)
  rw [itq_length] at hl
  have HL := Lib.hid hl
  clear h c0 hl
  go_enter Try.func30, Try.ntmps30
  go_wp2_with fail
  refine HL.out.mono ?_
  rintro e w' ⟨rfl, rfl⟩
  go_wp2
  go_ret
  exact ⟨rfl, rfl⟩

set_option maxRecDepth 100000 in
set_option maxHeartbeats 2000000 in
theorem Q_get (h : On w0 w (sep (quA qb S) R)) (hl : S.length < 900000) (id : Int) (hw : (Lit.int .i64 id).wf = true) :
    Calls Try.prog 35 #[.pointer (some ⟨qb, 0, none⟩), .int .i64 id] w fun e w' => e = .returned (.tuple #[.agg #[.int .i64 (keyAt 0 S id), .int .i64 (idAt S id)], .int .i64 (hasE S id)]) ∧ Below w.heap.size w w' := by
  have hd := h.qu_distinct
  obtain ⟨h1, h2, h⟩ := h.qu_open
  obtain ⟨w1, hw1⟩ : ∃ w1, w.alloc (.cells #[.int .i64 0, .int .i64 0] 24) = w1 := ⟨_, rfl⟩
  have hb1 : Below w.heap.size w w1 := by rw [← hw1]; exact (Below.refl _ w).alloc (Nat.le_refl _) _
  have hc : w1.heap[w.heap.size]? = some (.cells #[.int .i64 0, .int .i64 0] 24 (0, 0)) := by rw [← hw1]; exact heap_alloc_new w _
  have h3 := h.below hb1
  obtain ⟨c0, f0⟩ := h3.box1 0
  have c0' : w1.cell? ⟨qb, 0, none⟩ = some (.pointer (some ⟨h1, 0, none⟩)) := c0
  have hg := Ke.KU_get (h3.sw0) (by rw [itq_length]; exact hl) id hw
  rw [itq_keyAt hd, show hasE (itq S) id = hasE S id by unfold hasE; rw [itq_has]] at hg
  have HG := Lib.hid hg
  have HC := Lib.hid hc
  have HB := Lib.hid hb1
  clear h h3 c0 hg hd hc hb1
  go_enter Try.func35, Try.ntmps35
  go_wp2_with fail
  refine HG.out.mono ?_
  rintro e w2 ⟨rfl, hb2⟩
  have o2 := (Mod.of_below (S := none') hb2).obj HC.out (fun h => h)
  have e0 : w2.cell? ⟨w.heap.size, 0, none⟩ = some (.int .i64 0) := by simp [World.cell?, o2]
  have e1 : w2.cell? ⟨w.heap.size, 1, none⟩ = some (.int .i64 0) := by simp [World.cell?, o2]
  have g0 : w2.frozen? ⟨w.heap.size, 0, none⟩ = false := by simp [World.frozen?, o2]
  have g1 : w2.frozen? ⟨w.heap.size, 1, none⟩ = false := by simp [World.frozen?, o2]
  have HB2 := Lib.hid (HB.out.trans (hb2.mono HB.out.size))
  clear hb2 o2
  go_wp2_with fail
  refine bodyPost_ret (v := .tuple #[.agg #[.int .i64 (keyAt 0 S id), .int .i64 (idAt S id)], .int .i64 (hasE S id)]) (by simp [results, Try.results35, go_sem, Ke.box2_0 e0, Ke.box2_1 e1]) rfl ?_
  exact ⟨rfl, (HB2.out.setCell (p := ⟨w.heap.size, 0, none⟩) (Nat.le_refl _) _).setCell (p := ⟨w.heap.size, 1, none⟩) (Nat.le_refl _) _⟩

set_option maxRecDepth 100000 in
set_option maxHeartbeats 2000000 in
theorem Q_drop (h : On w0 w (sep (quA qb S) R)) (hl : S.length < 900000) (id : Int) (hw : (Lit.int .i64 id).wf = true) :
    Calls Try.prog 96 #[.pointer (some ⟨qb, 0, none⟩), .int .i64 id] w fun e w' => e = .returned (.tuple #[.agg #[.int .i64 (keyAt 0 S id), .int .i64 (idAt S id)], .int .i64 (hasE S id)]) ∧ On w0 w' (sep (quA qb (without S id)) R) := by
  have hd := h.qu_distinct
  obtain ⟨h1, h2, h⟩ := h.qu_open
  obtain ⟨rc, hrc⟩ : ∃ rc, w.heap.size = rc := ⟨_, rfl⟩
  obtain ⟨w1, hw1⟩ : ∃ w1, w.alloc (.cells #[.int .i64 0, .int .i64 0] 24) = w1 := ⟨_, rfl⟩
  have h3 := h.new1 24 #[.int .i64 0, .int .i64 0]
  rw [hw1, hrc] at h3
  obtain ⟨c0, _⟩ := (h3.sw0).box1 1
  have c0' : w1.cell? ⟨qb, 1, none⟩ = some (.pointer (some ⟨h2, 0, none⟩)) := c0
  have hg := Ke.KU_drop Ke.lessF (h3.sw2.sw1.sw0) (by rw [itq_length]; exact hl) id hw
  rw [itq_without] at hg
  have HG := Lib.hid hg
  have HD := Lib.hid hd
  clear h h3 c0 hg hd
  go_enter Try.func96, Try.ntmps96
  go_wp2_with fail
  refine HG.out.mono ?_
  rintro e w2 ⟨rfl, k2⟩
  obtain ⟨d0, _⟩ := (k2.sw1.sw0).box1 0
  have d0' : w2.cell? ⟨qb, 0, none⟩ = some (.pointer (some ⟨h1, 0, none⟩)) := d0
  have hg := Ke.KU_drop Ke.lessB (k2.sw2.sw1.sw0) (by rw [itq_length]; exact hl) id hw
  rw [itq_without, itq_keyAt HD.out, show hasE (itq S) id = hasE S id by unfold hasE; rw [itq_has]] at hg
  have HG2 := Lib.hid hg
  clear k2 hg d0
  go_wp2_with fail
  refine HG2.out.mono ?_
  rintro e w3 ⟨rfl, k3⟩
  have e0 : w3.cell? ⟨rc, 0, none⟩ = some (.int .i64 0) := ((k3.sw1.sw0).box1 0).1
  have e1 : w3.cell? ⟨rc, 1, none⟩ = some (.int .i64 0) := ((k3.sw1.sw0).box1 1).1
  have g0 : w3.frozen? ⟨rc, 0, none⟩ = false := ((k3.sw1.sw0).box1 0).2
  have g1 : w3.frozen? ⟨rc, 1, none⟩ = false := ((k3.sw1.sw0).box1 1).2
  have hfin : On w0 ((w3.setCell ⟨rc, 0, none⟩ (.int .i64 (keyAt 0 S id))).setCell ⟨rc, 1, none⟩ (.int .i64 (idAt S id))) (sep (quA qb (without S id)) R) := by
    have := ((k3.sw1.sw0).box_set 0 (.int .i64 (keyAt 0 S id))).box_set 1 (.int .i64 (idAt S id))
    exact (this.out1.sw1.sw0).qu_shut
  have HFin := Lib.hid hfin
  clear k3 hfin
  go_wp2_with fail
  refine bodyPost_ret (v := .tuple #[.agg #[.int .i64 (keyAt 0 S id), .int .i64 (idAt S id)], .int .i64 (hasE S id)]) (by simp [results, Try.results96, go_sem, Ke.box2_0 e0, Ke.box2_1 e1]) rfl ?_
  exact ⟨rfl, HFin.out⟩

set_option maxRecDepth 100000 in
set_option maxHeartbeats 2000000 in
theorem Q_first (h : On w0 w (sep (quA qb S) R)) (hs : Sorted ltI S) :
    Calls Try.prog 33 #[.pointer (some ⟨qb, 0, none⟩)] w fun e w' => e = .returned (.tuple #[.agg #[.int .i64 (S.headD (0, 0)).2, .int .i64 (S.headD (0, 0)).1], .int .i64 (headE S)]) ∧ Below w.heap.size w w' := by
  obtain ⟨h1, h2, h⟩ := h.qu_open
  obtain ⟨w1, hw1⟩ : ∃ w1, w.alloc (.cells #[.int .i64 0, .int .i64 0] 24) = w1 := ⟨_, rfl⟩
  have hb1 : Below w.heap.size w w1 := by rw [← hw1]; exact (Below.refl _ w).alloc (Nat.le_refl _) _
  have hc : w1.heap[w.heap.size]? = some (.cells #[.int .i64 0, .int .i64 0] 24 (0, 0)) := by rw [← hw1]; exact heap_alloc_new w _
  have h3 := h.below hb1
  obtain ⟨c0, f0⟩ := h3.box1 0
  have c0' : w1.cell? ⟨qb, 0, none⟩ = some (.pointer (some ⟨h1, 0, none⟩)) := c0
  have hg := Ke.KU_peek Ke.lessB (h3.sw0) (List.Perm.refl _) (itq_sorted hs)
  have hT : (itq S).headD (0, 0, 0) = ((S.headD (0, 0)).1, ((S.headD (0, 0)).2, (S.headD (0, 0)).1)) := by
    cases S <;> rfl
  have hE : headE (itq S) = headE S := by cases S <;> rfl
  rw [hT, hE] at hg
  dsimp only at hg
  obtain ⟨a1, ha1⟩ : ∃ a, (S.headD (0, 0)).1 = a := ⟨_, rfl⟩
  obtain ⟨a2, ha2⟩ : ∃ a, (S.headD (0, 0)).2 = a := ⟨_, rfl⟩
  obtain ⟨a3, ha3⟩ : ∃ a, headE S = a := ⟨_, rfl⟩
  rw [ha1, ha2, ha3] at hg
  rw [ha1, ha2, ha3]
  have HG := Lib.hid hg
  have HC := Lib.hid hc
  have HB := Lib.hid hb1
  clear h h3 c0 hg hc hb1 hT hE ha1 ha2 ha3
  go_enter Try.func33, Try.ntmps33
  go_wp2_with fail
  refine HG.out.mono ?_
  rintro e w2 ⟨rfl, hb2⟩
  have o2 := (Mod.of_below (S := none') hb2).obj HC.out (fun h => h)
  have hwlt : w.heap.size < w2.heap.size := lt_of_some o2
  obtain ⟨w3, hw3⟩ : ∃ w3, w2.alloc (.cells #[.int .i64 a2, .int .i64 a1] 24) = w3 := ⟨_, rfl⟩
  have hb3 : Below w2.heap.size w2 w3 := by rw [← hw3]; exact (Below.refl _ w2).alloc (Nat.le_refl _) _
  have o3 := (Mod.of_below (S := none') hb3).obj o2 (fun h => h)
  have n0 : w3.cell? ⟨w2.heap.size, 0, none⟩ = some (.int .i64 a2) := by rw [← hw3, World.cell?_alloc_at _ _ _ _ rfl]; rfl
  have n1 : w3.cell? ⟨w2.heap.size, 1, none⟩ = some (.int .i64 a1) := by rw [← hw3, World.cell?_alloc_at _ _ _ _ rfl]; rfl
  have e0 : w3.cell? ⟨w.heap.size, 0, none⟩ = some (.int .i64 0) := by simp [World.cell?, o3]
  have e1 : w3.cell? ⟨w.heap.size, 1, none⟩ = some (.int .i64 0) := by simp [World.cell?, o3]
  have g0 : w3.frozen? ⟨w.heap.size, 0, none⟩ = false := by simp [World.frozen?, o3]
  have g1 : w3.frozen? ⟨w.heap.size, 1, none⟩ = false := by simp [World.frozen?, o3]
  have hbw2 := HB.out.trans (hb2.mono HB.out.size)
  have HB2 := Lib.hid (hbw2.trans (hb3.mono hbw2.size))
  clear hb2 o2 hb3 o3 hbw2
  go_wp2_with fail
  refine bodyPost_ret (v := .tuple #[.agg #[.int .i64 a2, .int .i64 a1], .int .i64 a3]) (by simp [results, Try.results33, go_sem, Ke.box2_0 e0, Ke.box2_1 e1]) rfl ?_
  exact ⟨rfl, (HB2.out.setCell (p := ⟨w.heap.size, 0, none⟩) (Nat.le_refl _) _).setCell (p := ⟨w.heap.size, 1, none⟩) (Nat.le_refl _) _⟩

set_option maxRecDepth 100000 in
set_option maxHeartbeats 2000000 in
theorem Q_last (h : On w0 w (sep (quA qb S) R)) (hs : Sorted ltI S) :
    Calls Try.prog 34 #[.pointer (some ⟨qb, 0, none⟩)] w fun e w' => e = .returned (.tuple #[.agg #[.int .i64 (S.reverse.headD (0, 0)).2, .int .i64 (S.reverse.headD (0, 0)).1], .int .i64 (headE S.reverse)]) ∧ Below w.heap.size w w' := by
  obtain ⟨h1, h2, h⟩ := h.qu_open
  obtain ⟨w1, hw1⟩ : ∃ w1, w.alloc (.cells #[.int .i64 0, .int .i64 0] 24) = w1 := ⟨_, rfl⟩
  have hb1 : Below w.heap.size w w1 := by rw [← hw1]; exact (Below.refl _ w).alloc (Nat.le_refl _) _
  have hc : w1.heap[w.heap.size]? = some (.cells #[.int .i64 0, .int .i64 0] 24 (0, 0)) := by rw [← hw1]; exact heap_alloc_new w _
  have h3 := h.below hb1
  obtain ⟨c0, f0⟩ := h3.box1 1
  have c0' : w1.cell? ⟨qb, 1, none⟩ = some (.pointer (some ⟨h2, 0, none⟩)) := c0
  have hg := Ke.KU_peek Ke.lessF (h3.sw1.sw0) itq_rperm (itq_rev hs)
  have hT : (itq S.reverse).headD (0, 0, 0) = ((S.reverse.headD (0, 0)).1, ((S.reverse.headD (0, 0)).2, (S.reverse.headD (0, 0)).1)) := by
    cases S.reverse <;> rfl
  have hE : headE (itq S.reverse) = headE S.reverse := by cases S.reverse <;> rfl
  rw [hT, hE] at hg
  dsimp only at hg
  obtain ⟨a1, ha1⟩ : ∃ a, (S.reverse.headD (0, 0)).1 = a := ⟨_, rfl⟩
  obtain ⟨a2, ha2⟩ : ∃ a, (S.reverse.headD (0, 0)).2 = a := ⟨_, rfl⟩
  obtain ⟨a3, ha3⟩ : ∃ a, headE S.reverse = a := ⟨_, rfl⟩
  rw [ha1, ha2, ha3] at hg
  rw [ha1, ha2, ha3]
  have HG := Lib.hid hg
  have HC := Lib.hid hc
  have HB := Lib.hid hb1
  clear h h3 c0 hg hc hb1 hT hE ha1 ha2 ha3
  go_enter Try.func34, Try.ntmps34
  go_wp2_with fail
  refine HG.out.mono ?_
  rintro e w2 ⟨rfl, hb2⟩
  have o2 := (Mod.of_below (S := none') hb2).obj HC.out (fun h => h)
  have hwlt : w.heap.size < w2.heap.size := lt_of_some o2
  obtain ⟨w3, hw3⟩ : ∃ w3, w2.alloc (.cells #[.int .i64 a2, .int .i64 a1] 24) = w3 := ⟨_, rfl⟩
  have hb3 : Below w2.heap.size w2 w3 := by rw [← hw3]; exact (Below.refl _ w2).alloc (Nat.le_refl _) _
  have o3 := (Mod.of_below (S := none') hb3).obj o2 (fun h => h)
  have n0 : w3.cell? ⟨w2.heap.size, 0, none⟩ = some (.int .i64 a2) := by rw [← hw3, World.cell?_alloc_at _ _ _ _ rfl]; rfl
  have n1 : w3.cell? ⟨w2.heap.size, 1, none⟩ = some (.int .i64 a1) := by rw [← hw3, World.cell?_alloc_at _ _ _ _ rfl]; rfl
  have e0 : w3.cell? ⟨w.heap.size, 0, none⟩ = some (.int .i64 0) := by simp [World.cell?, o3]
  have e1 : w3.cell? ⟨w.heap.size, 1, none⟩ = some (.int .i64 0) := by simp [World.cell?, o3]
  have g0 : w3.frozen? ⟨w.heap.size, 0, none⟩ = false := by simp [World.frozen?, o3]
  have g1 : w3.frozen? ⟨w.heap.size, 1, none⟩ = false := by simp [World.frozen?, o3]
  have hbw2 := HB.out.trans (hb2.mono HB.out.size)
  have HB2 := Lib.hid (hbw2.trans (hb3.mono hbw2.size))
  clear hb2 o2 hb3 o3 hbw2
  go_wp2_with fail
  refine bodyPost_ret (v := .tuple #[.agg #[.int .i64 a2, .int .i64 a1], .int .i64 a3]) (by simp [results, Try.results34, go_sem, Ke.box2_0 e0, Ke.box2_1 e1]) rfl ?_
  exact ⟨rfl, (HB2.out.setCell (p := ⟨w.heap.size, 0, none⟩) (Nat.le_refl _) _).setCell (p := ⟨w.heap.size, 1, none⟩) (Nat.le_refl _) _⟩
end
end Go.Proofs.Ytkjpkhpiojahkaa

/-! ### Walks: a queue's check, Move, Copy.
  Walks: a queue's Move, Copy. -/
/-! ### Walks: a queue's check, Move, Copy. -/
namespace Go.Proofs.Ytkjpkhpiojahkaa
set_option linter.unusedVariables false
open Go.RowKit Hp

def checkE (S : List (It Int)) (t id : Int) : Int := if id < 0 then 1 else if timeE t = 0 then (if has S id then 15 else 0) else timeE t
def moveE (S : List (It Int)) (t id : Int) : Int := if has S id then timeE t else 14
def moveS (S : List (It Int)) (t id : Int) : List (It Int) := if has S id then (if timeE t = 0 then chS ltI S id t else S) else S
theorem itq_hasE {S : List (It Int)} {id : Int} : hasE (itq S) id = hasE S id := by unfold hasE; rw [itq_has]

section
variable {w0 w : World} {qb : Nat} {S : List (It Int)} {R : Ast}

set_option maxRecDepth 100000 in
set_option maxHeartbeats 4000000 in
theorem Q_check (h : On w0 w (sep (quA qb S) R)) (hl : S.length < 900000) (t id : Int) (hw : (Lit.int .i64 id).wf = true) :
    Calls Try.prog 138 #[.pointer (some ⟨qb, 0, none⟩), .agg #[.int .i64 t, .int .i64 id]] w fun e w' => e = .returned (.int .i64 (checkE S t id)) ∧ Below w.heap.size w w' := by
  have hd := h.qu_distinct
  obtain ⟨h1, h2, h⟩ := h.qu_open
  obtain ⟨w1, hw1⟩ : ∃ w1, w.alloc (.cells #[.int .i64 t, .int .i64 id] 24) = w1 := ⟨_, rfl⟩
  have hb1 : Below w.heap.size w w1 := by rw [← hw1]; exact (Below.refl _ w).alloc (Nat.le_refl _) _
  have p0 : w1.cell? ⟨w.heap.size, 0, none⟩ = some (.int .i64 t) := by rw [← hw1, World.cell?_alloc_at _ _ _ _ rfl]; rfl
  have p1 : w1.cell? ⟨w.heap.size, 1, none⟩ = some (.int .i64 id) := by rw [← hw1, World.cell?_alloc_at _ _ _ _ rfl]; rfl
  have h3 := h.below hb1
  have c0 : w1.cell? ⟨qb, 0, none⟩ = some (.pointer (some ⟨h1, 0, none⟩)) := (h3.box1 0).1
  have hg : ∀ A, Below w1.heap.size w1 A → Calls Try.prog 101 #[.pointer (some ⟨h1, 0, none⟩), .int .i64 id] A fun e w' => e = .returned (.tuple #[.agg #[.int .i64 (keyAt 0 S id), .int .i64 (idAt S id)], .int .i64 (hasE S id)]) ∧ Below A.heap.size A w' := fun A hA => by
    have hg := Ke.KU_get ((h3.below hA).sw0) (by rw [itq_length]; exact hl) id hw
    rw [itq_keyAt hd, itq_hasE] at hg
    exact hg
  obtain ⟨a1, ha1⟩ : ∃ a, keyAt 0 S id = a := ⟨_, rfl⟩
  obtain ⟨a2, ha2⟩ : ∃ a, idAt S id = a := ⟨_, rfl⟩
  simp only [ha1, ha2] at hg
  obtain ⟨te, hte⟩ : ∃ te, timeE t = te := ⟨_, rfl⟩
  have HT := Lib.hid (time_any t w1)
  have HB := Lib.hid hb1
  have hba : Below w1.heap.size w1 ((w1.alloc (.cells #[.int .i64 0, .int .i64 0] 24)).drew) := ((Below.refl _ w1).alloc (Nat.le_refl _) _).drew
  have hpa : (w1.alloc (.cells #[.int .i64 0, .int .i64 0] 24)).drew.heap[w1.heap.size]? = some (.cells #[.int .i64 0, .int .i64 0] 24 (0, 0)) := heap_alloc_new w1 _
  have hn3 := World.new_ne w1 _ c0
  have hn4 := World.new_ne w1 _ p1
  have HBa := Lib.hid hba
  have HPa := Lib.hid hpa
  clear hba hpa
  unfold checkE
  rw [hte]
  rw [hte] at HT
  by_cases hneg : id < 0
  · rw [if_pos hneg]
    have hng : (id < 0) = True := by simp [hneg]
    clear h h3 hg hd ha1 ha2 hb1 hte
    go_enter Try.func138, Try.ntmps138
    go_wp2
    go_ret
    exact ⟨rfl, HB.out⟩
  · rw [if_neg hneg]
    by_cases ht0 : te = 0
    · rw [if_pos ht0]
      subst ht0
      unfold hasE at hg
      cases hh : has S id with
      | true =>
        simp only [hh, if_true] at hg
        rw [if_pos rfl]
        have HG := Lib.hid hg
        clear h h3 hg hd ha1 ha2 hb1 hte hh
        go_enter Try.func138, Try.ntmps138
        go_wp2_with fail
        refine HT.out.mono ?_
        rintro e w' ⟨rfl, rfl⟩
        go_wp2_with fail
        go_region_held3 (fun A0 => A0.cell? ⟨qb, 0, none⟩ = some (.pointer (some ⟨h1, 0, none⟩)) ∧ A0.cell? ⟨w.heap.size, 1, none⟩ = some (.int .i64 id))
          (first | (refine ⟨?_, ?_⟩ <;> assumption) | go_keep)
          (first
            | (go_at_call 101; refine (HG.out ((w1.alloc (.cells #[.int .i64 0, .int .i64 0] 24)).drew) HBa.out).mono ?_; rintro e w2 ⟨rfl, hb2⟩; have k0 := zatB (zatB c0 HBa.out) hb2; have k1 := zatB (zatB p1 HBa.out) hb2; have o2 := (Mod.of_below (S := none') hb2).obj HPa.out (fun h => h); have k2 : w2.cell? ⟨w1.heap.size, 0, none⟩ = some (.int .i64 0) := (by simp [World.cell?, o2]); have k3 : w2.cell? ⟨w1.heap.size, 1, none⟩ = some (.int .i64 0) := (by simp [World.cell?, o2]); have k4 : w2.frozen? ⟨w1.heap.size, 0, none⟩ = false := (by simp [World.frozen?, o2]); have k5 : w2.frozen? ⟨w1.heap.size, 1, none⟩ = false := (by simp [World.frozen?, o2]); have HB2 := Lib.hid (HB.out.trans (HBa.out.trans (hb2.mono HBa.out.size) |>.mono HB.out.size)); clear hb2 o2)
            | (go_at_call 101; refine (HG.out w1.drew ((Below.refl _ w1).drew)).mono ?_; rintro e w2 ⟨rfl, hb2⟩; have k0 := zatB (w := w1.drew) c0 hb2; have k1 := zatB (w := w1.drew) p1 hb2; have HB2 := Lib.hid (HB.out.drew.trans (hb2.mono HB.out.size)); have hn1 := World.new_ne w2 _ k0; have hn2 := World.new_ne w2 _ k1; clear hb2))
        all_goals go_wp2_with fail
        all_goals go_ret
        · exact ⟨rfl, HB2.out.alloc HB2.out.size _⟩
        · exact ⟨rfl, (HB2.out.setCell (p := ⟨w1.heap.size, 0, none⟩) HB.out.size _).setCell (p := ⟨w1.heap.size, 1, none⟩) HB.out.size _⟩
      | false =>
        simp only [hh, Bool.false_eq_true, if_false] at hg
        rw [if_neg (by simp)]
        have HG := Lib.hid hg
        clear h h3 hg hd ha1 ha2 hb1 hte hh
        go_enter Try.func138, Try.ntmps138
        go_wp2_with fail
        refine HT.out.mono ?_
        rintro e w' ⟨rfl, rfl⟩
        go_wp2_with fail
        go_region_held3 (fun A0 => A0.cell? ⟨qb, 0, none⟩ = some (.pointer (some ⟨h1, 0, none⟩)) ∧ A0.cell? ⟨w.heap.size, 1, none⟩ = some (.int .i64 id))
          (first | (refine ⟨?_, ?_⟩ <;> assumption) | go_keep)
          (first
            | (go_at_call 101; refine (HG.out ((w1.alloc (.cells #[.int .i64 0, .int .i64 0] 24)).drew) HBa.out).mono ?_; rintro e w2 ⟨rfl, hb2⟩; have k0 := zatB (zatB c0 HBa.out) hb2; have k1 := zatB (zatB p1 HBa.out) hb2; have o2 := (Mod.of_below (S := none') hb2).obj HPa.out (fun h => h); have k2 : w2.cell? ⟨w1.heap.size, 0, none⟩ = some (.int .i64 0) := (by simp [World.cell?, o2]); have k3 : w2.cell? ⟨w1.heap.size, 1, none⟩ = some (.int .i64 0) := (by simp [World.cell?, o2]); have k4 : w2.frozen? ⟨w1.heap.size, 0, none⟩ = false := (by simp [World.frozen?, o2]); have k5 : w2.frozen? ⟨w1.heap.size, 1, none⟩ = false := (by simp [World.frozen?, o2]); have HB2 := Lib.hid (HB.out.trans (HBa.out.trans (hb2.mono HBa.out.size) |>.mono HB.out.size)); clear hb2 o2)
            | (go_at_call 101; refine (HG.out w1.drew ((Below.refl _ w1).drew)).mono ?_; rintro e w2 ⟨rfl, hb2⟩; have k0 := zatB (w := w1.drew) c0 hb2; have k1 := zatB (w := w1.drew) p1 hb2; have HB2 := Lib.hid (HB.out.drew.trans (hb2.mono HB.out.size)); have hn1 := World.new_ne w2 _ k0; have hn2 := World.new_ne w2 _ k1; clear hb2))
        all_goals go_wp2_with fail
        all_goals go_ret
        · exact ⟨rfl, HB2.out.alloc HB2.out.size _⟩
        · exact ⟨rfl, (HB2.out.setCell (p := ⟨w1.heap.size, 0, none⟩) HB.out.size _).setCell (p := ⟨w1.heap.size, 1, none⟩) HB.out.size _⟩
    · rw [if_neg ht0]
      have hne : (te == 0) = false := by simp [ht0]
      clear h h3 hg hd ha1 ha2 hb1 hte
      go_enter Try.func138, Try.ntmps138
      go_wp2_with fail
      refine HT.out.mono ?_
      rintro e w' ⟨rfl, rfl⟩
      go_wp2
      go_ret
      exact ⟨rfl, HB.out⟩
end
end Go.Proofs.Ytkjpkhpiojahkaa

/-! ### Walks: a queue's Move, Copy. -/
namespace Go.Proofs.Ytkjpkhpiojahkaa
set_option linter.unusedVariables false
open Go.RowKit Hp

section
variable {w0 w : World} {qb : Nat} {S : List (It Int)} {R : Ast}

set_option maxRecDepth 100000 in
set_option maxHeartbeats 8000000 in
theorem Q_move (h : On w0 w (sep (quA qb S) R)) (hl : S.length < 900000) (t id : Int) (hw : (Lit.int .i64 id).wf = true) :
    Calls Try.prog 36 #[.pointer (some ⟨qb, 0, none⟩), .agg #[.int .i64 t, .int .i64 id]] w fun e w' => e = .returned (.int .i64 (moveE S t id)) ∧ On w0 w' (sep (quA qb (moveS S t id)) R) := by
  obtain ⟨b, hbb⟩ : ∃ b, w.heap.size = b := ⟨_, rfl⟩
  obtain ⟨w1, hw1⟩ : ∃ w1, w.alloc (.cells #[.int .i64 t, .int .i64 id] 24) = w1 := ⟨_, rfl⟩
  have h3 := h.new1 24 #[.int .i64 t, .int .i64 id]
  rw [hw1, hbb] at h3
  have p0 : w1.cell? ⟨b, 0, none⟩ = some (.int .i64 t) := (h3.box1 0).1
  have p1 : w1.cell? ⟨b, 1, none⟩ = some (.int .i64 id) := (h3.box1 1).1
  have hg := Q_get (h3.sw0) hl id hw
  obtain ⟨a1, ha1⟩ : ∃ a, keyAt 0 S id = a := ⟨_, rfl⟩
  obtain ⟨a2, ha2⟩ : ∃ a, idAt S id = a := ⟨_, rfl⟩
  rw [ha1, ha2] at hg
  obtain ⟨te, hte⟩ : ∃ te, timeE t = te := ⟨_, rfl⟩
  have HT := Lib.hid (time_any t)
  unfold moveE moveS
  rw [hte]
  rw [hte] at HT
  unfold hasE at hg
  have H3 := Lib.hid h3
  have HTe := Lib.hid hte
  clear h h3 ha1 ha2 hte
  cases hh : has S id with
  | false =>
    simp only [hh, Bool.false_eq_true, if_false] at hg
    simp only [Bool.false_eq_true, if_false]
    have HG := Lib.hid hg
    clear hg hh
    go_enter Try.func36, Try.ntmps36
    go_wp2_with fail
    refine HG.out.mono ?_
    rintro e w2 ⟨rfl, hb2⟩
    have hb3 : Below w1.heap.size w1 (w2.alloc (.cells #[.int .i64 a1, .int .i64 a2] 24)) := hb2.alloc hb2.size _
    have HO := Lib.hid (H3.out.below hb3).out1
    clear hb2 hb3
    go_wp2
    go_ret
    exact ⟨rfl, HO.out⟩
  | true =>
    simp only [hh, if_true] at hg
    simp only [if_true]
    have HG := Lib.hid hg
    have HHh := Lib.hid hh
    clear hg hh
    by_cases ht0 : te = 0
    · rw [if_pos ht0]
      subst ht0
      go_enter Try.func36, Try.ntmps36
      go_wp2_with fail
      refine HG.out.mono ?_
      rintro e w2 ⟨rfl, hb2⟩
      obtain ⟨w3, hw3⟩ : ∃ w3, w2.alloc (.cells #[.int .i64 a1, .int .i64 a2] 24) = w3 := ⟨_, rfl⟩
      have hb3 : Below w1.heap.size w1 w3 := by rw [← hw3]; exact hb2.alloc hb2.size _
      have q0 := zatB p0 hb3
      have q1 := zatB p1 hb3
      have h4 := H3.out.below hb3
      have H4 := Lib.hid h4
      clear hb2 hb3 p0 p1 h4
      go_wp2_with fail
      refine (HT.out _).mono ?_
      rintro e w' ⟨rfl, rfl⟩
      obtain ⟨h1, h2, h5⟩ := (H4.out.sw0).qu_open
      have h5 := h5.below ((Below.refl _ w3).drew)
      have c0 : w3.cell? ⟨qb, 0, none⟩ = some (.pointer (some ⟨h1, 0, none⟩)) := (h5.box1 0).1
      have hc := Ke.KU_change Ke.lessB (h5.sw0) (by rw [itq_length]; exact hl) id (t, id) hw
      rw [itq_hasE, show hasE S id = 0 by unfold hasE; rw [HHh.out]; rfl] at hc
      have HCh := Lib.hid hc
      clear h5 hc
      go_wp2_with fail
      go_region_held3 (fun A0 => A0.cell? ⟨qb, 0, none⟩ = some (.pointer (some ⟨h1, 0, none⟩)) ∧ A0.cell? ⟨b, 0, none⟩ = some (.int .i64 t) ∧ A0.cell? ⟨b, 1, none⟩ = some (.int .i64 id))
        (first | (refine ⟨?_, ?_, ?_⟩ <;> assumption) | go_keep)
        (first
          | (go_at_call 103; refine HCh.out.mono ?_; rintro e w5 ⟨rfl, k5⟩; have r0 : w5.cell? ⟨qb, 0, none⟩ = some (.pointer (some ⟨h1, 0, none⟩)) := ((k5.sw0).box1 0).1; have r1 : w5.cell? ⟨qb, 1, none⟩ = some (.pointer (some ⟨h2, 0, none⟩)) := ((k5.sw0).box1 1).1; have r2 : w5.cell? ⟨b, 0, none⟩ = some (.int .i64 t) := ((k5.sw2.sw1.sw0).box1 0).1; have r3 : w5.cell? ⟨b, 1, none⟩ = some (.int .i64 id) := ((k5.sw2.sw1.sw0).box1 1).1; have K5 := Lib.hid (k5.mono1 fun F => Ke.permK itq_ch F); clear k5))
      have h6 := K5.out.below ((Below.refl _ w5).drew)
      have hc2 := Ke.KU_change Ke.lessF (h6.sw1.sw0) (by rw [itq_length]; exact hl) id (t, id) hw
      rw [itq_hasE, show hasE S id = 0 by unfold hasE; rw [HHh.out]; rfl] at hc2
      have HCh2 := Lib.hid hc2
      clear h6 hc2
      go_wp2_with fail
      go_region_held3 (fun A0 => A0.cell? ⟨qb, 1, none⟩ = some (.pointer (some ⟨h2, 0, none⟩)) ∧ A0.cell? ⟨b, 0, none⟩ = some (.int .i64 t) ∧ A0.cell? ⟨b, 1, none⟩ = some (.int .i64 id))
        (first | (refine ⟨?_, ?_, ?_⟩ <;> assumption) | go_keep)
        (first
          | (go_at_call 103; refine HCh2.out.mono ?_; rintro e w6 ⟨rfl, k6⟩; have s1 : w6.cell? ⟨qb, 1, none⟩ = some (.pointer (some ⟨h2, 0, none⟩)) := ((k6.sw1.sw0).box1 1).1; have s2 : w6.cell? ⟨b, 0, none⟩ = some (.int .i64 t) := ((k6.sw2.sw1.sw0).box1 0).1; have s3 : w6.cell? ⟨b, 1, none⟩ = some (.int .i64 id) := ((k6.sw2.sw1.sw0).box1 1).1; have K6 := Lib.hid (k6.mono1 fun F => Ke.permK itq_ch F); clear k6))
      go_wp2_with fail
      go_ret
      exact ⟨rfl, (K6.out.sw1.sw0.sw1).qu_shut.sw0.out1⟩
    · rw [if_neg ht0]
      have hne : (te == 0) = false := by simp [ht0]
      go_enter Try.func36, Try.ntmps36
      go_wp2_with fail
      refine HG.out.mono ?_
      rintro e w2 ⟨rfl, hb2⟩
      obtain ⟨w3, hw3⟩ : ∃ w3, w2.alloc (.cells #[.int .i64 a1, .int .i64 a2] 24) = w3 := ⟨_, rfl⟩
      have hb3 : Below w1.heap.size w1 w3 := by rw [← hw3]; exact hb2.alloc hb2.size _
      have q0 := zatB p0 hb3
      have q1 := zatB p1 hb3
      have HO := Lib.hid (H3.out.below hb3).out1
      clear hb2 hb3 p0 p1
      go_wp2_with fail
      refine (HT.out _).mono ?_
      rintro e w' ⟨rfl, rfl⟩
      go_wp2
      go_ret
      exact ⟨rfl, HO.out⟩

set_option maxRecDepth 100000 in
set_option maxHeartbeats 4000000 in
theorem Q_copy (h : On w0 w (sep (quA qb S) R)) (hl : S.length < 900000) :
    Calls Try.prog 38 #[.pointer (some ⟨qb, 0, none⟩)] w fun e w' => ∃ qc, e = .returned (.pointer (some ⟨qc, 0, none⟩)) ∧ On w0 w' (sep (quA qc S) (sep (quA qb S) R)) := by
  obtain ⟨h1, h2, h⟩ := h.qu_open
  have h0 := h.below ((Below.refl _ w).drew)
  have c0 : w.cell? ⟨qb, 0, none⟩ = some (.pointer (some ⟨h1, 0, none⟩)) := (h.box1 0).1
  have c1 : w.cell? ⟨qb, 1, none⟩ = some (.pointer (some ⟨h2, 0, none⟩)) := (h.box1 1).1
  have HC1 := Lib.hid (Ke.KU_copy (h0.sw0) (by rw [itq_length]; exact hl))
  clear h h0
  go_enter Try.func38, Try.ntmps38
  go_wp2_with fail
  go_region_held3 (fun A0 => A0.cell? ⟨qb, 0, none⟩ = some (.pointer (some ⟨h1, 0, none⟩)) ∧ A0.cell? ⟨qb, 1, none⟩ = some (.pointer (some ⟨h2, 0, none⟩)))
    (first | (refine ⟨?_, ?_⟩ <;> assumption) | go_keep)
    (first
      | (go_at_call 105; ((with_reducible refine HC1.out.mono ?_); rintro e w2 ⟨g1, rfl, k2⟩; have r0 : w2.cell? ⟨qb, 0, none⟩ = some (.pointer (some ⟨h1, 0, none⟩)) := ((k2.sw1.sw0).box1 0).1; have r1 : w2.cell? ⟨qb, 1, none⟩ = some (.pointer (some ⟨h2, 0, none⟩)) := ((k2.sw1.sw0).box1 1).1; have HC2 := Lib.hid (Ke.KU_copy (k2.sw2.sw1.sw0) (by rw [itq_length]; exact hl)); clear k2))
      | (go_at_call 105; ((with_reducible refine HC2.out.mono ?_); rintro e w3 ⟨g2, rfl, k3⟩; have s0 : w3.cell? ⟨qb, 0, none⟩ = some (.pointer (some ⟨h1, 0, none⟩)) := ((k3.sw3.sw2.sw1.sw0).box1 0).1; have s1 : w3.cell? ⟨qb, 1, none⟩ = some (.pointer (some ⟨h2, 0, none⟩)) := ((k3.sw3.sw2.sw1.sw0).box1 1).1; have K3 := Lib.hid k3; have hn1 := World.new_ne w3 _ s0; clear k3)))
  go_wp2_with fail
  go_ret
  have hon := K3.out.new1 138 #[.pointer (some ⟨g1, 0, none⟩), .pointer (some ⟨g2, 0, none⟩)]
  have h5 := (hon.sw2.sw1.sw4.sw3.sw4).qu_shut
  exact ⟨_, rfl, (h5.sw0.sw1.sw2).qu_shut.sw0⟩
end
end Go.Proofs.Ytkjpkhpiojahkaa

/-! ### Walk: a queue's Put. -/
namespace Go.Proofs.Ytkjpkhpiojahkaa
set_option linter.unusedVariables false
open Go.RowKit Hp

/-- the list when the first i keys have been put -/
def addN (S : List (It Int)) (ks : List (Int × Int)) : Nat → List (It Int)
  | 0 => S
  | i + 1 => putS ltI (addN S ks i) (ks[i]?.getD (0, 0)).2 (ks[i]?.getD (0, 0)).1
/-- what a Put leaves that comes as far as key i of n -/
def putT (S : List (It Int)) (ks : List (Int × Int)) (n i : Nat) : List (It Int) := if i < n then S else addN S ks n
/-- the list when the first j keys have been taken away again -/
def dropN (T : List (It Int)) (ks : List (Int × Int)) : Nat → List (It Int)
  | 0 => T
  | j + 1 => without (dropN T ks j) (ks[j]?.getD (0, 0)).2
section
variable {S T : List (It Int)} {ks : List (Int × Int)}
theorem addN_length : ∀ i, (addN S ks i).length ≤ S.length + i
  | 0 => Nat.le_refl _
  | i + 1 => by rw [addN]; have := putS_length (lt := ltI) (S := addN S ks i) (id := (ks[i]?.getD (0, 0)).2) (k := (ks[i]?.getD (0, 0)).1); have := addN_length i; omega
theorem addN_sorted (hs : Sorted ltI S) : ∀ i, Sorted ltI (addN S ks i)
  | 0 => hs
  | i + 1 => putS_sorted ltI_swo (addN_sorted hs i)
theorem dropN_sub : ∀ j, (dropN T ks j).Sublist T
  | 0 => List.Sublist.refl _
  | j + 1 => without_sub.trans (dropN_sub j)
theorem dropN_filter : ∀ j, dropN T ks j = T.filter fun x => (List.range j).all fun m => x.1 != (ks[m]?.getD (0, 0)).2
  | 0 => by rw [dropN]; exact (List.filter_eq_self.2 (by simp)).symm
  | j + 1 => by
    rw [dropN, without, dropN_filter j, List.filter_filter]
    congr 1
    funext x
    rw [List.range_succ, List.all_append]
    simp [Bool.and_comm]
theorem checkE_ok {t id : Int} (h : checkE S t id = 0) : 0 ≤ id ∧ timeE t = 0 ∧ has S id = false := by
  unfold checkE at h
  split at h
  · omega
  · rename_i h1
    split at h
    · rename_i h2
      refine ⟨by omega, h2, ?_⟩
      cases hh : has S id with
      | true => rw [hh] at h; simp at h
      | false => rfl
    · rename_i h2; exact absurd h h2
theorem dropN_back : ∀ i, (∀ j, j < i → checkE (addN S ks j) (ks[j]?.getD (0, 0)).1 (ks[j]?.getD (0, 0)).2 = 0) → dropN (addN S ks i) ks i = S
  | 0, _ => rfl
  | i + 1, h => by
    obtain ⟨h0, _, h1⟩ := checkE_ok (h i (by omega))
    have ih := dropN_back i fun j hj => h j (by omega)
    obtain ⟨k, hk⟩ : ∃ k, ks[i]?.getD (0, 0) = k := ⟨_, rfl⟩
    rw [hk] at h0 h1
    rw [addN, hk]
    unfold putS
    rw [if_neg (by omega), h1, if_neg (by simp)]
    rw [dropN_filter] at ih ⊢
    have e1 : ∀ l : List (It Int), ((ins ltI (k.2, k.1) l).filter fun x => (List.range (i + 1)).all fun m => x.1 != (ks[m]?.getD (0, 0)).2) = l.filter fun x => (List.range (i + 1)).all fun m => x.1 != (ks[m]?.getD (0, 0)).2 := by
      intro l
      induction l with
      | nil => simp [ins, List.range_succ, hk]
      | cons y l ihl =>
        rw [ins]
        split
        · rw [List.filter_cons, List.filter_cons, ihl]
        · rw [List.filter_cons_of_neg (by simp [List.range_succ, hk])]
    rw [e1]
    have e2 : ((addN S ks i).filter fun x => (List.range (i + 1)).all fun m => x.1 != (ks[m]?.getD (0, 0)).2) = (addN S ks i).filter fun x => (List.range i).all fun m => x.1 != (ks[m]?.getD (0, 0)).2 := by
      apply List.filter_congr
      intro x hx
      rw [List.range_succ, List.all_append]
      have := has_none.1 h1 x hx
      simp [hk, this]
    rw [e2]
    exact ih
end

theorem size38 (w : World) : (sizeOf (Try.prog.elem 30)).run Try.prog w = .ok 2 w := by kernel_rfl
theorem elem38 : Try.prog.underlying 30 = some (.slice (Try.prog.elem 30)) := by kernel_rfl
theorem slice_to (b off n cap i : Nat) (hi : i ≤ cap) (hc : 0 < cap) (w : World) :
    (Instr.slice 30 (.slice (some ⟨b, off, none⟩) n cap) none (some (.int .i64 (i : Int))) none).run Try.prog w = .ok (.slice (some ⟨b, off, none⟩) i cap) w := by
  rw [run_slice_h w 30 (some ⟨b, off, none⟩) n cap elem38 .i64 (i : Int) (by omega) (by omega), size38]
  simp only [Result.andThen, sliced]
  rw [if_neg (by omega)]
  simp [Addr.add]

section
variable {w0 w : World} {qb : Nat} {S : List (It Int)} {R : Ast}

set_option maxRecDepth 100000 in
set_option maxHeartbeats 16000000 in
theorem Q_put (h : On w0 w (sep (quA qb S) R)) (a : Option Addr) (cap : Nat) (ks : List (Int × Int)) (hk : ∀ A T, On w0 A (sep (quA qb T) R) → Ke.KeysAt A a ks) (hwf : ∀ k ∈ ks, (Lit.int .i64 k.2).wf = true) (hcap : ks.length ≤ cap) (hcm : cap ≤ 9223372036854775807)
    (hl : S.length + ks.length < 800000) (i : Nat) (hi : i ≤ ks.length) (hok : ∀ j, j < i → checkE (addN S ks j) (ks[j]?.getD (0, 0)).1 (ks[j]?.getD (0, 0)).2 = 0)
    (te : Int) (hte : te = if i < ks.length then checkE (addN S ks i) (ks[i]?.getD (0, 0)).1 (ks[i]?.getD (0, 0)).2 else 0) (hbad : i < ks.length → te ≠ 0) :
    Calls Try.prog 92 #[.pointer (some ⟨qb, 0, none⟩), .slice a ks.length cap] w fun e w' => e = .returned (.int .i64 te) ∧ On w0 w' (sep (quA qb (putT S ks ks.length i)) R) := by
  obtain ⟨n, hn⟩ : ∃ n, ks.length = n := ⟨_, rfl⟩
  rw [hn] at hcap hl hi hte hbad ⊢
  have hkey : ∀ A T j, j < n → On w0 A (sep (quA qb T) R) → ∃ b off, a = some ⟨b, off, none⟩ ∧ A.cell? ⟨b, off + j * 2, none⟩ = some (.int .i64 (ks[j]?.getD (0, 0)).1) ∧ A.cell? ⟨b, off + j * 2 + 1, none⟩ = some (.int .i64 (ks[j]?.getD (0, 0)).2) := fun A T j hj hA => by
    rcases hk A T hA with h0 | ⟨b, off, ha, _, hc⟩
    · omega
    · exact ⟨b, off, ha, (hc j (by omega)).1, (hc j (by omega)).2⟩
  have hwf' : ∀ j, j < n → (Lit.int .i64 (ks[j]?.getD (0, 0)).2).wf = true := fun j hj => by
    rw [List.getElem?_eq_getElem (by omega), Option.getD_some]
    exact hwf _ (List.getElem_mem _)
  have H0 := Lib.hid h
  have HKey := Lib.hid hkey
  have HWf := Lib.hid hwf'
  have HOk := Lib.hid hok
  have HTe := Lib.hid hte
  have HNn := Lib.hid hn
  have HBad := Lib.hid hbad
  have hnI : (n : Int) < 800000 := by omega
  have hcapI : (n : Int) ≤ (cap : Int) := by omega
  have hcapB : (cap : Int) ≤ 9223372036854775807 := by omega
  clear h hkey hwf hwf' hok hte hn hbad hk
  go_enter Try.func92, Try.ntmps92
  go_wp2_with fail
  go_loopg [14] (n + 1) (fun gh s14 wr => ∃ k : Nat, k + gh = n + 1 ∧ k ≤ i ∧ s14 = .int .i64 (k : Int) ∧ On w0 wr (sep (quA qb (addN S ks k)) R))
  case atStart => exact ⟨0, by omega, by omega, rfl, H0.out⟩
  case round =>
    obtain ⟨k, hk, hki, rfl, hon⟩ := hrel
    have hk0 : (0 : Int) ≤ (k : Int) := by omega
    by_cases hkn : k < n
    · have hknI : (k : Int) < (n : Int) := by omega
      obtain ⟨b, off, rfl, c0, c1⟩ := HKey.out wr _ k hkn hon
      obtain ⟨t, ht⟩ : ∃ t, (ks[k]?.getD (0, 0)).1 = t := ⟨_, rfl⟩
      obtain ⟨id, hid⟩ : ∃ id, (ks[k]?.getD (0, 0)).2 = id := ⟨_, rfl⟩
      rw [ht] at c0
      rw [hid] at c1
      have hw := HWf.out k hkn
      rw [hid] at hw
      obtain ⟨bx, hbx⟩ : ∃ bx, wr.heap.size = bx := ⟨_, rfl⟩
      obtain ⟨w1, hw1⟩ : ∃ w1, wr.alloc (.cells #[.int .i64 t, .int .i64 id] 24) = w1 := ⟨_, rfl⟩
      have h1 := hon.new1 24 #[.int .i64 t, .int .i64 id]
      rw [hw1, hbx] at h1
      have p0 : w1.cell? ⟨bx, 0, none⟩ = some (.int .i64 t) := (h1.box1 0).1
      have p1 : w1.cell? ⟨bx, 1, none⟩ = some (.int .i64 id) := (h1.box1 1).1
      have hlen : (addN S ks k).length < 800000 := by have := addN_length (S := S) (ks := ks) k; omega
      have hch := Q_check (h1.sw0) (by omega) t id hw
      have H1 := Lib.hid h1
      have HHt := Lib.hid ht
      have HId := Lib.hid hid
      have HW := Lib.hid hw
      clear hon h1 ht hid hw
      by_cases hki2 : k < i
      · have hz : checkE (addN S ks k) t id = 0 := by
          have := HOk.out k hki2
          rw [HHt.out, HId.out] at this
          exact this
        obtain ⟨z0, _, z2⟩ := checkE_ok hz
        rw [hz] at hch
        have HCh := Lib.hid hch
        have hadd : addN S ks (k + 1) = putS ltI (addN S ks k) id t := by rw [addN, HHt.out, HId.out]
        have HAdd := Lib.hid hadd
        have HZ2 := Lib.hid z2
        clear hch hz hadd z2
        go_wp2_with fail
        refine HCh.out.mono ?_
        rintro e w2 ⟨rfl, hb2⟩
        have h2 := (H1.out.below hb2)
        have q0 := zatB p0 hb2
        have q1 := zatB p1 hb2
        obtain ⟨g1, g2, h3⟩ := (h2.sw0).qu_open
        have c2 : w2.cell? ⟨qb, 0, none⟩ = some (.pointer (some ⟨g1, 0, none⟩)) := (h3.box1 0).1
        have hc := Ke.KU_put Ke.lessB ((h3.below ((Below.refl _ w2).drew)).sw0) (by rw [itq_length]; omega) id (t, id) HW.out
        rw [show putE (itq (addN S ks k)) id = 0 by unfold putE; rw [if_neg (by omega), itq_has, HZ2.out]; rfl] at hc
        have HCp := Lib.hid hc
        clear h2 h3 hc hb2 p0 p1 c0 c1
        go_wp2_with fail
        go_region_held3 (fun A0 => A0.cell? ⟨qb, 0, none⟩ = some (.pointer (some ⟨g1, 0, none⟩)) ∧ A0.cell? ⟨bx, 0, none⟩ = some (.int .i64 t) ∧ A0.cell? ⟨bx, 1, none⟩ = some (.int .i64 id))
          (first | (refine ⟨?_, ?_, ?_⟩ <;> assumption) | go_keep)
          (first
            | (go_at_call 139; refine HCp.out.mono ?_; rintro e w5 ⟨rfl, k5⟩; have r0 : w5.cell? ⟨qb, 0, none⟩ = some (.pointer (some ⟨g1, 0, none⟩)) := ((k5.sw0).box1 0).1; have r1 : w5.cell? ⟨qb, 1, none⟩ = some (.pointer (some ⟨g2, 0, none⟩)) := ((k5.sw0).box1 1).1; have r2 : w5.cell? ⟨bx, 0, none⟩ = some (.int .i64 t) := ((k5.sw2.sw1.sw0).box1 0).1; have r3 : w5.cell? ⟨bx, 1, none⟩ = some (.int .i64 id) := ((k5.sw2.sw1.sw0).box1 1).1; have K5 := Lib.hid (k5.mono1 fun F => Ke.permK itq_put F); clear k5))
        have h6 := K5.out.below ((Below.refl _ w5).drew)
        have hc2 := Ke.KU_put Ke.lessF (h6.sw1.sw0) (by rw [itq_length]; omega) id (t, id) HW.out
        rw [show putE (itq (addN S ks k)) id = 0 by unfold putE; rw [if_neg (by omega), itq_has, HZ2.out]; rfl] at hc2
        have HCp2 := Lib.hid hc2
        clear h6 hc2
        go_wp2_with fail
        go_region_held3 (fun A0 => A0.cell? ⟨qb, 1, none⟩ = some (.pointer (some ⟨g2, 0, none⟩)) ∧ A0.cell? ⟨bx, 0, none⟩ = some (.int .i64 t) ∧ A0.cell? ⟨bx, 1, none⟩ = some (.int .i64 id))
          (first | (refine ⟨?_, ?_, ?_⟩ <;> assumption) | go_keep)
          (first
            | (go_at_call 139; refine HCp2.out.mono ?_; rintro e w6 ⟨rfl, k6⟩; have s1 : w6.cell? ⟨qb, 1, none⟩ = some (.pointer (some ⟨g2, 0, none⟩)) := ((k6.sw1.sw0).box1 1).1; have s2 : w6.cell? ⟨bx, 0, none⟩ = some (.int .i64 t) := ((k6.sw2.sw1.sw0).box1 0).1; have s3 : w6.cell? ⟨bx, 1, none⟩ = some (.int .i64 id) := ((k6.sw2.sw1.sw0).box1 1).1; have K6 := Lib.hid (k6.mono1 fun F => Ke.permK itq_put F); clear k6))
        go_wp2_with fail
        have HOn := Lib.hid ((K6.out.sw1.sw0.sw1).qu_shut.sw0.out1)
        go_roundg (n + 1 - (k + 1))
        case measure => omega
        case rel => exact ⟨k + 1, by omega, by omega, by go_num, by rw [HAdd.out]; exact HOn.out⟩
      · have hkieq : i = k := by omega
        subst hkieq
        have hz : checkE (addN S ks i) t id = te := by
          have := HTe.out
          rw [if_pos hkn, HHt.out, HId.out] at this
          exact this.symm
        rw [hz] at hch
        have HCh := Lib.hid hch
        have hte0 := HBad.out hkn
        have hne2 : (te != 0) = true := by simp [hte0]
        have hil : (i : Int) ≤ (cap : Int) := by omega
        have hsl := slice_to b off n cap i (by omega) (by omega)
        have hsl2 : ∀ w, (Instr.sliceAt 30 (.slice (some ⟨b, off, none⟩) n cap) none (some (.int .i64 (i : Int))) none).run Try.prog w = .ok (.slice (some ⟨b, off, none⟩) i cap) w := fun w => (run_sliceAt_slice w 30 _ _ _ _ elem38).trans (hsl w)
        have HLen := Lib.hid hlen
        clear hch hz hk hki hki2 hi hcap hl hlen hte0
        go_wp2_with fail
        refine HCh.out.mono ?_
        rintro e w2 ⟨rfl, hb2⟩
        have HD0 := Lib.hid (H1.out.below hb2).out1
        clear hb2 p0 p1 c0 c1
        go_wp2_with fail
        go_loopg [28] i (fun gh s28 wr => ∃ j : Nat, j + gh = i ∧ s28 = .int .i64 (j : Int) ∧ On w0 wr (sep (quA qb (dropN (addN S ks i) ks j)) R))
        case atStart => exact ⟨0, by omega, rfl, HD0.out⟩
        case round =>
          obtain ⟨j, hj, rfl, hon2⟩ := hrel
          have hj0 : (0 : Int) ≤ (j : Int) := by omega
          by_cases hji : j < i
          · have hjiI : (j : Int) < (i : Int) := by omega
            obtain ⟨b', off', he, d0, d1⟩ := HKey.out wr _ j (by omega) hon2
            cases he
            obtain ⟨t2, ht2⟩ : ∃ t, (ks[j]?.getD (0, 0)).1 = t := ⟨_, rfl⟩
            obtain ⟨id2, hid2⟩ : ∃ id, (ks[j]?.getD (0, 0)).2 = id := ⟨_, rfl⟩
            rw [ht2] at d0
            rw [hid2] at d1
            have hw2 := HWf.out j (by omega)
            rw [hid2] at hw2
            obtain ⟨x1, hx1⟩ : ∃ w1, wr.alloc (.cells #[.int .i64 t2, .int .i64 id2] 24) = w1 := ⟨_, rfl⟩
            have h1 := hon2.new1 24 #[.int .i64 t2, .int .i64 id2]
            rw [hx1] at h1
            have p0 : x1.cell? ⟨wr.heap.size, 0, none⟩ = some (.int .i64 t2) := (h1.box1 0).1
            have p1 : x1.cell? ⟨wr.heap.size, 1, none⟩ = some (.int .i64 id2) := (h1.box1 1).1
            have hdl : (dropN (addN S ks i) ks j).length < 900000 := by have := (dropN_sub (T := addN S ks i) (ks := ks) j).length_le; have := HLen.out; omega
            have hdr := Q_drop (h1.sw0) hdl id2 hw2
            have hdn : dropN (addN S ks i) ks (j + 1) = without (dropN (addN S ks i) ks j) id2 := by rw [dropN, hid2]
            have HDr := Lib.hid hdr
            have HDn := Lib.hid hdn
            clear hon2 h1 hdr ht2 hid2 hdn hdl
            go_wp2_with fail
            refine HDr.out.mono ?_
            rintro e x2 ⟨rfl, hx2⟩
            have HX2 := Lib.hid hx2.sw0.out1
            clear hx2
            go_wp2_with fail
            go_roundg (i - (j + 1))
            case measure => omega
            case rel => exact ⟨j + 1, by omega, by go_num, by rw [HDn.out]; exact HX2.out⟩
          · have hji2 : j = i := by omega
            subst hji2
            have hbk := dropN_back j HOk.out
            have HOn := Lib.hid (show On w0 wr (sep (quA qb S) R) by rw [← hbk]; exact hon2)
            clear hon2 hbk
            go_wp2_with fail
            go_ret
            exact ⟨rfl, by unfold putT; rw [if_pos hkn]; exact HOn.out⟩
    · have hkn2 : k = n := by omega
      subst hkn2
      have hik : i = k := by omega
      subst hik
      have hz : te = 0 := by
        have := HTe.out
        rw [if_neg (by omega)] at this
        exact this
      subst hz
      have HOn := Lib.hid hon
      clear hon hk hki hi hcap hl hkn
      go_wp2_with fail
      go_ret
      exact ⟨rfl, by unfold putT; rw [if_neg (Nat.lt_irrefl _)]; exact HOn.out⟩
end
end Go.Proofs.Ytkjpkhpiojahkaa

/-! ### Walks: a queue's Least. -/
namespace Go.Proofs.Ytkjpkhpiojahkaa
set_option linter.unusedVariables false
open Go.RowKit Hp
attribute [local go_sem] Oper.semAt_some

/-- keys in a row of the call's own -/
def keysA (v : Value) (T : List (It Int)) : Ast := rowA v 24 2 T.length (T.flatMap keyC)
theorem keysA_nil (w : World) : (keysA (.slice none 0 0) []).holds w (fun _ => False) := ⟨World.ownsRow_nil _ _ _ _, fun j => by simp [Value.ownBlock]⟩
theorem keysA_of {w : World} {v : Value} {T : List (It Int)} {n : Nat} {xs : List Value} (h : w.ownsRow 0 24 2 v n xs) (hn : n = T.length) (hx : xs = T.flatMap keyC) : (keysA v T).holds w (fun j => v.ownBlock = some j) := by
  subst hn hx
  exact ⟨h, fun j => Iff.rfl⟩
def leastS (S : List (It Int)) (n : Int) : List (It Int) := if n < 1 then [] else S.take n.toNat
/-- a key of a heap's, as a row of keys holds it -/
def kC (x : It (Int × Int)) : List Value := [.int .i64 x.2.1, .int .i64 x.2.2]
theorem kC_itq (T : List (It Int)) : (itq T).flatMap kC = T.flatMap keyC := by
  unfold itq
  rw [List.flatMap_map]
  rfl

theorem own_form1 {w : World} {B t size n : Nat} {v : Value} {xs : List Value} (h : w.ownsRow B t size v (n + 1) xs) : ∃ q cc, v = .slice q (n + 1) cc := by
  rcases own_parts h with ⟨_, h2⟩ | ⟨_, _, _, h1, _⟩
  · cases h2
  · exact ⟨_, _, h1⟩
/-- what has been taken so far: behind the world x, in the row that the box bo holds -/
def LeastI (x : World) (bo : Nat) (O : Nat → Prop) (pre : List (It (Int × Int))) (A : World) : Prop :=
  ∃ v, A.heap[bo]? = some (.cells #[v] 30 (0, 0)) ∧ A.ownsRow 0 24 2 v pre.length (pre.flatMap kC) ∧ (∀ j, v.ownBlock = some j → x.heap.size ≤ j ∧ ¬ O j) ∧ Mod (fun j => j = bo) x A ∧ ∀ j, O j → x.heap.size ≤ j
section
variable {x A A' A1 A2 : World} {bo : Nat} {O O' R : Nat → Prop} {pre : List (It (Int × Int))}
theorem LeastI.mv (hbo : bo < x.heap.size) (h : LeastI x bo O pre A) (hm : Mv O x.heap.size A A') (hO : ∀ j, O' j → O j ∨ A.heap.size ≤ j) : LeastI x bo O' pre A' := by
  obtain ⟨v, h1, h2, h3, h4, h5⟩ := h
  have hsz := h4.size
  refine ⟨v, hm.obj h1 rfl (fun h => by have := h5 _ h; omega), own_same h2 (fun j o hj ho hc => hm.obj ho hc (h3 j hj).2), fun j hj => ⟨(h3 j hj).1, fun h => ?_⟩, h4.then_mv hm (fun i hi hlt => by have := h5 i hi; omega) (Nat.le_refl _), fun j hj => (hO j hj).elim (h5 j) (fun h => by omega)⟩
  rcases hO j h with h | h
  · exact (h3 j hj).2 h
  · have := own_lt h2 hj; omega
theorem LeastI.push {v v' : Value} {y : It (Int × Int)} (hbo : bo < x.heap.size) (ho : A.heap[bo]? = some (.cells #[v] 30 (0, 0))) (hv : ∀ j, v.ownBlock = some j → x.heap.size ≤ j ∧ ¬ O j) (hm : Mod (fun j => j = bo) x A)
    (hown0 : A.ownsRow 0 24 2 v pre.length (pre.flatMap kC)) (hO : ∀ j, O j → x.heap.size ≤ j) (hOl : ∀ j, O j → j < A.heap.size) (hR : ∀ j, R j → j < x.heap.size ∧ j ≠ bo)
    (hb : Below A.heap.size A A1) (hg : A1.grownBy A2 v.ownBlock) (hown : A2.ownsRow 0 24 2 v' (pre.length + 1) (pre.flatMap kC ++ kC y)) (hat : v'.ownBlock = v.ownBlock ∨ v'.ownBlock = some A1.heap.size) :
    A2.heap[bo]? = some (.cells #[v] 30 (0, 0)) ∧ (∀ p u, A.cell? p = some u → p.block < x.heap.size → A2.cell? p = some u) ∧ LeastI x bo O (pre ++ [y]) (A2.setCell ⟨bo, 0, none⟩ v') ∧ Keeps (fun j => R j ∨ O j) A (A2.setCell ⟨bo, 0, none⟩ v') ∧ Ctl x.heap.size A (A2.setCell ⟨bo, 0, none⟩ v') := by
  have hsz := hm.size
  have hs1 := hb.size
  have hvb : ¬ v.ownBlock = some bo := fun e => by have := (hv bo e).1; omega
  have hv'b : ¬ v'.ownBlock = some bo := fun e => by
    rcases hat with h | h
    · rw [h] at e; exact hvb e
    · rw [h] at e; cases e; omega
  have hg' : Mod (fun j => v.ownBlock = some j) A1 A2 := (Mod.refl _ A1).grown hg fun k hk _ => ⟨hk, fun o ho' => by
    rcases own_parts hown0 with ⟨h1, _⟩ | ⟨g, cap, cur, h1, _, h3, _⟩
    · rw [h1] at hk; simp [Value.ownBlock] at hk
    · rw [h1] at hk; simp [Value.ownBlock] at hk
      subst hk
      have h4 := (Mod.of_below (S := none') hb).obj h3 (fun h => h)
      rw [h4] at ho'
      cases ho'
      rfl⟩
  have hst : Mod (fun j => j = bo) A2 (A2.setCell ⟨bo, 0, none⟩ v') := (Mod.refl (fun j => j = bo) A2).setCell (p := ⟨bo, 0, none⟩) (fun _ => rfl) _
  have hall : Mod (fun j => v.ownBlock = some j ∨ j = bo) A (A2.setCell ⟨bo, 0, none⟩ v') :=
    ((Mod.of_below (S := fun j => v.ownBlock = some j ∨ j = bo) hb).trans' (hg'.mono fun j h _ => .inl h)).trans' (hst.mono fun j h _ => .inr h)
  have ho2 : A2.heap[bo]? = some (.cells #[v] 30 (0, 0)) := hg'.obj ((Mod.of_below (S := none') hb).obj ho (fun h => h)) hvb
  refine ⟨ho2, fun p u hp hlt => hg'.cell ((Mod.of_below (S := none') hb).cell hp (fun h => h)) (fun e => by have := (hv _ e).1; omega), ⟨v', ?_, ?_, fun j hj => ?_, hm.trans hall (fun j hj hl => ?_), hO⟩, hall.keeps (fun j hj hlt => ?_), hall.ctl _⟩
  · rw [heap_setCell_at ho2]; rfl
  · rw [List.length_append, List.flatMap_append]
    have he : ([y] : List (It (Int × Int))).flatMap kC = kC y := by simp
    rw [he]
    exact own_same hown fun j o hj ho _ => hst.obj ho (fun e => hv'b (by rw [← e]; exact hj))
  · rcases hat with h | h
    · rw [h] at hj; exact hv j hj
    · rw [h] at hj; cases hj
      exact ⟨by omega, fun h => by have := hOl _ h; omega⟩
  · rcases hj with h | h
    · have := (hv j h).1; omega
    · exact h
  · rcases hj with h | h
    · have := hR j h
      rintro (h' | h')
      · have := (hv j h').1; omega
      · exact this.2 h'
    · have := hO j h
      rintro (h' | h')
      · exact (hv j h').2 h
      · omega
end

section
variable {w0 w : World} {qb : Nat} {S : List (It Int)} {R : Ast}

set_option maxRecDepth 100000 in
set_option maxHeartbeats 1000000 in
theorem Q_least_no (h : On w0 w (sep (quA qb S) R)) (n : Int) (hn : n < 1) :
    Calls Try.prog 29 #[.pointer (some ⟨qb, 0, none⟩), .int .i64 n] w fun e w' => ∃ v, e = .returned v ∧ On w0 w' (sep (keysA v (leastS S n)) (sep (quA qb S) R)) := by
  have h1 := (h.new1 3 #[.int .i64 n]).new1 30 #[.slice none 0 0]
  have hl : leastS S n = [] := by unfold leastS; rw [if_pos hn]
  have H1 := Lib.hid h1
  have HL := Lib.hid hl
  have hn' : (n < 1) = True := by simp [hn]
  clear h h1 hl
  refine (callsIn_wide (n := 9)).1 ?_
  refine callsIn_of_wp_marks Try.func29 rfl trivial ?_ rfl
  simp only [Try.ntmps29, List.size_toArray, List.length_cons, List.length_nil, Nat.reduceAdd, Nat.reduceSub, Array.replicate_succ, Array.replicate_zero, List.push_toArray, List.append_toArray, List.nil_append, List.cons_append]
  gi_wp2_with fail
  refine ⟨.slice none 0 0, by simp [results, Try.f29, go_sem], _, rfl, ?_⟩
  rw [HL.out]
  exact H1.out.out1.out1.add (Below.refl _ _) (keysA_nil _) (fun _ h => h.elim)
end
set_option maxRecDepth 100000 in
set_option maxHeartbeats 4000000 in
theorem Q_least_yes {w0 w : World} {qb : Nat} {S : List (It Int)} {R : Ast} (h : On w0 w (sep (quA qb S) R)) (hs : Sorted ltI S) (hl : S.length < 900000) (n : Int) (hn : 1 ≤ n) :
    Calls Try.prog 29 #[.pointer (some ⟨qb, 0, none⟩), .int .i64 n] w fun e w' => ∃ v, e = .returned v ∧ On w0 w' (sep (keysA v (leastS S n)) (sep (quA qb S) R)) := by
  obtain ⟨p1, p2, ho⟩ := h.qu_open
  obtain ⟨bn, hbn⟩ : ∃ bn, w.heap.size = bn := ⟨_, rfl⟩
  have h1 := (ho.new1 3 #[.int .i64 n]).new1 30 #[.slice none 0 0]
  simp only [World.size_alloc, hbn] at h1
  obtain ⟨W, hW⟩ : ∃ W, (w.alloc (.cells #[.int .i64 n] 3)).alloc (.cells #[.slice none 0 0] 30) = W := ⟨_, rfl⟩
  rw [hW] at h1
  obtain ⟨F, hF, _⟩ := (h1.sw2.sw1.sw0).get1
  have hal := Ke.All_new hF (by rw [itq_length]; omega)
  have HAl := Lib.hid hal
  have q1' := ((h1.sw1.sw0).box1 0).1
  have q1 : W.cell? ⟨qb, 0, none⟩ = some (.pointer (some ⟨p1, 0, none⟩)) := q1'
  have q2' := ((h1.sw0).box1 0).1
  have q2 : W.cell? ⟨bn, 0, none⟩ = some (.int .i64 n) := q2'
  have H1 := Lib.hid h1
  have HW := Lib.hid hW
  have hn' : (n < 1) = False := by simp; omega
  clear h ho h1 hal hF q1' q2'
  refine (callsIn_wide (n := 9)).1 ?_
  refine callsIn_of_wp_marks Try.func29 rfl trivial ?_ rfl
  simp only [Try.ntmps29, List.size_toArray, List.length_cons, List.length_nil, Nat.reduceAdd, Nat.reduceSub, Array.replicate_succ, Array.replicate_zero, List.push_toArray, List.append_toArray, List.nil_append, List.cons_append]
  gi_wp2_with fail
  refine ⟨trivial, ?_⟩
  refine (callsIn_wide.2 HAl.out).mono ?_
  rintro e x3 ⟨B, hb2, F2, rfl, hB, hA3, hb3, hBn, hFn⟩
  have h3 := H1.out.below hb3
  have hbo := (h3).obj1
  have hq : ∀ w, (binOp BinOp.eql 84 (.func (.func 143) #[] #[.pointer (some ⟨B, 0, none⟩)]) .nilFunc).run Try.prog w = .ok (.bool false) w := fun w => by kernel_rfl
  have hWs : W.heap.size = bn + 2 := by rw [← HW.out]; simp [hbn]
  have hlB : B < x3.heap.size := World.block_lt_of_cell? x3 _ hB
  have hlF : ∀ j, F2 j → W.heap.size ≤ j ∧ j < x3.heap.size := fun j hj => ⟨hFn j hj, hA3.lt_F hj⟩
  have r2' := ((h3.sw0).box1 0).1
  have r2 : x3.cell? ⟨bn, 0, none⟩ = some (.int .i64 n) := r2'
  have HH3 := Lib.hid h3
  have HBo := Lib.hid hbo
  have HB := Lib.hid hB
  have HA3 := Lib.hid hA3
  have HWs := Lib.hid hWs
  have HlF := Lib.hid hlF
  have HR2 := Lib.hid r2
  have HBn := Lib.hid hBn
  have HS := Lib.hid hs
  clear h3 hbo hB hA3 hWs hlF hb3 hBn hFn q1 q2 r2 r2' hbn hs
  gi_wp2_with fail
  have hbo1 : bn + 1 < x3.heap.size := by have := HH3.out.obj1; exact lt_of_some this
  have HBo1 := Lib.hid hbo1
  have hfin : Hid (∀ (D : Nat) (A : World) (O : Nat → Prop) (pre : List (It (Int × Int))) (v : Value), x3.heap.size ≤ D → LeastI x3 (bn + 1) O pre A → A.cell? ⟨bn + 1, 0, none⟩ = some v → (pre.flatMap kC = (leastS S n).flatMap keyC ∧ pre.length = (leastS S n).length) → A.heap[D]? = some (.deferred (some [])) →
      ∀ t, t.size = 31 → t[4]? = some v → bodyPostM Fence.wide 9 Try.prog Try.f29 (fun e w' => ∃ v, e = .returned v ∧ On w0 w' (sep (keysA v (leastS S n)) (sep (quA qb S) R))) .ret { tmps := t, defers := [{ target := .collected D, args := #[] }] } A) := Lib.hid fun D A O pre v hD g1 hv ht hK t ht1 ht2 => by
    refine ⟨by simp, .inl ⟨_, _, rfl, run_takeDeferred hK, ?_⟩⟩
    have g2 := g1.mv HBo1.out ((Mv.putObj (S := none') (B := x3.heap.size) A D _ (.deferred none) hK rfl hD).mono (fun i h _ => h.elim) (Nat.le_refl _)) (fun _ h => .inl h)
    obtain ⟨v', h1, h2, h3, h4, h5⟩ := g2
    have hvc := (Mv.putObj (S := none') (B := x3.heap.size) A D _ (.deferred none) hK rfl hD).cell hv (fun h => h)
    have hvv : v' = v := by
      simp only [World.cell?, h1] at hvc
      exact Option.some.inj hvc
    subst hvv
    have hst : On w0 (A.putObj D (.deferred none)) (sep (keysA v' (leastS S n)) (sep (boxA bn 3 #[.int .i64 n]) (sep (boxA qb 138 #[.pointer (some ⟨p1, 0, none⟩), .pointer (some ⟨p2, 0, none⟩)]) (sep (Ke.HK p1 31 Ke.bef (itq S)) (sep (Ke.HK p2 91 Ke.feb (itq S)) R))))) :=
      HH3.out.step1 fun F hF => ⟨_, keysA_of h2 ht.2 ht.1, h4.mono (fun j hj _ => (hF.2 j).2 hj), fun j hj => .inr (h3 j hj).1⟩
    refine ⟨v', by simp [results, Try.f29, go_sem, ht2], _, rfl, On.left (On.qu_shut (On.out1 (hst.sw0.sw1.sw2.sw3)))⟩
  refine wpIn_range2 rfl (by omega) (gf := 143) (lb := #[.pointer (some ⟨B, 0, none⟩)]) rfl trivial (enters_of Try.func143 (by kernel_rfl) rfl)
    (Ke.All1_iter2 Ke.lessB _ B hb2 F2 (itq S) x3 HB.out HA3.out (itq_sorted HS.out) (by rw [itq_length]; omega)) (Keeps.refl _ _) (fun _ => rfl)
    (fun O pre A => LeastI x3 (bn + 1) O pre A ∧ (pre.length : Int) < n)
    (fun c O pre A => c = .exit 0 ∧ LeastI x3 (bn + 1) O pre A ∧ (pre.length : Int) = n)
    (fun O O' s A A' h hm' hg => ⟨h.1.mv HBo1.out hm' hg, h.2⟩)
    (fun c O O' s A A' h hm' hg => ⟨h.1, h.2.1.mv HBo1.out hm' hg, h.2.2⟩)
    ⟨⟨_, HBo.out, World.ownsRow_nil _ _ _ _, fun j hj => by simp [Value.ownBlock] at hj, Mod.refl _ _, fun j hj => hj.elim⟩, by simp; omega⟩ ?round ?done ?stop
  case round =>
    clear hfin
    rintro l O pre ⟨x1, y1, y2⟩ A hlA _ ⟨g1, g6⟩ hO hpre
    have hlp := hpre.length_le
    rw [itq_length, List.length_append] at hlp
    have hmA : Mod none' A (A.alloc (.cells #[.int .i64 y1, .int .i64 y2] 24)) := (Mod.refl _ A).alloc _
    have hoA : (A.alloc (.cells #[.int .i64 y1, .int .i64 y2] 24)).heap[A.heap.size]? = some (.cells #[.int .i64 y1, .int .i64 y2] 24 (0, 0)) := heap_alloc_new A _
    have HmA := Lib.hid hmA
    have HoA := Lib.hid hoA
    have HO := Lib.hid hO
    have G1 := Lib.hid g1
    clear hmA hoA hO g1 hpre
    gi_wp2_with fail
    refine ⟨HmA.out.ctl _, HmA.out.keeps (fun _ _ _ h => h), fun Wb hmb ⟨_, _⟩ => ?_⟩
    have hzA := HmA.out.size
    have hzb := hmb.size
    have g1 := G1.out.mv HBo1.out ((HmA.out.mv _).mono (fun _ h _ => h.elim) (Nat.le_refl _)) (fun j hj => .inl hj)
    replace g1 := g1.mv HBo1.out (hmb.mono (fun _ h _ => h.elim) (Nat.le_refl _)) (fun j hj => .inl hj)
    have hkb := hmb.obj HoA.out rfl (fun h => h)
    obtain ⟨v, g1, g2, g3, g4, g5⟩ := g1
    obtain ⟨q, cc, rfl⟩ : ∃ q cc, v = .slice q pre.length cc := by
      rcases own_parts g2 with ⟨h1, h2⟩ | ⟨_, _, _, h1, _⟩
      · exact ⟨_, _, by rw [h2]; exact h1⟩
      · exact ⟨_, _, h1⟩
    have k0 : Wb.cell? ⟨A.heap.size, 0, none⟩ = some (.int .i64 y1) := by simp [World.cell?, hkb]
    have k1 : Wb.cell? ⟨A.heap.size, 1, none⟩ = some (.int .i64 y2) := by simp [World.cell?, hkb]
    have k2 : Wb.cell? ⟨bn + 1, 0, none⟩ = some (.slice q pre.length cc) := by simp [World.cell?, g1]
    have k3 : Wb.frozen? ⟨bn + 1, 0, none⟩ = false := by simp [World.frozen?, g1]
    have k4 : Wb.cell? ⟨bn, 0, none⟩ = some (.int .i64 n) := g4.cell HR2.out (by dsimp only; omega)
    have HG1 := Lib.hid g1
    have HG2 := Lib.hid g2
    have HG3 := Lib.hid g3
    have HG4 := Lib.hid g4
    have HG5 := Lib.hid g5
    have hkc : ∀ u ∈ kC (x1, (y1, y2)), u.oneCell' = true := by
      intro u hu
      simp [kC] at hu
      rcases hu with rfl | rfl <;> rfl
    have hmx : pre.length + 1 ≤ maxLen := by unfold maxLen; omega
    have hby : (pre.length + 1) * 16 ≤ 140737488355328 := by omega
    have hrd : Reads (Wb.alloc (.cells #[.int .i64 y1, .int .i64 y2] 24)) (.slice (some ⟨Wb.heap.size, 0, none⟩) 1 1) 2 1 (kC (x1, (y1, y2))) := by
      refine .inr ⟨_, _, rfl, rfl, fun j u hu => ?_⟩
      have hjl : j < 2 := by have := (List.getElem?_eq_some_iff.1 hu).1; simpa [kC] using this
      match j, hjl with
      | 0, _ => cases hu; rw [show (⟨Wb.heap.size, 0, none⟩ : Addr).add 0 = ⟨Wb.heap.size, 0, none⟩ from rfl, World.cell?_alloc_at _ _ _ _ rfl]; rfl
      | 1, _ => cases hu; rw [show (⟨Wb.heap.size, 0, none⟩ : Addr).add 1 = ⟨Wb.heap.size, 1, none⟩ from rfl, World.cell?_alloc_at _ _ _ _ rfl]; rfl
    have hbk : Below Wb.heap.size Wb (Wb.alloc (.cells #[.int .i64 y1, .int .i64 y2] 24)) := (Below.refl _ Wb).alloc (Nat.le_refl _) _
    have how : (Wb.alloc (.cells #[.int .i64 y1, .int .i64 y2] 24)).ownsRow 0 24 2 (.slice q pre.length cc) pre.length (pre.flatMap kC) := own_same HG2.out fun j o hj ho hc => (Mod.of_below (S := none') hbk).obj ho (fun h => h)
    have hpush := fun (v' : Value) (A2 : World) => LeastI.push (R := fun j => F2 j ∨ j = B) (v' := v') (A2 := A2) (y := (x1, (y1, y2))) HBo1.out HG1.out HG3.out HG4.out HG2.out HG5.out (fun j hj => by have := (HO.out j hj).2; omega) (fun j hj => by
      have hw := HWs.out
      rcases hj with h | h
      · have := HlF.out j h; omega
      · have := HBn.out; omega) hbk
    have HPush := Lib.hid hpush
    clear hpush
    have HRd := Lib.hid hrd
    have HBk := Lib.hid hbk
    have HOw := Lib.hid how
    clear hrd hbk how
    gi_wp2_with (gi_at_builtin; go_loud (refine wpListIn_append_any (by rfl) _ _ 30 (by rfl) 24 2 16 keySlice (.slice q pre.length cc) pre.length (pre.flatMap kC) (by rfl) HOw.out _ 1 (kC (x1, (y1, y2))) (by rfl) HRd.out hkc hmx hby ?_; intro v' A2 hown hgrow hat; obtain ⟨q', cc', rfl⟩ := own_form1 hown; obtain ⟨s1, s2, s3⟩ := HPush.out _ A2 hgrow hown hat; have s4 : A2.cell? ⟨bn + 1, 0, none⟩ = some (.slice q pre.length cc) := (by simp [World.cell?, s1]); have s5 : A2.frozen? ⟨bn + 1, 0, none⟩ = false := (by simp [World.frozen?, s1]); have s6 := s2 _ _ k4 (by have := HBo1.out; dsimp only; omega); have HS3 := Lib.hid s3; clear s1 s2 s3 hown hgrow hat))
    all_goals obtain ⟨t1, t2, t3⟩ := HS3.out
    all_goals refine ⟨t3, t2.mono (fun j hj => hj), ?_⟩
    · rename_i he
      have he' : (pre.length : Int) + 1 = n := by simpa using he
      exact ⟨rfl, t1, by rw [List.length_append]; simp; omega⟩
    · rename_i he
      have he' : ¬ (pre.length : Int) + 1 = n := by simpa using he
      exact ⟨t1, by rw [List.length_append]; simp; omega⟩
  case done =>
    rintro D O A hD ⟨g1, g6⟩ hKd
    have HT := Lib.hid (show (itq S).flatMap kC = (leastS S n).flatMap keyC ∧ (itq S).length = (leastS S n).length from by
      have hlT : leastS S n = S := by
        unfold leastS
        rw [itq_length] at g6
        rw [if_neg (by omega), List.take_of_length_le (by omega)]
      rw [hlT]
      exact ⟨kC_itq S, itq_length⟩)
    have G1 := Lib.hid g1
    obtain ⟨v, g1, -⟩ := g1
    have k2 : A.cell? ⟨bn + 1, 0, none⟩ = some v := by simp [World.cell?, g1]
    have HKd := Lib.hid hKd
    clear g1 hKd
    gi_wp2_with fail
    exact hfin.out D A O _ v hD G1.out k2 HT.out HKd.out _ rfl rfl
  case stop =>
    rintro D c O pre A hD hpre ⟨rfl, g1, g6⟩ hKd
    have HT := Lib.hid (show pre.flatMap kC = (leastS S n).flatMap keyC ∧ pre.length = (leastS S n).length from by
      have hp := List.prefix_iff_eq_take.1 hpre
      have hlT : pre = itq (leastS S n) := by
        unfold leastS
        rw [if_neg (by omega), hp]
        unfold itq
        rw [List.map_take]
        congr 1
        omega
      rw [hlT]
      exact ⟨kC_itq _, itq_length⟩)
    have G1 := Lib.hid g1
    obtain ⟨v, g1, -⟩ := g1
    have k2 : A.cell? ⟨bn + 1, 0, none⟩ = some v := by simp [World.cell?, g1]
    have HKd := Lib.hid hKd
    clear g1 hKd
    gi_wp2_with fail
    exact hfin.out D A O _ v hD G1.out k2 HT.out HKd.out _ rfl rfl
theorem Q_least {w0 w : World} {qb : Nat} {S : List (It Int)} {R : Ast} (h : On w0 w (sep (quA qb S) R)) (hs : Sorted ltI S) (hl : S.length < 900000) (n : Int) :
    Calls Try.prog 29 #[.pointer (some ⟨qb, 0, none⟩), .int .i64 n] w fun e w' => ∃ v, e = .returned v ∧ On w0 w' (sep (keysA v (leastS S n)) (sep (quA qb S) R)) := by
  by_cases hn : n < 1
  · exact Q_least_no h n hn
  · exact Q_least_yes h hs hl n (by omega)
end Go.Proofs.Ytkjpkhpiojahkaa

/-! ### Walks: two lists of keys, are they the same?
  Walk: the queue's example. -/
/-! ### Walks: two lists of keys, are they the same? -/
namespace Go.Proofs.Ytkjpkhpiojahkaa
set_option linter.unusedVariables false
open Go.RowKit Hp
attribute [local go_sem] Oper.semAt_some

theorem keysAt_get {w : World} {a : Option Addr} {ks : List (Int × Int)} (h : Ke.KeysAt w a ks) {n : Nat} (hn : 0 < n) (hk : ks.length = n) : ∃ b off, a = some ⟨b, off, none⟩ ∧ b < w.heap.size ∧ ∀ k, k < n → w.cell? ⟨b, off + k * 2, none⟩ = some (.int .i64 (ks[k]?.getD (0, 0)).1) ∧ w.cell? ⟨b, off + k * 2 + 1, none⟩ = some (.int .i64 (ks[k]?.getD (0, 0)).2) := by
  subst hk
  exact h.resolve_left (by omega)

theorem neq32 (p q r s : Int) (w : World) : (binOp BinOp.neq 24 (.agg #[.int .i64 p, .int .i64 q]) (.agg #[.int .i64 r, .int .i64 s])).run Try.prog w = .ok (.bool (!decide (p = r ∧ q = s))) w := by
  go_simp
  by_cases h1 : p = r <;> by_cases h2 : q = s <;> simp [h1, h2]
theorem eql32 (p q r s : Int) (w : World) : (binOp BinOp.eql 24 (.agg #[.int .i64 p, .int .i64 q]) (.agg #[.int .i64 r, .int .i64 s])).run Try.prog w = .ok (.bool (decide (p = r ∧ q = s))) w := by
  go_simp
  by_cases h1 : p = r <;> by_cases h2 : q = s <;> simp [h1, h2]

set_option maxRecDepth 100000 in
set_option maxHeartbeats 4000000 in
theorem keys_ok (a b : Option Addr) (c d : Nat) (ks ms : List (Int × Int)) (w : World) (h1 : Ke.KeysAt w a ks) (h2 : Ke.KeysAt w b ms) (hl : ks.length < 10000000) (hl2 : ms.length < 10000000) :
    Calls Try.prog 32 #[.slice a ks.length c, .slice b ms.length d] w fun e w' => e = .returned (.bool (decide (ks = ms))) ∧ Below w.heap.size w w' := by
  obtain ⟨n, hn⟩ : ∃ n, ks.length = n := ⟨_, rfl⟩
  obtain ⟨m, hm⟩ : ∃ m, ms.length = m := ⟨_, rfl⟩
  rw [hn] at hl ⊢
  rw [hm] at hl2 ⊢
  have HN := Lib.hid hn
  have HM := Lib.hid hm
  by_cases hnm : n = m
  · subst hnm
    have H1 := Lib.hid (fun h0 => keysAt_get h1 (n := n) h0 hn)
    have H2 := Lib.hid (fun h0 => keysAt_get h2 (n := n) h0 hm)
    clear h1 h2 hn hm
    go_enter Try.func32, Try.ntmps32
    go_wp2_with fail
    go_loopg [5] n (fun gh s5 wr => ∃ i : Nat, i + gh = n ∧ s5 = .int .i64 (i : Int) ∧ Below w.heap.size w wr ∧ ∀ j, j < i → ks[j]?.getD (0, 0) = ms[j]?.getD (0, 0))
    case atStart => exact ⟨0, by omega, rfl, Below.refl _ _, fun j hj => by omega⟩
    case round =>
      obtain ⟨i, hi, rfl, hb, heq⟩ := hrel
      have HB := Lib.hid hb
      have HEq := Lib.hid heq
      clear heq
      by_cases hlt : i < n
      · have hltI : (i : Int) < (n : Int) := by omega
        have hi0 : (0 : Int) ≤ (i : Int) := by omega
        obtain ⟨b1, off1, rfl, hb1, hc1⟩ := H1.out (by omega)
        obtain ⟨b2, off2, rfl, hb2, hc2⟩ := H2.out (by omega)
        obtain ⟨x, hx⟩ : ∃ x, ks[i]?.getD (0, 0) = x := ⟨_, rfl⟩
        obtain ⟨y, hy⟩ : ∃ y, ms[i]?.getD (0, 0) = y := ⟨_, rfl⟩
        have q0 : wr.cell? ⟨b1, off1 + i * 2, none⟩ = some (.int .i64 x.1) := by rw [← hx]; exact (hb.cell (by exact hb1)).trans (hc1 i hlt).1
        have q1 : wr.cell? ⟨b1, off1 + i * 2 + 1, none⟩ = some (.int .i64 x.2) := by rw [← hx]; exact (hb.cell (by exact hb1)).trans (hc1 i hlt).2
        have r0 : wr.cell? ⟨b2, off2 + i * 2, none⟩ = some (.int .i64 y.1) := by rw [← hy]; exact (hb.cell (by exact hb2)).trans (hc2 i hlt).1
        have r1 : wr.cell? ⟨b2, off2 + i * 2 + 1, none⟩ = some (.int .i64 y.2) := by rw [← hy]; exact (hb.cell (by exact hb2)).trans (hc2 i hlt).2
        have HX := Lib.hid hx
        have HY := Lib.hid hy
        clear hb hx hy hc1 hc2
        by_cases hxy : x = y
        · have hq : ∀ w, (binOp BinOp.neq 24 (.agg #[.int .i64 x.1, .int .i64 x.2]) (.agg #[.int .i64 y.1, .int .i64 y.2])).run Try.prog w = .ok (.bool false) w := fun w => by
            rw [neq32, hxy]; simp
          have HXY := Lib.hid hxy
          clear hxy
          go_wp2_with fail
          go_region
          all_goals go_wp2_with fail
          all_goals
            go_roundg (n - (i + 1))
            case measure => omega
            case rel =>
              refine ⟨i + 1, by omega, by go_num, HB.out.trans (Below.drew (Below.refl _ _) |>.mono HB.out.size), fun j hj => ?_⟩
              by_cases hji : j = i
              · rw [hji, HX.out, HY.out, HXY.out]
              · exact HEq.out j (by omega)
        · have hq : ∀ w, (binOp BinOp.neq 24 (.agg #[.int .i64 x.1, .int .i64 x.2]) (.agg #[.int .i64 y.1, .int .i64 y.2])).run Try.prog w = .ok (.bool true) w := fun w => by
            rw [neq32, decide_eq_false (fun h => hxy (Prod.ext h.1 h.2))]; rfl
          have hne : ¬ ks = ms := fun e => hxy (by rw [← HX.out, ← HY.out, e])
          have HNe := Lib.hid hne
          clear hxy hne
          go_wp2_with fail
          go_region
          all_goals go_wp2_with fail
          all_goals
            rw [decide_eq_false HNe.out]
            go_ret
            exact ⟨rfl, HB.out.trans (Below.drew (Below.refl _ _) |>.mono HB.out.size)⟩
      · have hin : i = n := by omega
        subst hin
        have hee : ks = ms := by
          refine List.ext_getElem? fun j => ?_
          by_cases hj : j < i
          · have h := HEq.out j hj
            rw [List.getElem?_eq_getElem (by rw [HN.out]; exact hj), List.getElem?_eq_getElem (by rw [HM.out]; exact hj)] at h ⊢
            simpa using h
          · rw [List.getElem?_eq_none (by rw [HN.out]; omega), List.getElem?_eq_none (by rw [HM.out]; omega)]
        have HEe := Lib.hid hee
        clear hee hb
        go_wp2_with fail
        rw [decide_eq_true HEe.out]
        go_ret
        exact ⟨rfl, HB.out⟩
  · have hx : ¬ (n : Int) = (m : Int) := by omega
    have hne : ¬ ks = ms := fun e => hnm (by rw [← hn, ← hm, e])
    have HNe := Lib.hid hne
    clear h1 h2 hn hm hne
    go_enter Try.func32, Try.ntmps32
    go_wp2_with fail
    rw [decide_eq_false HNe.out]
    go_ret
    exact ⟨rfl, Below.refl _ _⟩
end Go.Proofs.Ytkjpkhpiojahkaa

/-! ### Walk: the queue's example. -/
namespace Go.Proofs.Ytkjpkhpiojahkaa
set_option linter.unusedVariables false
open Go.RowKit Hp
attribute [local go_sem] Oper.semAt_some

/-- a box that holds keys -/
theorem keysAt_box {w : World} {b : Nat} {F : Nat → Prop} {ks : List (Int × Int)} {cs : Array Value} (h : (boxA b 24 cs).holds w F) (hc : ∀ k, k < ks.length → cs[k * 2]? = some (.int .i64 (ks[k]?.getD (0, 0)).1) ∧ cs[k * 2 + 1]? = some (.int .i64 (ks[k]?.getD (0, 0)).2)) :
    Ke.KeysAt w (some ⟨b, 0, none⟩) ks := by
  refine .inr ⟨b, 0, rfl, lt_of_some h.1, fun k hk => ?_⟩
  obtain ⟨h1, h2⟩ := hc k hk
  rw [Nat.zero_add, boxA_cell h, boxA_cell h]
  exact ⟨h1, h2⟩
def ex3 : List (Int × Int) := [(5, 1), (3, 2), (5, 0)]
def exS : List (It Int) := [(2, 3), (0, 5), (1, 5)]
def kv (T : List (It Int)) : List (Int × Int) := T.map fun x => (x.2, x.1)
/-- a row of keys, as a slice of keys -/
theorem keysAt_own {w : World} {v : Value} {T : List (It Int)} (h : w.ownsRow 0 24 2 v T.length (T.flatMap keyC)) : ∃ a c, v = .slice a T.length c ∧ Ke.KeysAt w a (kv T) := by
  rcases own_parts h with ⟨h1, h2⟩ | ⟨g, cap, cur, h1, _, h3, _⟩
  · exact ⟨none, 0, by rw [h1, h2], .inl (by simpa [kv] using h2)⟩
  · refine ⟨_, _, h1, .inr ⟨g, 0, rfl, lt_of_some h3, fun k hk => ?_⟩⟩
    have hk' : k < T.length := by simpa [kv] using hk
    have hkv : (kv T)[k]?.getD (0, 0) = (T[k].2, T[k].1) := by simp [kv, List.getElem?_map, List.getElem?_eq_getElem hk']
    rw [hkv, Nat.zero_add]
    subst h1
    have hi : T[k]? = some T[k] := List.getElem?_eq_getElem hk'
    have h1 := flat_at keyC 2 keyC_len T k 0 _ hi (by omega)
    have h2 := flat_at keyC 2 keyC_len T k 1 _ hi (by omega)
    exact ⟨own_cellG h (by simpa [keyC] using h1), own_cellG h (by simpa [keyC] using h2)⟩
theorem On.keys1 {w0 w : World} {v : Value} {T : List (It Int)} {R : Ast} (h : On w0 w (sep (keysA v T) R)) : ∃ a c, v = .slice a T.length c ∧ Ke.KeysAt w a (kv T) := by
  obtain ⟨F, hF, _⟩ := h.get1
  exact keysAt_own hF.1

set_option maxRecDepth 100000 in
set_option maxHeartbeats 2000000 in
theorem qawake_ok (w : World) : Calls Try.prog 27 #[] w fun e w' => e = .returned (.bool true) ∧ Below w.heap.size w w' := by
  go_enter Try.func27, Try.ntmps27
  go_wp2_with fail
  refine (Q_new (On.emp w)).mono ?_
  rintro e w1 ⟨qb, rfl, h1⟩
  obtain ⟨bl, hbl⟩ : ∃ bl, w1.heap.size = bl := ⟨_, rfl⟩
  obtain ⟨w2, hw2⟩ : ∃ w2, w1.alloc (.cells #[.int .i64 5, .int .i64 1, .int .i64 3, .int .i64 2, .int .i64 5, .int .i64 0] 24) = w2 := ⟨_, rfl⟩
  have h2 := h1.new1 24 #[.int .i64 5, .int .i64 1, .int .i64 3, .int .i64 2, .int .i64 5, .int .i64 0]
  rw [hw2, hbl] at h2
  have hp : Calls Try.prog 92 #[.pointer (some ⟨qb, 0, none⟩), .slice (some ⟨bl, 0, none⟩) 3 3] w2 fun e w' => e = .returned (.int .i64 0) ∧ On w w' (sep (quA qb exS) (sep (boxA bl 24 #[.int .i64 5, .int .i64 1, .int .i64 3, .int .i64 2, .int .i64 5, .int .i64 0]) emp)) :=
    Q_put h2.left (some ⟨bl, 0, none⟩) 3 ex3 (fun A T hA => by
      obtain ⟨F, hF, _⟩ := hA.left.get1
      refine keysAt_box hF fun k hk => ?_
      match k, hk with
      | 0, _ => exact ⟨rfl, rfl⟩
      | 1, _ => exact ⟨rfl, rfl⟩
      | 2, _ => exact ⟨rfl, rfl⟩) (by decide) (by decide) (by decide) (by decide) 3 (by decide) (by decide) 0 rfl (fun h => absurd h (by decide))
  have HP := Lib.hid hp
  clear h1 h2 hp
  go_wp2_with fail
  refine HP.out.mono ?_
  rintro e w3 ⟨rfl, h3⟩
  have hsx : Sorted ltI exS := by unfold Sorted exS; decide
  have hf : Calls Try.prog 33 #[.pointer (some ⟨qb, 0, none⟩)] w3 fun e w' => e = .returned (.tuple #[.agg #[.int .i64 3, .int .i64 2], .int .i64 0]) ∧ Below w3.heap.size w3 w' := Q_first h3 hsx
  have HF := Lib.hid hf
  have H3 := Lib.hid h3
  clear hf h3 hbl hw2
  go_wp2_with fail
  refine HF.out.mono ?_
  rintro e w4 ⟨rfl, hb4⟩
  have h4 := H3.out.below hb4
  obtain ⟨b1, hb1⟩ : ∃ b1, w4.heap.size = b1 := ⟨_, rfl⟩
  obtain ⟨w5, hw5⟩ : ∃ w5, w4.alloc (.cells #[.int .i64 3, .int .i64 2] 24) = w5 := ⟨_, rfl⟩
  have h5 := h4.new1 24 #[.int .i64 3, .int .i64 2]
  rw [hw5, hb1] at h5
  have hf : Calls Try.prog 34 #[.pointer (some ⟨qb, 0, none⟩)] w5 fun e w' => e = .returned (.tuple #[.agg #[.int .i64 5, .int .i64 1], .int .i64 0]) ∧ Below w5.heap.size w5 w' := Q_last h5.left hsx
  have HF5 := Lib.hid hf
  have H5 := Lib.hid h5
  clear hf h4 h5 hb4
  go_wp2_with fail
  refine HF5.out.mono ?_
  rintro e w6 ⟨rfl, hb6⟩
  have h6 := H5.out.below hb6
  obtain ⟨b2, hb2⟩ : ∃ b2, w6.heap.size = b2 := ⟨_, rfl⟩
  obtain ⟨w7, hw7⟩ : ∃ w7, w6.alloc (.cells #[.int .i64 5, .int .i64 1] 24) = w7 := ⟨_, rfl⟩
  have h7 := h6.new1 24 #[.int .i64 5, .int .i64 1]
  rw [hw7, hb2] at h7
  have a0 : w7.cell? ⟨b2, 0, none⟩ = some (.int .i64 5) := (h7.box1 0).1
  have a1 : w7.cell? ⟨b2, 1, none⟩ = some (.int .i64 1) := (h7.box1 1).1
  have c0 : w7.cell? ⟨b1, 0, none⟩ = some (.int .i64 3) := (h7.left.box1 0).1
  have c1 : w7.cell? ⟨b1, 1, none⟩ = some (.int .i64 2) := (h7.left.box1 1).1
  have hls := Q_least (h7.sw1.sw0) hsx (by decide) 2
  have HLs := Lib.hid hls
  have hq1 : ∀ w, (binOp BinOp.eql 24 (.agg #[.int .i64 3, .int .i64 2]) (.agg #[.int .i64 3, .int .i64 2])).run Try.prog w = .ok (.bool true) w := fun w => by rw [eql32]; rfl
  have hq2 : ∀ w, (binOp BinOp.eql 24 (.agg #[.int .i64 5, .int .i64 1]) (.agg #[.int .i64 5, .int .i64 1])).run Try.prog w = .ok (.bool true) w := fun w => by rw [eql32]; rfl
  clear hls h6 h7 hb6
  go_wp2_with fail
  refine HLs.out.mono ?_
  rintro e w8 ⟨v, rfl, h8⟩
  obtain ⟨a, c, rfl, hk⟩ := h8.keys1
  have hls : leastS exS 2 = [(2, 3), (0, 5)] := rfl
  rw [hls] at h8 hk ⊢
  obtain ⟨w9, hw9⟩ : ∃ w9, w8.alloc (.cells #[.int .i64 3, .int .i64 2, .int .i64 5, .int .i64 0] 24) = w9 := ⟨_, rfl⟩
  obtain ⟨b3, hb3⟩ : ∃ b3, w8.heap.size = b3 := ⟨_, rfl⟩
  have h9 := h8.new1 24 #[.int .i64 3, .int .i64 2, .int .i64 5, .int .i64 0]
  rw [hw9, hb3] at h9
  obtain ⟨a', c', he, hk9⟩ := h9.left.keys1
  cases he
  obtain ⟨F9, hF9, _⟩ := h9.get1
  have hky : Calls Try.prog 32 #[.slice a 2 c, .slice (some ⟨b3, 0, none⟩) 2 2] w9 fun e w' => e = .returned (.bool true) ∧ Below w9.heap.size w9 w' :=
    keys_ok a (some ⟨b3, 0, none⟩) c 2 (kv [(2, 3), (0, 5)]) [(3, 2), (5, 0)] w9 hk9 (keysAt_box hF9 fun k hk => match k, hk with
      | 0, _ => ⟨rfl, rfl⟩
      | 1, _ => ⟨rfl, rfl⟩) (by decide) (by decide)
  have HKy := Lib.hid hky
  have H9 := Lib.hid h9
  clear hky h8 h9 hk hk9 hF9 hls
  go_wp2_with fail
  refine HKy.out.mono ?_
  rintro e wz ⟨rfl, hbz⟩
  have hz := H9.out.below hbz
  have HZ := Lib.hid hz.to_below
  clear hz hbz
  go_wp2_with fail
  go_ret
  exact ⟨rfl, HZ.out⟩
end Go.Proofs.Ytkjpkhpiojahkaa

/-! ### Plain: which keys may be put into a queue.
  Walks: any keys are put; slices of keys; a list of keys grows. -/
/-! ### Plain: which keys may be put into a queue. -/
namespace Go.Proofs.Ytkjpkhpiojahkaa.Hp
set_option linter.unusedVariables false
open Go.RowKit

theorem first_bad (p : Nat → Prop) [DecidablePred p] : ∀ n, ∃ i, i ≤ n ∧ (∀ j, j < i → p j) ∧ (i < n → ¬ p i)
  | 0 => ⟨0, Nat.le_refl _, fun j h => by omega, fun h => by omega⟩
  | n + 1 => by
    obtain ⟨i, h1, h2, h3⟩ := first_bad p n
    by_cases hi : i = n
    · subst hi
      by_cases hp : p i
      · refine ⟨i + 1, Nat.le_refl _, fun j hj => ?_, fun h => by omega⟩
        by_cases hji : j = i
        · rw [hji]; exact hp
        · exact h2 j (by omega)
      · exact ⟨i, by omega, h2, fun _ => hp⟩
    · exact ⟨i, by omega, h2, fun _ => h3 (by omega)⟩

def kj (ks : List (Int × Int)) (j : Nat) : Int × Int := ks[j]?.getD (0, 0)
def okAt (S : List (It Int)) (ks : List (Int × Int)) (j : Nat) : Prop := checkE (addN S ks j) (kj ks j).1 (kj ks j).2 = 0
instance (S : List (It Int)) (ks : List (Int × Int)) : DecidablePred (okAt S ks) := fun j => by unfold okAt; infer_instance
def okAll (S : List (It Int)) (ks : List (Int × Int)) : Prop := ∀ j, j < ks.length → okAt S ks j
def itk (ks : List (Int × Int)) : List (It Int) := ks.map fun k => (k.2, k.1)
def Puts (S : List (It Int)) (ks : List (Int × Int)) : Prop := (∀ k ∈ ks, 0 ≤ k.2 ∧ timeE k.1 = 0 ∧ has S k.2 = false) ∧ (ks.map (·.2)).Nodup

section
variable {S : List (It Int)} {ks : List (Int × Int)}
theorem itk_length : (itk ks).length = ks.length := List.length_map ..
theorem kj_get {j : Nat} (hj : j < ks.length) : kj ks j = ks[j] := by simp [kj, List.getElem?_eq_getElem hj]
theorem putS_perm {t id : Int} (h0 : 0 ≤ id) (h1 : has S id = false) : (putS ltI S id t).Perm ((id, t) :: S) := by
  unfold putS
  rw [if_neg (by omega), h1, if_neg (by simp)]
  exact ins_perm _ _
theorem addN_perm : ∀ i, i ≤ ks.length → (∀ j, j < i → okAt S ks j) → (addN S ks i).Perm (S ++ itk (ks.take i))
  | 0, _, _ => by simp [addN, itk]
  | i + 1, hi, h => by
    have ih := addN_perm i (by omega) fun j hj => h j (by omega)
    obtain ⟨h0, _, h1⟩ := checkE_ok (h i (by omega))
    refine (putS_perm h0 h1).trans ?_
    rw [List.take_succ_eq_append_getElem (by omega), itk, List.map_append]
    have hk := kj_get (ks := ks) (j := i) (by omega)
    unfold kj at hk
    unfold kj
    rw [hk]
    refine ((List.Perm.cons _ ih).trans ?_)
    rw [← List.append_assoc]
    unfold itk
    simpa using List.perm_append_comm (l₁ := [((ks[i]'(by omega)).2, (ks[i]'(by omega)).1)]) (l₂ := S ++ (ks.take i).map fun k => (k.2, k.1))
theorem has_perm {T : List (It Int)} (h : S.Perm T) (id : Int) : has S id = has T id := by
  rw [Bool.eq_iff_iff]
  constructor
  · intro h1
    obtain ⟨k, hk⟩ := has_some h1
    exact has_mem (h.subset hk)
  · intro h1
    obtain ⟨k, hk⟩ := has_some h1
    exact has_mem (h.symm.subset hk)
theorem has_append {T : List (It Int)} (id : Int) : has (S ++ T) id = (has S id || has T id) := by simp [has]
theorem has_itk (id : Int) : has (itk ks) id = true ↔ id ∈ ks.map (·.2) := by
  simp [has, itk, List.any_map]
theorem okAll_puts (h : okAll S ks) : Puts S ks := by
  have key : ∀ j (hj : j < ks.length), 0 ≤ (ks[j]).2 ∧ timeE (ks[j]).1 = 0 ∧ has S (ks[j]).2 = false ∧ ∀ m (hm : m < j), (ks[m]'(by omega)).2 ≠ (ks[j]).2 := fun j hj => by
    obtain ⟨h0, h1, h2⟩ := checkE_ok (h j hj)
    rw [kj_get hj] at h0 h1 h2
    rw [has_perm (addN_perm j (by omega) fun m hm => h m (by omega)), has_append, Bool.or_eq_false_iff] at h2
    refine ⟨h0, h1, h2.1, fun m hm e => ?_⟩
    have h3 : has (itk (ks.take j)) (ks[j]).2 = true := (has_itk _).2 (List.mem_map.2 ⟨ks[m], List.mem_take_iff_getElem.2 ⟨m, by omega, rfl⟩, e⟩)
    rw [h3] at h2
    exact absurd h2.2 (by simp)
  refine ⟨fun k hk => ?_, ?_⟩
  · obtain ⟨j, hj, e⟩ := List.mem_iff_getElem.1 hk
    obtain ⟨h0, h1, h2, _⟩ := key j hj
    rw [e] at h0 h1 h2
    exact ⟨h0, h1, h2⟩
  · rw [List.nodup_iff_pairwise_ne, List.pairwise_iff_getElem]
    intro m j hm hj hmj
    simp only [List.getElem_map]
    exact (key j (by simpa using hj)).2.2.2 m hmj
theorem puts_okAll (h : Puts S ks) : okAll S ks := by
  have key : ∀ i, i ≤ ks.length → ∀ j, j < i → okAt S ks j := by
    intro i
    induction i with
    | zero => intro _ j hj; omega
    | succ i ih =>
      intro hi j hj
      have ih := ih (by omega)
      by_cases hji : j = i
      · subst hji
        have hj' : j < ks.length := by omega
        obtain ⟨h0, h1, h2⟩ := h.1 _ (List.getElem_mem hj')
        have h3 : has (itk (ks.take j)) (ks[j]).2 = false := by
          rw [Bool.eq_false_iff]
          intro hh
          obtain ⟨k, hk, e⟩ := List.mem_map.1 ((has_itk _).1 hh)
          obtain ⟨m, hm, e2⟩ := List.mem_take_iff_getElem.1 hk
          have hp := List.pairwise_iff_getElem.1 (List.nodup_iff_pairwise_ne.1 h.2) m j (by simp; omega) (by simpa using hj') (by omega)
          simp only [List.getElem_map] at hp
          exact hp (by rw [e2]; exact e)
        unfold okAt
        rw [kj_get hj']
        unfold checkE
        rw [if_neg (by omega), if_pos h1, has_perm (addN_perm j (by omega) ih), has_append, h2, h3]
        rfl
      · exact ih j (by omega)
  exact fun j hj => key ks.length (Nat.le_refl _) j hj
/-- all of the keys are in -/
def putAll (S : List (It Int)) (ks : List (Int × Int)) : List (It Int) := addN S ks ks.length
theorem putAll_perm (h : Puts S ks) : (putAll S ks).Perm (S ++ itk ks) := by
  have := addN_perm ks.length (Nat.le_refl _) (puts_okAll h)
  rwa [List.take_length] at this
theorem putAll_sorted (hs : Sorted ltI S) : Sorted ltI (putAll S ks) := addN_sorted hs _
theorem Puts.perm {ms : List (Int × Int)} (h : Puts S ks) (hp : ks.Perm ms) : Puts S ms :=
  ⟨fun k hk => h.1 k (hp.symm.subset hk), (hp.map _).nodup_iff.1 h.2⟩
theorem Puts.reverse_iff : Puts S ks.reverse ↔ Puts S ks := ⟨fun h => h.perm (List.reverse_perm ks), fun h => h.perm (List.reverse_perm ks).symm⟩
theorem Puts.take (h : Puts S ks) (n : Nat) : Puts S (ks.take n) :=
  ⟨fun k hk => h.1 k (List.mem_of_mem_take hk), by rw [List.map_take]; exact h.2.sublist (List.take_sublist _ _)⟩
theorem Puts.drop (h : Puts S ks) (n : Nat) : Puts (putAll S (ks.take n)) (ks.drop n) := by
  refine ⟨fun k hk => ?_, by rw [List.map_drop]; exact h.2.sublist (List.drop_sublist _ _)⟩
  obtain ⟨h0, h1, h2⟩ := h.1 k (List.mem_of_mem_drop hk)
  refine ⟨h0, h1, ?_⟩
  rw [has_perm (putAll_perm (h.take n)), has_append, h2, Bool.false_or, Bool.eq_false_iff]
  intro hh
  obtain ⟨m, hm, e⟩ := List.mem_map.1 ((has_itk _).1 hh)
  have h4 := h.2
  rw [← List.take_append_drop n ks, List.map_append, List.nodup_append] at h4
  exact h4.2.2 _ (List.mem_map.2 ⟨m, hm, rfl⟩) _ (List.mem_map.2 ⟨k, hk, rfl⟩) e
theorem putAll_parts (h : Puts S ks) (hs : Sorted ltI S) (n : Nat) : putAll (putAll S (ks.take n)) (ks.drop n) = putAll S ks := by
  refine Sorted.eq_of_perm ltI_swo (putAll_sorted (putAll_sorted hs)) (putAll_sorted hs) ?_
  refine (putAll_perm (h.drop n)).trans ?_
  refine ((putAll_perm (h.take n)).append_right _).trans (List.Perm.trans ?_ (putAll_perm h).symm)
  rw [List.append_assoc, itk, itk, ← List.map_append, List.take_append_drop]
  exact List.Perm.refl _
theorem putAll_rev (h : Puts S ks) (hs : Sorted ltI S) : putAll S ks.reverse = putAll S ks := by
  refine Sorted.eq_of_perm ltI_swo (putAll_sorted hs) (putAll_sorted hs) ?_
  refine (putAll_perm (Puts.reverse_iff.2 h)).trans (List.Perm.trans ?_ (putAll_perm h).symm)
  exact ((List.reverse_perm ks).map _).append_left S
theorem putAll_length (h : Puts S ks) : (putAll S ks).length = S.length + ks.length := by
  rw [(putAll_perm h).length_eq, List.length_append, itk_length]
end
end Go.Proofs.Ytkjpkhpiojahkaa.Hp

/-! ### Walks: any keys are put; slices of keys; a list of keys grows. -/
namespace Go.Proofs.Ytkjpkhpiojahkaa
set_option linter.unusedVariables false
open Go.RowKit Hp Go.WideShapes

section
variable {w0 w : World} {qb : Nat} {S : List (It Int)} {R : Ast}
theorem Q_puts (h : On w0 w (sep (quA qb S) R)) (a : Option Addr) (cap : Nat) (ks : List (Int × Int)) (hk : ∀ A T, On w0 A (sep (quA qb T) R) → Ke.KeysAt A a ks) (hwf : ∀ k ∈ ks, (Lit.int .i64 k.2).wf = true) (hcap : ks.length ≤ cap) (hcm : cap ≤ 9223372036854775807)
    (hl : S.length + ks.length < 800000) :
    Calls Try.prog 92 #[.pointer (some ⟨qb, 0, none⟩), .slice a ks.length cap] w fun e w' => ∃ te S', e = .returned (.int .i64 te) ∧ On w0 w' (sep (quA qb S') R) ∧ ((te = 0 ∧ Puts S ks ∧ S' = putAll S ks) ∨ (te ≠ 0 ∧ ¬ Puts S ks ∧ S' = S)) := by
  obtain ⟨i, h1, h2, h3⟩ := first_bad (okAt S ks) ks.length
  refine (Q_put h a cap ks hk hwf hcap hcm hl i h1 h2 _ rfl (fun hi => ?_)).mono fun e w' ⟨he, hw⟩ => ⟨_, _, he, hw, ?_⟩
  · rw [if_pos hi]; exact h3 hi
  · unfold putT
    by_cases hi : i < ks.length
    · rw [if_pos hi, if_pos hi]
      exact .inr ⟨h3 hi, fun hg => h3 hi (puts_okAll hg i hi), rfl⟩
    · rw [if_neg hi, if_neg hi]
      exact .inl ⟨rfl, okAll_puts fun j hj => h2 j (by omega), rfl⟩
end

theorem leastS_all {T : List (It Int)} {k : Int} (h : (T.length : Int) ≤ k) : leastS T k = T := by
  unfold leastS
  split
  · exact (List.eq_nil_of_length_eq_zero (by omega)).symm
  · exact List.take_of_length_le (by omega)
theorem Q_least_all {w0 w : World} {qb : Nat} {T : List (It Int)} {R : Ast} (h : On w0 w (sep (quA qb T) R)) (hs : Sorted ltI T) (hl : T.length < 900000) (k : Int) (hk : (T.length : Int) ≤ k) :
    Calls Try.prog 29 #[.pointer (some ⟨qb, 0, none⟩), .int .i64 k] w fun e w' => ∃ v, e = .returned v ∧ On w0 w' (sep (keysA v T) (sep (quA qb T) R)) := by
  have := Q_least h hs hl k
  rwa [leastS_all hk] at this
theorem add_zero' (b off k : Nat) : (⟨b, off, none⟩ : Addr).add k = ⟨b, off + k, none⟩ := by unfold Addr.add; split <;> simp_all
/-- the first keys of a slice -/
theorem slice_keys_to (a : Option Addr) (n cap i : Nat) (ks : List (Int × Int)) (hk : ks.length = n) (hi : i ≤ n) (hc : n ≤ cap) :
    ∃ a', (∀ w, (Instr.slice 30 (.slice a n cap) none (some (.int .i64 (i : Int))) none).run Try.prog w = .ok (.slice a' i cap) w) ∧ ∀ w, Ke.KeysAt w a ks → Ke.KeysAt w a' (ks.take i) := by
  refine ⟨if cap = 0 then a else a.map (·.add 0), fun w => ?_, fun w h => ?_⟩
  · rw [run_slice_h w 30 a n cap elem38 .i64 (i : Int) (by omega) (by omega), size38]
    simp [Result.andThen, sliced]
  · rcases h with h | ⟨b, off, rfl, hb, h⟩
    · exact .inl (by rw [List.length_take]; omega)
    · by_cases h0 : cap = 0
      · exact .inl (by rw [List.length_take]; omega)
      · rw [if_neg h0]
        refine .inr ⟨b, off, by rw [Option.map_some, add_zero']; rfl, hb, fun k hk' => ?_⟩
        rw [List.length_take] at hk'
        rw [List.getElem?_take_of_lt (by omega)]
        exact h k (by omega)
/-- the others -/
theorem slice_keys_from (a : Option Addr) (n cap i : Nat) (ks : List (Int × Int)) (hk : ks.length = n) (hi : i ≤ n) (hc : n ≤ cap) :
    ∃ a', (∀ w, (Instr.slice 30 (.slice a n cap) (some (.int .i64 (i : Int))) none none).run Try.prog w = .ok (.slice a' (n - i) (cap - i)) w) ∧ ∀ w, Ke.KeysAt w a ks → Ke.KeysAt w a' (ks.drop i) := by
  refine ⟨if cap = i then a else a.map (·.add (i * 2)), fun w => ?_, fun w h => ?_⟩
  · rw [run_slice_l w 30 a n cap elem38 .i64 (i : Int) (by omega) (by omega), size38]
    simp [Result.andThen, sliced]
  · rcases h with h | ⟨b, off, rfl, hb, h⟩
    · exact .inl (by rw [List.length_drop]; omega)
    · by_cases h0 : cap = i
      · exact .inl (by rw [List.length_drop]; omega)
      · rw [if_neg h0]
        refine .inr ⟨b, off + i * 2, by rw [Option.map_some, add_zero'], hb, fun k hk' => ?_⟩
        rw [List.length_drop] at hk'
        rw [List.getElem?_drop]
        have := h (i + k) (by omega)
        rw [Nat.add_mul, ← Nat.add_assoc] at this
        exact this

/-- a list of the call's own takes a key more -/
theorem On.keys_push {w0 w w1 w' : World} {v v' : Value} {T : List (It Int)} {x : It Int} {R : Ast} (h : On w0 w (sep (keysA v T) R)) (hb : Below w.heap.size w w1) (hg : w1.grownBy w' v.ownBlock)
    (hown : w'.ownsRow 0 24 2 v' (T.length + 1) (T.flatMap keyC ++ keyC x)) (hat : v'.ownBlock = v.ownBlock ∨ v'.ownBlock = some w1.heap.size) : On w0 w' (sep (keysA v' (T ++ [x])) R) := by
  refine h.step1 fun F hF => ?_
  have hg' : Mod (fun j => v.ownBlock = some j) w1 w' := (Mod.refl _ w1).grown hg fun k hk _ => ⟨hk, fun o ho' => by
    rcases own_parts hF.1 with ⟨h1, _⟩ | ⟨g, cap, cur, h1, _, h3, _⟩
    · rw [h1] at hk; simp [Value.ownBlock] at hk
    · rw [h1] at hk; simp [Value.ownBlock] at hk
      subst hk
      have h4 := (Mod.of_below (S := none') hb).obj h3 (fun h => h)
      rw [h4] at ho'
      cases ho'
      rfl⟩
  have hs := hb.size
  refine ⟨fun j => v'.ownBlock = some j, ⟨by rw [List.length_append, List.flatMap_append]; simpa using hown, fun j => Iff.rfl⟩, ((Mod.of_below hb).trans' hg').mono fun j hj _ => (hF.2 j).2 hj, fun j hj => ?_⟩
  rcases hat with h1 | h1
  · rw [h1] at hj; exact .inl ((hF.2 j).2 hj)
  · rw [h1] at hj; cases hj; exact .inr (by omega)
theorem keys_reads (w : World) (p q : Int) : Reads (w.alloc (.cells #[.int .i64 p, .int .i64 q] 24)) (.slice (some ⟨w.heap.size, 0, none⟩) 1 1) 2 1 (keyC (q, p)) := by
  refine .inr ⟨_, _, rfl, rfl, fun j u hu => ?_⟩
  have hjl : j < 2 := by have := (List.getElem?_eq_some_iff.1 hu).1; simpa [keyC] using this
  match j, hjl with
  | 0, _ => cases hu; rw [add_zero', World.cell?_alloc_at _ _ _ _ rfl]; rfl
  | 1, _ => cases hu; rw [add_zero', World.cell?_alloc_at _ _ _ _ rfl]; rfl
theorem keyC_cells (x : It Int) : ∀ u ∈ keyC x, u.oneCell' = true := by
  intro u hu
  simp [keyC] at hu
  rcases hu with rfl | rfl <;> rfl
theorem open_keys_cap {Hd : Type} {enc : TypeId × Value → Hd} {w : World} {base : Nat} {spare : Nat → Bool} {held : Bool} {fuel : Nat} {a : Option Addr} {len cap : Nat} {x : DataW Hd × List MemPlace}
    (h : DataW.trod enc Try.prog w base spare held fuel 30 [.slice a len cap] = some x) : len ≤ cap ∧ cap ≤ 9223372036854775807 := by
  rcases Go.Deep.open_slice Try.underlying30 h with ⟨h0, _⟩ | ⟨a', len', cap', m, n, D, Pl, hcs, _, hl, hm, _⟩
  · injection h0 with h0
    injection h0 with _ h0 h1
    omega
  · injection hcs with hcs
    injection hcs with h1 h2 h3
    unfold maxLen at hm
    omega
theorem kv_itk (ks : List (Int × Int)) : kv (itk ks) = ks := by
  unfold kv itk
  rw [List.map_map]
  exact (List.map_congr_left fun _ _ => rfl).trans (List.map_id ks)
theorem itk_kv (S : List (It Int)) : itk (kv S) = S := by
  unfold kv itk
  rw [List.map_map]
  exact (List.map_congr_left fun _ _ => rfl).trans (List.map_id S)
theorem kv_inj {S T : List (It Int)} : kv S = kv T ↔ S = T :=
  ⟨fun h => by rw [← itk_kv S, h, itk_kv], fun h => by rw [h]⟩
theorem keysAt_below {w A : World} {a : Option Addr} {ks : List (Int × Int)} (h : Ke.KeysAt w a ks) (hb : Below w.heap.size w A) : Ke.KeysAt A a ks := by
  rcases h with h | ⟨b, off, ha, hlt, h⟩
  · exact .inl h
  · exact .inr ⟨b, off, ha, Nat.lt_of_lt_of_le hlt hb.size, fun k hk => ⟨(hb.cell (by exact hlt)).trans (h k hk).1, (hb.cell (by exact hlt)).trans (h k hk).2⟩⟩
theorem On.keys_cap {w0 w : World} {v : Value} {T : List (It Int)} {R : Ast} {ks : List (Int × Int)} {n : Nat} (h : On w0 w (sep (keysA v T) R)) (hT : kv T = ks) (hn : ks.length = n) :
    ∃ a c, v = .slice a n c ∧ n ≤ c ∧ c ≤ 9223372036854775807 ∧ ∀ (w1 A : World) (R' : Ast), On w1 A (sep (keysA (.slice a n c) T) R') → Ke.KeysAt A a ks := by
  have hl : T.length = n := by rw [← hn, ← hT]; simp [kv]
  obtain ⟨F, hF, _⟩ := h.get1
  have fin : ∀ a c, ∀ (w1 A : World) (R' : Ast), On w1 A (sep (keysA (.slice a n c) T) R') → Ke.KeysAt A a ks := fun a c w1 A R' hA => by
    obtain ⟨a', c', he, hk⟩ := hA.keys1
    cases he
    rwa [hT] at hk
  rcases own_parts hF.1 with ⟨h1, h2⟩ | ⟨g, cap, cur, h1, _, _, h3, h4, _⟩
  · rw [hl] at h2
    subst h2
    exact ⟨none, 0, h1, Nat.le_refl _, by omega, fin _ _⟩
  · rw [hl] at h1 h3
    unfold maxLen at h4
    exact ⟨_, _, h1, h3, h4, fin _ _⟩
/-- two lists of the call's own, compared -/
theorem On.keys2 {w0 w : World} {v v' : Value} {T T' : List (It Int)} {R : Ast} (h : On w0 w (sep (keysA v T) (sep (keysA v' T') R))) (hl : T.length < 10000000) (hl' : T'.length < 10000000) :
    Calls Try.prog 32 #[v, v'] w fun e w' => e = .returned (.bool (decide (T = T'))) ∧ Below w.heap.size w w' := by
  obtain ⟨a, c, rfl, h1⟩ := h.keys1
  obtain ⟨a', c', rfl, h2⟩ := h.left.keys1
  have := keys_ok a a' c c' (kv T) (kv T') w h1 h2 (by simpa [kv] using hl) (by simpa [kv] using hl')
  simpa only [kv, List.length_map, show ((T.map fun x => (x.2, x.1)) = T'.map fun x => (x.2, x.1)) ↔ T = T' from kv_inj] using this
theorem On.keys2_same {w0 w : World} {v v' : Value} {T : List (It Int)} {R : Ast} (h : On w0 w (sep (keysA v T) (sep (keysA v' T) R))) (hl : T.length < 10000000) :
    Calls Try.prog 32 #[v, v'] w fun e w' => e = .returned (.bool true) ∧ Below w.heap.size w w' := by
  have := h.keys2 hl hl
  rwa [decide_eq_true rfl] at this
end Go.Proofs.Ytkjpkhpiojahkaa
