/-
  Queues of servers, told by a list in order; as pieces of memory.
  Walks: a queue's New, Len, Get, First, Last, Drop, check, Move.
-/
import Derived.Test.YtkjpkhpiojahkaaKCU
import Derived.Test.YtkjpkhpiojahkaaUR
import Derived.Deep.RegionHeld3
/-! ### Queues of servers, told by a list in order; as pieces of memory. -/
namespace Go.Proofs.Ytkjpkhpiojahkaa
set_option linter.unusedVariables false
open Go.RowKit Hp

/-- the numbers of a list, with their keys, as the heaps of a queue hold them -/
def itq (S : List (It Int)) : List (It (Int × Int)) := S.map fun x => (x.1, (x.2, x.1))
section
variable {S : List (It Int)} {id t : Int}
theorem itq_length : (itq S).length = S.length := List.length_map ..
theorem itq_has : has (itq S) id = has S id := by simp [has, itq, List.any_map]; rfl
theorem itq_without : without (itq S) id = itq (without S id) := by simp [without, itq, List.filter_map]; rfl
theorem itq_mem {k : Int} (h : (id, k) ∈ S) : (id, (k, id)) ∈ itq S := List.mem_map.2 ⟨_, h, rfl⟩
theorem itq_distinct (h : S.Pairwise fun a b => a.1 ≠ b.1) : (itq S).Pairwise fun a b => a.1 ≠ b.1 := List.pairwise_map.2 h
theorem distinct_itq (h : (itq S).Pairwise fun a b => a.1 ≠ b.1) : S.Pairwise fun a b => a.1 ≠ b.1 := (List.pairwise_map (f := fun x : It Int => (x.1, (x.2, x.1)))).1 h
def idAt (S : List (It Int)) (id : Int) : Int := if has S id then id else 0
theorem itq_keyAt (hd : S.Pairwise fun a b => a.1 ≠ b.1) : keyAt (0, 0) (itq S) id = (keyAt 0 S id, idAt S id) := by
  unfold idAt
  cases hh : has S id with
  | true =>
    obtain ⟨k, hk⟩ := has_some hh
    rw [keyAt_mem (itq_distinct hd) (itq_mem hk), keyAt_mem hd hk, if_pos rfl]
  | false =>
    rw [keyAt_none (by rw [itq_has]; exact hh), keyAt_none hh, if_neg (by simp)]
theorem itq_perm {T : List (It Int)} (h : S.Perm T) : (itq S).Perm (itq T) := h.map _
theorem itq_put : (Ke.putM (itq S) id (t, id)).Perm (itq (putS ltI S id t)) := by
  unfold Ke.putM putS
  rw [itq_has]
  split
  · exact List.Perm.refl _
  · split
    · exact List.Perm.refl _
    · exact (itq_perm (ins_perm (id, t) S)).symm
theorem itq_ch : (Ke.chM (itq S) id (t, id)).Perm (itq (chS ltI S id t)) := by
  unfold Ke.chM chS
  rw [itq_has]
  split
  · rw [itq_without]; exact (itq_perm (ins_perm (id, t) (without S id))).symm
  · exact List.Perm.refl _
theorem ke_bef_eq (x y : It Int) : Ke.bef (x.2, x.1) (y.2, y.1) = Hp.ahead ltI x y := by
  rw [Bool.eq_iff_iff, ahead_iff, Ke.bef_iff]
  simp [ltI]
  omega
theorem itq_sorted (h : Sorted ltI S) : Sorted Ke.bef (itq S) := by
  unfold Sorted itq
  rw [List.pairwise_map]
  exact h.imp fun {a b} hab => by rw [ahead_iff]; left; rw [ke_bef_eq]; exact hab
theorem itq_rev (h : Sorted ltI S) : Sorted Ke.feb (itq S.reverse) := by
  unfold Sorted itq
  rw [List.pairwise_map, List.pairwise_reverse]
  exact h.imp fun {a b} hab => by rw [ahead_iff]; left; show Ke.bef (a.2, a.1) (b.2, b.1) = true; rw [ke_bef_eq]; exact hab
theorem itq_rperm : (itq S).Perm (itq S.reverse) := itq_perm (List.reverse_perm S).symm
end

/-- a piece that is one of many -/
def exA {α : Type} (f : α → Ast) : Ast where
  holds w F := ∃ a, (f a).holds w F
  stable := fun ⟨a, h⟩ hm hS => ⟨a, (f a).stable h hm hS⟩
  lt := fun ⟨a, h⟩ hj => (f a).lt h hj
section
variable {w0 w : World} {α : Type} {f : α → Ast} {R : Ast}
theorem On.ex_open (h : On w0 w (sep (exA f) R)) : ∃ a, On w0 w (sep (f a) R) := by
  obtain ⟨F, ⟨Fa, Fb, ⟨a, ha⟩, h1, h2, h3⟩, h4⟩ := h
  exact ⟨a, F, ⟨Fa, Fb, ha, h1, h2, h3⟩, h4⟩
theorem On.ex_shut (a : α) (h : On w0 w (sep (f a) R)) : On w0 w (sep (exA f) R) := h.mono1 fun _ hF => ⟨a, hF⟩
end

/-- a queue -/
def quA (qb : Nat) (S : List (It Int)) : Ast := exA fun h : Nat × Nat => sep (boxA qb 138 #[.pointer (some ⟨h.1, 0, none⟩), .pointer (some ⟨h.2, 0, none⟩)]) (sep (Ke.HK h.1 31 Ke.bef (itq S)) (Ke.HK h.2 91 Ke.feb (itq S)))
section
variable {w0 w : World} {qb : Nat} {S : List (It Int)} {R : Ast}
theorem On.qu_open (h : On w0 w (sep (quA qb S) R)) : ∃ h1 h2, On w0 w (sep (boxA qb 138 #[.pointer (some ⟨h1, 0, none⟩), .pointer (some ⟨h2, 0, none⟩)]) (sep (Ke.HK h1 31 Ke.bef (itq S)) (sep (Ke.HK h2 91 Ke.feb (itq S)) R))) := by
  obtain ⟨⟨h1, h2⟩, h⟩ := h.ex_open
  exact ⟨h1, h2, h.assoc.mono fun _ h => sep_monoR h fun _ => sep_assoc⟩
theorem On.qu_shut {h1 h2 : Nat} (h : On w0 w (sep (boxA qb 138 #[.pointer (some ⟨h1, 0, none⟩), .pointer (some ⟨h2, 0, none⟩)]) (sep (Ke.HK h1 31 Ke.bef (itq S)) (sep (Ke.HK h2 91 Ke.feb (itq S)) R)))) : On w0 w (sep (quA qb S) R) :=
  On.ex_shut (f := fun h : Nat × Nat => sep (boxA qb 138 #[.pointer (some ⟨h.1, 0, none⟩), .pointer (some ⟨h.2, 0, none⟩)]) (sep (Ke.HK h.1 31 Ke.bef (itq S)) (Ke.HK h.2 91 Ke.feb (itq S)))) (h1, h2)
    (h.mono fun _ h => sep_assoc' (sep_monoR h fun _ => sep_assoc'))
theorem On.qu_distinct (h : On w0 w (sep (quA qb S) R)) : S.Pairwise fun a b => a.1 ≠ b.1 := by
  obtain ⟨h1, h2, h⟩ := h.qu_open
  exact distinct_itq (Ke.distinctK h.out1)
theorem On.qu_ids (h : On w0 w (sep (quA qb S) R)) : ∀ x ∈ S, 0 ≤ x.1 ∧ (Lit.int .i64 x.1).wf = true := fun x hx => by
  obtain ⟨h1, h2, h⟩ := h.qu_open
  obtain ⟨F, hF, _⟩ := h.out1.get1
  exact Ke.HeapAt.ids hF _ (itq_mem (id := x.1) (k := x.2) hx)
end

/-- what is wrong with a time -/
def timeE (t : Int) : Int := if t < 0 then 10 else if 1099511627776 ≤ t then 21 else 0
theorem time_any (t : Int) (w : World) : Calls Try.prog 102 #[.int .i64 t] w fun e w' => e = .returned (.int .i64 (timeE t)) ∧ w = w' := by
  go_enter Try.func102, Try.ntmps102
  go_wp2
  all_goals go_ret
  all_goals exact ⟨ret_int (by unfold timeE; split <;> (try split) <;> first | rfl | omega), rfl⟩
theorem rtime_any (t : Int) (w : World) : Calls Try.prog 136 #[.int .i64 t] w fun e w' => e = .returned (.int .i64 (timeE t)) ∧ w = w' := by
  go_enter Try.func136, Try.ntmps136
  go_wp2
  all_goals go_ret
  all_goals exact ⟨ret_int (by unfold timeE; split <;> (try split) <;> first | rfl | omega), rfl⟩
end Go.Proofs.Ytkjpkhpiojahkaa

/-! ### Walks: a queue's New, Len, Get, First, Last, Drop, check, Move. -/
namespace Go.Proofs.Ytkjpkhpiojahkaa
set_option linter.unusedVariables false
open Go.RowKit Hp

section
variable {w0 w : World} {qb : Nat} {S : List (It Int)} {R : Ast}

set_option maxRecDepth 100000 in
set_option maxHeartbeats 1000000 in
theorem Q_new (h : On w0 w R) : Calls Try.prog 25 #[] w fun e w' => ∃ qb, e = .returned (.pointer (some ⟨qb, 0, none⟩)) ∧ On w0 w' (sep (quA qb []) R) := by
  have H0 := Lib.hid (Ke.KU_new h 31 Ke.bef)
  clear h
  go_enter Try.func25, Try.ntmps25
  go_wp2_with fail
  refine H0.out.mono ?_
  rintro e w1 ⟨h1, rfl, k1⟩
  have H1 := Lib.hid (Ke.KU_new k1 91 Ke.feb)
  clear k1
  go_wp2_with fail
  refine H1.out.mono ?_
  rintro e w2 ⟨h2, rfl, k2⟩
  have hon : On w0 (w2.alloc (.cells #[.pointer (some ⟨h1, 0, none⟩), .pointer (some ⟨h2, 0, none⟩)] 138)) (sep (quA w2.heap.size []) R) := by
    have := k2.add ((Below.refl _ w2).alloc (Nat.le_refl _) _) (boxA_new w2 138 #[.pointer (some ⟨h1, 0, none⟩), .pointer (some ⟨h2, 0, none⟩)]) (fun j hj => by omega)
    exact (this.sw1).qu_shut
  have HO := Lib.hid hon
  clear k2 hon
  go_wp2
  go_ret
  exact ⟨_, rfl, HO.out⟩

set_option maxRecDepth 100000 in
set_option maxHeartbeats 1000000 in
theorem Q_len (h : On w0 w (sep (quA qb S) R)) : Calls Try.prog 30 #[.pointer (some ⟨qb, 0, none⟩)] w fun e w' => e = .returned (.int .i64 (S.length : Int)) ∧ w = w' := by
  obtain ⟨h1, h2, h⟩ := h.qu_open
  obtain ⟨c0, f0⟩ := h.box1 0
  have c0' : w.cell? ⟨qb, 0, none⟩ = some (.pointer (some ⟨h1, 0, none⟩)) := c0
  have hl := Ke.KU_len (h.sw0)
  rw [itq_length] at hl
  have HL := Lib.hid hl
  clear h c0 hl
  go_enter Try.func30, Try.ntmps30
  go_wp2_with fail
  refine HL.out.mono ?_
  rintro e w' ⟨rfl, rfl⟩
  go_wp2
  go_ret
  exact ⟨rfl, rfl⟩

set_option maxRecDepth 100000 in
set_option maxHeartbeats 2000000 in
theorem Q_get (h : On w0 w (sep (quA qb S) R)) (hl : S.length < 900000) (id : Int) (hw : (Lit.int .i64 id).wf = true) :
    Calls Try.prog 35 #[.pointer (some ⟨qb, 0, none⟩), .int .i64 id] w fun e w' => e = .returned (.tuple #[.agg #[.int .i64 (keyAt 0 S id), .int .i64 (idAt S id)], .int .i64 (hasE S id)]) ∧ Below w.heap.size w w' := by
  have hd := h.qu_distinct
  obtain ⟨h1, h2, h⟩ := h.qu_open
  obtain ⟨w1, hw1⟩ : ∃ w1, w.alloc (.cells #[.int .i64 0, .int .i64 0] 24) = w1 := ⟨_, rfl⟩
  have hb1 : Below w.heap.size w w1 := by rw [← hw1]; exact (Below.refl _ w).alloc (Nat.le_refl _) _
  have hc : w1.heap[w.heap.size]? = some (.cells #[.int .i64 0, .int .i64 0] 24 (0, 0)) := by rw [← hw1]; exact heap_alloc_new w _
  have h3 := h.below hb1
  obtain ⟨c0, f0⟩ := h3.box1 0
  have c0' : w1.cell? ⟨qb, 0, none⟩ = some (.pointer (some ⟨h1, 0, none⟩)) := c0
  have hg := Ke.KU_get (h3.sw0) (by rw [itq_length]; exact hl) id hw
  rw [itq_keyAt hd, show hasE (itq S) id = hasE S id by unfold hasE; rw [itq_has]] at hg
  have HG := Lib.hid hg
  have HC := Lib.hid hc
  have HB := Lib.hid hb1
  clear h h3 c0 hg hd hc hb1
  go_enter Try.func35, Try.ntmps35
  go_wp2_with fail
  refine HG.out.mono ?_
  rintro e w2 ⟨rfl, hb2⟩
  have o2 := (Mod.of_below (S := none') hb2).obj HC.out (fun h => h)
  have e0 : w2.cell? ⟨w.heap.size, 0, none⟩ = some (.int .i64 0) := by simp [World.cell?, o2]
  have e1 : w2.cell? ⟨w.heap.size, 1, none⟩ = some (.int .i64 0) := by simp [World.cell?, o2]
  have g0 : w2.frozen? ⟨w.heap.size, 0, none⟩ = false := by simp [World.frozen?, o2]
  have g1 : w2.frozen? ⟨w.heap.size, 1, none⟩ = false := by simp [World.frozen?, o2]
  have HB2 := Lib.hid (HB.out.trans (hb2.mono HB.out.size))
  clear hb2 o2
  go_wp2_with fail
  refine bodyPost_ret (v := .tuple #[.agg #[.int .i64 (keyAt 0 S id), .int .i64 (idAt S id)], .int .i64 (hasE S id)]) (by simp [results, Try.results35, go_sem, Ke.box2_0 e0, Ke.box2_1 e1]) rfl ?_
  exact ⟨rfl, (HB2.out.setCell (p := ⟨w.heap.size, 0, none⟩) (Nat.le_refl _) _).setCell (p := ⟨w.heap.size, 1, none⟩) (Nat.le_refl _) _⟩

set_option maxRecDepth 100000 in
set_option maxHeartbeats 2000000 in
theorem Q_drop (h : On w0 w (sep (quA qb S) R)) (hl : S.length < 900000) (id : Int) (hw : (Lit.int .i64 id).wf = true) :
    Calls Try.prog 96 #[.pointer (some ⟨qb, 0, none⟩), .int .i64 id] w fun e w' => e = .returned (.tuple #[.agg #[.int .i64 (keyAt 0 S id), .int .i64 (idAt S id)], .int .i64 (hasE S id)]) ∧ On w0 w' (sep (quA qb (without S id)) R) := by
  have hd := h.qu_distinct
  obtain ⟨h1, h2, h⟩ := h.qu_open
  obtain ⟨rc, hrc⟩ : ∃ rc, w.heap.size = rc := ⟨_, rfl⟩
  obtain ⟨w1, hw1⟩ : ∃ w1, w.alloc (.cells #[.int .i64 0, .int .i64 0] 24) = w1 := ⟨_, rfl⟩
  have h3 := h.new1 24 #[.int .i64 0, .int .i64 0]
  rw [hw1, hrc] at h3
  obtain ⟨c0, _⟩ := (h3.sw0).box1 1
  have c0' : w1.cell? ⟨qb, 1, none⟩ = some (.pointer (some ⟨h2, 0, none⟩)) := c0
  have hg := Ke.KU_drop Ke.lessF (h3.sw2.sw1.sw0) (by rw [itq_length]; exact hl) id hw
  rw [itq_without] at hg
  have HG := Lib.hid hg
  have HD := Lib.hid hd
  clear h h3 c0 hg hd
  go_enter Try.func96, Try.ntmps96
  go_wp2_with fail
  refine HG.out.mono ?_
  rintro e w2 ⟨rfl, k2⟩
  obtain ⟨d0, _⟩ := (k2.sw1.sw0).box1 0
  have d0' : w2.cell? ⟨qb, 0, none⟩ = some (.pointer (some ⟨h1, 0, none⟩)) := d0
  have hg := Ke.KU_drop Ke.lessB (k2.sw2.sw1.sw0) (by rw [itq_length]; exact hl) id hw
  rw [itq_without, itq_keyAt HD.out, show hasE (itq S) id = hasE S id by unfold hasE; rw [itq_has]] at hg
  have HG2 := Lib.hid hg
  clear k2 hg d0
  go_wp2_with fail
  refine HG2.out.mono ?_
  rintro e w3 ⟨rfl, k3⟩
  have e0 : w3.cell? ⟨rc, 0, none⟩ = some (.int .i64 0) := ((k3.sw1.sw0).box1 0).1
  have e1 : w3.cell? ⟨rc, 1, none⟩ = some (.int .i64 0) := ((k3.sw1.sw0).box1 1).1
  have g0 : w3.frozen? ⟨rc, 0, none⟩ = false := ((k3.sw1.sw0).box1 0).2
  have g1 : w3.frozen? ⟨rc, 1, none⟩ = false := ((k3.sw1.sw0).box1 1).2
  have hfin : On w0 ((w3.setCell ⟨rc, 0, none⟩ (.int .i64 (keyAt 0 S id))).setCell ⟨rc, 1, none⟩ (.int .i64 (idAt S id))) (sep (quA qb (without S id)) R) := by
    have := ((k3.sw1.sw0).box_set 0 (.int .i64 (keyAt 0 S id))).box_set 1 (.int .i64 (idAt S id))
    exact (this.out1.sw1.sw0).qu_shut
  have HFin := Lib.hid hfin
  clear k3 hfin
  go_wp2_with fail
  refine bodyPost_ret (v := .tuple #[.agg #[.int .i64 (keyAt 0 S id), .int .i64 (idAt S id)], .int .i64 (hasE S id)]) (by simp [results, Try.results96, go_sem, Ke.box2_0 e0, Ke.box2_1 e1]) rfl ?_
  exact ⟨rfl, HFin.out⟩

set_option maxRecDepth 100000 in
set_option maxHeartbeats 2000000 in
theorem Q_first (h : On w0 w (sep (quA qb S) R)) (hs : Sorted ltI S) :
    Calls Try.prog 33 #[.pointer (some ⟨qb, 0, none⟩)] w fun e w' => e = .returned (.tuple #[.agg #[.int .i64 (S.headD (0, 0)).2, .int .i64 (S.headD (0, 0)).1], .int .i64 (headE S)]) ∧ Below w.heap.size w w' := by
  obtain ⟨h1, h2, h⟩ := h.qu_open
  obtain ⟨w1, hw1⟩ : ∃ w1, w.alloc (.cells #[.int .i64 0, .int .i64 0] 24) = w1 := ⟨_, rfl⟩
  have hb1 : Below w.heap.size w w1 := by rw [← hw1]; exact (Below.refl _ w).alloc (Nat.le_refl _) _
  have hc : w1.heap[w.heap.size]? = some (.cells #[.int .i64 0, .int .i64 0] 24 (0, 0)) := by rw [← hw1]; exact heap_alloc_new w _
  have h3 := h.below hb1
  obtain ⟨c0, f0⟩ := h3.box1 0
  have c0' : w1.cell? ⟨qb, 0, none⟩ = some (.pointer (some ⟨h1, 0, none⟩)) := c0
  have hg := Ke.KU_peek Ke.lessB (h3.sw0) (List.Perm.refl _) (itq_sorted hs)
  have hT : (itq S).headD (0, 0, 0) = ((S.headD (0, 0)).1, ((S.headD (0, 0)).2, (S.headD (0, 0)).1)) := by
    cases S <;> rfl
  have hE : headE (itq S) = headE S := by cases S <;> rfl
  rw [hT, hE] at hg
  dsimp only at hg
  obtain ⟨a1, ha1⟩ : ∃ a, (S.headD (0, 0)).1 = a := ⟨_, rfl⟩
  obtain ⟨a2, ha2⟩ : ∃ a, (S.headD (0, 0)).2 = a := ⟨_, rfl⟩
  obtain ⟨a3, ha3⟩ : ∃ a, headE S = a := ⟨_, rfl⟩
  rw [ha1, ha2, ha3] at hg
  rw [ha1, ha2, ha3]
  have HG := Lib.hid hg
  have HC := Lib.hid hc
  have HB := Lib.hid hb1
  clear h h3 c0 hg hc hb1 hT hE ha1 ha2 ha3
  go_enter Try.func33, Try.ntmps33
  go_wp2_with fail
  refine HG.out.mono ?_
  rintro e w2 ⟨rfl, hb2⟩
  have o2 := (Mod.of_below (S := none') hb2).obj HC.out (fun h => h)
  have hwlt : w.heap.size < w2.heap.size := lt_of_some o2
  obtain ⟨w3, hw3⟩ : ∃ w3, w2.alloc (.cells #[.int .i64 a2, .int .i64 a1] 24) = w3 := ⟨_, rfl⟩
  have hb3 : Below w2.heap.size w2 w3 := by rw [← hw3]; exact (Below.refl _ w2).alloc (Nat.le_refl _) _
  have o3 := (Mod.of_below (S := none') hb3).obj o2 (fun h => h)
  have n0 : w3.cell? ⟨w2.heap.size, 0, none⟩ = some (.int .i64 a2) := by rw [← hw3, World.cell?_alloc_at _ _ _ _ rfl]; rfl
  have n1 : w3.cell? ⟨w2.heap.size, 1, none⟩ = some (.int .i64 a1) := by rw [← hw3, World.cell?_alloc_at _ _ _ _ rfl]; rfl
  have e0 : w3.cell? ⟨w.heap.size, 0, none⟩ = some (.int .i64 0) := by simp [World.cell?, o3]
  have e1 : w3.cell? ⟨w.heap.size, 1, none⟩ = some (.int .i64 0) := by simp [World.cell?, o3]
  have g0 : w3.frozen? ⟨w.heap.size, 0, none⟩ = false := by simp [World.frozen?, o3]
  have g1 : w3.frozen? ⟨w.heap.size, 1, none⟩ = false := by simp [World.frozen?, o3]
  have hbw2 := HB.out.trans (hb2.mono HB.out.size)
  have HB2 := Lib.hid (hbw2.trans (hb3.mono hbw2.size))
  clear hb2 o2 hb3 o3 hbw2
  go_wp2_with fail
  refine bodyPost_ret (v := .tuple #[.agg #[.int .i64 a2, .int .i64 a1], .int .i64 a3]) (by simp [results, Try.results33, go_sem, Ke.box2_0 e0, Ke.box2_1 e1]) rfl ?_
  exact ⟨rfl, (HB2.out.setCell (p := ⟨w.heap.size, 0, none⟩) (Nat.le_refl _) _).setCell (p := ⟨w.heap.size, 1, none⟩) (Nat.le_refl _) _⟩

set_option maxRecDepth 100000 in
set_option maxHeartbeats 2000000 in
theorem Q_last (h : On w0 w (sep (quA qb S) R)) (hs : Sorted ltI S) :
    Calls Try.prog 34 #[.pointer (some ⟨qb, 0, none⟩)] w fun e w' => e = .returned (.tuple #[.agg #[.int .i64 (S.reverse.headD (0, 0)).2, .int .i64 (S.reverse.headD (0, 0)).1], .int .i64 (headE S.reverse)]) ∧ Below w.heap.size w w' := by
  obtain ⟨h1, h2, h⟩ := h.qu_open
  obtain ⟨w1, hw1⟩ : ∃ w1, w.alloc (.cells #[.int .i64 0, .int .i64 0] 24) = w1 := ⟨_, rfl⟩
  have hb1 : Below w.heap.size w w1 := by rw [← hw1]; exact (Below.refl _ w).alloc (Nat.le_refl _) _
  have hc : w1.heap[w.heap.size]? = some (.cells #[.int .i64 0, .int .i64 0] 24 (0, 0)) := by rw [← hw1]; exact heap_alloc_new w _
  have h3 := h.below hb1
  obtain ⟨c0, f0⟩ := h3.box1 1
  have c0' : w1.cell? ⟨qb, 1, none⟩ = some (.pointer (some ⟨h2, 0, none⟩)) := c0
  have hg := Ke.KU_peek Ke.lessF (h3.sw1.sw0) itq_rperm (itq_rev hs)
  have hT : (itq S.reverse).headD (0, 0, 0) = ((S.reverse.headD (0, 0)).1, ((S.reverse.headD (0, 0)).2, (S.reverse.headD (0, 0)).1)) := by
    cases S.reverse <;> rfl
  have hE : headE (itq S.reverse) = headE S.reverse := by cases S.reverse <;> rfl
  rw [hT, hE] at hg
  dsimp only at hg
  obtain ⟨a1, ha1⟩ : ∃ a, (S.reverse.headD (0, 0)).1 = a := ⟨_, rfl⟩
  obtain ⟨a2, ha2⟩ : ∃ a, (S.reverse.headD (0, 0)).2 = a := ⟨_, rfl⟩
  obtain ⟨a3, ha3⟩ : ∃ a, headE S.reverse = a := ⟨_, rfl⟩
  rw [ha1, ha2, ha3] at hg
  rw [ha1, ha2, ha3]
  have HG := Lib.hid hg
  have HC := Lib.hid hc
  have HB := Lib.hid hb1
  clear h h3 c0 hg hc hb1 hT hE ha1 ha2 ha3
  go_enter Try.func34, Try.ntmps34
  go_wp2_with fail
  refine HG.out.mono ?_
  rintro e w2 ⟨rfl, hb2⟩
  have o2 := (Mod.of_below (S := none') hb2).obj HC.out (fun h => h)
  have hwlt : w.heap.size < w2.heap.size := lt_of_some o2
  obtain ⟨w3, hw3⟩ : ∃ w3, w2.alloc (.cells #[.int .i64 a2, .int .i64 a1] 24) = w3 := ⟨_, rfl⟩
  have hb3 : Below w2.heap.size w2 w3 := by rw [← hw3]; exact (Below.refl _ w2).alloc (Nat.le_refl _) _
  have o3 := (Mod.of_below (S := none') hb3).obj o2 (fun h => h)
  have n0 : w3.cell? ⟨w2.heap.size, 0, none⟩ = some (.int .i64 a2) := by rw [← hw3, World.cell?_alloc_at _ _ _ _ rfl]; rfl
  have n1 : w3.cell? ⟨w2.heap.size, 1, none⟩ = some (.int .i64 a1) := by rw [← hw3, World.cell?_alloc_at _ _ _ _ rfl]; rfl
  have e0 : w3.cell? ⟨w.heap.size, 0, none⟩ = some (.int .i64 0) := by simp [World.cell?, o3]
  have e1 : w3.cell? ⟨w.heap.size, 1, none⟩ = some (.int .i64 0) := by simp [World.cell?, o3]
  have g0 : w3.frozen? ⟨w.heap.size, 0, none⟩ = false := by simp [World.frozen?, o3]
  have g1 : w3.frozen? ⟨w.heap.size, 1, none⟩ = false := by simp [World.frozen?, o3]
  have hbw2 := HB.out.trans (hb2.mono HB.out.size)
  have HB2 := Lib.hid (hbw2.trans (hb3.mono hbw2.size))
  clear hb2 o2 hb3 o3 hbw2
  go_wp2_with fail
  refine bodyPost_ret (v := .tuple #[.agg #[.int .i64 a2, .int .i64 a1], .int .i64 a3]) (by simp [results, Try.results34, go_sem, Ke.box2_0 e0, Ke.box2_1 e1]) rfl ?_
  exact ⟨rfl, (HB2.out.setCell (p := ⟨w.heap.size, 0, none⟩) (Nat.le_refl _) _).setCell (p := ⟨w.heap.size, 1, none⟩) (Nat.le_refl _) _⟩
end
end Go.Proofs.Ytkjpkhpiojahkaa
