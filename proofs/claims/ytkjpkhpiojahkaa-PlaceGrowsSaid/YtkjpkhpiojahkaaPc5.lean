/-
  Place: the library's Repeat of one number.
-/
import Derived.Test.YtkjpkhpiojahkaaPc4
import Derived.Laws.CopyOwn
namespace Go.Proofs.Ytkjpkhpiojahkaa
set_option linter.unusedVariables false
open Go.RowKit Hp
attribute [local go_sem] Oper.semAt_some

def ints (zs : List Int) : List Value := zs.map fun x => Value.int .i64 x
/-- a row of numbers of its own -/
def intsA (v : Value) (zs : List Int) : Ast := rowA v 3 1 zs.length (ints zs)
theorem Plain.ints (v : Value) (zs : List Int) : Plain (intsA v zs) := Plain.row _ _ _ _ _
theorem made_ints (n : Nat) : (madeCells (Value.int .i64 0).cells (n * 1)).toList = ints (List.replicate n 0) := by
  unfold ints
  rw [List.map_replicate, List.eq_replicate_iff]
  refine ⟨by simp [madeCells], fun b hb => ?_⟩
  simp [madeCells, Value.cells] at hb
  obtain ⟨x, _, rfl⟩ := hb
  simp [Nat.mod_one]
theorem infoInt : (Try.prog.info? 3).map (fun i => (i.zero, i.size, i.bytes)) = some (some (.int .i64 0), 1, 8) := by kernel_rfl
/-- a row that is filled as far as k -/
def filled (v : Int) (n k : Nat) : List Value := ints (List.replicate k v ++ List.replicate (n - k) 0)
theorem filled_length {v : Int} {n k : Nat} (h : k ≤ n) : (filled v n k).length = n := by simp [filled, ints]; omega
theorem filled_splice {v : Int} {n k m : Nat} (h : k + m ≤ n) : splice (filled v n k) k (ints (List.replicate m v)) = filled v n (k + m) := by
  unfold splice filled ints
  rw [List.map_append, List.map_append, List.map_replicate, List.map_replicate, List.map_replicate, List.map_replicate, List.map_replicate]
  rw [List.take_left' (by simp), List.length_replicate, List.drop_append, List.drop_of_length_le (by simp)]
  rw [List.nil_append, List.length_replicate, List.drop_replicate, ← List.append_assoc, List.replicate_append_replicate]
  congr 2
  omega
theorem filled_at {v : Int} {n k j : Nat} (h : j < k) (hk : k ≤ n) : (filled v n k)[j]? = some (.int .i64 v) := by
  unfold filled ints
  rw [List.getElem?_map, List.getElem?_append_left (by simpa using h), List.getElem?_replicate, if_pos h]
  rfl
theorem ints_one (zs : List Int) : ∀ u ∈ ints zs, u.oneCell' = true := fun u hu => by
  obtain ⟨x, _, rfl⟩ := List.mem_map.1 hu
  rfl
set_option maxRecDepth 100000 in
set_option maxHeartbeats 4000000 in
theorem repeat_ok (v : Int) (b0 : Nat) (n : Nat) (w : World) (hn1 : 1 ≤ n) (hn : n ≤ 16) (h : w.cell? ⟨b0, 0, none⟩ = some (.int .i64 v)) :
    Calls Try.prog 111 #[.slice (some ⟨b0, 0, none⟩) 1 1, .int .i64 (n : Int)] w fun e w' => ∃ g, e = .returned (.slice (some ⟨g, 0, none⟩) n n) ∧ Below w.heap.size w w' ∧ w.heap.size ≤ g ∧ w'.ownsRow 0 3 1 (.slice (some ⟨g, 0, none⟩) n n) n (ints (List.replicate n v)) := by
  have g1 : decide ((n : Int) < 0) = false := by simp
  have HM := Lib.hid (mul1_ok n w hn)
  have gu : IntKind.u64.wrap (n : Int) = (n : Int) := by
    have : n = 1 ∨ n = 2 ∨ n = 3 ∨ n = 4 ∨ n = 5 ∨ n = 6 ∨ n = 7 ∨ n = 8 ∨ n = 9 ∨ n = 10 ∨ n = 11 ∨ n = 12 ∨ n = 13 ∨ n = 14 ∨ n = 15 ∨ n = 16 := by omega
    rcases this with rfl | rfl | rfl | rfl | rfl | rfl | rfl | rfl | rfl | rfl | rfl | rfl | rfl | rfl | rfl | rfl <;> rfl
  have gi : IntKind.i64.wrap (n : Int) = (n : Int) := IntWalk.i64_in _ (by omega)
  have g2 : decide ((9223372036854775807 : Int) < (n : Int)) = false := by simp; omega
  obtain ⟨i3, hi3, hz3, hz4, hz5⟩ := info_parts infoInt
  go_enter Try.func111, Try.ntmps111
  go_wp2_with fail
  refine HM.out.mono ?_
  rintro e w1 ⟨rfl, rfl⟩
  go_wp2_with (at_make; refine wpList_make_full _ rfl _ _ 54 rfl w.heap.size 3 i3 (.int .i64 0) 1 Try.underlying54 hi3 hz3 hz4 .i64 .i64 _ _ n rfl rfl rfl rfl (by rw [hz5]; omega) (by unfold maxLen; omega) (Nat.le_refl _) ?_; intro w2 hown hgrow)
  obtain ⟨g, hg⟩ : ∃ g, w.heap.size = g := ⟨_, rfl⟩
  have hb2 : Below w.heap.size w w2 := ⟨hgrow.os, hgrow.tape, hgrow.output, hgrow.size, fun k hk => hgrow.block k hk (by simp)⟩
  have hrow : w2.heap[g]? = some (.cells (filled v n 0).toArray 3 (0, 0)) := by
    rw [made_ints, hg] at hown
    rcases own_parts hown with ⟨h1, _⟩ | ⟨g', cap', cur, h1, _, h3, _, _, h4, h5⟩
    · cases h1
    · injection h1 with h1 _ h2
      injection h1 with h1
      injection h1 with h1
      subst h1 h2
      have hl : cur.toList.length = n * 1 := by simpa using h4
      rw [List.take_of_length_le (by omega)] at h5
      have : cur = (filled v n 0).toArray := by
        apply Array.ext'
        rw [h5]
        rfl
      rw [← this]
      exact h3
  have hv : w2.cell? ⟨b0, 0, none⟩ = some (.int .i64 v) := zatB h hb2
  have hb0 : b0 < w.heap.size := World.block_lt_of_cell? w _ h
  -- what one copy does
  have hcopy : ∀ (A : World) (k m : Nat) (ad : Addr) (sl sc dl dc : Nat), A.heap[g]? = some (.cells (filled v n k).toArray 3 (0, 0)) → Below w.heap.size w A → k + m ≤ n → m = Nat.min sl dl → (∀ j, j < m → A.cell? (ad.add j) = some (.int .i64 v)) →
      ∃ A', (Builtin.copy_ #[54, 54] 3 #[.slice (some ⟨g, k, none⟩) dl dc, .slice (some ad) sl sc]).run Try.prog A = .ok (.int .i64 (m : Int)) A' ∧ A'.heap[g]? = some (.cells (filled v n (k + m)).toArray 3 (0, 0)) ∧ Below w.heap.size w A' := fun A k m ad sl sc dl dc hA hB hkm hm hc => by
    have hlen : (ints (List.replicate m v)).length = m := by simp [ints]
    have := run_copy_row (P := Try.prog) A 54 54 3 3 g k dl dc ad sl sc (filled v n k).toArray 3 (ints (List.replicate m v)) Try.underlying54 (by kernel_rfl) hA (by rw [hlen]; exact hm) (fun j x hx => by
      have hj : j < m := by have := (List.getElem?_eq_some_iff.1 hx).1; rw [hlen] at this; exact this
      have : x = .int .i64 v := by simpa [ints, List.getElem?_replicate, hj] using hx.symm
      rw [this]
      exact hc j hj) (by rw [hlen]; simp [filled_length (v := v) (n := n) (k := k) (by omega)]; omega) (ints_one _)
    refine ⟨_, by rw [this, hlen]; rfl, ?_, below_setRow hB (by omega) _⟩
    rw [setRow_heap A g _ _ 3 _ hA]
    congr 2
    have := filled_splice (v := v) (n := n) (k := k) (m := m) hkm
    unfold splice at this
    rw [← this]
    simp [hlen, List.append_assoc]
  obtain ⟨w3, hc1, hrow3, hb3⟩ := hcopy w2 0 1 ⟨b0, 0, none⟩ 1 1 n n hrow hb2 (by omega) (Nat.min_eq_left hn1).symm (fun j hj => by
    have : j = 0 := by omega
    rw [this, add_zero']
    exact hv)
  have HCopy := Lib.hid hcopy
  have HRow3 := Lib.hid hrow3
  have HB3 := Lib.hid hb3
  rw [hg]
  have hc1' : (Builtin.copy_ #[54, 54] 3 #[.slice (some ⟨g, 0, none⟩) n n, .slice (some ⟨b0, 0, none⟩) 1 1]).run Try.prog w2 = .ok (.int .i64 1) w3 := hc1
  clear hown hgrow hb2 hrow hv hcopy hrow3 hb3 hc1
  rw [hc1']
  go_wp2_with fail
  go_loopg [8] (n - 1) (fun gh s8 wr => ∃ k : Nat, k + gh = n ∧ 1 ≤ k ∧ s8 = .int .i64 (k : Int) ∧ wr.heap[g]? = some (.cells (filled v n k).toArray 3 (0, 0)) ∧ Below w.heap.size w wr)
  case atStart => exact ⟨1, by omega, by omega, rfl, HRow3.out, HB3.out⟩
  case round =>
    obtain ⟨k, hk, hk1, rfl, hr, hb⟩ := hrel
    by_cases hlt : k < n
    · have hltI : (k : Int) < (n : Int) := by omega
      have hk0 : (0 : Int) ≤ (k : Int) := by omega
      have hkn : (k : Int) ≤ (n : Int) := by omega
      have hknN : k ≤ n := by omega
      obtain ⟨m, hm⟩ : ∃ m, Nat.min k (n - k) = m := ⟨_, rfl⟩
      have hmk : m ≤ k ∧ m ≤ n - k ∧ 1 ≤ m := by rw [← hm]; exact ⟨Nat.min_le_left _ _, Nat.min_le_right _ _, by have := Nat.le_min.2 ⟨hk1, (by omega : 1 ≤ n - k)⟩; exact this⟩
      have hrd : wr.drew.heap[g]? = some (.cells (filled v n k).toArray 3 (0, 0)) := hr
      have hsrc : ∀ j x, (ints (List.replicate m v))[j]? = some x → wr.drew.cell? ⟨g, j, none⟩ = some x := fun j x hx => by
        have hj : j < m := by have := (List.getElem?_eq_some_iff.1 hx).1; simp [ints] at this; exact this
        have : x = .int .i64 v := by simpa [ints, List.getElem?_replicate, hj] using hx.symm
        rw [this]
        have h2 := filled_at (v := v) (n := n) (k := k) (j := j) (by omega) (by omega)
        simp only [World.cell?, hrd]
        simpa using h2
      have HR := Lib.hid hrd
      have HB := Lib.hid hb.drew
      have HSrc := Lib.hid hsrc
      have HM2 := Lib.hid hm
      have hcl : (ints (List.replicate m v)).length = m := by simp [ints]
      clear hr hb hrd hsrc hm
      go_wp2_with fail
      refine wp_region_noPanic ?_
      go_region_law (first
        | (refine step_copy_splice (by rfl) _ _ 54 54 (by rfl) 3 Try.underlying54 (by kernel_rfl) _ _ _ _ _ _ (by rfl) (by rfl) g k (filled v n k) 3 HR.out (ints (List.replicate m v)) (by rw [hcl]; exact HM2.out.symm) (fun _ => ⟨by rw [if_neg (by omega)], _, rfl, fun j x hx => by rw [add_zero', Nat.zero_add]; exact HSrc.out j x hx⟩) (by rw [filled_length hknN, hcl]; omega) (ints_one _) w.heap.size w HB.out (by omega) ?_; intro w4 hg4 hb4; have HG4 := hg4; have HB4 := Lib.hid hb4; clear hb4))
      all_goals
        refine NoPanic.normal ?_
        have hsum : IntKind.i64.wrap ((k : Int) + (m : Int)) = ((k + m : Nat) : Int) := by rw [IntWalk.i64_in _ (by omega)]; omega
        go_wp2_with fail
        go_roundg (n - (k + m))
        case measure => omega
        case rel => exact ⟨k + m, by omega, by omega, by first | rfl | (simp only [Value.int.injEq, true_and]; omega), by rw [← filled_splice (by omega)]; exact HG4.out, HB4.out⟩
    · have hkn : k = n := by omega
      subst hkn
      have hfin : wr.ownsRow 0 3 1 (.slice (some ⟨g, 0, none⟩) k k) k (ints (List.replicate k v)) := by
        refine ⟨by simp [ints], .inr ⟨g, k, _, rfl, Nat.zero_le _, hr, Nat.le_refl _, by unfold maxLen; omega, by simp [filled_length (Nat.le_refl k)], ?_⟩⟩
        unfold filled
        simp [ints]
      have HFin := Lib.hid hfin
      have HB := Lib.hid hb
      clear hr hb hfin
      go_wp2_with fail
      go_ret
      exact ⟨g, rfl, HB.out, by omega, HFin.out⟩
end Go.Proofs.Ytkjpkhpiojahkaa
