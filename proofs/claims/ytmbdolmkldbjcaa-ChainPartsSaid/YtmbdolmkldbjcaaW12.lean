/-
  Walks: chain.Long, chain.Roots.
-/
import Derived.Test.YtmbdolmkldbjcaaL6
namespace Go.Proofs.Ytmbdolmkldbjcaa
open Go.RowKit Go.Shelf
attribute [local go_sem] Oper.semAt_some

/-- the threads of the first n that wait for none -/
def rootsN (zs : List Int) (n : Nat) : List Int := (List.range n).filterMap fun k => if zs.getD k 0 = -1 then some (k : Int) else none
theorem rootsN_succ (zs : List Int) (n : Nat) : rootsN zs (n + 1) = if zs.getD n 0 = -1 then rootsN zs n ++ [(n : Int)] else rootsN zs n := by
  unfold rootsN
  rw [List.range_succ, List.filterMap_append]
  split <;> rename_i h <;> simp only [List.filterMap_cons, h, if_true, if_false, List.filterMap_nil, List.append_nil]
theorem rootsN_length (zs : List Int) (n : Nat) : (rootsN zs n).length ≤ n := by
  have := List.length_filterMap_le (fun k => if zs.getD k 0 = -1 then some (k : Int) else none) (List.range n)
  simpa [rootsN] using this

set_option maxHeartbeats 1600000 in
theorem Roots_ok (a : Option Addr) (cap : Nat) (zs : List Int) (w : World) (hc : IntsAt w a zs) (he : err zs = 0) :
    Calls Try.prog 20 #[.slice a zs.length cap] w fun e w' => ∃ v, e = .returned v ∧ w'.ownsRow w.heap.size 3 1 v (rootsN zs zs.length).length (vals (rootsN zs zs.length)) ∧ Below w.heap.size w w' := by
  obtain ⟨i0, hi0, hz0, hz1, hz2⟩ := info_parts Try.info3
  obtain ⟨h64, _, _⟩ := err_ok he
  have hk := Check_any a cap zs w (by omega) hc
  rw [he] at hk
  have HK := Lib.hid hk
  clear hk he
  go_enter Try.func20, Try.ntmps20
  go_wp2_with (go_at_call 16; refine HK.out.mono ?_; rintro e w' ⟨rfl, rfl⟩)
  go_loopg [3, 11] zs.length (fun g v k wr => ∃ n : Nat, n + g = zs.length ∧ k = .int .i64 n ∧ wr.ownsRow w.heap.size 3 1 v (rootsN zs n).length (vals (rootsN zs n)) ∧ Below w.heap.size w wr)
  case atStart => exact ⟨0, by omega, rfl, World.ownsRow_nil _ _ _ _, Below.refl _ _⟩
  case round =>
    obtain ⟨n, hn, rfl, hown, hb⟩ := hrel
    have HN := Lib.hid hn
    have hn' : n ≤ zs.length := by omega
    have hsz := hb.size
    have hrl := rootsN_length zs n
    clear hn
    by_cases hlt : n < zs.length
    · obtain ⟨b, off, rfl, hbb, hcell⟩ := (hc.below (Nat.le_refl _) hb) n hlt
      obtain ⟨x, hx⟩ : ∃ x, zs[n]?.getD 0 = x := ⟨_, rfl⟩
      have hrs := rootsN_succ zs n
      rw [List.getD, hx] at hrs
      have HRS := Lib.hid hrs
      rw [hx] at hcell
      clear hx hrs
      by_cases hm : x = -1
      · have hb1 : (x == -1) = true := by simp [hm]
        have HM := Lib.hid hm
        have hcc := cell_one_new wr (.int .i64 n) 3
        clear hm
        go_wp2_with (at_builtin; refine wpList_append_own _ rfl _ _ 22 rfl w.heap.size 3 i0 (.int .i64 0) 1 8 Try.underlying22 hi0 hz0 hz1 hz2 rfl (by decide) _ _ _ rfl (hown.alloc _) ⟨wr.heap.size, 0, none⟩ 1 1 [.int .i64 n] rfl rfl hcc (by simp [Value.oneCell']) (by unfold maxLen; omega) (by omega) (by simp; omega) ?_; intro v' w1 hown' hgrow _; obtain ⟨hown1, hb1⟩ := rel_push hsz hown hb hown' hgrow; clear hown' hgrow hown hcc)
        go_roundg (gk - 1)
        case measure => have := HN.out; omega
        case rel => exact ⟨n + 1, by have := HN.out; omega, by go_num, by rw [HRS.out, if_pos HM.out]; exact hown1, hb1⟩
      · have hb1 : (x == -1) = false := by simp [hm]
        have HM := Lib.hid hm
        have HO := Lib.hid hown
        clear hm hown
        go_wp2
        go_roundg (gk - 1)
        case measure => have := HN.out; omega
        case rel => exact ⟨n + 1, by have := HN.out; omega, by go_num, by rw [HRS.out, if_neg HM.out]; exact HO.out, hb⟩
    · have hnz : n = zs.length := by omega
      have HO := Lib.hid hown
      have HZ := Lib.hid hnz
      clear hown hnz
      go_wp2
      go_ret
      exact ⟨_, rfl, by rw [← HZ.out]; exact HO.out, hb⟩

set_option maxHeartbeats 400000 in
theorem Roots_bad (a : Option Addr) (cap : Nat) (zs : List Int) (w : World) (hc : IntsAt w a zs) (hl : zs.length ≤ 17592186044416) (he : err zs ≠ 0) :
    Calls Try.prog 20 #[.slice a zs.length cap] w fun e w' => e = .returned (.slice none 0 0) ∧ w = w' := by
  have hk := Check_any a cap zs w hl hc
  obtain ⟨r, hr⟩ : ∃ r, err zs = r := ⟨_, rfl⟩
  rw [hr] at hk he
  have hb : (r != 0) = true := by simp [he]
  have HK := Lib.hid hk
  clear hk he hr
  go_enter Try.func20, Try.ntmps20
  go_wp2_with (go_at_call 16; refine HK.out.mono ?_; rintro e w' ⟨rfl, rfl⟩)
  go_ret
  exact ⟨rfl, rfl⟩

set_option maxRecDepth 100000 in
set_option maxHeartbeats 2000000 in
theorem Long_any (a : Option Addr) (cap : Nat) (zs : List Int) (i : Int) (w : World) (hl : zs.length ≤ 17592186044416) (hc : IntsAt w a zs) :
    Calls Try.prog 22 #[.slice a zs.length cap, .int .i64 i] w fun e w' => e = .returned (.tuple #[.int .i64 (((along zs i).length : Nat)), .int .i64 (wrongOf zs [i])]) ∧ Below w.heap.size w w' := by
  refine (callsIn_wide (n := 9)).1 ?_
  refine callsIn_of_wp_marks Try.func22 rfl trivial ?_ rfl
  simp only [Try.ntmps22, List.size_toArray, List.length_cons, List.length_nil, Nat.reduceAdd, Nat.reduceSub, Array.replicate_succ, Array.replicate_zero, List.push_toArray, List.append_toArray, List.nil_append, List.cons_append]
  gi_wp2_with (refine ⟨trivial, ?_⟩; gi_at_call 24; refine (callsIn_wide.2 (Along_any _ _ _ _ _)).mono ?_; rintro e w' ⟨rfl, rfl⟩)
  obtain ⟨W, hW⟩ : ∃ W, (((w.alloc (.cells #[.int .i64 0] 3)).alloc (.cells #[.slice a zs.length cap] 22)).alloc (.cells #[.int .i64 i] 3)) = W := ⟨_, rfl⟩
  have hm : Mod none' w W := by rw [← hW]; exact (((Mod.refl _ w).alloc _).alloc _).alloc _
  have hsz : W.heap.size = w.heap.size + 3 := by rw [← hW]; simp
  have hbo : W.cell? ⟨w.heap.size, 0, none⟩ = some (.int .i64 0) := by
    rw [← hW, World.cell?_alloc_past _ _ _ (by simp; omega), World.cell?_alloc_past _ _ _ (by simp), World.cell?_alloc_at _ _ _ _ rfl]; rfl
  have hb1 : W.cell? ⟨w.heap.size + 1, 0, none⟩ = some (.slice a zs.length cap) := by
    rw [← hW, World.cell?_alloc_past _ _ _ (by simp), World.cell?_alloc_at _ _ _ _ (by simp)]; rfl
  have hb2 : W.cell? ⟨w.heap.size + 2, 0, none⟩ = some (.int .i64 i) := by
    rw [← hW, World.cell?_alloc_at _ _ _ _ (by simp)]; rfl
  have hfo : W.frozen? ⟨w.heap.size, 0, none⟩ = false := by
    rw [← hW, World.frozen?_alloc_past _ _ _ (by simp; omega), World.frozen?_alloc_past _ _ _ (by simp)]; exact World.frozen?_alloc_at _ _ _ _ rfl
  have hcW := hc.mod hm (fun _ _ h => h)
  rw [hW]
  clear hW
  refine wpIn_range rfl (by omega) (gf := 29) (lb := #[.pointer (some ⟨w.heap.size + 1, 0, none⟩), .pointer (some ⟨w.heap.size + 2, 0, none⟩)]) rfl trivial (enters_of Try.func29 (by kernel_rfl) rfl)
    (Along1_iter _ _ _ a cap zs i W hl hb1 hb2 hcW) (Keeps.refl _ _) (fun _ => rfl)
    (fun pre A => A.cell? ⟨w.heap.size, 0, none⟩ = some (.int .i64 (pre.length : Int)) ∧ A.frozen? ⟨w.heap.size, 0, none⟩ = false ∧ Mod none' w A)
    (fun _ _ _ => False)
    (fun s A A' h hm' => ⟨hm'.cell h.1 (fun h => h), (hm'.frozen h.1 (fun h => h)).trans h.2.1, h.2.2.then_mv hm' (fun _ h _ => h) (by omega)⟩)
    (fun _ _ _ _ h _ => h.elim)
    ⟨hbo, hfo, hm⟩ ?round ?done ?stop
  case round =>
    rintro l pre x A hlA _ ⟨h1, h2, h3⟩ hpre
    have hpl : pre.length + 1 ≤ 17592186044416 := by
      have h4 := hpre.length_le
      have h5 : (along zs i).length ≤ zs.length := by
        unfold along
        split
        · exact chainL_length _ _ _
        · simp
      rw [List.length_append] at h4
      simp at h4
      omega
    gi_wp2
    refine ⟨Ctl.refl _ _, Keeps.refl _ _, fun Wb hmb _ => ?_⟩
    have g1 := hmb.cell h1 (fun h => h)
    have g2 := (hmb.frozen h1 (fun h => h)).trans h2
    have g3 := h3.then_mv hmb (fun _ h _ => h) (by omega)
    have hz := g3.size
    have hset : Mod (fun k => k = w.heap.size) Wb (Wb.setCell ⟨w.heap.size, 0, none⟩ (.int .i64 ((pre.length : Int) + 1))) := (Mod.refl (fun k => k = w.heap.size) Wb).setCell (p := ⟨w.heap.size, 0, none⟩) (fun _ => rfl) _
    have HS := Lib.hid hset
    clear hset h1 h2 h3
    gi_wp2
    refine ⟨HS.out.ctl _, HS.out.keeps ?_, ?_, ?_, ?_⟩
    · rintro k (h | h | h) _ h2
      · omega
      · omega
      · have := hc.lt h; omega
    · rw [show (((pre ++ [x]).length : Nat) : Int) = (pre.length : Int) + 1 by simp]; exact World.cell?_setCell_same' _ _ _ (by rw [g1]; rfl)
    · rw [World.frozen?_setCell]; exact g2
    · exact g3.trans HS.out (fun k h1 h2 => by omega)
  case done =>
    rintro D A hD ⟨h1, h2, h3⟩ hK
    have hcA := hc.mod h3 (fun _ _ h => h)
    have hcall : ∀ A', Mod none' A A' → Calls Try.prog 25 #[.slice a zs.length cap, .slice (some ⟨A'.heap.size, 0, none⟩) 1 1] (A'.alloc (.cells #[.int .i64 i] 3)) fun e w' => e = .returned (.int .i64 (wrongOf zs [i])) ∧ (A'.alloc (.cells #[.int .i64 i] 3)) = w' := fun A' hA' => by
      exact wrong_any a (some ⟨A'.heap.size, 0, none⟩) cap 1 zs [i] (A'.alloc (.cells #[.int .i64 i] 3)) hl (by simp) ((hcA.mod hA' fun _ _ h => h).alloc _) (fun k hlt => by
        simp at hlt
        subst hlt
        exact ⟨A'.heap.size, 0, rfl, by simp, (World.cell?_alloc_at _ _ _ _ rfl).trans rfl⟩)
    have HC := Lib.hid hcall
    have HM := Lib.hid h3
    have HA := Lib.hid hcA
    clear hcall h3 hcA
    gi_wp2
    refine wpIn_wide.2 ?_
    go_region_held3 (fun w' => w'.cell? ⟨w.heap.size, 0, none⟩ = some (.int .i64 (((along zs i).length : Nat)))) (go_keep) (first | (go_at_call 25; refine (HC.out _ ((Mod.refl none' A).drew)).mono ?_; rintro e w' ⟨rfl, rfl⟩))
    gi_wp2
    have hK' : ((A.alloc (.cells #[.int .i64 i] 3)).drew).heap[D]? = some (.deferred (some [])) := ((Mod.refl none' A).alloc _).drew.block D _ hK (.inl rfl)
    refine ⟨by simp, .inl ⟨_, _, rfl, run_takeDeferred hK', ?_⟩⟩
    refine ⟨_, results_tmp2 rfl _ _ _, rfl, ?_⟩
    exact ((((HM.out).alloc _).drew).then_mv (Mv.putObj (S := none') (B := w.heap.size) _ D _ _ hK' rfl (by omega)) (fun _ h _ => h) (Nat.le_refl _)).to_below
  case stop =>
    rintro D c pre A _ _ h _
    exact h.elim
end Go.Proofs.Ytmbdolmkldbjcaa
