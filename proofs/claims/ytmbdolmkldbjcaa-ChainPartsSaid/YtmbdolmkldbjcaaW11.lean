/-
  Walks: chain.Closes.
-/
import Derived.Test.YtmbdolmkldbjcaaL4
namespace Go.Proofs.Ytmbdolmkldbjcaa
open Go.RowKit Go.Shelf
attribute [local go_sem] Oper.semAt_some

theorem wrongOf_two {zs : List Int} {i q : Int} (h : wrongOf zs [i, q] = 0) : wrongOf zs [q] = 0 ∧ (0 ≤ i ∧ i < zs.length) := by
  unfold wrongOf at h
  split at h
  · rename_i h1; exact absurd h h1
  rename_i h1
  split at h
  · cases h
  rename_i h2
  have h3 : ∀ j, j < [i, q].length → (0 ≤ [i, q].getD j 0 ∧ [i, q].getD j 0 < zs.length) := fun j hj => Classical.byContradiction fun hn => h2 ⟨j, hj, hn⟩
  refine ⟨?_, h3 0 (by simp)⟩
  rw [wrongOf, if_neg h1, if_neg]
  rintro ⟨j, hj, hn⟩
  simp at hj
  subst hj
  exact hn (h3 1 (by simp))

set_option maxRecDepth 100000 in
set_option maxHeartbeats 2000000 in
theorem Closes_any (a : Option Addr) (cap : Nat) (zs : List Int) (i q : Int) (w : World) (hl : zs.length ≤ 17592186044416) (hc : IntsAt w a zs) :
    Calls Try.prog 15 #[.slice a zs.length cap, .int .i64 i, .int .i64 q] w fun e w' =>
      e = .returned (.tuple #[.bool (decide (wrongOf zs [i, q] = 0 ∧ i ∈ chain zs q)), .int .i64 (wrongOf zs [i, q])]) ∧ Below w.heap.size w w' := by
  obtain ⟨W, hW⟩ : ∃ W, (((w.alloc (.cells #[.int .i64 i] 3)).alloc (.cells #[.bool false] 4)).alloc (.cells #[.int .i64 0] 25)).alloc (.cells #[.int .i64 i, .int .i64 q] 3) = W := ⟨_, rfl⟩
  have hm : Mod none' w W := by rw [← hW]; exact ((((Mod.refl _ w).alloc _).alloc _).alloc _).alloc _
  have hcW := hc.mod hm (fun _ _ h => h)
  have hsz : W.heap.size = w.heap.size + 4 := by rw [← hW]; simp
  have hcall : Calls Try.prog 25 #[.slice a zs.length cap, .slice (some ⟨w.heap.size + 1 + 1 + 1, 0, none⟩) 2 2] W fun e w' => e = .returned (.int .i64 (wrongOf zs [i, q])) ∧ W = w' :=
    wrong_any a (some ⟨w.heap.size + 1 + 1 + 1, 0, none⟩) cap 2 zs [i, q] W hl (by simp) hcW (fun k hlt => by
      refine ⟨w.heap.size + 1 + 1 + 1, 0, rfl, by omega, ?_⟩
      rw [← hW, World.cell?_alloc_at _ _ _ _ (by simp)]
      match k, hlt with
      | 0, _ => rfl
      | 1, _ => rfl)
  obtain ⟨r, hr⟩ : ∃ r, wrongOf zs [i, q] = r := ⟨_, rfl⟩
  rw [hr] at hcall
  have HC := Lib.hid hcall
  have HR := Lib.hid hr
  have b0 : W.cell? ⟨w.heap.size, 0, none⟩ = some (.int .i64 i) := by
    rw [← hW, World.cell?_alloc_past _ _ _ (by simp; omega), World.cell?_alloc_past _ _ _ (by simp; omega), World.cell?_alloc_past _ _ _ (by simp), World.cell?_alloc_at _ _ _ _ rfl]; rfl
  have b1 : W.cell? ⟨w.heap.size + 1, 0, none⟩ = some (.bool false) := by
    rw [← hW, World.cell?_alloc_past _ _ _ (by simp), World.cell?_alloc_past _ _ _ (by simp), World.cell?_alloc_at _ _ _ _ (by simp)]; rfl
  have b2 : W.cell? ⟨w.heap.size + 1 + 1, 0, none⟩ = some (.int .i64 0) := by
    rw [← hW, World.cell?_alloc_past _ _ _ (by simp), World.cell?_alloc_at _ _ _ _ (by simp)]; rfl
  have f1 : W.frozen? ⟨w.heap.size + 1, 0, none⟩ = false := by
    rw [← hW, World.frozen?_alloc_past _ _ _ (by simp), World.frozen?_alloc_past _ _ _ (by simp)]; exact World.frozen?_alloc_at _ _ _ _ (by simp)
  have f2 : W.frozen? ⟨w.heap.size + 1 + 1, 0, none⟩ = false := by
    rw [← hW, World.frozen?_alloc_past _ _ _ (by simp)]; exact World.frozen?_alloc_at _ _ _ _ (by simp)
  have HSZ := Lib.hid hsz
  have hszi : w.heap.size + 4 ≤ W.heap.size := by omega
  clear hcall hr hsz
  refine (callsIn_wide (n := 9)).1 ?_
  refine callsIn_of_wp_marks Try.func15 rfl trivial ?_ rfl
  simp only [Try.ntmps15, List.size_toArray, List.length_cons, List.length_nil, Nat.reduceAdd, Nat.reduceSub, Array.replicate_succ, Array.replicate_zero, List.push_toArray, List.append_toArray, List.nil_append, List.cons_append]
  by_cases h0 : r = 0
  · subst h0
    obtain ⟨hwt, hi0⟩ := wrongOf_two HR.out
    gi_wp2_with (refine ⟨trivial, ?_⟩; gi_at_call 25; refine (callsIn_wide.2 HC.out).mono ?_; rintro e w' ⟨rfl, rfl⟩)
    refine ⟨trivial, ?_⟩
    refine (callsIn_wide.2 (Along_any _ _ _ _ _)).mono ?_
    rintro e w' ⟨rfl, rfl⟩
    obtain ⟨V, hV⟩ : ∃ V, (W.alloc (.cells #[.slice a zs.length cap] 22)).alloc (.cells #[.int .i64 q] 3) = V := ⟨_, rfl⟩
    have hmV : Mod none' W V := by rw [← hV]; exact ((Mod.refl _ W).alloc _).alloc _
    have hszV : W.heap.size + 2 ≤ V.heap.size := by rw [← hV]; simp
    have d0 := hmV.cell b0 (fun h => h)
    have d1 := hmV.cell b1 (fun h => h)
    have d2 := hmV.cell b2 (fun h => h)
    have g1 := (hmV.frozen b1 (fun h => h)).trans f1
    have g2 := (hmV.frozen b2 (fun h => h)).trans f2
    have e1 : V.cell? ⟨W.heap.size, 0, none⟩ = some (.slice a zs.length cap) := by
      rw [← hV, World.cell?_alloc_past _ _ _ (by simp), World.cell?_alloc_at _ _ _ _ rfl]; rfl
    have e2 : V.cell? ⟨W.heap.size + 1, 0, none⟩ = some (.int .i64 q) := by
      rw [← hV, World.cell?_alloc_at _ _ _ _ (by simp)]; rfl
    have hcV := hcW.mod hmV (fun _ _ h => h)
    have hmw : Mod none' w V := hm.trans' hmV
    have hal : along zs q = chain zs q := if_pos hwt
    have hit := Along1_iter 8 W.heap.size (W.heap.size + 1) a cap zs q V hl e1 e2 hcV
    rw [hal] at hit
    have HIt := Lib.hid hit
    rw [hV]
    clear hV hit hal b0 b1 b2 f1 f2 e1 e2 hm hmV
    gi_wp2
    refine wpIn_range rfl (by omega) (gf := 29) (lb := #[.pointer (some ⟨W.heap.size, 0, none⟩), .pointer (some ⟨W.heap.size + 1, 0, none⟩)]) rfl trivial (enters_of Try.func29 (by kernel_rfl) rfl)
      HIt.out (Keeps.refl _ _) (fun _ => rfl)
      (fun pre A => i ∉ pre ∧ A.cell? ⟨w.heap.size, 0, none⟩ = some (.int .i64 i) ∧ A.cell? ⟨w.heap.size + 1, 0, none⟩ = some (.bool false) ∧ A.frozen? ⟨w.heap.size + 1, 0, none⟩ = false ∧
        A.cell? ⟨w.heap.size + 1 + 1, 0, none⟩ = some (.int .i64 0) ∧ A.frozen? ⟨w.heap.size + 1 + 1, 0, none⟩ = false ∧ Mod none' w A)
      (fun c pre A => c = .ret ∧ i ∈ pre ∧ A.cell? ⟨w.heap.size + 1, 0, none⟩ = some (.bool true) ∧ A.cell? ⟨w.heap.size + 1 + 1, 0, none⟩ = some (.int .i64 0) ∧ Mod none' w A)
      (fun s A A' ⟨h1, h2, h3, h4, h5, h6, h7⟩ hm' => ⟨h1, hm'.cell h2 (fun h => h), hm'.cell h3 (fun h => h), (hm'.frozen h3 (fun h => h)).trans h4, hm'.cell h5 (fun h => h), (hm'.frozen h5 (fun h => h)).trans h6, h7.then_mv hm' (fun _ h _ => h) (by omega)⟩)
      (fun c s A A' ⟨h1, h2, h3, h4, h5⟩ hm' => ⟨h1, h2, hm'.cell h3 (fun h => h), hm'.cell h4 (fun h => h), h5.then_mv hm' (fun _ h _ => h) (by omega)⟩)
      ⟨by simp, d0, d1, g1, d2, g2, hmw⟩ ?round ?done ?stop
    case round =>
      rintro l pre x A hlA _ ⟨h1, h2, h3, h4, h5, h6, h7⟩ _
      gi_wp2
      refine ⟨Ctl.refl _ _, Keeps.refl _ _, fun Wb hmb _ => ?_⟩
      have k2 := hmb.cell h2 (fun h => h)
      have k3 := hmb.cell h3 (fun h => h)
      have k4 := (hmb.frozen h3 (fun h => h)).trans h4
      have k5 := hmb.cell h5 (fun h => h)
      have k6 := (hmb.frozen h5 (fun h => h)).trans h6
      have k7 := h7.then_mv hmb (fun _ h _ => h) (by omega)
      have K7 := Lib.hid k7
      have H1 := Lib.hid h1
      clear h1 h2 h3 h4 h5 h6 h7 k7
      by_cases hx : x = i
      · have hxb : (x == i) = true := by simp [hx]
        have HX := Lib.hid hx
        clear hx
        gi_wp2
        have hm1 : Mod (fun k => k = w.heap.size + 1 ∨ k = w.heap.size + 1 + 1) Wb ((Wb.setCell ⟨w.heap.size + 1, 0, none⟩ (.bool true)).setCell ⟨w.heap.size + 1 + 1, 0, none⟩ (.int .i64 0)) :=
          ((Mod.refl (fun k => k = w.heap.size + 1 ∨ k = w.heap.size + 1 + 1) Wb).setCell (p := ⟨w.heap.size + 1, 0, none⟩) (fun _ => .inl rfl) _).setCell (p := ⟨w.heap.size + 1 + 1, 0, none⟩) (fun _ => .inr rfl) _
        refine ⟨hm1.ctl _, hm1.keeps ?_, rfl, List.mem_append.2 (.inr (by rw [HX.out]; simp)), ?_, ?_, K7.out.trans hm1 (fun k h1 h2 => by omega)⟩
        · have hsz := HSZ.out
          rintro k (h | h | h) _ h2
          · omega
          · omega
          · have := hc.lt h; omega
        · rw [World.cell?_setCell_other _ _ _ _ (by simp)]; exact World.cell?_setCell_same' _ _ _ (by rw [k3]; rfl)
        · exact World.cell?_setCell_same' _ _ _ (by rw [World.cell?_setCell_other _ _ _ _ (by simp), k5]; rfl)
      · have hxb : (x == i) = false := by simp [hx]
        have HX := Lib.hid hx
        clear hx
        gi_wp2
        exact ⟨Ctl.refl _ _, Keeps.refl _ _, by intro h; rcases List.mem_append.1 h with h | h; exact H1.out h; exact HX.out (List.mem_singleton.1 h).symm, k2, k3, k4, k5, k6, K7.out⟩
    case done =>
      rintro D A hD ⟨h1, h2, h3, h4, h5, h6, h7⟩ hK
      have H1 := Lib.hid h1
      have H7 := Lib.hid h7
      have HK := Lib.hid hK
      clear h1 h7 hK
      gi_wp2
      have hm1 : Mod none' w ((A.setCell ⟨w.heap.size + 1, 0, none⟩ (.bool false)).setCell ⟨w.heap.size + 1 + 1, 0, none⟩ (.int .i64 0)) :=
        (H7.out.setCell (p := ⟨w.heap.size + 1, 0, none⟩) (fun h => by have : w.heap.size + 1 < w.heap.size := h; omega) _).setCell (p := ⟨w.heap.size + 1 + 1, 0, none⟩) (fun h => by have : w.heap.size + 1 + 1 < w.heap.size := h; omega) _
      have hK' : ((A.setCell ⟨w.heap.size + 1, 0, none⟩ (.bool false)).setCell ⟨w.heap.size + 1 + 1, 0, none⟩ (.int .i64 0)).heap[D]? = some (.deferred (some [])) :=
        setCell_ctl (setCell_ctl HK.out (.inl rfl)) (.inl rfl)
      have hmv : Mv none' w.heap.size _ _ := Mv.putObj (S := none') (B := w.heap.size) _ D _ (.deferred none) hK' rfl (by omega)
      have q1 : ((A.setCell ⟨w.heap.size + 1, 0, none⟩ (.bool false)).setCell ⟨w.heap.size + 1 + 1, 0, none⟩ (.int .i64 0)).cell? ⟨w.heap.size + 1, 0, none⟩ = some (.bool false) := by
        rw [World.cell?_setCell_other _ _ _ _ (by simp)]; exact World.cell?_setCell_same' _ _ _ (by rw [h3]; rfl)
      have q2 : ((A.setCell ⟨w.heap.size + 1, 0, none⟩ (.bool false)).setCell ⟨w.heap.size + 1 + 1, 0, none⟩ (.int .i64 0)).cell? ⟨w.heap.size + 1 + 1, 0, none⟩ = some (.int .i64 0) :=
        World.cell?_setCell_same' _ _ _ (by rw [World.cell?_setCell_other _ _ _ _ (by simp), h5]; rfl)
      have q3 := hmv.cell q1 (fun h => h)
      have q4 := hmv.cell q2 (fun h => h)
      refine ⟨by simp, .inl ⟨_, _, rfl, run_takeDeferred hK', ?_⟩⟩
      refine ⟨.tuple #[.bool false, .int .i64 0], ?_, ?_, (hm1.then_mv hmv (fun _ h _ => h) (Nat.le_refl _)).to_below⟩
      · simp [results, Try.f15, go_sem, q3, q4]
      · rw [HR.out, decide_eq_false (fun h => H1.out h.2)]
    case stop =>
      rintro D c pre A hD hpre ⟨rfl, h1, h2, h3, h4⟩ hK
      have H1 := Lib.hid h1
      have H4 := Lib.hid h4
      have HK := Lib.hid hK
      clear h1 h4 hK
      gi_wp2
      have hmv : Mv none' w.heap.size _ _ := Mv.putObj (S := none') (B := w.heap.size) A D _ (.deferred none) HK.out rfl (by omega)
      have q3 := hmv.cell h2 (fun h => h)
      have q4 := hmv.cell h3 (fun h => h)
      refine ⟨by simp, .inl ⟨_, _, rfl, run_takeDeferred HK.out, ?_⟩⟩
      refine ⟨.tuple #[.bool true, .int .i64 0], ?_, ?_, (H4.out.then_mv hmv (fun _ h _ => h) (Nat.le_refl _)).to_below⟩
      · simp [results, Try.f15, go_sem, q3, q4]
      · rw [HR.out, decide_eq_true (And.intro rfl (hpre.subset H1.out))]
  · have hb : (r != 0) = true := by simp [h0]
    have HM := Lib.hid hm
    clear hm hc hcW
    gi_wp2_with (refine ⟨trivial, ?_⟩; gi_at_call 25; refine (callsIn_wide.2 HC.out).mono ?_; rintro e w' ⟨rfl, rfl⟩)
    have hm1 : Mod none' w ((W.setCell ⟨w.heap.size + 1, 0, none⟩ (.bool false)).setCell ⟨w.heap.size + 1 + 1, 0, none⟩ (.int .i64 r)) :=
      (HM.out.setCell (p := ⟨w.heap.size + 1, 0, none⟩) (fun h => by have : w.heap.size + 1 < w.heap.size := h; omega) _).setCell (p := ⟨w.heap.size + 1 + 1, 0, none⟩) (fun h => by have : w.heap.size + 1 + 1 < w.heap.size := h; omega) _
    have q1 : ((W.setCell ⟨w.heap.size + 1, 0, none⟩ (.bool false)).setCell ⟨w.heap.size + 1 + 1, 0, none⟩ (.int .i64 r)).cell? ⟨w.heap.size + 1, 0, none⟩ = some (.bool false) := by
      rw [World.cell?_setCell_other _ _ _ _ (by simp)]; exact World.cell?_setCell_same' _ _ _ (by rw [b1]; rfl)
    have q2 : ((W.setCell ⟨w.heap.size + 1, 0, none⟩ (.bool false)).setCell ⟨w.heap.size + 1 + 1, 0, none⟩ (.int .i64 r)).cell? ⟨w.heap.size + 1 + 1, 0, none⟩ = some (.int .i64 r) :=
      World.cell?_setCell_same' _ _ _ (by rw [World.cell?_setCell_other _ _ _ _ (by simp), b2]; rfl)
    refine ⟨.tuple #[.bool false, .int .i64 r], ?_, ?_, hm1.to_below⟩
    · simp [results, Try.f15, go_sem, q1, q2]
    · rw [HR.out, decide_eq_false (fun h => h0 h.1)]
end Go.Proofs.Ytmbdolmkldbjcaa
