/-
  Walk: the heap is the document's answer's.
-/
import Derived.Test.YtecfenoidcolfaaDoes
import Derived.Test.YtecfenoidcolfaaBase
namespace Go.Proofs.Ytecfenoidcolfaa
set_option linter.unusedVariables false
open Go.RowKit Hp
attribute [local go_sem] Oper.semAt_some

set_option maxRecDepth 100000 in
set_option maxHeartbeats 1000000 in
theorem All_new {w : World} {hb lf : Nat} {lt : Int → Int → Bool} {F : Nat → Prop} {M : List (It Int)} (h : HeapAt w hb lf lt F M) (hM : M.length < 1000000) :
    Calls Try.prog 32 #[.pointer (some ⟨hb, 0, none⟩)] w fun e w' => ∃ B hb' F', e = .returned (.func (.func 81) #[] #[.pointer (some ⟨B, 0, none⟩)]) ∧ w'.cell? ⟨B, 0, none⟩ = some (.pointer (some ⟨hb', 0, none⟩)) ∧
      HeapAt w' hb' lf lt F' M ∧ Below w.heap.size w w' ∧ w.heap.size ≤ B ∧ ∀ j, F' j → w.heap.size ≤ j := by
  have HC := Lib.hid (Copy_ok h hM)
  clear h
  go_enter Try.func32, Try.ntmps32
  go_wp2_with fail
  refine HC.out.mono ?_
  rintro e w1 ⟨hb1, F1, rfl, h1, hb, hF⟩
  have H1 := Lib.hid h1
  have HB := Lib.hid hb
  have HF := Lib.hid hF
  clear h1 hb hF
  go_wp2_with fail
  go_ret
  have hbA : Below w1.heap.size w1 (w1.alloc (.cells #[.pointer (some ⟨hb1, 0, none⟩)] 23)) := (Below.refl _ w1).alloc (Nat.le_refl _) _
  exact ⟨w1.heap.size, hb1, F1, rfl, by rw [World.cell?_alloc_at _ _ _ _ rfl]; rfl, H1.out.below hbA, HB.out.trans (hbA.mono HB.out.size), HB.out.size, HF.out⟩

section
variable {w : World} {hb rb : Nat} {S : List (It Int)} {F : Nat → Prop} {v : Value}

set_option maxRecDepth 100000 in
set_option maxHeartbeats 8000000 in
theorem same_ok (h : HeapAt w hb 20 ltI F S) (hr : RefRaw w rb v S) (hs : Sorted ltI S) (hl : S.length < 800000) :
    Calls Try.prog 35 #[.pointer (some ⟨hb, 0, none⟩), .pointer (some ⟨rb, 0, none⟩)] w fun e w' => e = .returned (.bool true) ∧ Below w.heap.size w w' := by
  obtain ⟨b, hb'⟩ : ∃ b, w.heap.size = b := ⟨_, rfl⟩
  obtain ⟨W0, hW⟩ : ∃ W, ((w.alloc (.cells #[.pointer (some ⟨rb, 0, none⟩)] 54)).alloc (.cells #[.bool false] 4)).alloc (.cells #[.int .i64 0] 3) = W := ⟨_, rfl⟩
  obtain ⟨W, hW2⟩ : ∃ W, W0.setCell ⟨b + 1 + 1, 0, none⟩ (.int .i64 0) = W := ⟨_, rfl⟩
  have hbW0 : Below w.heap.size w W0 := by rw [← hW]; exact (((Below.refl _ w).alloc (Nat.le_refl _) _).alloc (by simp) _).alloc (by simp; omega) _
  have hbW : Below w.heap.size w W := by rw [← hW2]; exact hbW0.setCell (p := ⟨b + 1 + 1, 0, none⟩) (by show w.heap.size ≤ b + 1 + 1; omega) _
  have hsW : W.heap.size = b + 3 := by rw [← hW2, World.setCell, Array.size_modify, ← hW, ← hb']; simp
  have o0 : W.heap[b]? = some (.cells #[.pointer (some ⟨rb, 0, none⟩)] 54 (0, 0)) := by
    rw [← hW2, Below.heap_setCell _ _ _ _ (by dsimp only; omega), ← hW, ← hb', Below.heap_alloc _ _ _ (by simp; omega), Below.heap_alloc _ _ _ (by simp)]; exact heap_alloc_new w _
  have o1 : W.heap[b + 1]? = some (.cells #[.bool false] 4 (0, 0)) := by
    rw [← hW2, Below.heap_setCell _ _ _ _ (by dsimp only; omega), ← hW, ← hb', Below.heap_alloc _ _ _ (by simp)]
    have := heap_alloc_new (w.alloc (.cells #[.pointer (some ⟨rb, 0, none⟩)] 54)) (.cells #[.bool false] 4)
    rw [World.size_alloc] at this
    exact this
  have o2 : W.heap[b + 1 + 1]? = some (.cells #[.int .i64 (([] : List (It Int)).length : Int)] 3 (0, 0)) := by
    have := heap_alloc_new ((w.alloc (.cells #[.pointer (some ⟨rb, 0, none⟩)] 54)).alloc (.cells #[.bool false] 4)) (.cells #[.int .i64 0] 3)
    rw [World.size_alloc, World.size_alloc, hW, hb'] at this
    rw [← hW2, heap_setCell_at this]
    rfl
  have z2 : W0.cell? ⟨b + 1 + 1, 0, none⟩ = some (.int .i64 0) ∧ W0.frozen? ⟨b + 1 + 1, 0, none⟩ = false := by
    have := heap_alloc_new ((w.alloc (.cells #[.pointer (some ⟨rb, 0, none⟩)] 54)).alloc (.cells #[.bool false] 4)) (.cells #[.int .i64 0] 3)
    rw [World.size_alloc, World.size_alloc, hW, hb'] at this
    exact ⟨by simp [World.cell?, this], by simp [World.frozen?, this]⟩
  obtain ⟨z2, z3⟩ := z2
  have hAll := All_new (h.below hbW) (by omega)
  have HH := Lib.hid h
  have HR := Lib.hid hr
  have HAll := Lib.hid hAll
  have HBW := Lib.hid hbW
  have HO0 := Lib.hid o0
  have HO1 := Lib.hid o1
  have HO2 := Lib.hid o2
  have HSW := Lib.hid hsW
  have HB := Lib.hid hb'
  have hlt := h.lt_hb
  have HHb := Lib.hid (show hb < b by omega)
  have hlt2 := lt_of_some hr.1
  have HRb := Lib.hid (show rb < b by omega)
  have HLen := Lib.hid (Len_ok h)
  clear h hr hAll hbW o0 o1 o2 hsW hbW0 hlt hlt2
  refine (callsIn_wide (n := 9)).1 ?_
  refine callsIn_of_wp_marks Try.func35 rfl trivial ?_ rfl
  simp only [Try.ntmps35, List.size_toArray, List.length_cons, List.length_nil, Nat.reduceAdd, Nat.reduceSub, Array.replicate_succ, Array.replicate_zero, List.push_toArray, List.append_toArray, List.nil_append, List.cons_append]
  gi_wp2_with fail
  refine ⟨trivial, ?_⟩
  refine (callsIn_wide.2 HAll.out).mono ?_
  rintro e x4 ⟨B, hb2, F', rfl, hB, hA4, hb4, hBn, hFn⟩
  have hq : ∀ w, (binOp BinOp.eql 50 (.func (.func 81) #[] #[.pointer (some ⟨B, 0, none⟩)]) .nilFunc).run Try.prog w = .ok (.bool false) w := fun w => by kernel_rfl
  have HX4 := Lib.hid hb4
  have HBx := Lib.hid hB
  have HA4 := Lib.hid hA4
  have hm4 : Mod none' W x4 := Mod.of_below hb4
  have HM4 := Lib.hid hm4
  have HF' := Lib.hid (fun (q : Nat) (hq : F' q) => show b + 3 ≤ q by have := hFn q hq; have := HSW.out; omega)
  have HBn := Lib.hid (show B ≠ b + 1 + 1 by have := HSW.out; omega)
  clear hBn hFn
  clear hB hA4 hb4 hm4
  gi_wp2_with fail
  refine wpIn_range rfl (by omega) (gf := 81) (lb := #[.pointer (some ⟨B, 0, none⟩)]) rfl trivial (enters_of Try.func81 (by kernel_rfl) rfl)
    (All1_iter lessI _ B hb2 F' S x4 HBx.out HA4.out hs (by omega)) (Keeps.refl _ _) (fun _ => rfl)
    (fun pre A => Mod (fun j => j = b + 1 + 1) W A ∧ A.heap[b + 1 + 1]? = some (.cells #[.int .i64 (pre.length : Int)] 3 (0, 0)))
    (fun _ _ _ => False)
    (fun pre A A' ⟨h1, h2⟩ hm' => ⟨h1.then_mv hm' (fun i hi hlt => by have := HX4.out.size; omega) (by have := HX4.out.size; omega), hm'.obj h2 rfl (by have := HSW.out; have := HX4.out.size; omega)⟩)
    (fun _ _ _ _ h _ => h.elim)
    ⟨HM4.out.mono (fun _ h _ => h.elim), HM4.out.obj HO2.out (fun h => h)⟩ ?round ?done ?stop
  case round =>
    rintro l pre ⟨x, y⟩ A hlA _ ⟨h1, h2⟩ hpre
    have hpl : pre.length < S.length := by
      have := hpre.length_le
      rw [List.length_append] at this
      simp at this
      omega
    have hat : S[pre.length]? = some (x, y) := by
      obtain ⟨t, ht⟩ := hpre
      rw [← ht, List.append_assoc, List.getElem?_append_right (Nat.le_refl _)]
      simp
    obtain ⟨g, cap, hv, hlc, d0, d1, hg⟩ := HR.out.at hat
    dsimp only at d0 d1
    have rc := HR.out.c0
    rw [hv] at rc
    have hgb : g < b := by have := HB.out; omega
    have hcl : ∀ A', Mod (fun j => j = b + 1 + 1) W A' → A'.cell? ⟨b, 0, none⟩ = some (.pointer (some ⟨rb, 0, none⟩)) ∧ A'.cell? ⟨rb, 0, none⟩ = some (.slice (some ⟨g, 0, none⟩) S.length cap) ∧ A'.cell? ⟨g, pre.length * 2, none⟩ = some (.int .i64 y) ∧ A'.cell? ⟨g, pre.length * 2 + 1, none⟩ = some (.int .i64 x) := fun A' hA => by
      have o0 : W.cell? ⟨b, 0, none⟩ = some (.pointer (some ⟨rb, 0, none⟩)) := by simp [World.cell?, HO0.out]
      have hrb := HRb.out
      exact ⟨hA.cell o0 (by dsimp only; omega), hA.cell (zatB rc HBW.out) (by dsimp only; omega), hA.cell (zatB d0 HBW.out) (by dsimp only; omega), hA.cell (zatB d1 HBW.out) (by dsimp only; omega)⟩
    have HCl := Lib.hid hcl
    have H1 := Lib.hid h1
    have H2 := Lib.hid h2
    clear hcl h1 h2 d0 d1 rc hv hg hat hpre
    gi_wp2_with fail
    refine ⟨Ctl.refl _ _, Keeps.refl _ _, fun Wb hmb ⟨_, _⟩ => ?_⟩
    have g1 := H1.out.then_mv hmb (fun _ h _ => h.elim) (by have := H1.out.size; have := HX4.out.size; omega)
    have g2 := hmb.obj H2.out rfl (fun h => h)
    obtain ⟨p0, p1, p2, p3⟩ := HCl.out Wb g1
    have p4 : Wb.cell? ⟨b + 1 + 1, 0, none⟩ = some (.int .i64 (pre.length : Int)) := by simp [World.cell?, g2]
    have p5 : Wb.frozen? ⟨b + 1 + 1, 0, none⟩ = false := by simp [World.frozen?, g2]
    have G1 := Lib.hid g1
    have G2 := Lib.hid g2
    have hplN : ¬ S.length ≤ pre.length := by omega
    have hplI : ¬ (S.length : Int) ≤ (pre.length : Int) := by omega
    have hplI2 : (pre.length : Int) < (S.length : Int) := by omega
    have hpl0 : (0 : Int) ≤ (pre.length : Int) := by omega
    have hplb : (pre.length : Int) + 1 ≤ 800000 := by omega
    clear g1 g2 hmb
    gi_wp2_with fail
    refine wpIn_region_loose (fun A' => Below Wb.heap.size Wb A') (by kernel_rfl) (by kernel_rfl) (by kernel_rfl) ((Below.refl _ Wb).drew) ?_
    iterate 31 (refine loose_val (v := ?_) (by rfl) ?_ ?_; rotate_left; (focus (intro A' hA'; have r0 := zatB p0 hA'; have r1 := zatB p1 hA'; have r2 := zatB p2 hA'; have r3 := zatB p3 hA'; have r4 := zatB p4 hA'; go_simp; first | done | with_reducible rfl)); simp only [Act.put, List.setIfInBounds_toArray, List.set_cons_zero, List.set_cons_succ])
    refine loose_nil ?_
    intro wz hz
    have z4 := zatB p4 hz
    have z5 : wz.frozen? ⟨b + 1 + 1, 0, none⟩ = false := ((Mod.of_below (S := none') hz).frozen p4 (fun h => h)).trans p5
    have HZ := Lib.hid hz
    clear p0 p1 p2 p3 p4 p5 hz
    gi_wp2_with fail
    have hmz : Mod none' Wb wz := Mod.of_below HZ.out
    have hst : Mod (fun j => j = b + 1 + 1) wz (wz.setCell ⟨b + 1 + 1, 0, none⟩ (.int .i64 ((pre.length : Int) + 1))) := (Mod.refl (fun j => j = b + 1 + 1) wz).setCell (p := ⟨b + 1 + 1, 0, none⟩) (fun _ => rfl) _
    have hall := (hmz.mono (T := fun j => j = b + 1 + 1) (fun _ h _ => h.elim)).trans' hst
    refine ⟨hall.ctl _, hall.keeps ?_, G1.out.trans' hall, ?_⟩
    · rintro q (h | h | h) _ h'
      · have := HF'.out q h; omega
      · have := HBn.out; omega
      · have := HSW.out; have := HX4.out.size; omega
    · have := heap_setCell_at (k := 0) (v := .int .i64 ((pre.length : Int) + 1)) (hmz.obj G2.out (fun h => h))
      rw [this]
      simp
  case done =>
    rintro D A hD ⟨h1, h2⟩ hKd
    have rc := HR.out.c0
    obtain ⟨a, cap, rfl⟩ := HR.out.slice
    have hrb := HRb.out
    have hhb := HHb.out
    have o0 : W.cell? ⟨b, 0, none⟩ = some (.pointer (some ⟨rb, 0, none⟩)) := by simp [World.cell?, HO0.out]
    have p0 : A.cell? ⟨b, 0, none⟩ = some (.pointer (some ⟨rb, 0, none⟩)) := h1.cell o0 (by dsimp only; omega)
    have p1 : A.cell? ⟨rb, 0, none⟩ = some (.slice a S.length cap) := h1.cell (zatB rc HBW.out) (by dsimp only; omega)
    have p2 : A.cell? ⟨b + 1 + 1, 0, none⟩ = some (.int .i64 (S.length : Int)) := by simp [World.cell?, h2]
    have p3 : A.cell? ⟨b + 1, 0, none⟩ = some (.bool false) := by
      have o1 : W.cell? ⟨b + 1, 0, none⟩ = some (.bool false) := by simp [World.cell?, HO1.out]
      exact h1.cell o1 (by dsimp only; omega)
    have p4 : A.frozen? ⟨b + 1, 0, none⟩ = false := by
      have o1 : W.cell? ⟨b + 1, 0, none⟩ = some (.bool false) := by simp [World.cell?, HO1.out]
      rw [h1.frozen o1 (by dsimp only; omega)]
      simp [World.frozen?, HO1.out]
    have hwA : Below w.heap.size w A := below_mod HBW.out h1 (fun j hj => by have := HB.out; omega)
    have HWA := Lib.hid hwA
    have hn1 : ¬ rb = b + 1 := by omega
    have hn2 : ¬ b + 1 = rb := by omega
    clear h1 h2 rc o0 hwA hrb hhb
    gi_wp2_with fail
    refine wpIn_wide.2 ?_
    have hlen2 : Calls Try.prog 25 #[.pointer (some ⟨hb, 0, none⟩)] A.drew fun e w' => e = .returned (.int .i64 (S.length : Int)) ∧ A.drew = w' := Len_ok (HH.out.below HWA.out.drew)
    have HLen3 := Lib.hid hlen2
    clear hlen2
    go_region_held3 (fun A0 => A0.cell? ⟨b, 0, none⟩ = some (.pointer (some ⟨rb, 0, none⟩)) ∧ A0.cell? ⟨rb, 0, none⟩ = some (.slice a S.length cap) ∧ A0.cell? ⟨b + 1 + 1, 0, none⟩ = some (.int .i64 (S.length : Int)))
      (first | (refine ⟨?_, ?_, ?_⟩ <;> assumption) | go_keep)
      (first
        | (go_at_call 25; refine HLen3.out.mono ?_; rintro e A1 ⟨rfl, rfl⟩))
    have hKd' := setCell_ctl (p := ⟨b + 1, 0, none⟩) (u := .bool true) hKd (.inl rfl)
    have hc4 : ((A.setCell ⟨b + 1, 0, none⟩ (.bool true)).drew).cell? ⟨b + 1, 0, none⟩ = some (.bool true) := world_setCell_same p3 (.bool true)
    have HK := Lib.hid hKd'
    have HC4 := Lib.hid hc4
    clear hKd hKd' hc4
    gi_wp2_with fail
    refine leaves_marks W.heap.size [D] _ (by simp) (fun E hE => ?_) fun W' hW' => ?_
    · rw [List.mem_singleton] at hE
      subst hE
      exact ⟨HK.out, by have := HX4.out.size; omega⟩
    · have hc5 := hW'.cell HC4.out (fun h => h)
      have hs1 : Mod none' w (A.setCell ⟨b + 1, 0, none⟩ (.bool true)).drew := (Mod.of_below (S := none') (HWA.out.setCell (p := ⟨b + 1, 0, none⟩) (by have := HB.out; show w.heap.size ≤ b + 1; omega) _)).drew
      exact ⟨.bool true, by simp [results, Try.f35, go_sem, hc5], rfl, (hs1.then_mv hW' (fun _ h _ => h) (by have := HSW.out; have := HB.out; omega)).to_below⟩
  case stop =>
    rintro D c pre A _ _ h _
    exact h.elim
end
end Go.Proofs.Ytecfenoidcolfaa
