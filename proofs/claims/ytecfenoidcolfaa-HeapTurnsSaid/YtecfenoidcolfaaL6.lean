/-
  Walk: the law HeapTurns.
-/
import Derived.Test.YtecfenoidcolfaaL5
namespace Go.Proofs.Ytecfenoidcolfaa
set_option linter.unusedVariables false
open Go.RowKit Hp
attribute [local go_sem] Oper.semAt_some

theorem HeapAt.mem_at {S : List (It Int)} {pre : List (It Int)} {x : It Int} (hpre : pre ++ [x] <+: S) : pre.length < S.length ∧ S[pre.length]? = some x ∧ x ∈ S ∧ (pre = [] → S.headD (0, 0) = x) := by
  obtain ⟨t, ht⟩ := hpre
  refine ⟨?_, ?_, ?_, ?_⟩
  · rw [← ht]; simp
  · rw [← ht, List.append_assoc, List.getElem?_append_right (Nat.le_refl _)]; simp
  · rw [← ht]; simp
  · rintro rfl; rw [← ht]; rfl

theorem Peek_head {w : World} {hb : Nat} {F : Nat → Prop} {S : List (It Int)} (h : HeapAt w hb 20 ltI F S) (hs : Sorted ltI S) :
    Calls Try.prog 74 #[.pointer (some ⟨hb, 0, none⟩)] w fun e w' => e = .returned (.tuple #[.int .i64 (S.headD (0, 0)).1, .int .i64 (S.headD (0, 0)).2, .int .i64 (headE S)]) ∧ Below w.heap.size w w' := by
  cases S with
  | nil => exact Peek_none h
  | cons x S => exact Peek_some lessI h hs

set_option maxRecDepth 100000 in
set_option maxHeartbeats 8000000 in
theorem alike_ok {w : World} {ha hb : Nat} {Fa Fb : Nat → Prop} {S : List (It Int)} (h1 : HeapAt w ha 20 ltI Fa S) (h2 : HeapAt w hb 20 ltI Fb S) (hs : Sorted ltI S) (hl : S.length < 800000) :
    Calls Try.prog 38 #[.pointer (some ⟨ha, 0, none⟩), .pointer (some ⟨hb, 0, none⟩)] w fun e w' => e = .returned (.bool true) ∧ Below w.heap.size w w' := by
  obtain ⟨b, hb'⟩ : ∃ b, w.heap.size = b := ⟨_, rfl⟩
  obtain ⟨W, hW⟩ : ∃ W, (w.alloc (.cells #[.pointer (some ⟨hb, 0, none⟩)] 23)).alloc (.cells #[.bool false] 4) = W := ⟨_, rfl⟩
  have h0 : On w W (sep (boxA (b + 1) 4 #[.bool false]) (sep (boxA b 23 #[.pointer (some ⟨hb, 0, none⟩)]) emp)) := by
    have := ((On.emp w).new1 23 #[.pointer (some ⟨hb, 0, none⟩)]).new1 4 #[.bool false]
    rw [World.size_alloc, hW, hb'] at this
    exact this
  have hAll := All_new (h1.below h0.to_below) (by omega)
  have HA := Lib.hid h1
  have HB := Lib.hid h2
  have H0 := Lib.hid h0
  have HAll := Lib.hid hAll
  have HS := Lib.hid hs
  clear h1 h2 h0 hAll hs
  refine (callsIn_wide (n := 9)).1 ?_
  refine callsIn_of_wp_marks Try.func38 rfl trivial ?_ rfl
  simp only [Try.ntmps38, List.size_toArray, List.length_cons, List.length_nil, Nat.reduceAdd, Nat.reduceSub, Array.replicate_succ, Array.replicate_zero, List.push_toArray, List.append_toArray, List.nil_append, List.cons_append]
  gi_wp2_with fail
  refine ⟨trivial, ?_⟩
  refine (callsIn_wide.2 HAll.out).mono ?_
  rintro e x4 ⟨B, hb2, F', rfl, hB, hA4, hb4, hBn, hFn⟩
  have hq : ∀ w, (binOp BinOp.eql 50 (.func (.func 81) #[] #[.pointer (some ⟨B, 0, none⟩)]) .nilFunc).run Try.prog w = .ok (.bool false) w := fun w => by kernel_rfl
  have h4 := (H0.out.below hb4).add (Below.refl _ _) (B := emp) (F := fun _ => False) (fun _ h => h) (fun _ h => h.elim)
  have c0 : x4.cell? ⟨b, 0, none⟩ = some (.pointer (some ⟨hb, 0, none⟩)) := ((H0.out.below hb4).out1.box1 0).1
  have hlA : ∀ A, Below x4.heap.size x4 A → Calls Try.prog 25 #[.pointer (some ⟨ha, 0, none⟩)] A fun e w' => e = .returned (.int .i64 (S.length : Int)) ∧ Below x4.heap.size x4 w' := fun A hA =>
    (Len_ok (HA.out.below ((H0.out.below hb4).below hA).to_below)).mono fun e w' ⟨he, hw⟩ => ⟨he, hw ▸ hA⟩
  have hlB : ∀ A, Below x4.heap.size x4 A → Calls Try.prog 25 #[.pointer (some ⟨hb, 0, none⟩)] A fun e w' => e = .returned (.int .i64 (S.length : Int)) ∧ Below x4.heap.size x4 w' := fun A hA =>
    (Len_ok (HB.out.below ((H0.out.below hb4).below hA).to_below)).mono fun e w' ⟨he, hw⟩ => ⟨he, hw ▸ hA⟩
  have H4 := Lib.hid (H0.out.below hb4)
  have HBc := Lib.hid hB
  have HA4 := Lib.hid hA4
  have HLA := Lib.hid hlA
  have HLB := Lib.hid hlB
  have HFn := Lib.hid hFn
  have hBn' : W.heap.size ≤ B := hBn
  have hWs : W.heap.size = b + 2 := by rw [← hW, ← hb']; simp
  have HWs := Lib.hid hWs
  clear hB hA4 hb4 hBn hFn h4 hlA hlB hWs
  gi_wp2_with fail
  refine wpIn_wide.2 ?_
  refine wp_region_loose (fun A => Below x4.heap.size x4 A) (by kernel_rfl) (by kernel_rfl) ((Below.refl _ x4).drew) ?_
  iterate 9 (first
    | (refine loose_skip (by rfl) ?_; simp only [Act.put, List.setIfInBounds_toArray, List.set_cons_zero, List.set_cons_succ])
    | (refine loose_val (v := ?_) (by rfl) ?_ ?_; rotate_left; (focus (intro A' hA'; have r0 := zatB c0 hA'; go_simp; first | done | with_reducible rfl)); simp only [Act.put, List.setIfInBounds_toArray, List.set_cons_zero, List.set_cons_succ])
    | (refine loose_call HLA.out (by rfl) ?_ ?_; (focus (intro A' hA'; go_simp; done)); simp only [Act.put, List.setIfInBounds_toArray, List.set_cons_zero, List.set_cons_succ])
    | (refine loose_call HLB.out (by rfl) ?_ ?_; (focus (intro A' hA'; go_simp; done)); simp only [Act.put, List.setIfInBounds_toArray, List.set_cons_zero, List.set_cons_succ]))
  refine loose_nil ?_
  intro x5 hb5
  have h5 := H4.out.below hb5
  obtain ⟨bf, hbf⟩ : ∃ bf, x5.heap.size = bf := ⟨_, rfl⟩
  obtain ⟨x6, hx6⟩ : ∃ x6, x5.alloc (.cells #[.bool false] 4) = x6 := ⟨_, rfl⟩
  obtain ⟨x7, hx7⟩ : ∃ x7, x6.setCell ⟨bf, 0, none⟩ (.bool true) = x7 := ⟨_, rfl⟩
  have h6 := h5.new1 4 #[.bool false]
  rw [hx6, hbf] at h6
  have h7 := h6.box_set 0 (.bool true)
  rw [hx7] at h7
  obtain ⟨y1', y2⟩ := h6.box1 0
  have y1 : x6.cell? ⟨bf, 0, none⟩ = some (.bool false) := y1'
  have hw7 : Below x4.heap.size x4 x7 := by
    have h57 : Below x5.heap.size x5 x7 := by rw [← hx7, ← hx6]; exact ((Below.refl _ x5).alloc (Nat.le_refl _) _).setCell (p := ⟨bf, 0, none⟩) (by show x5.heap.size ≤ bf; omega) _
    exact hb5.trans (h57.mono hb5.size)
  have ho7 := h7.obj1
  have hsz7 : x7.heap.size = bf + 1 := by rw [← hx7, World.setCell, Array.size_modify, ← hx6, World.size_alloc, hbf]
  have h4f : x4.heap.size ≤ bf := by rw [← hbf]; exact hb5.size
  have hB4 : B < x4.heap.size := World.block_lt_of_cell? x4 _ HBc.out
  have hF4 : ∀ j, F' j → j < x4.heap.size := fun j hj => HA4.out.lt_F hj
  have H7 := Lib.hid h7
  have HW7 := Lib.hid hw7
  have HO7 := Lib.hid ho7
  have HSz7 := Lib.hid hsz7
  have HF4 := Lib.hid hF4
  have HWA := Lib.hid (h7.to_below)
  clear h5 h6 h7 y1' hw7 ho7 hsz7 hF4 hb5 c0
  gi_wp2_with fail
  refine wpIn_range rfl (by omega) (gf := 81) (lb := #[.pointer (some ⟨B, 0, none⟩)]) rfl trivial (enters_of Try.func81 (by kernel_rfl) rfl)
    (All1_iter lessI _ B hb2 F' S x7 (zatB HBc.out HW7.out) (HA4.out.below HW7.out) HS.out (by omega)) (Keeps.refl _ _) (fun _ => rfl)
    (fun pre A => Mod (fun j => j = bf) x7 A ∧ A.heap[bf]? = some (.cells #[.bool pre.isEmpty] 4 (0, 0)))
    (fun _ _ _ => False)
    (fun pre A A' ⟨h1, h2⟩ hm' => ⟨h1.then_mv hm' (fun i hi hlt => by omega) (Nat.le_refl _), hm'.obj h2 rfl (by have := HSz7.out; omega)⟩)
    (fun _ _ _ _ h _ => h.elim)
    ⟨Mod.refl _ _, HO7.out⟩ ?round ?done ?stop
  case round =>
    rintro l pre ⟨x, y⟩ A hlA _ ⟨h1, h2⟩ hpre
    obtain ⟨_, _, hmem, hhead⟩ := HeapAt.mem_at hpre
    have hcl : ∀ A', Mod (fun j => j = bf) x7 A' → A'.cell? ⟨b, 0, none⟩ = some (.pointer (some ⟨hb, 0, none⟩)) ∧ HeapAt A' hb 20 ltI Fb S := fun A' hA => by
      have c := (H7.out.out1.out1.box1 0).1
      have hbb : b < bf := by have := HWs.out; have := H4.out.to_below.size; omega
      refine ⟨hA.cell c (by dsimp only; omega), (HB.out.below HWA.out).mod hA fun j hj e => ?_⟩
      have h9 := HB.out.lt_F hj
      omega
    have HCl := Lib.hid hcl
    have H1' := Lib.hid h1
    have H2' := Lib.hid h2
    have HMem := Lib.hid hmem
    have HHead := Lib.hid hhead
    clear hcl h1 h2 hmem hhead hpre
    gi_wp2_with fail
    refine ⟨Ctl.refl _ _, Keeps.refl _ _, fun Wb hmb ⟨_, _⟩ => ?_⟩
    have g1 := H1'.out.then_mv hmb (fun _ h _ => h.elim) (Nat.le_refl _)
    have g2 := hmb.obj H2'.out rfl (fun h => h)
    obtain ⟨p0, p1⟩ := HCl.out Wb g1
    have HG := Lib.hid (Get_some p1 HMem.out (by omega))
    have HP := Lib.hid (Peek_head p1 HS.out)
    have p4 : Wb.cell? ⟨bf, 0, none⟩ = some (.bool pre.isEmpty) := by simp [World.cell?, g2]
    have p5 : Wb.frozen? ⟨bf, 0, none⟩ = false := by simp [World.frozen?, g2]
    have G1 := Lib.hid g1
    have G2 := Lib.hid g2
    clear g1 g2 hmb p1
    gi_wp2_with fail
    refine ⟨trivial, ?_⟩
    refine (callsIn_wide.2 HG.out).mono ?_
    rintro e w' ⟨rfl, rfl⟩
    gi_wp2_with fail
    refine ⟨trivial, ?_⟩
    refine (callsIn_wide.2 HP.out).mono ?_
    rintro e wz ⟨rfl, hz⟩
    have z4 := zatB p4 hz
    have z5 : wz.frozen? ⟨bf, 0, none⟩ = false := ((Mod.of_below (S := none') hz).frozen p4 (fun h => h)).trans p5
    have HZ := Lib.hid hz
    have hend : outPost x7.heap.size (fun j => F' j ∨ j = B ∨ x7.heap.size ≤ j) (fun pre A => Mod (fun j => j = bf) x7 A ∧ A.heap[bf]? = some (.cells #[.bool pre.isEmpty] 4 (0, 0))) (fun _ _ _ => False) (pre ++ [(x, y)]) Wb .normal { tmps := #[], defers := [] } (wz.setCell ⟨bf, 0, none⟩ (.bool false)) := by
      have hmz : Mod none' Wb wz := Mod.of_below HZ.out
      have hst : Mod (fun j => j = bf) wz (wz.setCell ⟨bf, 0, none⟩ (.bool false)) := (Mod.refl (fun j => j = bf) wz).setCell (p := ⟨bf, 0, none⟩) (fun _ => rfl) _
      have hall := (hmz.mono (T := fun j => j = bf) (fun _ h _ => h.elim)).trans' hst
      refine ⟨hall.ctl _, hall.keeps ?_, G1.out.trans' hall, ?_⟩
      · rintro q (h | h | h) _ h'
        · have := HF4.out q h; omega
        · omega
        · have := HSz7.out; omega
      · have := heap_setCell_at (k := 0) (v := .bool false) (hmz.obj G2.out (fun h => h))
        rw [this]
        simp
    have HEnd := Lib.hid hend
    clear p4 p5 hz hend p0
    cases pre with
    | nil =>
      have hh := HHead.out rfl
      have hE : headE S = 0 := by
        have := HMem.out
        cases S with
        | nil => cases this
        | cons => rfl
      rw [hh, hE]
      have z4' : wz.cell? ⟨bf, 0, none⟩ = some (.bool true) := z4
      clear z4 hh hE
      gi_wp2_with fail
      exact HEnd.out
    | cons p pre =>
      have z4' : wz.cell? ⟨bf, 0, none⟩ = some (.bool false) := z4
      clear z4
      gi_wp2_with fail
      exact HEnd.out
  case done =>
    rintro D A hD ⟨h1, h2⟩ hKd
    have hon := H7.out.box_mod h1 h2
    obtain ⟨p3, p4⟩ := hon.out1.box1 0
    have p3' : A.cell? ⟨b + 1, 0, none⟩ = some (.bool false) := p3
    have hc5 := world_setCell_same p3' (.bool true)
    have HC5 := Lib.hid hc5
    have HOn := Lib.hid hon.to_below
    have HKd := Lib.hid hKd
    clear h1 h2 hon p3 hc5 hKd
    gi_wp2_with fail
    refine leaves_marks W.heap.size [D] _ (by simp) (fun E hE => ?_) fun W' hW' => ?_
    · rw [List.mem_singleton] at hE
      subst hE
      exact ⟨setCell_ctl HKd.out (.inl rfl), by have := HSz7.out; have := HWs.out; have := H4.out.to_below.size; have := HWA.out.size; omega⟩
    · have hc6 := hW'.cell HC5.out (fun h => h)
      exact ⟨.bool true, by simp [results, Try.f38, go_sem, hc6], rfl, ((Mod.of_below (S := none') (HOn.out.setCell (p := ⟨b + 1, 0, none⟩) (by show w.heap.size ≤ b + 1; omega) (.bool true))).then_mv hW' (fun _ h _ => h) (by rw [← hW]; simp; omega)).to_below⟩
  case stop =>
    rintro D c pre A _ _ h _
    exact h.elim

theorem On.alike {w0 w : World} {ha hb : Nat} {S : List (It Int)} {R : Ast} (h : On w0 w (sep (H ha S) (sep (H hb S) R))) (hs : Sorted ltI S) (hl : S.length < 800000) :
    Calls Try.prog 38 #[.pointer (some ⟨ha, 0, none⟩), .pointer (some ⟨hb, 0, none⟩)] w fun e w' => e = .returned (.bool true) ∧ Below w.heap.size w w' := by
  obtain ⟨F1, h1, _⟩ := h.get1
  obtain ⟨F2, h2, _⟩ := h.sw0.get1
  exact alike_ok h1 h2 hs hl

namespace Hp
section
variable {α : Type} {lt : α → α → Bool} {S T : List (It α)} {id : Int} {k k0 : α}
theorem without_ins (x : It α) : ∀ l : List (It α), without (ins lt x l) x.1 = without l x.1
  | [] => by simp [ins, without]
  | y :: l => by
    have ih := without_ins x l
    unfold without at ih ⊢
    rw [ins]
    split
    · rw [List.filter_cons, List.filter_cons, ih]
    · rw [List.filter_cons_of_neg (by simp)]
theorem without_idem (h : ∀ x ∈ T, x.1 ≠ id) : without T id = T := without_none (has_none.2 h)
theorem has_ins : has (ins lt (id, k) T) id = true := has_mem (ins_mem.2 (.inl rfl))
theorem ins_back [BEq α] [LawfulBEq α] (ho : Swo lt) (hs : Sorted lt S) (hd : S.Pairwise fun a b => a.1 ≠ b.1) (h : (id, k0) ∈ S) : ins lt (id, k0) (without S id) = S := by
  refine Sorted.eq_of_perm ho (ins_sorted ho (without_sorted hs) without_gone) hs ?_
  rw [without_erase hd h]
  exact (ins_perm _ _).trans (List.perm_cons_erase h).symm
theorem chS_back [BEq α] [LawfulBEq α] (ho : Swo lt) (hs : Sorted lt S) (hd : S.Pairwise fun a b => a.1 ≠ b.1) (h : (id, k0) ∈ S) : chS lt (chS lt S id k) id k0 = S := by
  have h1 : chS lt S id k = ins lt (id, k) (without S id) := by unfold chS; rw [if_pos (has_mem h)]
  rw [h1]
  unfold chS
  rw [if_pos has_ins, without_ins (id, k), without_idem without_gone, ins_back ho hs hd h]
end
end Hp

set_option maxRecDepth 100000 in
set_option maxHeartbeats 4000000 in
theorem turns_many (a : Option Addr) (cap n : Nat) (p q : Int) (w : World) (hl : 60 < n) :
    Calls Try.prog 8 #[.slice a n cap, .agg #[.int .i64 p, .int .i64 q]] w fun e w' => e = .returned (.bool true) ∧ Below w.heap.size w w' := by
  have hW := (Below.refl w.heap.size w).alloc (Nat.le_refl _) (.cells #[.int .i64 p, .int .i64 q] 32)
  have HN := Lib.hid (H_new (On.emp (w.alloc (.cells #[.int .i64 p, .int .i64 q] 32))))
  have HW := Lib.hid hW
  have hlI : decide ((n : Int) ≤ 60) = false := by simp; omega
  have HF := Lib.hid (few_any a n cap)
  have HlI := Lib.hid hlI
  clear hlI hW
  go_enter Try.func8, Try.ntmps8
  go_wp2_with fail
  refine HN.out.mono ?_
  rintro e w1 ⟨hh, rfl, h1⟩
  have HB := Lib.hid (HW.out.trans (h1.to_below.mono HW.out.size))
  have HAw := Lib.hid (awake_ok w1)
  clear h1
  go_wp2_with fail
  refine (HF.out _).mono ?_
  rw [HlI.out]
  rintro e w2 ⟨rfl, rfl⟩
  go_wp2_with fail
  refine HAw.out.mono ?_
  rintro e w3 ⟨rfl, hb3⟩
  have HB3 := Lib.hid (HB.out.trans (hb3.mono HB.out.size))
  clear hb3
  go_wp2_with fail
  go_ret
  exact ⟨rfl, HB3.out⟩

set_option maxRecDepth 100000 in
set_option maxHeartbeats 8000000 in
theorem turns_ok (a : Option Addr) (cap : Nat) (os : List (Int × Int × Int)) (p q : Int) (hq : (Lit.int .i64 q).wf = true) (w : World) (hc : OpsAt w a os) (hl : os.length ≤ 60) :
    Calls Try.prog 8 #[.slice a os.length cap, .agg #[.int .i64 p, .int .i64 q]] w fun e w' => e = .returned (.bool true) ∧ Below w.heap.size w w' := by
  obtain ⟨n, hn⟩ : ∃ n, os.length = n := ⟨_, rfl⟩
  obtain ⟨bx, hbx⟩ : ∃ bx, w.heap.size = bx := ⟨_, rfl⟩
  obtain ⟨W, hW⟩ : ∃ W, w.alloc (.cells #[.int .i64 p, .int .i64 q] 32) = W := ⟨_, rfl⟩
  have h0 : On w W (sep (boxA bx 32 #[.int .i64 p, .int .i64 q]) emp) := by
    rw [← hW, ← hbx]
    exact (On.emp w).new1 _ _
  have HN := Lib.hid (H_new h0)
  have HF := Lib.hid (few_any a n cap)
  have hlI : decide ((n : Int) ≤ 60) = true := by simp; omega
  have HlI := Lib.hid hlI
  have hn60 : (n : Int) ≤ 60 := by omega
  rw [hn]
  have HC := Lib.hid hc
  have HNn := Lib.hid hn
  have HQ := Lib.hid hq
  have hcell : ∀ (Z : Ast) (w1 : World), On w w1 (sep (boxA bx 32 #[.int .i64 p, .int .i64 q]) Z) → w1.cell? ⟨bx, 0, none⟩ = some (.int .i64 p) ∧ w1.cell? ⟨bx, 1, none⟩ = some (.int .i64 q) := fun _ _ h => ⟨(h.box1 0).1, (h.box1 1).1⟩
  have HCell := Lib.hid hcell
  clear hc hn h0 hlI hl hq hcell
  go_enter Try.func8, Try.ntmps8
  go_wp2_with fail
  refine HN.out.mono ?_
  rintro e w1 ⟨hh, rfl, h1⟩
  have H1 := Lib.hid h1
  clear h1
  go_wp2_with fail
  refine (HF.out _).mono ?_
  rw [HlI.out]
  rintro e w2 ⟨rfl, rfl⟩
  obtain ⟨rb, hrb⟩ : ∃ rb, w1.heap.size = rb := ⟨_, rfl⟩
  have h2 := H1.out.add ((Below.refl _ w1).alloc (Nat.le_refl _) _) (refA_new w1) (fun j hj => by omega)
  rw [hrb] at h2
  have H2 := Lib.hid (h2.sw0)
  clear h2
  go_wp2_with fail
  go_loopg [8] n (fun gh s8 wr => ∃ (k : Nat) (S : List (It Int)), k + gh = n ∧ s8 = .int .i64 (k : Int) ∧ Sorted ltI S ∧ S.length ≤ k ∧ On w wr (sep (H hh S) (sep (refA rb S) (sep (boxA bx 32 #[.int .i64 p, .int .i64 q]) emp))))
  case atStart => exact ⟨0, [], by omega, rfl, List.Pairwise.nil, Nat.le_refl _, H2.out⟩
  case round =>
    obtain ⟨k, S, hk, rfl, hs, hsl, hon⟩ := hrel
    by_cases hlt : k < n
    · have hltI : (k : Int) < (n : Int) := by omega
      have hk0 : (0 : Int) ≤ (k : Int) := by omega
      obtain ⟨b, off, ask, at', id, rfl, r0, r1, r2, hw⟩ := ops_at HC.out hon.to_below (k := k) (by rw [HNn.out]; exact hlt)
      have hdo := does_ok hon hs (by omega) ask id at' hw
      have HDo := Lib.hid hdo
      have HS := Lib.hid (stepS_sorted (ask := ask) (id := id) (k := at') hs)
      have HL := Lib.hid (show (stepS S ask id at').length ≤ k + 1 by have := stepS_length (S := S) (ask := ask) (id := id) (k := at'); omega)
      clear hdo hw hs hon hsl
      go_wp2_with fail
      refine HDo.out.mono ?_
      rintro e x1 ⟨rfl, hon1⟩
      have HO := Lib.hid hon1
      clear hon1
      go_wp2_with fail
      go_roundg (n - (k + 1))
      case measure => omega
      case rel => exact ⟨k + 1, _, by omega, by go_num, HS.out, HL.out, HO.out⟩
    · have hkn : k = n := by omega
      subst hkn
      have HS := Lib.hid hs
      have hcp := H_copy hon (by omega)
      have HCp := Lib.hid hcp
      clear hon hcp hs
      go_wp2_with fail
      refine HCp.out.mono ?_
      rintro e x3 ⟨ha, rfl, h3⟩
      have hcp := H_copy (h3.sw0) (by omega)
      have HCp2 := Lib.hid hcp
      clear h3 hcp
      go_wp2_with fail
      refine HCp2.out.mono ?_
      rintro e x4 ⟨hb, rfl, h4⟩
      obtain ⟨c0, c1⟩ := HCell.out _ _ (h4.sw3.sw2.sw1.sw0)
      have h4 := (h4.sw1.sw0)
      have hg := U_get h4 (by omega) q HQ.out
      have hd := h4.distinct
      have HD := Lib.hid hd
      have H4 := Lib.hid h4
      cases hhas : has S q with
      | true =>
        obtain ⟨k0, hk0⟩ := has_some hhas
        have hE : hasE S q = 0 := by unfold hasE; rw [if_pos hhas]
        rw [hE, keyAt_mem hd hk0] at hg
        have hq0 : ¬ q < 0 := by
          obtain ⟨F, hF, _⟩ := h4.get1
          have := (HeapAt.ids hF _ hk0).1
          dsimp only at this
          omega
        have HG := Lib.hid hg
        have hch : chS ltI S q p = ins ltI (q, p) (without S q) := by unfold chS; rw [if_pos hhas]
        have HCh := Lib.hid hch
        have HBk := Lib.hid (chS_back (k := p) ltI_swo HS.out hd hk0)
        have HK0 := Lib.hid hk0
        have HE := Lib.hid hE
        have hc1 := U_change h4 (by omega) q p HQ.out
        rw [hE] at hc1
        have HC1 := Lib.hid hc1
        clear hg h4 hd hk0 hE hch hhas hc1
        go_wp2_with fail
        refine HG.out.mono ?_
        rintro e w' ⟨rfl, rfl⟩
        go_wp2_with fail
        refine HC1.out.mono ?_
        rintro e x5 ⟨rfl, h5⟩
        obtain ⟨d0, d1⟩ := HCell.out _ _ (h5.sw3.sw2.sw1.sw0)
        have hdr := U_drop (h5.sw0) (by omega) q HQ.out
        rw [HE.out, keyAt_mem HD.out HK0.out] at hdr
        have HDr := Lib.hid hdr
        clear h5 hdr c0 c1
        go_wp2_with fail
        refine HDr.out.mono ?_
        rintro e x6 ⟨rfl, h6⟩
        obtain ⟨e0, e1⟩ := HCell.out _ _ (h6.sw3.sw2.sw1.sw0)
        have hpu := U_put h6 (by have := without_length_le (S := S) (id := q); omega) q p HQ.out
        have hpE : putE (without S q) q = 0 := by
          unfold putE
          rw [if_neg (by omega), has_none.2 without_gone, if_neg (by simp)]
        have hpS : putS ltI (without S q) q p = chS ltI S q p := by
          unfold putS
          rw [if_neg (by omega), has_none.2 without_gone, if_neg (by simp), HCh.out]
        rw [hpE, hpS] at hpu
        have HPu := Lib.hid hpu
        clear h6 hpu d0 d1 hpE hpS
        go_wp2_with fail
        refine HPu.out.mono ?_
        rintro e x7 ⟨rfl, h7⟩
        obtain ⟨d0, d1⟩ := HCell.out _ _ (h7.sw3.sw2.sw1.sw0)
        have hlen : (chS ltI S q p).length < 900000 := by have := chS_length (lt := ltI) (S := S) (id := q) (k := p); omega
        have hE2 : hasE (chS ltI S q p) q = 0 := by unfold hasE; rw [HCh.out, if_pos has_ins]
        have hc2 := U_change (h7.sw0) hlen q k0 HQ.out
        rw [hE2, HBk.out] at hc2
        have HC2 := Lib.hid hc2
        have HE2 := Lib.hid hE2
        have HLen := Lib.hid hlen
        clear h7 hc2 e0 e1 hE2 hlen
        go_wp2_with fail
        refine HC2.out.mono ?_
        rintro e x8 ⟨rfl, h8⟩
        obtain ⟨e0, e1⟩ := HCell.out _ _ (h8.sw3.sw2.sw1.sw0)
        have hc3 := U_change (h8.sw0) HLen.out q k0 HQ.out
        rw [HE2.out, HBk.out] at hc3
        have HC3 := Lib.hid hc3
        clear h8 hc3 d0 d1
        go_wp2_with fail
        refine HC3.out.mono ?_
        rintro e x9 ⟨rfl, h9⟩
        have HA1 := Lib.hid ((h9.sw0.sw1).alike HS.out (by omega))
        have H9 := Lib.hid h9
        clear h9 e0 e1
        go_wp2_with fail
        refine HA1.out.mono ?_
        rintro e y1 ⟨rfl, hy1⟩
        have h10 := H9.out.below hy1
        have HA2 := Lib.hid ((h10.sw1).alike HS.out (by omega))
        have H10 := Lib.hid h10
        clear h10 hy1
        go_wp2_with fail
        refine HA2.out.mono ?_
        rintro e y2 ⟨rfl, hy2⟩
        have HB11 := Lib.hid (H10.out.below hy2).to_below
        have HAw := Lib.hid (awake_ok y2)
        clear hy2
        go_wp2_with fail
        refine HAw.out.mono ?_
        rintro e y3 ⟨rfl, hb3⟩
        have HB3 := Lib.hid (HB11.out.trans (hb3.mono HB11.out.size))
        clear hb3
        go_wp2_with fail
        go_ret
        exact ⟨rfl, HB3.out⟩
      | false =>
        have hE : hasE S q = 14 := by unfold hasE; rw [hhas, if_neg (by simp)]
        rw [hE] at hg
        have HG := Lib.hid hg
        have hpu := U_put h4 (by omega) q p HQ.out
        by_cases hneg : q < 0
        · have hpE : putE S q = 1 := by unfold putE; rw [if_pos hneg]
          have hpS : putS ltI S q p = S := by unfold putS; rw [if_pos hneg]
          rw [hpE, hpS] at hpu
          have HPu := Lib.hid hpu
          have hng : (q < 0) = True := by simp [hneg]
          clear hg h4 hd hE hhas hpu hpE hpS
          go_wp2_with fail
          refine HG.out.mono ?_
          rintro e w' ⟨rfl, rfl⟩
          go_wp2_with fail
          refine HPu.out.mono ?_
          rintro e x9 ⟨rfl, h9⟩
          obtain ⟨e0, e1⟩ := HCell.out _ _ (h9.sw3.sw2.sw1.sw0)
          have HA1 := Lib.hid ((h9.sw1).alike HS.out (by omega))
          have H9 := Lib.hid h9
          clear h9 c0 c1
          go_wp2_with fail
          refine HA1.out.mono ?_
          rintro e y2 ⟨rfl, hy2⟩
          have HB11 := Lib.hid (H9.out.below hy2).to_below
          have HAw := Lib.hid (awake_ok y2)
          clear hy2
          go_wp2_with fail
          refine HAw.out.mono ?_
          rintro e y3 ⟨rfl, hb3⟩
          have HB3 := Lib.hid (HB11.out.trans (hb3.mono HB11.out.size))
          clear hb3
          go_wp2_with fail
          go_ret
          exact ⟨rfl, HB3.out⟩
        · have hpE : putE S q = 0 := by unfold putE; rw [if_neg hneg, hhas, if_neg (by simp)]
          have hpS : putS ltI S q p = ins ltI (q, p) S := by unfold putS; rw [if_neg hneg, hhas, if_neg (by simp)]
          rw [hpE, hpS] at hpu
          have HPu := Lib.hid hpu
          have HWo := Lib.hid (show without (ins ltI (q, p) S) q = S by rw [without_ins (q, p), without_none hhas])
          have hng : (q < 0) = False := by simp [hneg]
          clear hg h4 hd hE hhas hpu hpE hpS
          go_wp2_with fail
          refine HG.out.mono ?_
          rintro e w' ⟨rfl, rfl⟩
          go_wp2_with fail
          refine HPu.out.mono ?_
          rintro e x9 ⟨rfl, h9⟩
          obtain ⟨e0, e1⟩ := HCell.out _ _ (h9.sw3.sw2.sw1.sw0)
          have hdr := U_drop h9 (by rw [ins_length]; omega) q HQ.out
          rw [HWo.out, show hasE (ins ltI (q, p) S) q = 0 by unfold hasE; rw [if_pos has_ins], keyAt_mem h9.distinct (ins_mem.2 (.inl rfl))] at hdr
          have HDr := Lib.hid hdr
          clear h9 c0 c1 hdr
          go_wp2_with fail
          refine HDr.out.mono ?_
          rintro e x10 ⟨rfl, h10⟩
          obtain ⟨c0, c1⟩ := HCell.out _ _ (h10.sw3.sw2.sw1.sw0)
          have HA1 := Lib.hid ((h10.sw1).alike HS.out (by omega))
          have H9 := Lib.hid h10
          clear h10 e0 e1
          go_wp2_with fail
          refine HA1.out.mono ?_
          rintro e y2 ⟨rfl, hy2⟩
          have HB11 := Lib.hid (H9.out.below hy2).to_below
          have HAw := Lib.hid (awake_ok y2)
          clear hy2
          go_wp2_with fail
          refine HAw.out.mono ?_
          rintro e y3 ⟨rfl, hb3⟩
          have HB3 := Lib.hid (HB11.out.trans (hb3.mono HB11.out.size))
          clear hb3
          go_wp2_with fail
          go_ret
          exact ⟨rfl, HB3.out⟩
end Go.Proofs.Ytecfenoidcolfaa
