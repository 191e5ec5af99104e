/-
  Walks: All and its iterator.
-/
import Derived.Test.YtecfenoidcolfaaCopy2
namespace Go.Proofs.Ytecfenoidcolfaa
set_option linter.unusedVariables false
open Go.RowKit Hp
attribute [local go_sem] Oper.semAt_some

theorem round_wide {m m' l l' : Nat} {P : Program} {fn : FuncId} {tmps : Array Value} {assign body : Code} {w : World} {R : Ending → World → Prop} (h : RoundIn Fence.wide m P l fn tmps assign body w R) :
    RoundIn (Fence.wide.inRound l') m' P l fn tmps assign body w R := ⟨trivial, fun c cs _ => h.2 c cs (room_wide _)⟩

set_option maxHeartbeats 400000 in
theorem taken_any (hb : Nat) (w : World) : Calls Try.prog 82 #[.pointer (some ⟨hb, 0, none⟩)] w fun e w' => e = .returned (.func (.func 107) #[] #[.pointer (some ⟨w.heap.size, 0, none⟩)]) ∧ w' = w.alloc (.cells #[.pointer (some ⟨hb, 0, none⟩)] 23) := by
  go_enter Try.func82, Try.ntmps82
  go_wp2
  go_ret
  exact ⟨rfl, rfl⟩

set_option maxRecDepth 100000 in
set_option maxHeartbeats 4000000 in
theorem All1_iter {lf : Nat} {lt : Int → Int → Bool} (HL : LessI lf lt) (n : Nat) (B hb : Nat) (F : Nat → Prop) (S : List (It Int)) (w : World) (hbox : w.cell? ⟨B, 0, none⟩ = some (.pointer (some ⟨hb, 0, none⟩)))
    (h : HeapAt w hb lf lt F S) (hs : Sorted lt S) (hl : S.length < 999999) :
    Iter Fence.wide n Try.prog 81 #[.pointer (some ⟨B, 0, none⟩)] (fun (x : It Int) => #[.int .i64 x.1, .int .i64 x.2]) (fun j => F j ∨ j = B ∨ w.heap.size ≤ j) (fun j => w.heap.size ≤ j) S w := by
  intro l J Jx W hk hsz hJ hJx hY h0
  refine callsIn_wide.2 ((callsIn_wide (n := 9)).1 ?_)
  have c1 := hk.cell hbox (.inr (.inl rfl))
  have hW := h.keeps hk (fun j hj => .inl hj)
  obtain ⟨W1, hW1⟩ : ∃ W1, W.alloc (.cells #[.func (.yield l) #[] #[]] 27) = W1 := ⟨_, rfl⟩
  have hm1 : Mod none' W W1 := by rw [← hW1]; exact (Mod.refl _ W).alloc _
  have hb1 : Below W.heap.size W W1 := hm1.to_below
  have y1 : W1.cell? ⟨W.heap.size, 0, none⟩ = some (.func (.yield l) #[] #[]) := by rw [← hW1, World.cell?_alloc_at _ _ _ _ rfl]; rfl
  have hc := Copy_ok (hW.below hb1) (by omega)
  have d1 := zatB c1 hb1
  have HC := Lib.hid hc
  have HJ := Lib.hid hJ
  have HJx := Lib.hid hJx
  have HY := Lib.hid hY
  have HH0 := Lib.hid h0
  have HM1 := Lib.hid hm1
  clear hc hJ hJx hY h0 hk h hbox hW hm1 hb1
  refine callsIn_of_wp_marks Try.func81 rfl trivial ?_ rfl
  simp only [Try.ntmps81, List.size_toArray, List.length_cons, List.length_nil, Nat.reduceAdd, Nat.reduceSub, Array.replicate_succ, Array.replicate_zero, List.push_toArray, List.append_toArray, List.nil_append, List.cons_append]
  gi_wp2_with (first
    | (refine ⟨trivial, ?_⟩; gi_at_call 36; refine (callsIn_wide.2 HC.out).mono ?_; rintro e W2 ⟨hb2, F2, rfl, h2, hbl2, hF2⟩; have HH2 := Lib.hid h2; have HB2 := Lib.hid hbl2; have HF2 := Lib.hid hF2; clear h2 hbl2 hF2)
    | (refine ⟨trivial, ?_⟩; gi_at_call 82; refine (callsIn_wide.2 (taken_any _ _)).mono ?_; rintro e W3 ⟨rfl, hW3⟩))
  subst hW3
  have hs1 := HM1.out.size
  have hs2 := HB2.out.size
  have hz1 : W1.heap.size = W.heap.size + 1 := by rw [← hW1]; simp
  obtain ⟨W3, hW3⟩ : ∃ W3, W2.alloc (.cells #[.pointer (some ⟨hb2, 0, none⟩)] 23) = W3 := ⟨_, rfl⟩
  have hm3 : Mod none' W2 W3 := by rw [← hW3]; exact (Mod.refl _ W2).alloc _
  have hz3 : W3.heap.size = W2.heap.size + 1 := by rw [← hW3]; simp
  have p3 : W3.cell? ⟨W2.heap.size, 0, none⟩ = some (.pointer (some ⟨hb2, 0, none⟩)) := by rw [← hW3, World.cell?_alloc_at _ _ _ _ rfl]; rfl
  have y3 : W3.cell? ⟨W.heap.size, 0, none⟩ = some (.func (.yield l) #[] #[]) := hm3.cell (zatB y1 HB2.out) (fun h => h)
  have hmW : Mod none' W W3 := (HM1.out.trans' (Mod.of_below HB2.out)).trans' hm3
  have hF2 := HF2.out
  have hnF : ¬ F2 W2.heap.size := fun h => by have := HH2.out.lt_F h; omega
  rw [hW3]
  clear hW3
  refine wpIn_range rfl (by omega) (gf := 107) (lb := #[.pointer (some ⟨W2.heap.size, 0, none⟩)]) rfl trivial (enters_of Try.func107 (by kernel_rfl) rfl)
    (taken_iter HL _ W2.heap.size hb2 F2 S W3 p3 (HH2.out.mod hm3 (fun _ _ h => h)) hs hl hnF) (Keeps.refl _ _) (fun _ => rfl)
    (fun pre A => J pre A ∧ A.cell? ⟨W.heap.size, 0, none⟩ = some (.func (.yield l) #[] #[]))
    (fun c pre A => c = .ret ∧ Jx pre A)
    (fun s A A' h hm' => ⟨HJ.out _ _ _ h.1 (hm'.mono (fun i hi _ => by have := hF2 i hi; omega) (by omega)), hm'.cell h.2 (fun h => by have := hF2 _ h; dsimp only at this; omega)⟩)
    (fun c s A A' h hm' => ⟨h.1, HJx.out _ _ _ h.2 (hm'.mono (fun i hi _ => by have := hF2 i hi; omega) (by omega))⟩)
    ⟨HJ.out _ _ _ HH0.out (hmW.mv _ |>.mono (fun i h _ => h.elim) (Nat.le_refl _)), y3⟩ ?round ?done ?stop
  case round =>
    rintro l' pre ⟨x1, x2⟩ A hlA _ ⟨h1, h2⟩ hpre
    have hY := HY.out pre (x1, x2)
    have H1 := Lib.hid h1
    clear h1
    have hmA : Mod none' A (A.alloc (.cells #[.int .i64 x1, .int .i64 x2] 119)) := (Mod.refl _ A).alloc _
    have e1 : (A.alloc (.cells #[.int .i64 x1, .int .i64 x2] 119)).cell? ⟨A.heap.size, 0, none⟩ = some (.int .i64 x1) := by rw [World.cell?_alloc_at _ _ _ _ rfl]; rfl
    have e2 : (A.alloc (.cells #[.int .i64 x1, .int .i64 x2] 119)).cell? ⟨A.heap.size, 1, none⟩ = some (.int .i64 x2) := by rw [World.cell?_alloc_at _ _ _ _ rfl]; rfl
    have e3 := hmA.cell h2 (fun h => h)
    have HmA := Lib.hid hmA
    have E1 := Lib.hid e1
    have E2 := Lib.hid e2
    have E3 := Lib.hid e3
    clear h2 hmA e1 e2 e3 hF2 hmW p3 y3 d1 c1
    gi_wp2
    refine ⟨HmA.out.ctl _, HmA.out.keeps (fun _ _ _ h => h), fun Wb hmb r hr => ?_⟩
    have f1 := hmb.cell E1.out (fun h => h)
    have f2 := hmb.cell E2.out (fun h => h)
    have f3 := hmb.cell E3.out (fun h => h)
    have hj := HJ.out _ _ _ H1.out ((HmA.out.mv _).trans (hmb.mono (C := W.heap.size) (fun _ h _ => h) (by omega)) |>.mono (fun i h _ => h.elim) (Nat.le_refl _))
    obtain ⟨fn, tmps, assign, body, hy, hR⟩ := hY Wb hj hpre
    have HR := Lib.hid (round_wide (m' := 7 - 1) (l' := l') hR)
    clear hR hr hj hmb hY
    gi_wp2
    refine HR.out.mono ?_
    rintro e W5 (⟨rfl, hJ5, hk5, hc5⟩ | ⟨rfl, hJx5, hk5, hc5⟩)
    · gi_wp2
      exact ⟨hc5.mono (by omega), hk5.mono (fun j hj => by rcases hj with hj | rfl; have := HF2.out j hj; exact .inr (.inr (by omega)); exact .inr (.inr (by omega))), hJ5, hk5.cell f3 (.inr (.inr hsz))⟩
    · gi_wp2
      exact ⟨hc5.mono (by omega), hk5.mono (fun j hj => by rcases hj with hj | rfl; have := HF2.out j hj; exact .inr (.inr (by omega)); exact .inr (.inr (by omega))), rfl, hJx5⟩
  case done =>
    rintro D A hD ⟨h1, h2⟩ hK
    have hj := HJ.out _ _ _ h1 ((Mv.putObj (S := none') (B := W.heap.size) A D _ (.deferred none) hK rfl (by omega)).mono (fun i h _ => h.elim) (Nat.le_refl _))
    refine ⟨by simp, .inl ⟨_, _, rfl, run_takeDeferred hK, ?_⟩⟩
    exact ⟨_, results_none rfl _ _ _, ⟨_, rfl⟩, .inl hj⟩
  case stop =>
    rintro D c pre A hD hpre ⟨rfl, h1⟩ hK
    have hj := HJx.out _ _ _ h1 ((Mv.putObj (S := none') (B := W.heap.size) A D _ (.deferred none) hK rfl (by omega)).mono (fun i h _ => h.elim) (Nat.le_refl _))
    have HJ' := Lib.hid hj
    clear hj h1
    gi_wp2
    refine ⟨by simp, .inl ⟨_, _, rfl, run_takeDeferred hK, ?_⟩⟩
    exact ⟨_, results_none rfl _ _ _, ⟨_, rfl⟩, .inr ⟨pre, hpre, HJ'.out⟩⟩

set_option maxRecDepth 100000 in
set_option maxHeartbeats 1000000 in
theorem All_any {w : World} {hb lf : Nat} {lt : Int → Int → Bool} {F : Nat → Prop} {M : List (It Int)} (h : HeapAt w hb lf lt F M) (hM : M.length < 1000000) :
    Calls Try.prog 32 #[.pointer (some ⟨hb, 0, none⟩)] w fun e w' => ∃ B hb' F', e = .returned (.func (.func 81) #[] #[.pointer (some ⟨B, 0, none⟩)]) ∧ w'.cell? ⟨B, 0, none⟩ = some (.pointer (some ⟨hb', 0, none⟩)) ∧
      HeapAt w' hb' lf lt F' M ∧ Below w.heap.size w w' := by
  have HC := Lib.hid (Copy_ok h hM)
  clear h
  go_enter Try.func32, Try.ntmps32
  go_wp2_with fail
  refine HC.out.mono ?_
  rintro e w1 ⟨hb1, F1, rfl, h1, hb, hF⟩
  have H1 := Lib.hid h1
  have HB := Lib.hid hb
  clear h1 hb hF
  go_wp2_with fail
  go_ret
  have hbA : Below w1.heap.size w1 (w1.alloc (.cells #[.pointer (some ⟨hb1, 0, none⟩)] 23)) := (Below.refl _ w1).alloc (Nat.le_refl _) _
  exact ⟨w1.heap.size, hb1, F1, rfl, by rw [World.cell?_alloc_at _ _ _ _ rfl]; rfl, H1.out.below hbA, HB.out.trans (hbA.mono HB.out.size)⟩
end Go.Proofs.Ytecfenoidcolfaa
