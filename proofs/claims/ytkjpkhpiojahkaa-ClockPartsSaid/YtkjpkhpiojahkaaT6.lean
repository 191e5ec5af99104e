/-
  Timers: Copy, Armed.
-/
import Derived.Test.YtkjpkhpiojahkaaTA
import Derived.Test.YtkjpkhpiojahkaaAid
namespace Go.Proofs.Ytkjpkhpiojahkaa
set_option linter.unusedVariables false
open Go.RowKit Hp
attribute [local go_sem] Oper.semAt_some run_store_func
section
variable {w0 w : World} {tb : Nat} {S : List (It Int)} {R : Ast} {most now worst : Int}
set_option maxRecDepth 100000 in
set_option maxHeartbeats 2000000 in
theorem T_copy (h : On w0 w (sep (tqA tb most S now worst) R)) (hl : S.length < 700000) :
    Calls Try.prog 54 #[.pointer (some ⟨tb, 0, none⟩)] w fun e w' => ∃ cb, e = .returned (.pointer (some ⟨cb, 0, none⟩)) ∧ On w0 w' (sep (tqA cb most S now worst) (sep (tqA tb most S now worst) R)) := by
  obtain ⟨qb, h⟩ := h.tq_open
  have h0 := h.below ((Below.refl _ w).drew)
  have c00 := (h).bx 0 rfl
  have c01 := (h).bx 1 rfl
  have c02 := (h).bx 2 rfl
  have c03 := (h).bx 3 rfl
  have HC1 := Lib.hid (Q_copy h0.sw0 (by omega))
  clear h h0
  go_enter Try.func54, Try.ntmps54
  go_wp2_with fail
  go_region_held3 (fun A0 => A0.cell? ⟨tb, 0, none⟩ = some (.int .i64 most) ∧ A0.cell? ⟨tb, 1, none⟩ = some (.pointer (some ⟨qb, 0, none⟩)) ∧ A0.cell? ⟨tb, 2, none⟩ = some (.int .i64 now) ∧ A0.cell? ⟨tb, 3, none⟩ = some (.int .i64 worst))
    (first | (refine ⟨?_, ?_, ?_, ?_⟩ <;> assumption) | go_keep)
    (first
      | (go_at_call 38; (refine HC1.out.mono ?_); rintro e w2 ⟨g1, rfl, k2⟩; (have r0 := (k2.sw1.sw0).bx 0 rfl); (have r1 := (k2.sw1.sw0).bx 1 rfl); (have r2 := (k2.sw1.sw0).bx 2 rfl); (have r3 := (k2.sw1.sw0).bx 3 rfl); (have HK2 := Lib.hid k2); clear k2))
  go_wp2_with fail
  go_ret
  have hon := HK2.out.new1 152 #[.int .i64 most, .pointer (some ⟨g1, 0, none⟩), .int .i64 now, .int .i64 worst]
  have h5 := (hon.sw2).tq_shut
  exact ⟨_, rfl, (h5.sw0.sw1).tq_shut.sw0⟩
theorem Q_len_nil (w : World) : Calls Try.prog 30 #[.pointer none] w fun e w' => e = .returned (.int .i64 0) ∧ w = w' := by
  go_enter Try.func30, Try.ntmps30
  go_wp2_with fail
  go_ret
  exact ⟨rfl, rfl⟩
theorem Q_least_nil (w : World) (n : Int) : Calls Try.prog 29 #[.pointer none, .int .i64 n] w fun e w' => e = .returned (.slice none 0 0) ∧ Below w.heap.size w w' := by
  have HB1 := Lib.hid (((Below.refl w.heap.size w).alloc (Nat.le_refl _) (.cells #[.int .i64 n] 3)).alloc (Nat.le_trans (Nat.le_refl _) (by simp)) (.cells #[.slice none 0 0] 30))
  refine (callsIn_wide (n := 9)).1 ?_
  refine callsIn_of_wp_marks Try.func29 rfl trivial ?_ rfl
  simp only [Try.ntmps29, List.size_toArray, List.length_cons, List.length_nil, Nat.reduceAdd, Nat.reduceSub, Array.replicate_succ, Array.replicate_zero, List.push_toArray, List.append_toArray, List.nil_append, List.cons_append]
  gi_wp2_with fail
  exact ⟨.slice none 0 0, by simp [results, Try.f29, go_sem], rfl, HB1.out⟩
set_option maxRecDepth 100000 in
set_option maxHeartbeats 2000000 in
theorem Q_until_nil (t : Int) (w : World) :
    Calls Try.prog 37 #[.pointer none, .int .i64 t] w fun e w' => ∃ bl bt, e = .returned (.func (.func 104) #[] #[.pointer (some ⟨bl, 0, none⟩), .pointer (some ⟨bt, 0, none⟩)]) ∧ Below w.heap.size w w' := by
  obtain ⟨w1, hw1⟩ : ∃ w1, w.alloc (.cells #[.int .i64 t] 3) = w1 := ⟨_, rfl⟩
  have HB1 := Lib.hid (show Below w.heap.size w w1 by rw [← hw1]; exact (Below.refl _ w).alloc (Nat.le_refl _) _)
  have HLen := Lib.hid (Q_len_nil w1)
  have HLs := Lib.hid (Q_least_nil w1 0)
  go_enter Try.func37, Try.ntmps37
  go_wp2_with fail
  clear hw1
  refine HLen.out.mono ?_
  rintro e w2 ⟨rfl, rfl⟩
  go_wp2_with fail
  refine HLs.out.mono ?_
  rintro e w3 ⟨rfl, hb3⟩
  go_wp2_with fail
  go_ret
  exact ⟨_, _, rfl, (HB1.out.trans (hb3.mono HB1.out.size)).alloc (Nat.le_trans HB1.out.size hb3.size) _⟩
def armA (ba : Nat) (S : List (It Int)) : Ast := exA fun p : Nat × Nat => sep (boxA ba 47 #[.func (.func 104) #[] #[.pointer (some ⟨p.1, 0, none⟩), .pointer (some ⟨p.2, 0, none⟩)]]) (untA p.1 p.2 S 1099511627776)
theorem Plain.arm (ba : Nat) (S : List (It Int)) : Plain (armA ba S) := Plain.ex fun _ => (Plain.box _ _ _).sep (Plain.unt _ _ _ _)
theorem On.arm_shut {ba bl bt : Nat} (h : On w0 w (sep (boxA ba 47 #[.func (.func 104) #[] #[.pointer (some ⟨bl, 0, none⟩), .pointer (some ⟨bt, 0, none⟩)]]) (sep (untA bl bt S 1099511627776) R))) : On w0 w (sep (armA ba S) R) :=
  On.ex_shut (f := fun p : Nat × Nat => sep (boxA ba 47 #[.func (.func 104) #[] #[.pointer (some ⟨p.1, 0, none⟩), .pointer (some ⟨p.2, 0, none⟩)]]) (untA p.1 p.2 S 1099511627776)) (bl, bt) (On.assoc' h)
set_option maxRecDepth 100000 in
set_option maxHeartbeats 2000000 in
theorem T_armed (h : On w0 w (sep (tqA tb most S now worst) R)) (hs : Sorted ltI S) (hl : S.length < 700000) :
    Calls Try.prog 56 #[.pointer (some ⟨tb, 0, none⟩)] w fun e w' => ∃ ba, e = .returned (.func (.func 109) #[] #[.pointer (some ⟨ba, 0, none⟩)]) ∧ On w0 w' (sep (armA ba S) (sep (tqA tb most S now worst) R)) := by
  obtain ⟨qb, h⟩ := h.tq_open
  have HU0 := Lib.hid (Q_until_nil 0 w)
  have H := Lib.hid h
  have HS := Lib.hid hs
  clear h hs
  go_enter Try.func56, Try.ntmps56
  go_wp2_with fail
  refine HU0.out.mono ?_
  rintro e w1 ⟨bl0, bt0, rfl, hb1⟩
  obtain ⟨ba, hba⟩ : ∃ b, w1.heap.size = b := ⟨_, rfl⟩
  obtain ⟨w2, hw2⟩ : ∃ x, w1.alloc (.cells #[.nilFunc] 47) = x := ⟨_, rfl⟩
  have h2 := (H.out.below hb1).new1 47 #[.nilFunc]
  rw [hw2, hba] at h2
  have a00 := (h2).bx 0 rfl
  have a00f := ((h2).box1 0).2
  have h3 := h2.box_set 0 (.func (.func 104) #[] #[.pointer (some ⟨bl0, 0, none⟩), .pointer (some ⟨bt0, 0, none⟩)])
  obtain ⟨w3, hw3⟩ : ∃ x, w2.setCell ⟨ba, 0, none⟩ (.func (.func 104) #[] #[.pointer (some ⟨bl0, 0, none⟩), .pointer (some ⟨bt0, 0, none⟩)]) = x := ⟨_, rfl⟩
  rw [hw3] at h3
  have c10 := (h3.sw0).bx 0 rfl
  have c11 := (h3.sw0).bx 1 rfl
  have c12 := (h3.sw0).bx 2 rfl
  have c13 := (h3.sw0).bx 3 rfl
  have HU := Lib.hid (Q_until (h3.sw1.sw0) HS.out (by omega) 1099511627776)
  clear h2 h3 hb1
  go_wp2_with fail
  clear hw2 hw3 hba
  refine HU.out.mono ?_
  rintro e w4 ⟨bl, bt, rfl, h4⟩
  have d20 := (h4.sw1.sw0).bx 0 rfl
  have d20f := ((h4.sw1.sw0).box1 0).2
  have H5 := Lib.hid ((h4.sw1.sw0.sw2).box_set 0 (.func (.func 104) #[] #[.pointer (some ⟨bl, 0, none⟩), .pointer (some ⟨bt, 0, none⟩)]))
  clear h4
  go_wp2_with fail
  go_ret
  exact ⟨_, rfl, ((H5.out.sw1.sw0.sw2.sw1).tq_shut.sw0.sw1).arm_shut⟩
end
set_option maxRecDepth 100000 in
set_option maxHeartbeats 4000000 in
theorem arm_iter2 (n : Nat) (ba bl bt : Nat) (v : Value) (T : List (It Int)) (t : Int) (w : World) (h0' : w.heap[ba]? = some (.cells #[.func (.func 104) #[] #[.pointer (some ⟨bl, 0, none⟩), .pointer (some ⟨bt, 0, none⟩)]] 47 (0, 0)))
    (h1 : w.heap[bl]? = some (.cells #[v] 30 (0, 0))) (h2 : w.ownsRow 0 24 2 v T.length (T.flatMap keyC)) (h3 : w.heap[bt]? = some (.cells #[.int .i64 t] 3 (0, 0))) (hl : T.length < 900000) :
    Iter2 Fence.wide n Try.prog 109 #[.pointer (some ⟨ba, 0, none⟩)] (fun (x : It Int) => #[.int .i64 x.1, .int .i64 x.2]) (fun j => j = ba ∨ j = bl ∨ v.ownBlock = some j ∨ j = bt) none' (upto T t) w := by
  intro l J Jx W hk hsz hJ hJx hY h0
  refine callsIn_wide.2 ((callsIn_wide (n := 9)).1 ?_)
  have c1 : W.cell? ⟨ba, 0, none⟩ = some (.func (.func 104) #[] #[.pointer (some ⟨bl, 0, none⟩), .pointer (some ⟨bt, 0, none⟩)]) := hk.cell (by simp [World.cell?, h0']) (.inl (.inl rfl))
  obtain ⟨W1, hW1⟩ : ∃ W1, W.alloc (.cells #[.func (.yield l) #[] #[]] 156) = W1 := ⟨_, rfl⟩
  have hm1 : Mod none' W W1 := by rw [← hW1]; exact (Mod.refl _ W).alloc _
  have y1 : W1.cell? ⟨W.heap.size, 0, none⟩ = some (.func (.yield l) #[] #[]) := by rw [← hW1, World.cell?_alloc_at _ _ _ _ rfl]; rfl
  have d1 := hm1.cell c1 (fun h => h)
  have hz1 : W1.heap.size = W.heap.size + 1 := by rw [← hW1]; simp
  have HIt := Lib.hid (until_iter2 8 bl bt v T t w h1 h2 h3 hl)
  have HK1 := Lib.hid ((hk.mono (S := fun j => (j = bl ∨ v.ownBlock = some j ∨ j = bt) ∨ none' j) (fun j hj => .inl (.inr (hj.elim (fun h => h) (fun h => h.elim))))).trans (hm1.keeps (fun _ _ _ h => h)))
  have hq : ∀ w, (binOp BinOp.eql 47 (.func (.func 104) #[] #[.pointer (some ⟨bl, 0, none⟩), .pointer (some ⟨bt, 0, none⟩)]) .nilFunc).run Try.prog w = .ok (.bool false) w := fun w => by kernel_rfl
  have HJ := Lib.hid hJ
  have HJx := Lib.hid hJx
  have HY := Lib.hid hY
  have HH0 := Lib.hid h0
  have HM1 := Lib.hid hm1
  clear hJ hJx hY h0 hk h0' h1 h2 h3 hm1 c1
  refine callsIn_of_wp_marks Try.func109 rfl trivial ?_ rfl
  simp only [Try.ntmps109, List.size_toArray, List.length_cons, List.length_nil, Nat.reduceAdd, Nat.reduceSub, Array.replicate_succ, Array.replicate_zero, List.push_toArray, List.append_toArray, List.nil_append, List.cons_append]
  gi_wp2_with fail
  have hs1 := HM1.out.size
  clear hW1
  obtain ⟨ext, hext⟩ : ∃ ext : (Nat → Prop) → Nat → Prop, ext = fun O j => O j ∨ j = W.heap.size := ⟨_, rfl⟩
  have hxo : ∀ O j, ext O j ↔ O j ∨ j = W.heap.size := fun O j => by rw [hext]
  refine wpIn_range2 rfl (by omega) (gf := 104) (lb := #[.pointer (some ⟨bl, 0, none⟩), .pointer (some ⟨bt, 0, none⟩)]) rfl trivial (enters_of Try.func104 (by kernel_rfl) rfl)
    HIt.out HK1.out (fun _ => rfl)
    (fun O pre A => J (ext O) pre A ∧ A.cell? ⟨W.heap.size, 0, none⟩ = some (.func (.yield l) #[] #[]) ∧ (∀ j, O j → W1.heap.size ≤ j) ∧ W1.heap.size ≤ A.heap.size)
    (fun c O pre A => c = .ret ∧ Jx (ext O) pre A)
    (fun O O' s A A' h hm' hg => ⟨HJ.out _ _ _ _ _ h.1 (hm'.mono (fun i hi _ => (hxo _ _).2 (.inl hi)) (by omega)) (fun j hj => ((hxo _ _).1 hj).elim (fun h1 => (hg j h1).imp (fun h2 => (hxo _ _).2 (.inl h2)) (fun h => h)) (fun h1 => .inl ((hxo _ _).2 (.inr h1)))),
      hm'.cell h.2.1 (fun h1 => by have := h.2.2.1 _ h1; dsimp only at this; omega),
      fun j hj => (hg j hj).elim (h.2.2.1 j) (fun h1 => by have := h.2.2.2; omega), by have := h.2.2.2; have := hm'.size; omega⟩)
    (fun c O O' s A A' h hm' hg => ⟨h.1, HJx.out _ _ _ _ _ h.2 (hm'.mono (fun i hi _ => (hxo _ _).2 (.inl hi)) (by omega)) (fun j hj => ((hxo _ _).1 hj).elim (fun h1 => (hg j h1).imp (fun h2 => (hxo _ _).2 (.inl h2)) (fun h => h)) (fun h1 => .inl ((hxo _ _).2 (.inr h1))))⟩)
    ⟨HJ.out none' _ _ _ _ HH0.out (HM1.out.mv _) (fun j hj => .inr (by { rcases (hxo _ _).1 hj with h1 | h1; (exact h1.elim); omega })), y1, fun j hj => hj.elim, Nat.le_refl _⟩ ?round ?done ?stop
  case round =>
    rintro l' O pre ⟨x1, x2⟩ A hlA _ ⟨h1, h2, hO1, hA3⟩ hO hpre
    have hY := HY.out (ext O) pre (x1, x2)
    have H1 := Lib.hid h1
    clear h1
    have hmA : Mod none' A (A.alloc (.cells #[.int .i64 x2, .int .i64 x1] 24)) := (Mod.refl _ A).alloc _
    have e1 : (A.alloc (.cells #[.int .i64 x2, .int .i64 x1] 24)).cell? ⟨A.heap.size, 0, none⟩ = some (.int .i64 x2) := by rw [World.cell?_alloc_at _ _ _ _ rfl]; rfl
    have e2 : (A.alloc (.cells #[.int .i64 x2, .int .i64 x1] 24)).cell? ⟨A.heap.size, 1, none⟩ = some (.int .i64 x1) := by rw [World.cell?_alloc_at _ _ _ _ rfl]; rfl
    have e3 := hmA.cell h2 (fun h => h)
    have HmA := Lib.hid hmA
    have E1 := Lib.hid e1
    have E2 := Lib.hid e2
    have E3 := Lib.hid e3
    have HXo := Lib.hid hxo
    have HHext := Lib.hid hext
    have HO1 := Lib.hid hO1
    have HOl := Lib.hid (show ∀ j, O j → j < A.heap.size from fun j hj => (hO j hj).2)
    clear h2 hmA e1 e2 e3 y1 d1 hxo hext hO1 hO
    gi_wp2
    refine ⟨HmA.out.ctl _, HmA.out.keeps (fun _ _ _ h => h), fun Wb hmb r hr => ?_⟩
    have f1 := hmb.cell E1.out (fun h => h)
    have f2 := hmb.cell E2.out (fun h => h)
    have f3 := hmb.cell E3.out (fun h => h)
    have hj := HJ.out _ _ _ _ _ H1.out ((HmA.out.mv _).trans (hmb.mono (C := W.heap.size) (fun _ h _ => h) (by omega)) |>.mono (fun i h _ => h.elim) (Nat.le_refl _)) (fun _ h => .inl h)
    have hoj : ∀ j, ext O j → (none' j ∨ W.heap.size ≤ j) ∧ j < Wb.heap.size := fun j hj => by
      have hzb := hmb.size
      have hzA := HmA.out.size
      rcases (HXo.out _ _).1 hj with h1 | h1
      · have := HOl.out j h1
        have := HO1.out j h1
        exact ⟨.inr (by omega), by omega⟩
      · exact ⟨.inr (by omega), by omega⟩
    obtain ⟨fn, tmps, assign, body, hy, hR⟩ := hY Wb hj hoj hpre
    have hmb' : Keeps none' A Wb := ⟨Nat.le_trans HmA.out.size hmb.size, fun _ _ _ _ h => h.elim⟩
    have HR := Lib.hid (round_wide (m' := 7 - 1) (l' := l') hR)
    clear hR hr hj hmb hY
    gi_wp2
    refine HR.out.mono ?_
    rintro e W5 (⟨rfl, hJ5, hk5, hc5⟩ | ⟨rfl, hJx5, hk5, hc5⟩)
    · gi_wp2
      exact ⟨hc5.mono (by omega), hk5.mono (fun j hj => hj.elim (fun h => .inl (.inr h)) (fun h => .inr ((HXo.out _ _).2 (.inl h)))), hJ5, hk5.cell f3 (.inr ((HXo.out _ _).2 (.inr rfl))), fun j hj => by { have := HO1.out j hj; omega }, by have := HmA.out.size; have := hmb'.size; have := hk5.size; omega⟩
    · gi_wp2
      exact ⟨hc5.mono (by omega), hk5.mono (fun j hj => hj.elim (fun h => .inl (.inr h)) (fun h => .inr ((HXo.out _ _).2 (.inl h)))), rfl, hJx5⟩
  case done =>
    rintro D O A hD ⟨h1, h2, _, _⟩ hK
    have hj := HJ.out _ _ _ _ _ h1 ((Mv.putObj (S := none') (B := W.heap.size) A D _ (.deferred none) hK rfl (by omega)).mono (fun i h _ => h.elim) (Nat.le_refl _)) (fun _ h => .inl h)
    refine ⟨by simp, .inl ⟨_, _, rfl, run_takeDeferred hK, ?_⟩⟩
    exact ⟨_, results_none rfl _ _ _, ⟨_, rfl⟩, .inl ⟨_, hj⟩⟩
  case stop =>
    rintro D c O pre A hD hpre ⟨rfl, h1⟩ hK
    have hj := HJx.out _ _ _ _ _ h1 ((Mv.putObj (S := none') (B := W.heap.size) A D _ (.deferred none) hK rfl (by omega)).mono (fun i h _ => h.elim) (Nat.le_refl _)) (fun _ h => .inl h)
    have HJ' := Lib.hid hj
    clear hj h1
    gi_wp2
    refine ⟨by simp, .inl ⟨_, _, rfl, run_takeDeferred hK, ?_⟩⟩
    exact ⟨_, results_none rfl _ _ _, ⟨_, rfl⟩, .inr ⟨_, pre, hpre, HJ'.out⟩⟩
theorem upto_all : ∀ {S : List (It Int)}, Timed S → upto S 1099511627776 = S
  | [], _ => rfl
  | x :: S, h => by
    have := timeE_ok (h x (List.mem_cons_self ..))
    rw [upto_head (by omega), upto_all fun y hy => h y (List.mem_cons_of_mem _ hy)]
theorem arm_iter (n : Nat) {w : World} {K : Nat → Prop} {ba : Nat} {T : List (It Int)} (hT : Timed T) (hl : T.length < 900000) (h : (armA ba T).holds w K) :
    Iter2 Fence.wide n Try.prog 109 #[.pointer (some ⟨ba, 0, none⟩)] (fun (x : It Int) => #[.int .i64 x.1, .int .i64 x.2]) K none' T w := by
  obtain ⟨⟨bl, bt⟩, Fz, Fy, h0, ⟨v, Fa, Fb, h1, ⟨Fc, Fd, h2, h3, _, h4⟩, _, h5⟩, _, h6⟩ := h
  have e : K = fun j => j = ba ∨ j = bl ∨ v.ownBlock = some j ∨ j = bt := by
    funext j
    exact propext (by rw [h6, h5, h4, h0.2, h1.2, h2.2, h3.2])
  have := arm_iter2 n ba bl bt v T 1099511627776 w h0.1 h1.1 h2.1 h3.1 hl
  rw [upto_all hT] at this
  rw [e]
  exact this
end Go.Proofs.Ytkjpkhpiojahkaa
