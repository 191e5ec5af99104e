/-
  Timers: any call of the queue and of the document's answer; that they are the same.
-/
import Derived.Test.YtkjpkhpiojahkaaT5
import Derived.Test.YtkjpkhpiojahkaaT6
namespace Go.Proofs.Ytkjpkhpiojahkaa
set_option linter.unusedVariables false
open Go.RowKit Hp
attribute [local go_sem] Oper.semAt_some run_store_func
section
variable {w0 w : World} {tb rb : Nat} {S : List (It Int)} {R : Ast} {most now worst ask id at' : Int}
theorem On.tq_distinct (h : On w0 w (sep (tqA tb most S now worst) R)) : S.Pairwise fun a b => a.1 ≠ b.1 := by
  obtain ⟨qb, h⟩ := h.tq_open
  exact h.sw0.qu_distinct
set_option maxRecDepth 100000 in
set_option maxHeartbeats 4000000 in
theorem does5_arm (h : On w0 w (sep (tqA tb most S now worst) (sep (rqA rb most S now worst) R))) (hs : Sorted ltI S) (hl : S.length < 700000) (hw : (Lit.int .i64 id).wf = true) :
    Calls Try.prog 52 #[.pointer (some ⟨tb, 0, none⟩), .pointer (some ⟨rb, 0, none⟩), .agg #[.int .i64 0, .int .i64 id, .int .i64 at']] w fun e w' => e = .returned (.bool true) ∧ On w0 w' (sep (tqA tb most (armS S most id at') now worst) (sep (rqA rb most (armS S most id at') now worst) R)) := by
  have hdist := h.tq_distinct
  obtain ⟨w1, hw1⟩ : ∃ w1, w.alloc (.cells #[.int .i64 0, .int .i64 id, .int .i64 at'] 77) = w1 := ⟨_, rfl⟩
  obtain ⟨b, hb'⟩ : ∃ b, w.heap.size = b := ⟨_, rfl⟩
  have h1 := h.new1 77 #[.int .i64 0, .int .i64 id, .int .i64 at']
  rw [hw1, hb'] at h1
  have c00 := (h1).bx 0 rfl
  have c01 := (h1).bx 1 rfl
  have c02 := (h1).bx 2 rfl
  have h1d := h1.below ((Below.refl _ w1).drew)
  obtain ⟨ae, hae⟩ : ∃ e, armE S most id at' = e := ⟨_, rfl⟩
  have HA := Lib.hid (T_arm (h1d.sw0) hs hl id at' hw)
  have HB := Lib.hid (fun (A : World) (R' : Ast) (hA : On w0 A (sep (rqA rb most S now worst) R')) => RT_arm hA hdist hl id at' hw)
  rw [hae] at HA HB
  have g0 : (ae == ae) = true := by simp
  clear h h1 h1d hae
  go_enter Try.func52, Try.ntmps52
  go_wp2_with fail
  go_region_held3 (fun A0 => A0.cell? ⟨b, 1, none⟩ = some (.int .i64 id) ∧ A0.cell? ⟨b, 2, none⟩ = some (.int .i64 at'))
    (first | (refine ⟨?_, ?_⟩ <;> assumption) | go_keep)
    (first
      | (go_at_call 44; ((with_reducible refine HA.out.mono ?_); rintro e A1 ⟨rfl, h2⟩; (have d11 := (h2.sw0).bx 1 rfl); (have d12 := (h2.sw0).bx 2 rfl); (have HB1 := Lib.hid (HB.out A1 _ (h2.sw1.sw0))); clear h2))
      | (go_at_call 106; ((with_reducible refine HB1.out.mono ?_); rintro e A2 ⟨rfl, h3⟩; (have e21 := (h3.sw1.sw0).bx 1 rfl); (have e22 := (h3.sw1.sw0).bx 2 rfl); (have H3 := Lib.hid (h3.sw0)); clear h3)))
  all_goals go_wp2_with fail
  all_goals go_ret
  all_goals exact ⟨rfl, (H3.out.sw1.sw0).out1⟩
set_option maxRecDepth 100000 in
set_option maxHeartbeats 4000000 in
theorem does5_cancel (h : On w0 w (sep (tqA tb most S now worst) (sep (rqA rb most S now worst) R))) (hl : S.length < 700000) (hw : (Lit.int .i64 id).wf = true) :
    Calls Try.prog 52 #[.pointer (some ⟨tb, 0, none⟩), .pointer (some ⟨rb, 0, none⟩), .agg #[.int .i64 1, .int .i64 id, .int .i64 at']] w fun e w' => e = .returned (.bool true) ∧ On w0 w' (sep (tqA tb most (without S id) now worst) (sep (rqA rb most (without S id) now worst) R)) := by
  have hdist := h.tq_distinct
  obtain ⟨hb, h0⟩ := h.sw0.rq_open
  obtain ⟨w1, hw1⟩ : ∃ w1, w.alloc (.cells #[.int .i64 1, .int .i64 id, .int .i64 at'] 77) = w1 := ⟨_, rfl⟩
  obtain ⟨b, hb'⟩ : ∃ b, w.heap.size = b := ⟨_, rfl⟩
  have h1 := h0.new1 77 #[.int .i64 1, .int .i64 id, .int .i64 at']
  rw [hw1, hb'] at h1
  have c00 := (h1).bx 0 rfl
  have c01 := (h1).bx 1 rfl
  have c02 := (h1).bx 2 rfl
  have c11 := (h1.sw0).bx 1 rfl
  obtain ⟨he, hhe⟩ : ∃ e, hasE S id = e := ⟨_, rfl⟩
  obtain ⟨ka, hka⟩ : ∃ e, keyAt 0 S id = e := ⟨_, rfl⟩
  have h1d := h1.below ((Below.refl _ w1).drew)
  have HR := Lib.hid (R_drop (h1d.sw1.sw0) hdist (by omega) id)
  have HT := Lib.hid (fun (A : World) (R' : Ast) (hA : On w0 A (sep (tqA tb most S now worst) R')) => T_cancel hA (by omega) id hw)
  rw [hhe] at HR HT
  rw [hka] at HR
  have g0 : (he == he) = true := by simp
  clear h h0 h1 h1d hhe hka
  go_enter Try.func52, Try.ntmps52
  go_wp2_with fail
  clear hw1 hb'
  go_region_held3 (fun A0 => A0.cell? ⟨b, 1, none⟩ = some (.int .i64 id) ∧ A0.cell? ⟨rb, 1, none⟩ = some (.pointer (some ⟨hb, 0, none⟩)))
    (first | (refine ⟨?_, ?_⟩ <;> assumption) | go_keep)
    (first
      | (go_at_call 97; ((with_reducible refine HR.out.mono ?_); rintro e w2 ⟨rfl, h2⟩; (have d11 := (h2.sw0).bx 1 rfl); (have d21 := (h2.sw1.sw0).bx 1 rfl); (have HT1 := Lib.hid (HT.out _ _ (h2.sw2.sw1.sw0))); clear h2)))
  go_wp2_with fail
  refine HT1.out.mono ?_
  rintro e w3 ⟨rfl, h3⟩
  have H3 := Lib.hid (((h3.sw2.sw1.sw0.sw1).rq_shut.sw1.sw0.sw1).out1)
  clear h3
  go_wp2_with fail
  go_ret
  exact ⟨rfl, H3.out⟩
set_option maxRecDepth 100000 in
set_option maxHeartbeats 4000000 in
theorem does5_when (h : On w0 w (sep (tqA tb most S now worst) (sep (rqA rb most S now worst) R))) (hl : S.length < 700000) (hw : (Lit.int .i64 id).wf = true) (ha0 : ask ≠ 0) (ha1 : ask ≠ 1) (ha2 : ask ≠ 2) :
    Calls Try.prog 52 #[.pointer (some ⟨tb, 0, none⟩), .pointer (some ⟨rb, 0, none⟩), .agg #[.int .i64 ask, .int .i64 id, .int .i64 at']] w fun e w' => e = .returned (.bool true) ∧ On w0 w' (sep (tqA tb most S now worst) (sep (rqA rb most S now worst) R)) := by
  have hdist := h.tq_distinct
  obtain ⟨hb, h0⟩ := h.sw0.rq_open
  obtain ⟨w1, hw1⟩ : ∃ w1, w.alloc (.cells #[.int .i64 ask, .int .i64 id, .int .i64 at'] 77) = w1 := ⟨_, rfl⟩
  obtain ⟨b, hb'⟩ : ∃ b, w.heap.size = b := ⟨_, rfl⟩
  have h1 := h0.new1 77 #[.int .i64 ask, .int .i64 id, .int .i64 at']
  rw [hw1, hb'] at h1
  have c00 := (h1).bx 0 rfl
  have c01 := (h1).bx 1 rfl
  have c02 := (h1).bx 2 rfl
  have c11 := (h1.sw0).bx 1 rfl
  have HT := Lib.hid (T_when (h1.sw2.sw1.sw0) (by omega) id hw)
  have HR := Lib.hid (fun (A : World) (R' : Ast) (hA : On w0 A (sep (refA hb S) R')) => R_at hA (by omega) id)
  have a0 : (ask == 0) = false := by simpa using ha0
  have a1 : (ask == 1) = false := by simpa using ha1
  have a2 : (ask == 2) = false := by simpa using ha2
  have H1 := Lib.hid h1
  cases hh : has S id with
  | false =>
    have he : hasE S id = 14 := by unfold hasE; rw [hh]; rfl
    have hka : keyAt 0 S id = 0 := keyAt_none hh
    rw [he, hka] at HT
    simp only [hh, Bool.false_eq_true, if_false] at HR
    clear h h0 h1 he hka hh hdist
    go_enter Try.func52, Try.ntmps52
    go_wp2_with fail
    refine HT.out.mono ?_
    rintro e w2 ⟨rfl, hb2⟩
    have h2 := H1.out.below hb2
    have d01 := (h2).bx 1 rfl
    have d11 := (h2.sw0).bx 1 rfl
    have HR2 := Lib.hid (HR.out w2.drew _ ((h2.sw1.sw0).below (Below.refl _ w2).drew))
    have H2 := Lib.hid ((((h2.sw0.sw1).rq_shut.sw0.sw1).out1).below (Below.refl _ w2).drew)
    clear h2 hb2
    go_wp2_with fail
    go_region_held3 (fun A0 => A0.cell? ⟨b, 1, none⟩ = some (.int .i64 id) ∧ A0.cell? ⟨rb, 1, none⟩ = some (.pointer (some ⟨hb, 0, none⟩)))
      (first | (refine ⟨?_, ?_⟩ <;> assumption) | go_keep)
      (first
        | (go_at_call 95; ((with_reducible refine HR2.out.mono ?_); rintro e w3 ⟨rfl, rfl⟩)))
    go_wp2_with fail
    go_ret
    exact ⟨rfl, H2.out⟩
  | true =>
    have he : hasE S id = 0 := by unfold hasE; rw [hh]; rfl
    obtain ⟨k, hix⟩ := idx_some hh
    have hka : keyAt 0 S id = k := keyAt_mem hdist (List.mem_of_getElem? hix)
    have hil := idx_lt.2 hh
    rw [he, hka] at HT
    simp only [hh, if_true] at HR
    obtain ⟨ix, hixx⟩ : ∃ ix : Nat, idx S id = ix := ⟨_, rfl⟩
    rw [hixx] at hix hil HR
    have hng : decide ((ix : Int) < 0) = false := by simp
    have hilI : (ix : Int) < (S.length : Int) := by omega
    have hi0 : (0 : Int) ≤ (ix : Int) := by omega
    have HIx := Lib.hid hix
    clear h h0 h1 he hka hh hdist hix hixx
    go_enter Try.func52, Try.ntmps52
    go_wp2_with fail
    refine HT.out.mono ?_
    rintro e w2 ⟨rfl, hb2⟩
    have h2 := H1.out.below hb2
    have d01 := (h2).bx 1 rfl
    have d11 := (h2.sw0).bx 1 rfl
    have HR2 := Lib.hid (HR.out w2.drew _ ((h2.sw1.sw0).below (Below.refl _ w2).drew))
    have HB2 := Lib.hid h2
    clear h2 hb2
    go_wp2_with fail
    go_region_held3 (fun A0 => A0.cell? ⟨b, 1, none⟩ = some (.int .i64 id) ∧ A0.cell? ⟨rb, 1, none⟩ = some (.pointer (some ⟨hb, 0, none⟩)))
      (first | (refine ⟨?_, ?_⟩ <;> assumption) | go_keep)
      (first
        | (go_at_call 95; ((with_reducible refine HR2.out.mono ?_); rintro e w3 ⟨rfl, rfl⟩)))
    have h2 := HB2.out.below (Below.refl _ w2).drew
    obtain ⟨v, hraw⟩ := (h2.sw0.sw1).ref2
    obtain ⟨g, cap, rfl, hcap, y0, y1, hgl⟩ := hraw.at HIx.out
    have yc := hraw.c0
    have H2 := Lib.hid (((h2.sw0.sw1).rq_shut.sw0.sw1).out1)
    clear h2 hraw
    go_wp2_with fail
    go_ret
    exact ⟨rfl, H2.out⟩
/-- what Due leaves and answers, whatever the time -/
def dueT (S : List (It Int)) (now t : Int) : List (It Int) := if dueE now t = 0 then upto S t else []
def dueL (S : List (It Int)) (now t : Int) : List (It Int) := if dueE now t = 0 then late S t else S
def dueN (now t : Int) : Int := if dueE now t = 0 then t else now
def dueW (S : List (It Int)) (now worst t : Int) : Int := if dueE now t = 0 then worstS worst t (upto S t) else worst
theorem T_due_any (h : On w0 w (sep (tqA tb most S now worst) R)) (hs : Sorted ltI S) (hT : Timed S) (hl : S.length < 700000) (hR : Tame R) (t : Int) :
    Calls Try.prog 45 #[.pointer (some ⟨tb, 0, none⟩), .int .i64 t] w fun e w' => ∃ v, e = .returned (.tuple #[v, .int .i64 (dueE now t)]) ∧ On w0 w' (sep (firedA v t (dueT S now t)) (sep (tqA tb most (dueL S now t) (dueN now t) (dueW S now worst t)) R)) := by
  by_cases hd : dueE now t = 0
  · unfold dueT dueL dueN dueW
    simp only [if_pos hd]
    rw [hd]
    exact T_due h hs hT hl hR t hd
  · unfold dueT dueL dueN dueW
    simp only [if_neg hd]
    exact (T_due_not h t hd).mono fun e w' ⟨he, h1⟩ => ⟨_, he, h1.add (Below.refl _ _) (firedA_nil _ t) (fun _ h => h.elim)⟩
theorem RT_due_any (h : On w0 w (sep (rqA rb most S now worst) R)) (hdi : S.Pairwise fun a b => a.1 ≠ b.1) (hT : Timed S) (hl : S.length < 700000) (t : Int) :
    Calls Try.prog 107 #[.pointer (some ⟨rb, 0, none⟩), .int .i64 t] w fun e w' => ∃ v, e = .returned (.tuple #[v, .int .i64 (dueE now t)]) ∧ On w0 w' (sep (keysA v (dueT S now t)) (sep (rqA rb most (dueL S now t) (dueN now t) (dueW S now worst t)) R)) := by
  by_cases hd : dueE now t = 0
  · unfold dueT dueL dueN dueW
    simp only [if_pos hd]
    rw [hd]
    exact RT_due h hdi hT hl t hd
  · unfold dueT dueL dueN dueW
    simp only [if_neg hd]
    exact (RT_due_not h t hd).mono fun e w' ⟨he, h1⟩ => ⟨_, he, h1.add (Below.refl _ _) (keysA_nil _) (fun _ h => h.elim)⟩
theorem neq64 (p q r p' q' r' : Int) (w : World) : (binOp BinOp.neq 64 (.agg #[.int .i64 p, .int .i64 q, .int .i64 r]) (.agg #[.int .i64 p', .int .i64 q', .int .i64 r'])).run Try.prog w = .ok (.bool (!decide (p = p' ∧ q = q' ∧ r = r'))) w := by
  go_simp
  by_cases h1 : p = p' <;> by_cases h2 : q = q' <;> by_cases h3 : r = r' <;> simp [h1, h2, h3]
theorem On.fired_at {a : Option Addr} {n c k : Nat} {t : Int} {T : List (It Int)} {x : It Int} (h : On w0 w (sep (firedA (.slice a n c) t T) R)) (hx : T[k]? = some x) :
    ∃ b off, a = some ⟨b, off, none⟩ ∧ w.cell? ⟨b, off + k * 3, none⟩ = some (.int .i64 x.1) ∧ w.cell? ⟨b, off + k * 3 + 1, none⟩ = some (.int .i64 x.2) ∧ w.cell? ⟨b, off + k * 3 + 2, none⟩ = some (.int .i64 (t - x.2)) := by
  have hk := (List.getElem?_eq_some_iff.1 hx).1
  obtain ⟨b, off, h1, _, h2⟩ := h.fired_get.resolve_left (by omega)
  exact ⟨b, off, h1, h2 k x hx⟩
theorem On.key_at {a : Option Addr} {n c k : Nat} {T : List (It Int)} {x : It Int} (h : On w0 w (sep (keysA (.slice a n c) T) R)) (hx : T[k]? = some x) :
    ∃ b off, a = some ⟨b, off, none⟩ ∧ w.cell? ⟨b, off + k * 2, none⟩ = some (.int .i64 x.2) ∧ w.cell? ⟨b, off + k * 2 + 1, none⟩ = some (.int .i64 x.1) := by
  have hk := (List.getElem?_eq_some_iff.1 hx).1
  obtain ⟨_, _, he, hka⟩ := h.keys1
  injection he with he1 he2 he3
  subst he1
  obtain ⟨b, off, h1, _, h2⟩ := keysAt_get hka (n := T.length) (by omega) (by simp [kv])
  obtain ⟨g0, g1⟩ := h2 k hk
  rw [kv, List.getElem?_map, hx] at g0 g1
  exact ⟨b, off, h1, g0, g1⟩
set_option maxRecDepth 100000 in
set_option maxHeartbeats 4000000 in
theorem does5_due (h : On w0 w (sep (tqA tb most S now worst) (sep (rqA rb most S now worst) R))) (hs : Sorted ltI S) (hT : Timed S) (hl : S.length < 700000) (hR : Tame R) :
    Calls Try.prog 52 #[.pointer (some ⟨tb, 0, none⟩), .pointer (some ⟨rb, 0, none⟩), .agg #[.int .i64 2, .int .i64 id, .int .i64 at']] w fun e w' => e = .returned (.bool true) ∧
      On w0 w' (sep (tqA tb most (dueL S now at') (dueN now at') (dueW S now worst at')) (sep (rqA rb most (dueL S now at') (dueN now at') (dueW S now worst at')) R)) := by
  have hdist := h.tq_distinct
  obtain ⟨w1, hw1⟩ : ∃ w1, w.alloc (.cells #[.int .i64 2, .int .i64 id, .int .i64 at'] 77) = w1 := ⟨_, rfl⟩
  obtain ⟨b, hb'⟩ : ∃ b, w.heap.size = b := ⟨_, rfl⟩
  have h1 := h.new1 77 #[.int .i64 2, .int .i64 id, .int .i64 at']
  rw [hw1, hb'] at h1
  have c00 := (h1).bx 0 rfl
  have c01 := (h1).bx 1 rfl
  have c02 := (h1).bx 2 rfl
  have HA := Lib.hid (T_due_any (h1.sw0) hs hT hl ((Plain.box _ _ _).sepT ((Plain.rq _ _ _ _ _).sepT hR)) at')
  have HB := Lib.hid (fun (A : World) (R' : Ast) (hA : On w0 A (sep (rqA rb most S now worst) R')) => RT_due_any hA hdist hT hl at')
  obtain ⟨T, hTT⟩ : ∃ T, dueT S now at' = T := ⟨_, rfl⟩
  obtain ⟨L, hL⟩ : ∃ T, dueL S now at' = T := ⟨_, rfl⟩
  obtain ⟨N, hN⟩ : ∃ T, dueN now at' = T := ⟨_, rfl⟩
  obtain ⟨W, hW⟩ : ∃ T, dueW S now worst at' = T := ⟨_, rfl⟩
  obtain ⟨E, hE⟩ : ∃ T, dueE now at' = T := ⟨_, rfl⟩
  have hwrap : ∀ x ∈ T, IntKind.i64.wrap (at' - x.2) = at' - x.2 := by
    intro x hx
    rw [← hTT] at hx
    unfold dueT at hx
    split at hx
    · rename_i hd
      have h1 := timeE_ok (hT x ((upto_pre S at').subset hx))
      have h2 : timeE at' = 0 := by
        unfold dueE at hd
        split at hd
        · assumption
        · exact hd
      have h2 := timeE_ok h2
      exact IntWalk.i64_in _ (by omega)
    · cases hx
  have hTl : T.length < 700000 := by
    rw [← hTT]
    unfold dueT
    split
    · have := (upto_pre S at').length_le; omega
    · simp
  rw [hTT, hL, hN, hW, hE] at HA HB
  rw [hL, hN, hW]
  have g0 : (E != E) = false := by simp
  have HWr := Lib.hid hwrap
  clear h h1 hTT hL hN hW hE hdist hs hT hwrap
  go_enter Try.func52, Try.ntmps52
  go_wp2_with fail
  refine HA.out.mono ?_
  rintro e A1 ⟨v, rfl, h2⟩
  obtain ⟨fa, fc, rfl, hfc, _⟩ := h2.fired1
  have d20 := (h2.sw1.sw0).bx 0 rfl
  have d21 := (h2.sw1.sw0).bx 1 rfl
  have d22 := (h2.sw1.sw0).bx 2 rfl
  have HB1 := Lib.hid (HB.out A1 _ (h2.sw2.sw1.sw0))
  clear h2
  go_wp2_with fail
  refine HB1.out.mono ?_
  rintro e A2 ⟨v, rfl, h3⟩
  obtain ⟨ka, kc, rfl, _⟩ := h3.keys1
  obtain ⟨m, hm⟩ : ∃ m, T.length = m := ⟨_, rfl⟩
  rw [hm] at h3 hTl ⊢
  have e40 := (h3.sw3.sw2.sw1.sw0).bx 0 rfl
  have e41 := (h3.sw3.sw2.sw1.sw0).bx 1 rfl
  have e42 := (h3.sw3.sw2.sw1.sw0).bx 2 rfl
  have HM := Lib.hid hm
  have H3 := Lib.hid h3
  clear h3 hm
  go_wp2_with fail
  go_loopg [13] m (fun gh s13 wr => ∃ i : Nat, i + gh = m ∧ s13 = .int .i64 (i : Int) ∧ On w0 wr (sep (keysA (.slice ka m kc) T) (sep (rqA rb most L N W) (sep (firedA (.slice fa m fc) at' T) (sep (tqA tb most L N W) (sep (boxA b 77 #[.int .i64 2, .int .i64 id, .int .i64 at']) R))))))
  case atStart => exact ⟨0, by omega, rfl, H3.out⟩
  case round =>
    obtain ⟨i, hi, rfl, hon⟩ := hrel
    by_cases hlt : i < m
    · have hltI : (i : Int) < (m : Int) := by omega
      have hi0 : (0 : Int) ≤ (i : Int) := by omega
      obtain ⟨x, hx⟩ : ∃ x, T[i]? = some x := ⟨_, List.getElem?_eq_getElem (by rw [HM.out]; exact hlt)⟩
      have hond := hon.below (Below.refl _ wr).drew
      obtain ⟨b1, off1, rfl, f0, f1, f2⟩ := (hond.sw1.sw0).fired_at hx
      obtain ⟨b2, off2, rfl, k0, k1⟩ := hond.key_at hx
      have o42 := (hond.sw3.sw2.sw1.sw0).bx 2 rfl
      have hw2 := HWr.out x (List.mem_of_getElem? hx)
      have hq : ∀ w, (binOp BinOp.neq 64 (.agg #[.int .i64 x.1, .int .i64 x.2, .int .i64 (at' - x.2)]) (.agg #[.int .i64 x.1, .int .i64 x.2, .int .i64 (at' - x.2)])).run Try.prog w = .ok (.bool false) w := fun w => by rw [neq64]; simp
      have HOn := Lib.hid hon
      clear hon hond hx
      go_wp2_with fail
      refine wp_region_loose (fun A => A = wr.drew) (by kernel_rfl) (by kernel_rfl) rfl ?_
      iterate 24 (first
        | (refine loose_skip (by rfl) ?_; simp only [Act.put, List.setIfInBounds_toArray, List.set_cons_zero, List.set_cons_succ])
        | (refine loose_val (v := ?_) (by rfl) ?_ ?_; rotate_left; (focus (intro A' hA'; subst hA'; go_simp; first | done | with_reducible rfl)); simp only [Act.put, List.setIfInBounds_toArray, List.set_cons_zero, List.set_cons_succ]))
      refine loose_nil ?_
      intro A3 hA3
      subst hA3
      go_wp2_with fail
      go_roundg (m - (i + 1))
      case measure => omega
      case rel => exact ⟨i + 1, by omega, by go_num, HOn.out.below (Below.refl _ wr).drew⟩
    · have him : i = m := by omega
      subst him
      have H9 := Lib.hid ((hon.sw1.sw3.sw2.sw3).out1.out1.out1)
      clear hon
      go_wp2_with fail
      go_ret
      exact ⟨rfl, H9.out⟩
end
end Go.Proofs.Ytkjpkhpiojahkaa
