/-
  Clock: Len.
-/
import Derived.Test.YtkjpkhpiojahkaaCk4
import Derived.Test.YtkjpkhpiojahkaaRng2
namespace Go.Proofs.Ytkjpkhpiojahkaa
set_option linter.unusedVariables false
open Go.RowKit Hp
attribute [local go_sem] Oper.semAt_some
section
variable {w0 w : World} {R : Ast} {cb : Nat} {c : Ck}
set_option maxRecDepth 100000 in
set_option maxHeartbeats 4000000 in
theorem K_len (hT : Tame R) (h : On w0 w (sep (ckA cb c) R)) (ho : CkOk c) :
    Calls Try.prog 76 #[.pointer (some ⟨cb, 0, none⟩)] w fun e w' => e = .returned (.int .i64 (c.S.length : Int)) ∧ On w0 w' (sep (ckA cb c) R) := by
  obtain ⟨tb, v, h1⟩ := h.ck_open
  obtain ⟨bn, hbn⟩ : ∃ b, w.heap.size = b := ⟨_, rfl⟩
  obtain ⟨W, hW⟩ : ∃ x, w.alloc (.cells #[.int .i64 0] 3) = x := ⟨_, rfl⟩
  have h2 := h1.new1 3 #[.int .i64 0]
  rw [hW, hbn] at h2
  have b0 := h2.bx 0 rfl
  have b0f := (h2.box1 0).2
  obtain ⟨W1, hW1⟩ : ∃ x, W.setCell ⟨bn, 0, none⟩ (.int .i64 0) = x := ⟨_, rfl⟩
  have h3 := h2.box_set 0 (.int .i64 0)
  rw [hW1] at h3
  have c0 := h3.sw0.bxg ck_q
  have HAr := Lib.hid (T_armed (h3.sw1.sw0) ho.sorted (by have := ho.few; omega))
  have HT := Lib.hid hT
  have HOk := Lib.hid ho
  obtain ⟨S, hS⟩ : ∃ S, c.S = S := ⟨_, rfl⟩
  have HS := Lib.hid hS
  rw [hS] at HAr ⊢
  clear h h1 h2 h3 hT ho hS
  refine (callsIn_wide (n := 9)).1 ?_
  refine callsIn_of_wp_marks Try.func76 rfl trivial ?_ rfl
  simp only [Try.ntmps76, List.size_toArray, List.length_cons, List.length_nil, Nat.reduceAdd, Nat.reduceSub, Array.replicate_succ, Array.replicate_zero, List.push_toArray, List.append_toArray, List.nil_append, List.cons_append]
  gi_wp2_with fail
  clear hW hW1 b0 b0f
  refine ⟨trivial, ?_⟩
  refine (callsIn_wide.2 HAr.out).mono ?_
  rintro e w3 ⟨ba, rfl, h4⟩
  have hq : ∀ w, (binOp BinOp.eql 84 (.func (.func 109) #[] #[.pointer (some ⟨ba, 0, none⟩)]) .nilFunc).run Try.prog w = .ok (.bool false) w := fun w => by kernel_rfl
  have h5 := (h4.sw1)
  have hRF := HT.out.at h5.out1.out1.out1.out1.out1
  have H5 := Lib.hid h5
  clear h4 h5
  gi_wp2_with fail
  refine wpIn_range_onF rfl (by omega) (gf := 109) (lb := #[.pointer (some ⟨ba, 0, none⟩)]) rfl trivial (enters_of Try.func109 (by kernel_rfl) rfl)
    (Sq := armA ba S) (Plain.arm ba S) (fun pre => sep (boxA bn 3 #[.int .i64 (pre.length : Int)]) (sep (tqA tb 512 S 0 0) (sep (boxA cb 172 (ckCells tb c.ats v c.now c.worst)) (sep (latA v c.lates) R))))
    (fun _ => (Plain.box _ _ _).sepF ((Plain.tq _ _ _ _ _).sepF ((Plain.box _ _ _).sepF ((Plain.lat _ _).sepF hRF)))) (fun _ _ => prA False) (fun _ _ => (Plain.pr _).f _) H5.out (fun K hK => arm_iter _ (by rw [← HS.out]; exact HOk.out.times) (by have := HOk.out.few; rw [HS.out] at this; omega) hK) (fun _ => rfl) ?round ?done ?stop
  case round =>
    rintro K l pre ⟨x1, x2⟩ A hlA hlr hpre hon
    have hlp := hpre.length_le
    have hf := HOk.out.few
    rw [List.length_append, List.length_singleton] at hlp
    rw [HS.out] at hf
    have hn0 : (0 : Int) ≤ (pre.length : Int) := by omega
    have hn1 : (pre.length : Int) + 1 ≤ 512 := by omega
    have H8 := Lib.hid hon
    clear hon hpre hlr hlp hf
    gi_wp2_with fail
    refine ⟨_, (Plain.box _ _ _).sepF ((Plain.tq _ _ _ _ _).sepF ((Plain.box _ _ _).sepF ((Plain.lat _ _).sepF hRF))), H8.out, fun Wb _ h9 => ?_⟩
    have p0 := h9.sw0.bx 0 rfl
    have p0f := (h9.sw0.box1 0).2
    have H11 := Lib.hid (h9.sw0.box_set 0 (.int .i64 ((pre.length : Int) + 1))).sw0
    clear h9
    gi_wp2_with fail
    have e : (((pre ++ [(x1, x2)]).length : Nat) : Int) = (pre.length : Int) + 1 := by simp
    show On w0 _ (sep _ (sep (boxA bn 3 #[.int .i64 (((pre ++ [(x1, x2)]).length : Nat) : Int)]) _))
    rw [e]
    exact H11.out
  case done =>
    intro D A hD hon hKd
    have p0 := hon.sw0.bx 0 rfl
    have H12 := Lib.hid hon
    have HKd := Lib.hid hKd
    clear hon hKd
    gi_wp2_with fail
    refine fin_markF (n := w3.heap.size) (v := .int .i64 (S.length : Int)) (X := sep (boxA cb 172 (ckCells tb c.ats v c.now c.worst)) (sep (tqA tb 512 S 0 0) (sep (latA v c.lates) R))) ((Plain.box _ _ _).sepF ((Plain.tq _ _ _ _ _).sepF ((Plain.lat _ _).sepF hRF))) hD (H12.out.sw2).out1.out1 (Nat.le_trans H5.out.to_below.size hD) HKd.out fun A' h11 => ?_
    exact ⟨by simp [results, Try.f76, go_sem], rfl, On.ck_shut (by rw [HS.out]; exact h11)⟩
  case stop =>
    intro D c pre A _ _ h _
    exact (On.pr_open (p := False) (On.comm h)).1.elim
end
end Go.Proofs.Ytkjpkhpiojahkaa
