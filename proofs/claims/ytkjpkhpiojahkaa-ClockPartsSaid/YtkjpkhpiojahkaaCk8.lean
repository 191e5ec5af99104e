/-
  Clock: the chapter's example.
-/
import Derived.Test.YtkjpkhpiojahkaaCk7
namespace Go.Proofs.Ytkjpkhpiojahkaa
set_option linter.unusedVariables false
open Go.RowKit Hp
attribute [local go_sem] Oper.semAt_some
theorem eql109 (p q r s t p' q' r' s' t' : Int) (w : World) : (binOp BinOp.eql 109 (.agg #[.int .i64 p, .int .i64 q, .int .i64 r, .int .i64 s, .int .i64 t]) (.agg #[.int .i64 p', .int .i64 q', .int .i64 r', .int .i64 s', .int .i64 t'])).run Try.prog w = .ok (.bool (decide (p = p' ∧ q = q' ∧ r = r' ∧ s = s' ∧ t = t'))) w := by
  go_simp
  by_cases h1 : p = p' <;> by_cases h2 : q = q' <;> by_cases h3 : r = r' <;> by_cases h4 : s = s' <;> by_cases h5 : t = t' <;> simp [h1, h2, h3, h4, h5]
theorem On.set_same {w0 w : World} {R : Ast} {b t : Nat} {cs : Array Value} (h : On w0 w (sep (boxA b t cs) R)) (k : Nat) {v : Value} (e : nthV cs.toList k = some v) : w.setCell ⟨b, k, none⟩ v = w := by
  have h1 := h.obj1
  have h2 : cs[k]? = some v := by rw [← e, nthV_eq, Array.getElem?_toList]
  have hb := lt_of_some h1
  have h3 : w.heap.modify b (fun
      | .cells c elem frozen => .cells (if (none : Option Nat).isSome then c else c.setIfInBounds k v) elem frozen
      | o => o) = w.heap := by
    apply Array.ext_getElem?
    intro i
    rw [Array.getElem?_modify]
    split
    · rename_i hi
      subst hi
      rw [h1]
      show some (Obj.cells (cs.setIfInBounds k v) t (0, 0)) = _
      have : cs.setIfInBounds k v = cs := by
        apply Array.ext_getElem?
        intro j
        rw [Array.getElem?_setIfInBounds]
        split
        · rename_i hj
          subst hj
          split
          · exact h2.symm
          · rename_i hlt
            rw [Array.getElem?_eq_none (by omega)]
        · rfl
      rw [this]
    · rfl
  cases w
  simp only [World.setCell] at *
  congr 1
def kx1 : Ck := Ck.new.lateC [3]
def kx2 : Ck := kx1.set 1 5 10
def kx3 : Ck := kx2.set 0 5 12
def kx4 : Ck := kx3.step 20
def kx5 : Ck := kx4.step 20
def kx6 : Ck := kx5.step 20
theorem kx1_ok : CkOk kx1 := CkOk.new.lateC
theorem kx2_ok : CkOk kx2 := kx1_ok.set
theorem kx3_ok : CkOk kx3 := kx2_ok.set
theorem kx4_ok : CkOk kx4 := kx3_ok.step
theorem kx5_ok : CkOk kx5 := kx4_ok.step
theorem kx6_ok : CkOk kx6 := kx5_ok.step
theorem kx_e1 : lateE [3] = 0 := by kernel_rfl
theorem kx_e2 : kx1.setE 1 5 10 = 0 := by kernel_rfl
theorem kx_e3 : kx2.setE 0 5 12 = 0 := by kernel_rfl
theorem kx_e4 : kx3.stepV 20 = some ⟨0, 5, 12, 0, 12⟩ := by kernel_rfl
theorem kx_e5 : kx4.stepV 20 = some ⟨1, 5, 10, 3, 13⟩ := by kernel_rfl
theorem kx_e6 : kx5.stepV 20 = none := by kernel_rfl
theorem kx_e7 : kx6.now = 20 := by kernel_rfl
theorem kx_s4 : kx3.stepE 20 = 0 := by kernel_rfl
theorem kx_s5 : kx4.stepE 20 = 0 := by kernel_rfl
theorem kx_s6 : kx5.stepE 20 = 0 := by kernel_rfl
theorem kx_l1 : kx1.lates.length = 1 := by kernel_rfl
theorem kx_l2 : kx2.lates.length = 0 := by kernel_rfl
set_option maxRecDepth 100000 in
set_option maxHeartbeats 4000000 in
theorem kawake_ok (w : World) : Calls Try.prog 73 #[] w fun e w' => e = .returned (.bool true) ∧ Below w.heap.size w w' := by
  have H0 := Lib.hid (K_new (On.emp w))
  go_enter Try.func73, Try.ntmps73
  go_wp2_with fail
  refine H0.out.mono ?_
  rintro e w1 ⟨cb, rfl, h1⟩
  obtain ⟨ba, hba⟩ : ∃ b, w1.heap.size = b := ⟨_, rfl⟩
  obtain ⟨W1, hW1⟩ : ∃ x, w1.alloc (.cells #[.int .i64 3] 3) = x := ⟨_, rfl⟩
  have h2 := h1.new1 3 #[.int .i64 3]
  rw [hW1, hba] at h2
  have a1 : Calls Try.prog 74 #[.pointer (some ⟨cb, 0, none⟩), .slice (some ⟨ba, 0, none⟩) 1 1] W1 fun e w' => e = .returned (.int .i64 0) ∧ On w w' (sep (ckA cb kx1) (sep (boxA ba 3 #[.int .i64 3]) emp)) := by
    have := K_late h2.sw0 CkOk.new (some ⟨ba, 0, none⟩) 1 [3] (fun A hA k hk => ⟨ba, 0, rfl, (by obtain ⟨F, hF, _⟩ := hA.get1; exact lt_of_some hF.1), by
      have hk0 : k = 0 := by simp at hk; omega
      subst hk0
      exact hA.bx 0 rfl⟩) (by decide)
    rw [kx_e1] at this
    exact this
  have HA1 := Lib.hid a1
  clear h1 h2 a1
  go_wp2_with fail
  refine HA1.out.mono ?_
  rintro e w2 ⟨rfl, h2⟩
  have a2 : Calls Try.prog 75 #[.pointer (some ⟨cb, 0, none⟩), .int .i64 1, .int .i64 5, .int .i64 10] w2 fun e w' => e = .returned (.int .i64 0) ∧ On w w' (sep (ckA cb kx2) (sep (boxA ba 3 #[.int .i64 3]) emp)) := by
    have := K_set h2 kx1_ok (by rw [kx_l1]; decide) 1 5 10
    rw [kx_e2] at this
    exact this
  have HA2 := Lib.hid a2
  clear h2 a2
  go_wp2_with fail
  refine HA2.out.mono ?_
  rintro e w3 ⟨rfl, h3⟩
  have a3 : Calls Try.prog 75 #[.pointer (some ⟨cb, 0, none⟩), .int .i64 0, .int .i64 5, .int .i64 12] w3 fun e w' => e = .returned (.int .i64 0) ∧ On w w' (sep (ckA cb kx3) (sep (boxA ba 3 #[.int .i64 3]) emp)) := by
    have := K_set h3 kx2_ok (by rw [kx_l2]; decide) 0 5 12
    rw [kx_e3] at this
    exact this
  have HA3 := Lib.hid a3
  clear h3 a3
  go_wp2_with fail
  refine HA3.out.mono ?_
  rintro e w4 ⟨rfl, h4⟩
  have a4 : Calls Try.prog 87 #[.pointer (some ⟨cb, 0, none⟩), .int .i64 20] w4 fun e w' => e = .returned (.tuple #[.agg #[.int .i64 0, .int .i64 5, .int .i64 12, .int .i64 0, .int .i64 12], .bool true, .int .i64 0]) ∧ On w w' (sep (ckA cb kx4) (sep (boxA ba 3 #[.int .i64 3]) emp)) := by
    have := K_step ((Plain.box _ _ _).sepT Plain.emp.tame) h4 kx3_ok 20
    rw [kx_e4, kx_s4] at this
    exact this
  have HA4 := Lib.hid a4
  clear h4 a4
  go_wp2_with fail
  refine HA4.out.mono ?_
  rintro e w5 ⟨rfl, h5⟩
  obtain ⟨b5, hb5⟩ : ∃ b, w5.heap.size = b := ⟨_, rfl⟩
  obtain ⟨W5, hW5⟩ : ∃ x, w5.alloc (.cells #[.int .i64 0, .int .i64 5, .int .i64 12, .int .i64 0, .int .i64 12] 109) = x := ⟨_, rfl⟩
  have h6 := h5.new1 109 #[.int .i64 0, .int .i64 5, .int .i64 12, .int .i64 0, .int .i64 12]
  rw [hW5, hb5] at h6
  have a5 : Calls Try.prog 87 #[.pointer (some ⟨cb, 0, none⟩), .int .i64 20] W5 fun e w' => e = .returned (.tuple #[.agg #[.int .i64 1, .int .i64 5, .int .i64 10, .int .i64 3, .int .i64 13], .bool true, .int .i64 0]) ∧ On w w' (sep (ckA cb kx5) (sep (boxA b5 109 #[.int .i64 0, .int .i64 5, .int .i64 12, .int .i64 0, .int .i64 12]) (sep (boxA ba 3 #[.int .i64 3]) emp))) := by
    have := K_step ((Plain.box _ _ _).sepT ((Plain.box _ _ _).sepT Plain.emp.tame)) h6.sw0 kx4_ok 20
    rw [kx_e5, kx_s5] at this
    exact this
  have HA5 := Lib.hid a5
  clear h5 h6 a5
  go_wp2_with fail
  refine HA5.out.mono ?_
  rintro e w6 ⟨rfl, h7⟩
  obtain ⟨b6, hb6⟩ : ∃ b, w6.heap.size = b := ⟨_, rfl⟩
  obtain ⟨W6, hW6⟩ : ∃ x, w6.alloc (.cells #[.int .i64 1, .int .i64 5, .int .i64 10, .int .i64 3, .int .i64 13] 109) = x := ⟨_, rfl⟩
  have h8 := h7.new1 109 #[.int .i64 1, .int .i64 5, .int .i64 10, .int .i64 3, .int .i64 13]
  rw [hW6, hb6] at h8
  have a6 : Calls Try.prog 87 #[.pointer (some ⟨cb, 0, none⟩), .int .i64 20] W6 fun e w' => e = .returned (.tuple #[.agg #[.int .i64 0, .int .i64 0, .int .i64 0, .int .i64 0, .int .i64 0], .bool false, .int .i64 0]) ∧ On w w' (sep (ckA cb kx6) (sep (boxA b6 109 #[.int .i64 1, .int .i64 5, .int .i64 10, .int .i64 3, .int .i64 13]) (sep (boxA b5 109 #[.int .i64 0, .int .i64 5, .int .i64 12, .int .i64 0, .int .i64 12]) (sep (boxA ba 3 #[.int .i64 3]) emp)))) := by
    have := K_step ((Plain.box _ _ _).sepT ((Plain.box _ _ _).sepT ((Plain.box _ _ _).sepT Plain.emp.tame))) h8.sw0 kx5_ok 20
    rw [kx_e6, kx_s6] at this
    exact this
  have HA6 := Lib.hid a6
  clear h7 h8 a6
  go_wp2_with fail
  refine HA6.out.mono ?_
  rintro e w7 ⟨rfl, h9⟩
  obtain ⟨W7, hW7⟩ : ∃ x, w7.alloc (.cells #[.int .i64 0, .int .i64 0, .int .i64 0, .int .i64 0, .int .i64 0] 109) = x := ⟨_, rfl⟩
  obtain ⟨b7, hb7⟩ : ∃ b, w7.heap.size = b := ⟨_, rfl⟩
  have h10 := h9.new1 109 #[.int .i64 0, .int .i64 0, .int .i64 0, .int .i64 0, .int .i64 0]
  rw [hW7, hb7] at h10
  clear h9
  have j00 := (h10).bx 0 rfl
  have j00f := ((h10).box1 0).2
  have j01 := (h10).bx 1 rfl
  have j01f := ((h10).box1 1).2
  have j02 := (h10).bx 2 rfl
  have j02f := ((h10).box1 2).2
  have j03 := (h10).bx 3 rfl
  have j03f := ((h10).box1 3).2
  have j04 := (h10).bx 4 rfl
  have j04f := ((h10).box1 4).2
  have s0 := h10.set_same 0 rfl
  have s1 := h10.set_same 1 rfl
  have s2 := h10.set_same 2 rfl
  have s3 := h10.set_same 3 rfl
  have s4 := h10.set_same 4 rfl
  have h9 := h10.out1
  clear h10
  have k10 := (h9.sw0).bx 0 rfl
  have k11 := (h9.sw0).bx 1 rfl
  have k12 := (h9.sw0).bx 2 rfl
  have k13 := (h9.sw0).bx 3 rfl
  have k14 := (h9.sw0).bx 4 rfl
  have k20 := (h9.sw1.sw0).bx 0 rfl
  have k21 := (h9.sw1.sw0).bx 1 rfl
  have k22 := (h9.sw1.sw0).bx 2 rfl
  have k23 := (h9.sw1.sw0).bx 3 rfl
  have k24 := (h9.sw1.sw0).bx 4 rfl
  have hnow : Calls Try.prog 78 #[.pointer (some ⟨cb, 0, none⟩)] W7 fun e w' => e = .returned (.int .i64 20) ∧ W7 = w' := by
    have := K_now h9 kx6_ok
    rw [kx_e7] at this
    exact this
  have HNo := Lib.hid hnow
  have HB := Lib.hid h9.to_below
  have hq1 : ∀ w, (binOp BinOp.eql 109 (.agg #[.int .i64 0, .int .i64 5, .int .i64 12, .int .i64 0, .int .i64 12]) (.agg #[.int .i64 0, .int .i64 5, .int .i64 12, .int .i64 0, .int .i64 12])).run Try.prog w = .ok (.bool true) w := fun w => by rw [eql109]; rfl
  have hq2 : ∀ w, (binOp BinOp.eql 109 (.agg #[.int .i64 1, .int .i64 5, .int .i64 10, .int .i64 3, .int .i64 13]) (.agg #[.int .i64 1, .int .i64 5, .int .i64 10, .int .i64 3, .int .i64 13])).run Try.prog w = .ok (.bool true) w := fun w => by rw [eql109]; rfl
  clear h9 hnow
  go_wp2_with fail
  refine HNo.out.mono ?_
  rintro e w8 ⟨rfl, rfl⟩
  go_wp2_with fail
  go_ret
  exact ⟨rfl, HB.out⟩
end Go.Proofs.Ytkjpkhpiojahkaa
