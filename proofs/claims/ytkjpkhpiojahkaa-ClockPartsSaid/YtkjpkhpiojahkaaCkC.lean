/-
  Clock: Copy.
-/
import Derived.Test.YtkjpkhpiojahkaaRkA
import Derived.Test.YtkjpkhpiojahkaaBld
import Derived.Deep.MidRow
namespace Go.Proofs.Ytkjpkhpiojahkaa
set_option linter.unusedVariables false
open Go.RowKit Hp
attribute [local go_sem] Oper.semAt_some
section
variable {w0 w : World} {R : Ast} {cb : Nat} {c : Ck}
set_option maxRecDepth 100000 in
set_option maxHeartbeats 4000000 in
theorem clone_lat {v : Value} {zs : List Int} (h : On w0 w (sep (latA v zs) R)) (hl : zs.length < 1000000) :
    Calls Try.prog 128 #[v] w fun e w' => ∃ v', e = .returned v' ∧ On w0 w' (sep (latA v' zs) (sep (latA v zs) R)) := by
  obtain ⟨F, hF, _⟩ := h.get1
  rcases hF with ⟨rfl, rfl, _⟩ | ⟨g, off, cap, cur, rfl, _, _⟩
  · have H := Lib.hid h.lat_nil
    have hq : ∀ w, (binOp .eql 54 (.slice none 0 0) (.slice none 0 0)).run Try.prog w = .ok (.bool true) w := fun w => by kernel_rfl
    clear h
    go_enter Try.func128, Try.ntmps128
    go_wp2_with fail
    go_ret
    exact ⟨_, rfl, H.out⟩
  · exact clone_ok h ⟨g, off, none⟩ zs.length cap zs (fun A hA => by
      obtain ⟨_, _, he, hi⟩ := hA.lat_read
      cases he
      exact reads_intsAt hi rfl) hl
theorem ck_range {tb : Nat} {ats : List Int} {v : Value} {now worst : Int} {t : Nat} (h : On w0 w (sep (boxA cb t (ckCells tb ats v now worst)) R)) : w.rangeAt cb 1 (intL ats) := fun j u hu => by
  obtain ⟨x, hx, rfl⟩ := intL_getO hu
  exact h.bxg (ck_at hx)
set_option maxRecDepth 100000 in
set_option maxHeartbeats 8000000 in
theorem K_copy (h : On w0 w (sep (ckA cb c) R)) (ho : CkOk c) (hl : c.lates.length < 1000000) :
    Calls Try.prog 83 #[.pointer (some ⟨cb, 0, none⟩)] w fun e w' => ∃ nb, e = .returned (.pointer (some ⟨nb, 0, none⟩)) ∧ On w0 w' (sep (ckA nb c) (sep (ckA cb c) R)) := by
  obtain ⟨tb, v, h1⟩ := h.ck_open
  have hd := h1.below (Below.refl _ w).drew
  have HS : w.drew.cell? ⟨cb, 0, none⟩ = some (.pointer (some ⟨tb, 0, none⟩)) ∧ w.drew.rangeAt cb 1 (intL c.ats) ∧ w.drew.cell? ⟨cb, 513, none⟩ = some v ∧ w.drew.cell? ⟨cb, 514, none⟩ = some (.int .i64 c.now) ∧ w.drew.cell? ⟨cb, 515, none⟩ = some (.int .i64 c.worst) :=
    ⟨hd.bxg ck_q, ck_range hd, hd.bxg (ck_lates ho.len), hd.bxg (ck_now ho.len), hd.bxg (ck_worst ho.len)⟩
  obtain ⟨s1, s2, s3, s4, s5⟩ := HS
  have hu170 : Try.prog.underlying 170 = some (.array 512 3) := by kernel_rfl
  have hi170 : (Try.prog.info? 170).map (·.size) = some (intL c.ats).length := by rw [ints_len, ho.len]; kernel_rfl
  have hb1 : (intL c.ats).length = 512 := by rw [ints_len]; exact ho.len
  have hb2 := fun (nq : Nat) => bld_size nq c.ats
  have hb3 := fun (nq : Nat) (q : Option Addr) (n cc : Nat) => bld_key nq q n cc c.ats c.now c.worst ho.len
  have HCo := Lib.hid (T_copy (hd.sw0) (by have := ho.few; omega))
  have HCl := Lib.hid (fun (A : World) (X : Ast) (hA : On w0 A (sep (latA v c.lates) X)) => clone_lat hA hl)
  have HO := Lib.hid ho
  clear h h1 hd ho
  go_enter Try.func83, Try.ntmps83
  go_wp2_with fail
  go_region_held3 (fun A0 => A0.cell? ⟨cb, 0, none⟩ = some (.pointer (some ⟨tb, 0, none⟩)) ∧ A0.rangeAt cb 1 (intL c.ats) ∧ A0.cell? ⟨cb, 513, none⟩ = some v ∧ A0.cell? ⟨cb, 514, none⟩ = some (.int .i64 c.now) ∧ A0.cell? ⟨cb, 515, none⟩ = some (.int .i64 c.worst))
    (first | (refine ⟨?_, ?_, ?_, ?_, ?_⟩ <;> assumption) | go_keep)
    (first
      | (go_at_call 54; ((with_reducible refine HCo.out.mono ?_); rintro e A1 ⟨nq, rfl, h2⟩; (have t1 := (h2.sw1.sw0).bxg ck_q); (have t2 := ck_range (h2.sw1.sw0)); (have t3 := (h2.sw1.sw0).bxg (ck_lates HO.out.len)); (have t4 := (h2.sw1.sw0).bxg (ck_now HO.out.len)); (have t5 := (h2.sw1.sw0).bxg (ck_worst HO.out.len)); (have HC1 := Lib.hid (HCl.out A1 _ (h2.sw2.sw1.sw0))); clear h2)) 
      | (go_at_call 128; ((with_reducible refine HC1.out.mono ?_); rintro e A2 ⟨nv, rfl, h3⟩; (obtain ⟨qa, qc, rfl, _⟩ := h3.lat_read); (obtain ⟨W9, hW9⟩ : ∃ x, A2.alloc (.cells (ckCells nq c.ats (.slice qa c.lates.length qc) c.now c.worst) 172) = x := ⟨_, rfl⟩); (have h4 := h3.new1 172 (ckCells nq c.ats (.slice qa c.lates.length qc) c.now c.worst)); rw [hW9] at h4; (have x1 := (h4.sw4.sw3.sw2.sw1.sw0).bxg ck_q); (have x2 := ck_range (h4.sw4.sw3.sw2.sw1.sw0)); (have x3 := (h4.sw4.sw3.sw2.sw1.sw0).bxg (ck_lates HO.out.len)); (have x4 := (h4.sw4.sw3.sw2.sw1.sw0).bxg (ck_now HO.out.len)); (have x5 := (h4.sw4.sw3.sw2.sw1.sw0).bxg (ck_worst HO.out.len)); (have H4 := Lib.hid h4); clear h4; (have u1 := (h3.sw3.sw2.sw1.sw0).bxg ck_q); (have u2 := ck_range (h3.sw3.sw2.sw1.sw0)); (have u3 := (h3.sw3.sw2.sw1.sw0).bxg (ck_lates HO.out.len)); (have u4 := (h3.sw3.sw2.sw1.sw0).bxg (ck_now HO.out.len)); (have u5 := (h3.sw3.sw2.sw1.sw0).bxg (ck_worst HO.out.len)); (have H3 := Lib.hid h3); clear h3)))
  have h5 := On.ck_shut (c := c) (H4.out.sw2.sw1.sw4.sw3.sw4)
  have H6 := Lib.hid (On.ck_shut (c := c) (h5.sw0.sw1.sw2)).sw0
  clear h5
  go_wp2_with fail
  go_ret
  exact ⟨_, rfl, H6.out⟩
end
end Go.Proofs.Ytkjpkhpiojahkaa
