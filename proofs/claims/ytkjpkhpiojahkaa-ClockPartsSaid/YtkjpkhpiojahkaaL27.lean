/-
  Walk: ClockPlays.
-/
import Derived.Test.YtkjpkhpiojahkaaRk9
namespace Go.Proofs.Ytkjpkhpiojahkaa
set_option linter.unusedVariables false
open Go.RowKit Hp
attribute [local go_sem] Oper.semAt_some
theorem RkOk.new : RkOk Ck.new ⟨[], [], 0, 0⟩ := ⟨rfl, rfl, rfl, List.Perm.refl _, fun t h => by cases h⟩
theorem On.refk_new {w0 w : World} {R : Ast} (h : On w0 w R) : On w0 (w.alloc (.cells #[.slice none 0 0, .slice none 0 0, .int .i64 0, .int .i64 0] 116)) (sep (refK w.heap.size Ck.new) R) := by
  have h1 := (On.lat_nil h)
  have h2 := h1.add (Below.refl _ w) (tmsA_nil w) (fun _ h => h.elim)
  have h3 := h2.new1 116 #[.slice none 0 0, .slice none 0 0, .int .i64 0, .int .i64 0]
  exact On.refk_shut RkOk.new (On.rk_shut (r := ⟨[], [], 0, 0⟩) h3)
theorem stepK_lates (c : Ck) (o : Op19) : (stepK c o).lates.length ≤ c.lates.length + o.zs.length := by
  unfold stepK
  split
  · unfold Ck.set
    split
    · show c.lates.tail.length ≤ _
      rw [List.length_tail]
      omega
    · omega
  · split
    · unfold Ck.clear
      split
      · show c.lates.length ≤ _
        omega
      · omega
    · split
      · unfold Ck.lateC
        split
        · show (c.lates ++ o.zs).length ≤ _
          rw [List.length_append]
          exact Nat.le_refl _
        · omega
      · split
        · unfold Ck.step
          split
          · split
            · show c.lates.length ≤ _
              omega
            · split
              · show c.lates.length ≤ _
                omega
              · show c.lates.length ≤ _
                omega
          · omega
        · omega
set_option maxRecDepth 100000 in
set_option maxHeartbeats 8000000 in
theorem kplays_ok (a : Option Addr) (cap : Nat) (os : List Op19) (w : World) (hos : OpsAt19 w a os) (hl : os.length ≤ 9223372036854775807) :
    Calls Try.prog 21 #[.slice a os.length cap] w fun e w' => e = .returned (.bool true) ∧ Below w.heap.size w w' := by
  have HFw0 := Lib.hid (fun A (hb : Below w.heap.size w A) => few19_any hos cap A hb hl)
  obtain ⟨n, hn⟩ : ∃ n, os.length = n := ⟨_, rfl⟩
  rw [hn] at HFw0 ⊢
  have HO := Lib.hid hos
  have HN := Lib.hid hn
  have HN0 := Lib.hid (K_new (On.emp w))
  clear hos hl hn
  by_cases hfew : fewP19 os
  · have hn60 : n ≤ 60 := by rw [← HN.out]; exact hfew.2
    have HFe := Lib.hid hfew
    rw [decide_eq_true hfew] at HFw0
    clear hfew
    go_enter Try.func21, Try.ntmps21
    go_wp2_with fail
    refine HN0.out.mono ?_
    rintro e w1 ⟨cb, rfl, h1⟩
    have HFw := Lib.hid (HFw0.out w1 h1.to_below)
    obtain ⟨rb, hrb⟩ : ∃ b, w1.heap.size = b := ⟨_, rfl⟩
    obtain ⟨W1, hW1⟩ : ∃ x, w1.alloc (.cells #[.slice none 0 0, .slice none 0 0, .int .i64 0, .int .i64 0] 116) = x := ⟨_, rfl⟩
    have h2 := On.refk_new h1
    rw [hW1, hrb] at h2
    have H2 := Lib.hid h2.sw0
    clear h1 h2 HFw0
    go_wp2_with fail
    refine HFw.out.mono ?_
    rintro e w2 ⟨rfl, rfl⟩
    go_wp2_with fail
    clear hW1 hrb
    go_loopg [5] n (fun gh s5 wr => ∃ (i : Nat) (c : Ck), i + gh = n ∧ s5 = .int .i64 (i : Int) ∧ CkOk c ∧ c.lates.length ≤ 20 * i ∧ On w wr (sep (ckA cb c) (sep (refK rb c) emp)))
    case atStart => exact ⟨0, Ck.new, by omega, rfl, CkOk.new, Nat.le_refl _, H2.out⟩
    case round =>
      obtain ⟨i, c, hi, rfl, ho, hlt0, hon⟩ := hrel
      by_cases hlt : i < n
      · have hltI : (i : Int) < (n : Int) := by omega
        have hi0 : (0 : Int) ≤ (i : Int) := by omega
        obtain ⟨b, off, o, rfl, hio, q0, q1, q2, q3, q4, hg⟩ := HO.out.get hon.to_below (k := i) (by rw [HN.out]; exact hlt)
        have hz := HFe.out.1 o (List.mem_of_getElem? hio)
        have hdo := does_ok Plain.emp.tame hon ho o hg (by omega)
        have hll := stepK_lates c o
        obtain ⟨G, hG⟩ : ∃ G, stepK c o = G := ⟨_, rfl⟩
        have hoG : CkOk G := by rw [← hG]; exact ho.stepK o
        rw [hG] at hdo hll
        obtain ⟨ask, kd, id, at', la, lc, zs⟩ := o
        obtain ⟨z, hz'⟩ : ∃ z, zs.length = z := ⟨_, rfl⟩
        unfold opV at hdo
        simp only at q0 q1 q2 q3 q4 hz hll hdo
        rw [hz'] at q4 hz hll hdo
        have HDo := Lib.hid hdo
        have HSm := Lib.hid (fun (A : World) (hA : On w A (sep (ckA cb G) (sep (refK rb G) emp))) => same_ok Plain.emp.tame hA hoG)
        have HoG := Lib.hid hoG
        have hgl : G.lates.length ≤ 20 * (i + 1) := by omega
        clear hon hio hg hdo hG hoG hz' ho
        go_wp2_with fail
        refine HDo.out.mono ?_
        rintro e x1 ⟨rfl, h3⟩
        have HS1 := Lib.hid (HSm.out x1 h3)
        clear h3
        go_wp2_with fail
        refine HS1.out.mono ?_
        rintro e x2 ⟨rfl, h4⟩
        have H4 := Lib.hid h4
        clear h4
        go_wp2_with fail
        go_roundg (n - (i + 1))
        case measure => omega
        case rel => exact ⟨i + 1, G, by omega, by go_num, HoG.out, hgl, H4.out⟩
      · have hin : i = n := by omega
        subst hin
        have HAw := Lib.hid (kawake_ok wr)
        have HF := Lib.hid hon.to_below
        clear hon ho
        go_wp2_with fail
        refine HAw.out.mono ?_
        rintro e x4 ⟨rfl, hb4⟩
        have HB4 := Lib.hid hb4
        clear hb4
        go_wp2_with fail
        go_ret
        exact ⟨rfl, HF.out.trans (HB4.out.mono HF.out.size)⟩
  · rw [decide_eq_false hfew] at HFw0
    clear hfew
    go_enter Try.func21, Try.ntmps21
    go_wp2_with fail
    refine HN0.out.mono ?_
    rintro e w1 ⟨cb, rfl, h1⟩
    have HFw := Lib.hid (HFw0.out w1 h1.to_below)
    have HF := Lib.hid h1.to_below
    clear h1
    go_wp2_with fail
    refine HFw.out.mono ?_
    rintro e w2 ⟨rfl, rfl⟩
    have HAw := Lib.hid (kawake_ok w2)
    go_wp2_with fail
    refine HAw.out.mono ?_
    rintro e x4 ⟨rfl, hb4⟩
    have HB4 := Lib.hid hb4
    clear hb4
    go_wp2_with fail
    go_ret
    exact ⟨rfl, HF.out.trans (HB4.out.mono HF.out.size)⟩
end Go.Proofs.Ytkjpkhpiojahkaa
