/-
  Place: the last one of those that run.
-/
import Derived.Test.YtkjpkhpiojahkaaPc7
import Derived.Test.YtkjpkhpiojahkaaPl3
import Derived.Test.YtkjpkhpiojahkaaTA
import Derived.Test.YtkjpkhpiojahkaaRng2
import Derived.Test.YtkjpkhpiojahkaaOrd
namespace Go.Proofs.Ytkjpkhpiojahkaa
set_option linter.unusedVariables false
open Go.RowKit Hp
attribute [local go_sem] Oper.semAt_some
theorem upto_all {S : List (It Int)} {t : Int} (h : ∀ x ∈ S, x.2 ≤ t) : upto S t = S := by
  unfold upto
  induction S with
  | nil => rfl
  | cons x S ih =>
    rw [List.takeWhile_cons, if_pos (by simpa using h x List.mem_cons_self), ih fun y hy => h y (List.mem_cons_of_mem _ hy)]
section
variable {w0 w : World} {R : Ast} {q : Nat} {S : List (It Int)} {r : List Int} {ra : Option Addr} {rc : Nat}
set_option maxRecDepth 100000 in
set_option maxHeartbeats 4000000 in
theorem last_ok (hT : Tame R) (h : On w0 w (sep (quA q S) R)) (hr : ∀ A, On w0 A R → IntsAt A ra r) (hrl : r.length < 1000000) (hs : Sorted ltI S) (hS : S.length < 700000) (ht : ∀ x ∈ S, x.2 ≤ 1099511627776) :
    Calls Try.prog 120 #[.slice ra r.length rc, .pointer (some ⟨q, 0, none⟩)] w fun e w' => e = .returned (.tuple #[.agg #[.int .i64 (lastH (hitS r S)).2, .int .i64 (lastH (hitS r S)).1], .int .i64 ((hitS r S).length : Int)]) ∧ On w0 w' (sep (quA q S) R) := by
  obtain ⟨n, hn⟩ : ∃ n, r.length = n := ⟨_, rfl⟩
  have HCt := Lib.hid (fun (A : World) (id : Int) (hA : On w0 A R) => contains_ok ra rc r id A (hr A hA) hrl)
  rw [hn] at HCt ⊢
  have HU := Lib.hid (upto_all ht)
  obtain ⟨b0, hb0⟩ : ∃ b, w.heap.size = b := ⟨_, rfl⟩
  obtain ⟨W, hW⟩ : ∃ W, ((w.alloc (.cells #[.slice ra n rc] 54)).alloc (.cells #[.int .i64 0, .int .i64 0] 24)).alloc (.cells #[.int .i64 0] 3) = W := ⟨_, rfl⟩
  have h1 := ((h.new1 54 #[.slice ra n rc]).new1 24 #[.int .i64 0, .int .i64 0]).new1 3 #[.int .i64 0]
  simp only [World.size_alloc, hb0] at h1
  rw [hW] at h1
  have HUn := Lib.hid (Q_until (h1.sw2.sw1.sw0) hs (by omega) 1099511627776)
  have HT := Lib.hid hT
  have HSl := Lib.hid hS
  clear h h1 hr hn hs hS ht hT
  refine (callsIn_wide (n := 9)).1 ?_
  refine callsIn_of_wp_marks Try.func120 rfl trivial ?_ rfl
  simp only [Try.ntmps120, List.size_toArray, List.length_cons, List.length_nil, Nat.reduceAdd, Nat.reduceSub, Array.replicate_succ, Array.replicate_zero, List.push_toArray, List.append_toArray, List.nil_append, List.cons_append]
  gi_wp2_with fail
  clear hW
  refine ⟨trivial, ?_⟩
  refine (callsIn_wide.2 HUn.out).mono ?_
  rintro e w1 ⟨bl, bt, rfl, h2⟩
  have hq : ∀ w, (binOp BinOp.eql 47 (.func (.func 104) #[] #[.pointer (some ⟨bl, 0, none⟩), .pointer (some ⟨bt, 0, none⟩)]) .nilFunc).run Try.prog w = .ok (.bool false) w := fun w => by kernel_rfl
  have hRF := HT.out.at h2.out1.out1.out1.out1.out1
  have H2 := Lib.hid (h2.sw2.sw1.sw2.sw3)
  clear h2
  gi_wp2_with fail
  refine wpIn_range_onF rfl (by omega) (gf := 104) (lb := #[.pointer (some ⟨bl, 0, none⟩), .pointer (some ⟨bt, 0, none⟩)]) rfl trivial (enters_of Try.func104 (by kernel_rfl) rfl)
    (Sq := untA bl bt S 1099511627776) (Plain.unt bl bt S 1099511627776) (fun pre => sep (boxA (b0 + 1) 24 #[.int .i64 (lastH (hitS r pre)).2, .int .i64 (lastH (hitS r pre)).1]) (sep (boxA (b0 + 1 + 1) 3 #[.int .i64 ((hitS r pre).length : Int)]) (sep (boxA b0 54 #[.slice ra n rc]) (sep (quA q S) R))))
    (fun _ => (Plain.box _ _ _).sepF ((Plain.box _ _ _).sepF ((Plain.box _ _ _).sepF ((Plain.qu _ _).sepF hRF)))) (fun _ _ => prA False) (fun _ _ => (Plain.pr _).f _) H2.out (fun K hK => unt_iter _ (by have := HSl.out; omega) hK) (fun _ => rfl) ?round ?done ?stop
  case round =>
    rintro K l pre ⟨x1, x2⟩ A hlA hlr hpre hon
    obtain ⟨L, hL⟩ : ∃ L, hitS r pre = L := ⟨_, rfl⟩
    rw [hL] at hon
    have hLl : L.length < 800000 := by
      have h1 : (hitS r pre).length ≤ pre.length := List.length_filter_le _ _
      have h2 := hpre.length_le
      have h3 := (upto_pre S 1099511627776).length_le
      rw [List.length_append, List.length_singleton] at h2
      have := HSl.out
      rw [hL] at h1
      omega
    have hsn := hitS_snoc (r := r) (S := pre) (x := (x1, x2))
    rw [hL] at hsn
    obtain ⟨kb, hkb⟩ : ∃ b, A.heap.size = b := ⟨_, rfl⟩
    obtain ⟨A1, hA1⟩ : ∃ A1, A.alloc (.cells #[.int .i64 x2, .int .i64 x1] 24) = A1 := ⟨_, rfl⟩
    have h8 := (hon.new1 24 #[.int .i64 x2, .int .i64 x1]).sw0
    rw [hA1, hkb] at h8
    have H8 := Lib.hid h8
    have HSn := Lib.hid hsn
    clear hon hpre h8 hlr hL hsn
    obtain ⟨p, hp⟩ : ∃ p, lastH L = p := ⟨_, rfl⟩
    obtain ⟨m, hm⟩ : ∃ m, L.length = m := ⟨_, rfl⟩
    rw [hp, hm] at H8
    rw [hm] at hLl
    gi_wp2_with fail
    clear hA1 hkb
    refine ⟨_, (Plain.box _ _ _).sepF ((Plain.box _ _ _).sepF ((Plain.box _ _ _).sepF ((Plain.box _ _ _).sepF ((Plain.qu _ _).sepF hRF)))), H8.out, ?_⟩
    intro Wb
    intros
    rename_i h9
    have k10 := (h9.sw0).bx 0 rfl
    have k11 := (h9.sw0).bx 1 rfl
    have k20 := (h9.sw1.sw0).bx 0 rfl
    have k20f := ((h9.sw1.sw0).box1 0).2
    have k21 := (h9.sw1.sw0).bx 1 rfl
    have k21f := ((h9.sw1.sw0).box1 1).2
    have k30 := (h9.sw2.sw1.sw0).bx 0 rfl
    have k30f := ((h9.sw2.sw1.sw0).box1 0).2
    have k40 := (h9.sw3.sw2.sw1.sw0).bx 0 rfl
    have HCt2 := Lib.hid (HCt.out Wb x1 h9.out1.out1.out1.out1.out1.out1)
    have H9 := Lib.hid h9
    have hwr : IntKind.i64.wrap ((m : Int) + 1) = (m : Int) + 1 := IntWalk.i64_in _ (by omega)
    clear h9
    by_cases hin : x1 ∈ r
    · rw [decide_eq_true hin] at HCt2
      rw [if_pos hin] at HSn
      gi_wp2_with fail
      refine ⟨trivial, ?_⟩
      refine (CallsIn.inRound l (callsIn_wide.2 HCt2.out)).mono ?_
      rintro e Z ⟨rfl, hb⟩
      have h10 := H9.out.below hb
      clear k10 k11 k20 k20f k21 k21f k30 k30f k40
      have k10 := (h10.sw0).bx 0 rfl
      have k11 := (h10.sw0).bx 1 rfl
      have k20 := (h10.sw1.sw0).bx 0 rfl
      have k20f := ((h10.sw1.sw0).box1 0).2
      have k21 := (h10.sw1.sw0).bx 1 rfl
      have k21f := ((h10.sw1.sw0).box1 1).2
      have k30 := (h10.sw2.sw1.sw0).bx 0 rfl
      have k30f := ((h10.sw2.sw1.sw0).box1 0).2
      have k40 := (h10.sw3.sw2.sw1.sw0).bx 0 rfl
      have h11 := (h10.sw1.sw0).box_set 0 (.int .i64 x2)
      have m01 := (h11).bx 1 rfl
      have m01f := ((h11).box1 1).2
      have h12 := h11.box_set 1 (.int .i64 x1)
      have h13 := (h12.sw2.sw1.sw0)
      have m00 := (h13).bx 0 rfl
      have m00f := ((h13).box1 0).2
      have H14 := Lib.hid ((((h13.box_set 0 (.int .i64 ((m : Int) + 1)))).sw2.sw1.sw0.sw2.sw1.sw2)).out1
      clear hb h10 h11 h12 h13
      gi_wp2_with fail
      refine wpIn_region_any (by kernel_rfl) ?_
      change wpAnyIn _ _ _ _ _ _ _ _ _ (World.drew _)
      refine any_two (i := 0) (j := 1) (by kernel_rfl) ?_ ?_
      · refine opIn_list (by rfl) ?_
        gi_wp2_with fail
        refine opPost_normal ?_
        refine any_two (i := 1) (j := 3) (by kernel_rfl) ?_ ?_
        · refine opIn_list (by rfl) ?_
          gi_wp2_with fail
          refine opPost_normal ?_
          refine any_two (i := 2) (j := 3) (by kernel_rfl) ?_ ?_
          · refine opIn_list (by rfl) ?_
            gi_wp2_with fail
            refine opPost_normal ?_
            refine any_one (i := 3) (by kernel_rfl) ?_
            refine opIn_list (by rfl) ?_
            gi_wp2_with fail
            refine opPost_normal ?_
            refine any_one (i := 4) (by kernel_rfl) ?_
            refine opIn_list (by rfl) ?_
            gi_wp2_with fail
            refine opPost_normal ?_
            refine any_done (by kernel_rfl) ?_
            (gi_wp2_with fail; rw [HSn.out, lastH_snoc, List.length_append, hm]; exact H14.out.below (Below.refl _ _).drew)
          · refine opIn_list (by rfl) ?_
            gi_wp2_with fail
            refine opPost_normal ?_
            refine any_one (i := 2) (by kernel_rfl) ?_
            refine opIn_list (by rfl) ?_
            gi_wp2_with fail
            refine opPost_normal ?_
            refine any_one (i := 4) (by kernel_rfl) ?_
            refine opIn_list (by rfl) ?_
            gi_wp2_with fail
            refine opPost_normal ?_
            refine any_done (by kernel_rfl) ?_
            (gi_wp2_with fail; rw [HSn.out, lastH_snoc, List.length_append, hm]; exact H14.out.below (Below.refl _ _).drew)
        · refine opIn_list (by rfl) ?_
          gi_wp2_with fail
          refine opPost_normal ?_
          refine any_one (i := 1) (by kernel_rfl) ?_
          refine opIn_list (by rfl) ?_
          gi_wp2_with fail
          refine opPost_normal ?_
          refine any_one (i := 2) (by kernel_rfl) ?_
          refine opIn_list (by rfl) ?_
          gi_wp2_with fail
          refine opPost_normal ?_
          refine any_one (i := 4) (by kernel_rfl) ?_
          refine opIn_list (by rfl) ?_
          gi_wp2_with fail
          refine opPost_normal ?_
          refine any_done (by kernel_rfl) ?_
          (gi_wp2_with fail; rw [HSn.out, lastH_snoc, List.length_append, hm]; exact H14.out.below (Below.refl _ _).drew)
      · refine opIn_list (by rfl) ?_
        gi_wp2_with fail
        refine opPost_normal ?_
        refine any_two (i := 0) (j := 2) (by kernel_rfl) ?_ ?_
        · refine opIn_list (by rfl) ?_
          gi_wp2_with fail
          refine opPost_normal ?_
          refine any_two (i := 2) (j := 3) (by kernel_rfl) ?_ ?_
          · refine opIn_list (by rfl) ?_
            gi_wp2_with fail
            refine opPost_normal ?_
            refine any_one (i := 3) (by kernel_rfl) ?_
            refine opIn_list (by rfl) ?_
            gi_wp2_with fail
            refine opPost_normal ?_
            refine any_one (i := 4) (by kernel_rfl) ?_
            refine opIn_list (by rfl) ?_
            gi_wp2_with fail
            refine opPost_normal ?_
            refine any_done (by kernel_rfl) ?_
            (gi_wp2_with fail; rw [HSn.out, lastH_snoc, List.length_append, hm]; exact H14.out.below (Below.refl _ _).drew)
          · refine opIn_list (by rfl) ?_
            gi_wp2_with fail
            refine opPost_normal ?_
            refine any_one (i := 2) (by kernel_rfl) ?_
            refine opIn_list (by rfl) ?_
            gi_wp2_with fail
            refine opPost_normal ?_
            refine any_one (i := 4) (by kernel_rfl) ?_
            refine opIn_list (by rfl) ?_
            gi_wp2_with fail
            refine opPost_normal ?_
            refine any_done (by kernel_rfl) ?_
            (gi_wp2_with fail; rw [HSn.out, lastH_snoc, List.length_append, hm]; exact H14.out.below (Below.refl _ _).drew)
        · refine opIn_list (by rfl) ?_
          gi_wp2_with fail
          refine opPost_normal ?_
          refine any_one (i := 0) (by kernel_rfl) ?_
          refine opIn_list (by rfl) ?_
          gi_wp2_with fail
          refine opPost_normal ?_
          refine any_one (i := 3) (by kernel_rfl) ?_
          refine opIn_list (by rfl) ?_
          gi_wp2_with fail
          refine opPost_normal ?_
          refine any_one (i := 4) (by kernel_rfl) ?_
          refine opIn_list (by rfl) ?_
          gi_wp2_with fail
          refine opPost_normal ?_
          refine any_done (by kernel_rfl) ?_
          (gi_wp2_with fail; rw [HSn.out, lastH_snoc, List.length_append, hm]; exact H14.out.below (Below.refl _ _).drew)
    · rw [decide_eq_false hin] at HCt2
      rw [if_neg hin] at HSn
      gi_wp2_with fail
      refine ⟨trivial, ?_⟩
      refine (CallsIn.inRound l (callsIn_wide.2 HCt2.out)).mono ?_
      rintro e Z ⟨rfl, hb⟩
      have H10 := Lib.hid (H9.out.below hb).sw0.out1
      clear hb
      gi_wp2_with fail
      rw [HSn.out, hp, hm]
      exact H10.out
  case done =>
    intro D A hD hon hKd
    obtain ⟨L, hL⟩ : ∃ L, hitS r S = L := ⟨_, rfl⟩
    rw [HU.out, hL] at hon

    obtain ⟨p, hp⟩ : ∃ p, lastH L = p := ⟨_, rfl⟩
    obtain ⟨m, hm⟩ : ∃ m, L.length = m := ⟨_, rfl⟩
    rw [hp, hm] at hon
    have h8 := hon
    have k10 := (h8.sw0).bx 0 rfl
    have k10f := ((h8.sw0).box1 0).2
    have k11 := (h8.sw0).bx 1 rfl
    have k11f := ((h8.sw0).box1 1).2
    have k20 := (h8.sw1.sw0).bx 0 rfl
    have k20f := ((h8.sw1.sw0).box1 0).2
    have h9 := h8.sw0.box_set 0 (.int .i64 p.2)
    have m01 := (h9).bx 1 rfl
    have m01f := ((h9).box1 1).2
    have h10 := h9.box_set 1 (.int .i64 p.1)
    have h11 := (h10.sw1.sw0)
    have m00 := (h11).bx 0 rfl
    have m00f := ((h11).box1 0).2
    have H12 := Lib.hid (h11.box_set 0 (.int .i64 (m : Int)))
    clear hon h8 h9 h10 h11
    have HKd := Lib.hid hKd
    clear hKd
    have hend : ∀ tm : Array Value, tm[4]? = some (.pointer (some ⟨b0 + 1, 0, none⟩)) → tm[5]? = some (.pointer (some ⟨b0 + 1 + 1, 0, none⟩)) →
        bodyPostM Fence.wide 9 Try.prog Try.f120 (fun e w' => e = .returned (.tuple #[.agg #[.int .i64 (lastH (hitS r S)).2, .int .i64 (lastH (hitS r S)).1], .int .i64 ((hitS r S).length : Int)]) ∧ On w0 w' (sep (quA q S) R)) .ret { tmps := tm, defers := [{ target := .collected D, args := #[] }] }
          (((A.setCell ⟨b0 + 1, 0, none⟩ (.int .i64 p.2)).setCell ⟨b0 + 1, 1, none⟩ (.int .i64 p.1)).setCell ⟨b0 + 1 + 1, 0, none⟩ (.int .i64 (m : Int))).drew := fun tm t4 t5 => by
      have h10 := (((H12.out.below (Below.refl _ _).drew)).sw1.sw0.sw2.sw1.sw2).out1.out1
      refine fin_markF (n := w1.heap.size) (v := .tuple #[.agg #[.int .i64 p.2, .int .i64 p.1], .int .i64 (m : Int)]) ((Plain.box _ _ _).sepF ((Plain.box _ _ _).sepF ((Plain.qu _ _).sepF hRF))) hD h10 (by have := H2.out.to_below.size; omega) (setCell_ctl (setCell_ctl (setCell_ctl HKd.out (.inl rfl)) (.inl rfl)) (.inl rfl)) fun A' h11 => ?_
      have c0 := h11.bx 0 rfl
      have c1 := h11.bx 1 rfl
      have c2 := h11.out1.bx 0 rfl
      rw [hL, hp, hm]
      exact ⟨by simp [results, Try.f120, go_sem, t4, t5, c0, c1, c2], rfl, h11.out1.out1⟩
    have HEnd := Lib.hid hend
    clear hend
    gi_wp2_with fail
    refine wpIn_region_any (by kernel_rfl) ?_
    change wpAnyIn _ _ _ _ _ _ _ _ _ (World.drew _)
    refine any_two (i := 0) (j := 1) (by kernel_rfl) ?_ ?_
    · refine opIn_list (by rfl) ?_
      gi_wp2_with fail
      refine opPost_normal ?_
      refine any_two (i := 1) (j := 2) (by kernel_rfl) ?_ ?_
      · refine opIn_list (by rfl) ?_
        gi_wp2_with fail
        refine opPost_normal ?_
        refine any_one (i := 2) (by kernel_rfl) ?_
        refine opIn_list (by rfl) ?_
        gi_wp2_with fail
        refine opPost_normal ?_
        refine any_one (i := 3) (by kernel_rfl) ?_
        refine opIn_list (by rfl) ?_
        gi_wp2_with fail
        refine opPost_normal ?_
        refine any_done (by kernel_rfl) ?_
        (gi_wp2_with fail; exact HEnd.out _ rfl rfl)
      · refine opIn_list (by rfl) ?_
        gi_wp2_with fail
        refine opPost_normal ?_
        refine any_one (i := 1) (by kernel_rfl) ?_
        refine opIn_list (by rfl) ?_
        gi_wp2_with fail
        refine opPost_normal ?_
        refine any_one (i := 3) (by kernel_rfl) ?_
        refine opIn_list (by rfl) ?_
        gi_wp2_with fail
        refine opPost_normal ?_
        refine any_done (by kernel_rfl) ?_
        (gi_wp2_with fail; exact HEnd.out _ rfl rfl)
    · refine opIn_list (by rfl) ?_
      gi_wp2_with fail
      refine opPost_normal ?_
      refine any_one (i := 0) (by kernel_rfl) ?_
      refine opIn_list (by rfl) ?_
      gi_wp2_with fail
      refine opPost_normal ?_
      refine any_one (i := 2) (by kernel_rfl) ?_
      refine opIn_list (by rfl) ?_
      gi_wp2_with fail
      refine opPost_normal ?_
      refine any_one (i := 3) (by kernel_rfl) ?_
      refine opIn_list (by rfl) ?_
      gi_wp2_with fail
      refine opPost_normal ?_
      refine any_done (by kernel_rfl) ?_
      (gi_wp2_with fail; exact HEnd.out _ rfl rfl)
  case stop =>
    intro D c pre A _ _ h _
    exact (On.pr_open (p := False) (On.comm h)).1.elim
end
end Go.Proofs.Ytkjpkhpiojahkaa
