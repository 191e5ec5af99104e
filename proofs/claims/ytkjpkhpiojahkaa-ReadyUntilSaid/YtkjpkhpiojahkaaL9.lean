/-
  Walk: ReadyUntil.
-/
import Derived.Test.YtkjpkhpiojahkaaOp4
import Derived.Test.YtkjpkhpiojahkaaPl
import Derived.Test.YtkjpkhpiojahkaaTail
import Derived.Sort.LoopGhostIn
namespace Go.Proofs.Ytkjpkhpiojahkaa
set_option linter.unusedVariables false
open Go.RowKit Hp
attribute [local go_sem] Oper.semAt_some

theorem upto_le {T : List (It Int)} {t : Int} {x : It Int} (h : x ∈ upto T t) : x.2 ≤ t := by
  induction T with
  | nil => cases h
  | cons y T ih =>
    unfold upto at h ih
    rw [List.takeWhile_cons] at h
    split at h
    · rename_i hy
      rcases List.mem_cons.1 h with h | h
      · rw [h]; simpa using hy
      · exact ih h
    · cases h

set_option maxRecDepth 100000 in
set_option maxHeartbeats 8000000 in
theorem until_ok (a : Option Addr) (cap : Nat) (os : List Op4) (t : Int) (w : World) (ho : OpsAt4 w a os) (hcap : os.length ≤ 9223372036854775807) :
    Calls Try.prog 4 #[.slice a os.length cap, .int .i64 t] w fun e w' => e = .returned (.bool true) ∧ Below w.heap.size w w' := by
  obtain ⟨n, hn⟩ : ∃ n, os.length = n := ⟨_, rfl⟩
  obtain ⟨b0, hb0⟩ : ∃ b, w.heap.size = b := ⟨_, rfl⟩
  obtain ⟨W, hW⟩ : ∃ W, (w.alloc (.cells #[.int .i64 t] 3)).alloc (.cells #[.bool false] 4) = W := ⟨_, rfl⟩
  have h0 := ((On.emp w).new1 3 #[.int .i64 t]).new1 4 #[.bool false]
  simp only [World.size_alloc, hb0] at h0
  rw [hW] at h0
  have HN0 := Lib.hid (Q_new h0)
  have HO := Lib.hid ho
  have HN := Lib.hid hn
  have HFw := Lib.hid (fun (A : World) (hb : Below w.heap.size w A) => few4_any ho cap A hb hcap)
  rw [hn] at HFw hcap ⊢
  clear ho hn h0
  refine (callsIn_wide (n := 9)).1 ?_
  refine callsIn_of_wp_marks Try.func4 rfl trivial ?_ rfl
  simp only [Try.ntmps4, List.size_toArray, List.length_cons, List.length_nil, Nat.reduceAdd, Nat.reduceSub, Array.replicate_succ, Array.replicate_zero, List.push_toArray, List.append_toArray, List.nil_append, List.cons_append]
  gi_wp2_with fail
  clear hW
  refine ⟨trivial, ?_⟩
  refine (callsIn_wide.2 HN0.out).mono ?_
  rintro e w1 ⟨q, rfl, h1⟩
  have HF1 := Lib.hid (HFw.out _ h1.to_below)
  have H1 := Lib.hid h1
  clear h1
  gi_wp2_with fail
  refine ⟨trivial, ?_⟩
  refine (callsIn_wide.2 HF1.out).mono ?_
  by_cases hfew : fewP os
  · rw [decide_eq_true hfew]
    rintro e w2 ⟨rfl, rfl⟩
    obtain ⟨rb, hrb⟩ : ∃ rb, w2.heap.size = rb := ⟨_, rfl⟩
    have h2 := H1.out.add ((Below.refl _ w2).alloc (Nat.le_refl _) _) (refA_new w2) (fun j hj => by omega)
    rw [hrb] at h2
    have H2 := Lib.hid h2.left
    have HFew := Lib.hid hfew
    clear h2 hfew
    gi_wp2_with fail
    gi_loopg [7] n (fun gh s6 wr => ∃ (i : Nat) (S : List (It Int)), i + gh = n ∧ s6 = .int .i64 (i : Int) ∧ Sorted ltI S ∧ S.length ≤ 20 * i ∧ On w wr (sep (quA q S) (sep (refA rb S) (sep (boxA (b0 + 1) 4 #[.bool false]) (sep (boxA b0 3 #[.int .i64 t]) emp)))))
    case atStart => exact ⟨0, [], by omega, rfl, List.Pairwise.nil, by simp, H2.out⟩
    case round =>
      obtain ⟨i, S, hi, rfl, hs, hsl, hon⟩ := hrel
      have hn40 : n ≤ 40 := by have := HFew.out.2; rw [HN.out] at this; exact this
      by_cases hlt : i < n
      · have hltI : (i : Int) < (n : Int) := by omega
        have hi0 : (0 : Int) ≤ (i : Int) := by omega
        obtain ⟨b, off, o, rfl, hoi, q0, q1, q2, q3, hg1, hg2, hg3, hg4, hg5⟩ := HO.out.get hon.to_below (k := i) (by rw [HN.out]; exact hlt)
        have hk20 : o.ks.length ≤ 20 := HFew.out.1 o (List.mem_of_getElem? hoi)
        have hdo := does4_ok hon (by omega) hg2 hg3 hg4 hg5 o.ask o.t o.id hg1
        have HDo := Lib.hid hdo
        have HS := Lib.hid (stepQ_sorted (ask := o.ask) (t := o.t) (id := o.id) (ks := o.ks) hs)
        have HL := Lib.hid (show (stepQ S o.ask o.t o.id o.ks).length ≤ 20 * (i + 1) by have := stepQ_length (S := S) (ask := o.ask) (t := o.t) (id := o.id) (ks := o.ks); omega)
        clear hdo hs hsl hon hg1 hg2 hg3 hg4 hg5 hoi
        gi_wp2_with fail
        refine ⟨trivial, ?_⟩
        refine (callsIn_wide.2 HDo.out).mono ?_
        rintro e x1 ⟨rfl, hon1⟩
        have H3 := Lib.hid hon1
        clear hon1
        gi_wp2_with fail
        gi_roundg (n - (i + 1))
        case measure => omega
        case rel => exact ⟨i + 1, _, by omega, by go_num, HS.out, HL.out, H3.out⟩
      · have hin : i = n := by omega
        subst hin
        have hS800 : S.length ≤ 800 := by omega
        have t0 : wr.cell? ⟨b0, 0, none⟩ = some (.int .i64 t) := ((hon.sw2.sw1.sw0).box1 0).1
        have hun := Q_until hon hs (by omega) t
        have HUn := Lib.hid hun
        have HS := Lib.hid hs
        clear hs hsl hon hun
        gi_wp2_with fail
        refine ⟨trivial, ?_⟩
        refine (callsIn_wide.2 HUn.out).mono ?_
        rintro e w3 ⟨bl, bt, rfl, h3⟩
        have hq : ∀ w, (binOp BinOp.eql 47 (.func (.func 104) #[] #[.pointer (some ⟨bl, 0, none⟩), .pointer (some ⟨bt, 0, none⟩)]) .nilFunc).run Try.prog w = .ok (.bool false) w := fun w => by kernel_rfl
        obtain ⟨bn, hbn⟩ : ∃ b, w3.heap.size = b := ⟨_, rfl⟩
        obtain ⟨x3, hx3⟩ : ∃ x3, w3.alloc (.cells #[.int .i64 0] 3) = x3 := ⟨_, rfl⟩
        have h4 := h3.new1 3 #[.int .i64 0]
        rw [hx3, hbn] at h4
        obtain ⟨y1', y2⟩ := h4.box1 0
        have y1 : x3.cell? ⟨bn, 0, none⟩ = some (.int .i64 0) := y1'
        obtain ⟨x5, hx5⟩ : ∃ x5, x3.setCell ⟨bn, 0, none⟩ (.int .i64 0) = x5 := ⟨_, rfl⟩
        replace h4 := h4.box_set 0 (.int .i64 0)
        rw [hx5] at h4
        obtain ⟨k, hk⟩ : ∃ k, S.length = k := ⟨_, rfl⟩
        have hln := Q_len (h4.sw1.sw0)
        have hls := Q_least_all (h4.sw1.sw0) HS.out (by omega) (k : Int) (by omega)
        rw [hk] at hln hS800
        have HLn := Lib.hid hln
        have HLs := Lib.hid hls
        have HK := Lib.hid hk
        clear h3 h4 hln hls hk
        gi_wp2_with fail
        clear hx3 hbn hx5 y1 y1' y2
        refine ⟨trivial, ?_⟩
        refine (callsIn_wide.2 HLn.out).mono ?_
        rintro e x4 ⟨rfl, rfl⟩
        gi_wp2_with fail
        refine ⟨trivial, ?_⟩
        refine (callsIn_wide.2 HLs.out).mono ?_
        rintro e x4 ⟨va, rfl, h4⟩
        obtain ⟨aa, ac, rfl, hac1, hac2, hall⟩ := h4.keys_cap rfl (by rw [kv, List.length_map, HK.out])
        obtain ⟨ba, hba⟩ : ∃ b, x4.heap.size = b := ⟨_, rfl⟩
        obtain ⟨x6, hx6⟩ : ∃ x6, x4.alloc (.cells #[.slice aa k ac] 30) = x6 := ⟨_, rfl⟩
        have h6 := h4.new1 30 #[.slice aa k ac]
        rw [hx6, hba] at h6
        have h7 := (h6.sw4.sw3.sw2.sw1.sw0.sw2.sw1.sw4.sw3.sw2.sw4.sw3).out1.out1
        have H7 := Lib.hid h7
        have HAll := Lib.hid hall
        clear h4 hall h6 h7
        gi_wp2_with fail
        clear hx6 hba
        refine wpIn_range_on rfl (by omega) (gf := 104) (lb := #[.pointer (some ⟨bl, 0, none⟩), .pointer (some ⟨bt, 0, none⟩)]) rfl trivial (enters_of Try.func104 (by kernel_rfl) rfl)
          (Sq := untA bl bt S t) (Plain.unt bl bt S t) (fun pre => sep (boxA bn 3 #[.int .i64 (pre.length : Int)]) (sep (boxA ba 30 #[.slice aa k ac]) (sep (keysA (.slice aa k ac) S) (sep (boxA (b0 + 1) 4 #[.bool false]) (sep (boxA b0 3 #[.int .i64 t]) emp)))))
          (fun _ => (Plain.box _ _ _).sep ((Plain.box _ _ _).sep ((Plain.keys _ _).sep ((Plain.box _ _ _).sep ((Plain.box _ _ _).sep Plain.emp))))) (fun _ _ => prA False) (fun _ _ => Plain.pr _) H7.out (fun K hK => unt_iter _ (by have := HK.out; omega) hK) (fun _ => rfl) ?round ?done ?stop
        case round =>
          rintro K l pre ⟨x1, x2⟩ A hlA hlr hpre hon
          have hlp := hpre.length_le
          rw [List.length_append, List.length_singleton] at hlp
          have hx : (upto S t)[pre.length]? = some (x1, x2) := by
            obtain ⟨t', ht⟩ := hpre
            rw [← ht, List.append_assoc, List.getElem?_append_right (Nat.le_refl _)]
            simp
          have hxS : S[pre.length]? = some (x1, x2) := by
            obtain ⟨t', ht⟩ := upto_pre S t
            rw [← ht, List.getElem?_append_left (by omega)]
            exact hx
          have hxt : x2 ≤ t := by
            exact upto_le (List.mem_of_getElem? hx)
          have hlk : pre.length < k := by have := (List.getElem?_eq_some_iff.1 hxS).1; rw [HK.out] at this; exact this
          obtain ⟨kb, hkb⟩ : ∃ b, A.heap.size = b := ⟨_, rfl⟩
          obtain ⟨A1, hA1⟩ : ∃ A1, A.alloc (.cells #[.int .i64 x2, .int .i64 x1] 24) = A1 := ⟨_, rfl⟩
          have h8 := (hon.new1 24 #[.int .i64 x2, .int .i64 x1]).sw0
          rw [hA1, hkb] at h8
          have H8 := Lib.hid h8
          have HXS := Lib.hid hxS
          clear hon hpre hx h8 hxS hlr hlp
          gi_wp2_with fail
          clear hA1 hkb
          refine ⟨_, (Plain.box _ _ _).sep ((Plain.box _ _ _).sep ((Plain.box _ _ _).sep ((Plain.keys _ _).sep ((Plain.box _ _ _).sep ((Plain.box _ _ _).sep Plain.emp))))), H8.out, fun Wb _ h9 => ?_⟩
          have hnI : (pre.length : Int) < (k : Int) := by omega
          have hn0 : (0 : Int) ≤ (pre.length : Int) := by omega
          have hnN : ¬ (k : Int) ≤ (pre.length : Int) := by omega
          have hnN' : ¬ k ≤ pre.length := by omega
          have hxN : ¬ t < x2 := by omega
          have hn1 : (pre.length : Int) + 1 ≤ 800 := by omega
          have p0 : Wb.cell? ⟨bn, 0, none⟩ = some (.int .i64 (pre.length : Int)) := ((h9.sw1.sw0).box1 0).1
          have p0f : Wb.frozen? ⟨bn, 0, none⟩ = false := ((h9.sw1.sw0).box1 0).2
          have p1 : Wb.cell? ⟨ba, 0, none⟩ = some (.slice aa k ac) := ((h9.sw2.sw1.sw0).box1 0).1
          have p2 : Wb.cell? ⟨kb, 0, none⟩ = some (.int .i64 x2) := ((h9.sw0).box1 0).1
          have p3 : Wb.cell? ⟨kb, 1, none⟩ = some (.int .i64 x1) := ((h9.sw0).box1 1).1
          have p4 : Wb.cell? ⟨b0, 0, none⟩ = some (.int .i64 t) := ((h9.sw5.sw4.sw3.sw2.sw1.sw0).box1 0).1
          obtain ⟨b, off, rfl, _, hc⟩ := keysAt_get (HAll.out _ _ _ (h9.sw3.sw2.sw1.sw0)) (n := k) (by omega) (by rw [kv, List.length_map, HK.out])
          obtain ⟨r0, r1⟩ := hc pre.length hlk
          rw [kv, List.getElem?_map, HXS.out] at r0 r1
          simp only [Option.map_some, Option.getD_some] at r0 r1
          have hq1 : ∀ w, (binOp BinOp.neq 24 (.agg #[.int .i64 x2, .int .i64 x1]) (.agg #[.int .i64 x2, .int .i64 x1])).run Try.prog w = .ok (.bool false) w := fun w => by rw [neq32]; simp
          have H9 := Lib.hid h9
          clear h9 hc
          gi_wp2_with fail
          refine wpIn_region_loose (fun A' => Below Wb.heap.size Wb A') (by kernel_rfl) (by kernel_rfl) (by kernel_rfl) ((Below.refl _ Wb).drew) ?_
          iterate 18 (first
            | (refine loose_skip (by rfl) ?_; simp only [Act.put, List.setIfInBounds_toArray, List.set_cons_zero, List.set_cons_succ])
            | (refine loose_val (v := ?_) (by rfl) ?_ ?_; rotate_left; (focus (intro A' hA'; have s0 := zatB r0 hA' ;  have s1 := zatB r1 hA' ;  have s2 := zatB p0 hA' ;  have s3 := zatB p1 hA' ;  have s4 := zatB p2 hA' ;  have s5 := zatB p3 hA' ;  have s6 := zatB p4 hA'; go_simp; first | done | with_reducible rfl)); simp only [Act.put, List.setIfInBounds_toArray, List.set_cons_zero, List.set_cons_succ]))
          refine loose_nil ?_
          intro wz hz
          have z0 := zatB p0 hz
          have h10 := H9.out.below hz
          have z1 : wz.frozen? ⟨bn, 0, none⟩ = false := ((h10.sw1.sw0).box1 0).2
          have h11 := (h10.sw1.sw0).box_set 0 (.int .i64 ((pre.length : Int) + 1))
          have H11 := Lib.hid (h11.sw1.sw0.sw1).out1
          clear p0 p0f p1 p2 p3 p4 r0 r1 hz h10 h11 H9 H8
          gi_wp2_with fail
          have e : (((pre ++ [(x1, x2)]).length : Nat) : Int) = (pre.length : Int) + 1 := by simp
          show On w _ (sep _ (sep (boxA bn 3 #[.int .i64 (((pre ++ [(x1, x2)]).length : Nat) : Int)]) _))
          rw [e]
          exact H11.out
        case done =>
          intro D A hD hon hKd
          obtain ⟨u, hu⟩ : ∃ u, (upto S t).length = u := ⟨_, rfl⟩
          rw [hu] at hon
          have huk : u ≤ k := by rw [← hu, ← HK.out]; exact (upto_pre S t).length_le
          have H8 := Lib.hid hon
          have HKd := Lib.hid hKd
          have haw : ∀ A', Below A.drew.heap.size A.drew A' → Calls Try.prog 27 #[] A' fun e w' => e = .returned (.bool true) ∧ Below A.drew.heap.size A.drew w' := fun A' hA' =>
            (qawake_ok A').mono fun e w' ⟨he, hb⟩ => ⟨he, hA'.trans (hb.mono hA'.size)⟩
          have HAw := Lib.hid haw
          have hcl : ∀ A', Below A.drew.heap.size A.drew A' → A'.cell? ⟨bn, 0, none⟩ = some (.int .i64 (u : Int)) ∧ A'.cell? ⟨ba, 0, none⟩ = some (.slice aa k ac) ∧ A'.cell? ⟨b0, 0, none⟩ = some (.int .i64 t) ∧ A'.cell? ⟨b0 + 1, 0, none⟩ = some (.bool false) ∧ A'.frozen? ⟨b0 + 1, 0, none⟩ = false := fun A' hA' => by
            have h9 := (hon.below ((Below.refl _ A).drew)).below hA'
            exact ⟨((h9.sw0).box1 0).1, ((h9.sw1.sw0).box1 0).1, ((h9.sw4.sw3.sw2.sw1.sw0).box1 0).1, (h9.sw3.sw2.sw1.sw0).box1 0⟩
          have HCl := Lib.hid hcl
          obtain ⟨p0, p1, p4, p5, p6⟩ := hcl A.drew (Below.refl _ _)
          have HB0 := Lib.hid (show Below A.drew.heap.size A.drew A.drew from Below.refl _ _)
          have hend : ∀ A', Below A.drew.heap.size A.drew A' → ∀ tm : Array Value, tm[4]? = some (.pointer (some ⟨b0 + 1, 0, none⟩)) →
              bodyPostM Fence.wide 9 Try.prog Try.f4 (fun e w' => e = Ending.returned (.bool true) ∧ Below w.heap.size w w') .ret { tmps := tm, defers := [{ target := .collected D, args := #[] }] } (A'.setCell ⟨b0 + 1, 0, none⟩ (.bool true)) := fun A' hA' tm htm => by
            have h9 := (H8.out.below ((Below.refl _ A).drew)).below hA'
            have h10 := (h9.sw3.sw2.sw1.sw0).box_set 0 (.bool true)
            refine fin_mark (X := sep (boxA (b0 + 1) 4 #[.bool true]) _) ((Plain.box _ _ _).sep ((Plain.unt _ _ _ _).sep ((Plain.box _ _ _).sep ((Plain.box _ _ _).sep ((Plain.keys _ _).sep ((Plain.box _ _ _).sep Plain.emp)))))) h10 (by have := H7.out.to_below.size; omega) ?_ fun A'' h11 => ⟨?_, rfl, h11.to_below⟩
            · exact setCell_ctl ((Mod.of_below (S := none') hA').block D _ HKd.out (.inl rfl)) (.inl rfl)
            · have := (h11.box1 0).1
              simp only [List.getElem?_toArray] at this
              simp [results, Try.f4, go_sem, htm, this]
          have HEnd := Lib.hid hend
          by_cases huk2 : u = k
          · subst huk2
            clear hon hKd haw hcl hend
            gi_wp2_with fail
            refine wpIn_wide.2 ?_
            refine wp_region_tailL (os := ?_) (s := ?_) (fun A' => Below A.drew.heap.size A.drew A') (by simp only [List.dropLast]; rfl) (by rfl) (by kernel_rfl) (by kernel_rfl) (by kernel_rfl) (Below.refl _ _) ?_
            iterate 16 (first
              | (refine loose_skip (by rfl) ?_; simp only [Act.put, List.setIfInBounds_toArray, List.set_cons_zero, List.set_cons_succ])
              | (refine loose_val (v := ?_) (by rfl) ?_ ?_; rotate_left; (focus (intro A' hA'; obtain ⟨s0, s1, s2, s3, s4⟩ := HCl.out A' hA'; go_simp; first | done | with_reducible rfl)); simp only [Act.put, List.setIfInBounds_toArray, List.set_cons_zero, List.set_cons_succ])
              | (refine loose_call HAw.out (by rfl) ?_ ?_; (focus (intro A' hA'; go_simp; done)); simp only [Act.put, List.setIfInBounds_toArray, List.set_cons_zero, List.set_cons_succ]))
            refine loose_nil ?_
            intro wz hz
            have HZ := Lib.hid hz
            obtain ⟨k0, k1, k2, k3, k4⟩ := HCl.out wz hz
            clear hz
            go_wp2_with fail
            gi_wp2_with fail
            exact HEnd.out wz HZ.out _ rfl
          · have hlt : u < k := by omega
            have hne : ((u : Int) == (k : Int)) = false := by simp; omega
            have hltI : (u : Int) < (k : Int) := by omega
            have hu0 : (0 : Int) ≤ (u : Int) := by omega
            obtain ⟨x, hx⟩ : ∃ x, S[u]? = some x := ⟨_, List.getElem?_eq_getElem (by rw [HK.out]; exact hlt)⟩
            have hxt : t < x.2 := by
              rcases Int.lt_or_le t x.2 with h | h
              · exact h
              · have h2 := (upto_at (i := u) (by omega) hx).2 h
                have := (List.getElem?_eq_some_iff.1 h2).1
                omega
            obtain ⟨b, off, rfl, _, hc⟩ := keysAt_get (HAll.out _ _ _ (hon.sw2.sw1.sw0)) (n := k) (by omega) (by rw [kv, List.length_map, HK.out])
            obtain ⟨r0, r1⟩ := hc u hlt
            rw [kv, List.getElem?_map, hx] at r0 r1
            simp only [Option.map_some, Option.getD_some] at r0 r1
            have r0 : A.drew.cell? ⟨b, off + u * 2, none⟩ = some (.int .i64 x.2) := r0
            clear hon hKd haw hcl hend hc r1 hx
            gi_wp2_with fail
            refine wpIn_wide.2 ?_
            refine wp_region_tailL (os := ?_) (s := ?_) (fun A' => Below A.drew.heap.size A.drew A') (by simp only [List.dropLast]; rfl) (by rfl) (by kernel_rfl) (by kernel_rfl) (by kernel_rfl) (Below.refl _ _) ?_
            iterate 16 (first
              | (refine loose_skip (by rfl) ?_; simp only [Act.put, List.setIfInBounds_toArray, List.set_cons_zero, List.set_cons_succ])
              | (refine loose_val (v := ?_) (by rfl) ?_ ?_; rotate_left; (focus (intro A' hA'; obtain ⟨s0, s1, s2, s3, s4⟩ := HCl.out A' hA' ;  have s5 := zatB r0 hA'; go_simp; first | done | with_reducible rfl)); simp only [Act.put, List.setIfInBounds_toArray, List.set_cons_zero, List.set_cons_succ])
              | (refine loose_call HAw.out (by rfl) ?_ ?_; (focus (intro A' hA'; go_simp; done)); simp only [Act.put, List.setIfInBounds_toArray, List.set_cons_zero, List.set_cons_succ]))
            refine loose_nil ?_
            intro wz hz
            have HZ := Lib.hid hz
            obtain ⟨k0, k1, k2, k3, k4⟩ := HCl.out wz hz
            clear hz
            go_wp2_with fail
            gi_wp2_with fail
            exact HEnd.out wz HZ.out _ rfl
        case stop =>
          intro D c pre A _ _ h _
          exact (On.pr_open (p := False) (On.comm h)).1.elim
  · rw [decide_eq_false hfew]
    rintro e w2 ⟨rfl, rfl⟩
    obtain ⟨y0', y2⟩ := H1.out.sw0.box1 0
    have y0 : w2.cell? ⟨b0 + 1, 0, none⟩ = some (.bool false) := y0'
    have HB1 := Lib.hid H1.out
    have HA := Lib.hid (qawake_ok w2)
    gi_wp2_with fail
    refine ⟨trivial, ?_⟩
    refine (callsIn_wide.2 HA.out).mono ?_
    rintro e w3 ⟨rfl, hb3⟩
    have h3 := HB1.out.below hb3
    obtain ⟨y3', y4⟩ := h3.sw0.box1 0
    have y3 : w3.cell? ⟨b0 + 1, 0, none⟩ = some (.bool false) := y3'
    have H3 := Lib.hid (h3.sw0.box_set 0 (.bool true))
    clear hb3 h3 y0 y0' y2 y3'
    gi_wp2_with fail
    have hc := (H3.out.box1 0).1
    exact ⟨.bool true, by simp [results, Try.f4, go_sem, hc], rfl, H3.out.to_below⟩
end Go.Proofs.Ytkjpkhpiojahkaa
