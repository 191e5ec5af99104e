/-
  Walk: ReadyParts.
-/
import Derived.Test.YtkjpkhpiojahkaaRs1
import Derived.Test.YtkjpkhpiojahkaaPl
import Derived.Test.YtkjpkhpiojahkaaTail
import Derived.Sort.LoopGhostIn
namespace Go.Proofs.Ytkjpkhpiojahkaa
set_option linter.unusedVariables false
open Go.RowKit Hp
attribute [local go_sem] Oper.semAt_some

/-- a variable that holds a list of keys -/
def cellK (b : Nat) (T : List (It Int)) : Ast := exA fun v : Value => sep (boxA b 30 #[v]) (keysA v T)
theorem Plain.cellK (b : Nat) (T : List (It Int)) : Plain (cellK b T) := Plain.ex fun _ => (Plain.box _ _ _).sep (Plain.keys _ _)

set_option maxRecDepth 100000 in
set_option maxHeartbeats 8000000 in
theorem parts_ok (a a' : Option Addr) (cap cap' : Nat) (os ps : List Op4) (nn t : Int) (w : World) (ho : OpsAt4 w a os) (hcap : os.length ≤ 9223372036854775807) (hp : OpsAt4 w a' ps) (hcap' : ps.length ≤ 9223372036854775807) :
    Calls Try.prog 5 #[.slice a os.length cap, .slice a' ps.length cap', .agg #[.int .i64 nn, .int .i64 t]] w fun e w' => e = .returned (.bool true) ∧ Below w.heap.size w w' := by
  obtain ⟨n, hn⟩ : ∃ n, os.length = n := ⟨_, rfl⟩
  obtain ⟨m, hm⟩ : ∃ n, ps.length = n := ⟨_, rfl⟩
  obtain ⟨b0, hb0⟩ : ∃ b, w.heap.size = b := ⟨_, rfl⟩
  obtain ⟨W, hW⟩ : ∃ W, w.alloc (.cells #[.int .i64 nn, .int .i64 t] 50) = W := ⟨_, rfl⟩
  have h0 := (On.emp w).new1 50 #[.int .i64 nn, .int .i64 t]
  rw [hW, hb0] at h0
  have HN0 := Lib.hid (Q_new h0)
  have HO := Lib.hid ho
  have HN := Lib.hid hn
  have HP := Lib.hid hp
  have HM := Lib.hid hm
  have HFw := Lib.hid (fun (A : World) (hb : Below w.heap.size w A) => few4_any ho cap A hb hcap)
  have HFw2 := Lib.hid (fun (A : World) (hb : Below w.heap.size w A) => few4_any hp cap' A hb hcap')
  rw [hn] at HFw hcap ⊢
  rw [hm] at HFw2 hcap' ⊢
  clear ho hn hp hm h0
  refine (callsIn_wide (n := 9)).1 ?_
  refine callsIn_of_wp_marks Try.func5 rfl trivial ?_ rfl
  simp only [Try.ntmps5, List.size_toArray, List.length_cons, List.length_nil, Nat.reduceAdd, Nat.reduceSub, Array.replicate_succ, Array.replicate_zero, List.push_toArray, List.append_toArray, List.nil_append, List.cons_append]
  gi_wp2_with fail
  clear hW
  refine ⟨trivial, ?_⟩
  refine (callsIn_wide.2 HN0.out).mono ?_
  rintro e w1 ⟨q, rfl, h1⟩
  have HF1 := Lib.hid (HFw.out _ h1.to_below)
  have HF2 := Lib.hid (HFw2.out _ h1.to_below)
  have H1 := Lib.hid h1
  have hHA : Hid (∀ (b1 : Bool), b1 = false → True) := Lib.hid fun _ _ => trivial
  clear h1
  gi_wp2_with fail
  refine ⟨trivial, ?_⟩
  refine (callsIn_wide.2 HF1.out).mono ?_
  by_cases hfew : fewP os
  · rw [decide_eq_true hfew]
    rintro e w2 ⟨rfl, rfl⟩
    gi_wp2_with fail
    refine ⟨trivial, ?_⟩
    refine (callsIn_wide.2 HF2.out).mono ?_
    by_cases hfew2 : fewP ps
    · rw [decide_eq_true hfew2]
      rintro e w2 ⟨rfl, rfl⟩
      obtain ⟨rb, hrb⟩ : ∃ rb, w2.heap.size = rb := ⟨_, rfl⟩
      have h2 := H1.out.add ((Below.refl _ w2).alloc (Nat.le_refl _) _) (refA_new w2) (fun j hj => by omega)
      rw [hrb] at h2
      have H2 := Lib.hid h2.left
      have HFew := Lib.hid hfew
      have HFew2 := Lib.hid hfew2
      clear h2 hfew hfew2
      gi_wp2_with fail
      gi_loopg [9] n (fun gh s9 wr => ∃ (i : Nat) (S : List (It Int)), i + gh = n ∧ s9 = .int .i64 (i : Int) ∧ Sorted ltI S ∧ S.length ≤ 20 * i ∧ On w wr (sep (quA q S) (sep (refA rb S) (sep (boxA b0 50 #[.int .i64 nn, .int .i64 t]) emp))))
      case atStart => exact ⟨0, [], by omega, rfl, List.Pairwise.nil, by simp, H2.out⟩
      case round =>
        obtain ⟨i, S, hi, rfl, hs, hsl, hon⟩ := hrel
        have hn40 : n ≤ 40 := by have := HFew.out.2; rw [HN.out] at this; exact this
        by_cases hlt : i < n
        · have hltI : (i : Int) < (n : Int) := by omega
          have hi0 : (0 : Int) ≤ (i : Int) := by omega
          obtain ⟨b, off, o, rfl, hoi, q0, q1, q2, q3, hg1, hg2, hg3, hg4, hg5⟩ := HO.out.get hon.to_below (k := i) (by rw [HN.out]; exact hlt)
          have hk20 : o.ks.length ≤ 20 := HFew.out.1 o (List.mem_of_getElem? hoi)
          have hdo := does4_ok hon (by omega) hg2 hg3 hg4 hg5 o.ask o.t o.id hg1
          have HDo := Lib.hid hdo
          have HS := Lib.hid (stepQ_sorted (ask := o.ask) (t := o.t) (id := o.id) (ks := o.ks) hs)
          have HL := Lib.hid (show (stepQ S o.ask o.t o.id o.ks).length ≤ 20 * (i + 1) by have := stepQ_length (S := S) (ask := o.ask) (t := o.t) (id := o.id) (ks := o.ks); omega)
          clear hdo hs hsl hon hg1 hg2 hg3 hg4 hg5 hoi
          gi_wp2_with fail
          refine ⟨trivial, ?_⟩
          refine (callsIn_wide.2 HDo.out).mono ?_
          rintro e x1 ⟨rfl, hon1⟩
          have H3 := Lib.hid hon1
          clear hon1
          gi_wp2_with fail
          gi_roundg (n - (i + 1))
          case measure => omega
          case rel => exact ⟨i + 1, _, by omega, by go_num, HS.out, HL.out, H3.out⟩
        · have hin : i = n := by omega
          subst hin
          have hS800 : S.length ≤ 800 := by omega
          obtain ⟨bu, hbu⟩ : ∃ b, wr.heap.size = b := ⟨_, rfl⟩
          obtain ⟨x3, hx3⟩ : ∃ x3, wr.alloc (.cells #[.slice none 0 0] 30) = x3 := ⟨_, rfl⟩
          have h3 := hon.new1 30 #[.slice none 0 0]
          rw [hx3, hbu] at h3
          have t0 : x3.cell? ⟨b0, 1, none⟩ = some (.int .i64 t) := ((h3.sw2.sw1.sw0).box1 1).1
          have hun := Q_until h3.sw0 hs (by omega) t
          have HUn := Lib.hid hun
          have HS := Lib.hid hs
          clear hs hsl hon h3 hun
          gi_wp2_with fail
          clear hx3 hbu t0
          refine ⟨trivial, ?_⟩
          refine (callsIn_wide.2 HUn.out).mono ?_
          rintro e x4 ⟨bl, bt, rfl, h4⟩
          have hq : ∀ w, (binOp BinOp.eql 47 (.func (.func 104) #[] #[.pointer (some ⟨bl, 0, none⟩), .pointer (some ⟨bt, 0, none⟩)]) .nilFunc).run Try.prog w = .ok (.bool false) w := fun w => by kernel_rfl
          have HCo := Lib.hid (Q_copy h4.sw0 (by omega))
          clear h4
          gi_wp2_with fail
          refine ⟨trivial, ?_⟩
          refine (callsIn_wide.2 HCo.out).mono ?_
          rintro e x5 ⟨qc, rfl, h5⟩
          have hd := h5.below ((Below.refl _ x5).drew)
          obtain ⟨ll, hll⟩ : ∃ ll, (leastS S nn).length = ll := ⟨_, rfl⟩
          have hll8 : ll ≤ 800 := by
            rw [← hll]; unfold leastS; split
            · simp
            · rw [List.length_take]; omega
          have hsm : Calls Try.prog 39 #[.pointer (some ⟨qc, 0, none⟩), .pointer (some ⟨rb, 0, none⟩)] x5.drew fun e w1 => e = .returned (.bool true) ∧ w1.cell? ⟨b0, 0, none⟩ = some (.int .i64 nn) ∧
              Hid (Calls Try.prog 29 #[.pointer (some ⟨q, 0, none⟩), .int .i64 nn] w1 fun e w2 => ∃ a1 c1, e = .returned (.slice a1 ll c1) ∧ w2.cell? ⟨b0, 0, none⟩ = some (.int .i64 nn) ∧
                Hid (Calls Try.prog 40 #[.pointer (some ⟨rb, 0, none⟩), .int .i64 nn] w2 fun e w3 => ∃ a2 c2, e = .returned (.slice a2 ll c2) ∧ w3.cell? ⟨b0, 0, none⟩ = some (.int .i64 nn) ∧
                  Hid (Calls Try.prog 32 #[.slice a1 ll c1, .slice a2 ll c2] w3 fun e w4 => e = .returned (.bool true) ∧ w4.cell? ⟨b0, 0, none⟩ = some (.int .i64 nn) ∧
                    Hid (On w w4 (sep (quA q S) (sep (quA qc S) (sep (refA rb S) (sep (untA bl bt S t) (sep (boxA bu 30 #[.slice none 0 0]) (sep (boxA b0 50 #[.int .i64 nn, .int .i64 t]) emp)))))))))) := by
            refine (same4_ok (hd.sw3.sw2.sw1) HS.out (by omega)).mono fun e w1 ⟨he, h6⟩ => ⟨he, ((h6.sw4.sw3.sw2.sw1.sw0).box1 0).1, Lib.hid ?_⟩
            refine (Q_least (h6.sw1.sw0) HS.out (by omega) nn).mono fun e w2 ⟨v, he, h7⟩ => ?_
            obtain ⟨a1, c1, rfl, _, _, hk1⟩ := h7.keys_cap rfl (by rw [kv, List.length_map, hll])
            refine ⟨a1, c1, he, ((h7.sw5.sw4.sw3.sw2.sw1.sw0).box1 0).1, Lib.hid ?_⟩
            refine (RL_least (h7.sw2.sw1.sw0) (by omega) nn).mono fun e w3 ⟨a2, c2, he, hb3, hk2⟩ => ?_
            rw [hll] at he
            have h8 := h7.below hb3
            refine ⟨a2, c2, he, ((h8.sw5.sw4.sw3.sw2.sw1.sw0).box1 0).1, Lib.hid ?_⟩
            have hkc := keys_ok a1 a2 c1 c2 _ _ w3 (hk1 _ _ _ h8) hk2 (by rw [kv, List.length_map, hll]; omega) (by rw [kv, List.length_map, hll]; omega)
            rw [kv, List.length_map, hll, decide_eq_true rfl] at hkc
            refine hkc.mono fun e w4 ⟨he, hb4⟩ => ?_
            have h9 := h8.below hb4
            exact ⟨he, ((h9.sw5.sw4.sw3.sw2.sw1.sw0).box1 0).1, Lib.hid h9.out1⟩
          have k0 : x5.drew.cell? ⟨b0, 0, none⟩ = some (.int .i64 nn) := ((hd.sw4.sw3.sw2.sw1.sw0).box1 0).1
          have HSm := Lib.hid hsm
          clear h5 hd hsm hll
          gi_wp2_with fail
          refine wpIn_wide.2 ?_
          go_region_held3 (fun A0 => A0.cell? ⟨b0, 0, none⟩ = some (.int .i64 nn))
            (first | assumption | go_keep)
            (first
              | (go_at_call 39; refine HSm.out.mono ?_; rintro e A1 ⟨rfl, k1, HK1⟩)
              | (go_at_call 29; refine HK1.out.mono ?_; rintro e A2 ⟨a1, c1, rfl, k2, HK2⟩)
              | (go_at_call 40; refine HK2.out.mono ?_; rintro e A3 ⟨a2, c2, rfl, k3, HK3⟩)
              | (go_at_call 32; refine HK3.out.mono ?_; rintro e A4 ⟨rfl, k4, HK4⟩))
          obtain ⟨nb, hnb⟩ : ∃ nb, A4.heap.size = nb := ⟨_, rfl⟩
          obtain ⟨x6, hx6⟩ : ∃ x6, A4.alloc (.cells #[.slice none 0 0] 32) = x6 := ⟨_, rfl⟩
          have h6 := HK4.out.add ((Below.refl _ A4).alloc (Nat.le_refl _) _) (refA_new A4) (fun j hj => by omega)
          rw [hx6, hnb] at h6
          have h6d := h6.below ((Below.refl _ x6).drew)
          obtain ⟨F1, ⟨v1, hr1, _⟩, _⟩ := (h6d.sw2.sw1.sw0).get1
          obtain ⟨F2, ⟨v2, hr2, _⟩, _⟩ := h6.get1
          obtain ⟨la, lcap, rfl⟩ := hr1.slice
          have t1 : x6.cell? ⟨rb, 0, none⟩ = some (.slice la S.length lcap) := hr1.c0
          have hv2 : v2 = .slice none 0 0 := by
            have h1 := hr2.c0
            rw [← hx6, ← hnb, World.cell?_alloc_at _ _ _ _ rfl] at h1
            exact (Option.some.inj h1).symm
          subst hv2
          have t2 : x6.cell? ⟨nb, 0, none⟩ = some (.slice none 0 0) := hr2.c0
          have t3 : x6.frozen? ⟨nb, 0, none⟩ = false := hr2.f0
          have hobx : nb < x6.heap.size := lt_of_some hr2.1
          have HReads := Lib.hid (Reads.of_own hr1.2)
          have H6 := Lib.hid h6d
          have HT : Hid (x6.drew.cell? ⟨rb, 0, none⟩ = some (.slice la S.length lcap) ∧ x6.drew.cell? ⟨nb, 0, none⟩ = some (.slice none 0 0) ∧ x6.drew.frozen? ⟨nb, 0, none⟩ = false ∧ nb < x6.drew.heap.size) := Lib.hid ⟨t1, t2, t3, hobx⟩
          have hkey := keyC_one S
          have hmx : 0 + S.length ≤ maxLen := by unfold maxLen; omega
          have hby : (0 + S.length) * 16 ≤ 140737488355328 := by omega
          clear h6 h6d hr1 hr2 HK1 HK2 HK3 k0 k1 k2 k3 k4
          gi_wp2_with fail
          clear hx6
          refine wpIn_wide.2 ?_
          refine wp_region_noPanic ?_
          go_region_law (first
            | (refine step_append_any (by rfl) _ _ 30 (by rfl) 24 2 16 keySlice (.slice none 0 0) 0 [] (by rfl) (World.ownsRow_nil _ _ _ _) (.slice la S.length lcap) S.length (S.flatMap keyC) (by rfl) HReads.out hkey hmx hby ?_; intro v' y1 hown hgrow hat; obtain ⟨q', nn', cc, rfl⟩ := own_form hown; have hby1 := below_grown hgrow (by intro j hj; simp [Value.ownBlock] at hj) (Nat.le_refl _); have s1 := zatB HT.out.1 hby1; have s2 := zatB HT.out.2.1 hby1; have s4 := (hby1.frozen (p := ⟨nb, 0, none⟩) HT.out.2.2.2).trans HT.out.2.2.1; have HOwn := Lib.hid hown; have HY1 := Lib.hid hby1; have HAt := Lib.hid hat; clear hown hgrow hat hby1))
          all_goals
            refine NoPanic.normal ?_
            have h7 : On w (y1.setCell ⟨nb, 0, none⟩ (.slice q' nn' cc)) (sep (refA nb S) (sep (quA q S) (sep (quA qc S) (sep (refA rb S) (sep (untA bl bt S t) (sep (boxA bu 30 #[.slice none 0 0]) (sep (boxA b0 50 #[.int .i64 nn, .int .i64 t]) emp))))))) :=
              H6.out.step1 fun F hF => ref_set hF HY1.out HOwn.out (by omega) (by rfl) (own_new (B := x6.drew.heap.size) HAt.out (by simp [Value.ownBlock]) (Nat.le_refl _))
            have H7 := Lib.hid h7
            clear h7 t1 t2 t3 s1 s2 s4
            gi_wp2_with fail
            gi_loopg [14] m (fun gh s14 wy => ∃ (j : Nat) (T : List (It Int)), j + gh = m ∧ s14 = .int .i64 (j : Int) ∧ Sorted ltI T ∧ T.length ≤ 800 + 20 * j ∧ On w wy (sep (quA q T) (sep (refA nb T) (sep (quA qc S) (sep (refA rb S) (sep (untA bl bt S t) (sep (boxA bu 30 #[.slice none 0 0]) (sep (boxA b0 50 #[.int .i64 nn, .int .i64 t]) emp))))))))
            case atStart => exact ⟨0, S, by omega, rfl, HS.out, by omega, H7.out.sw0⟩
            case round =>
              obtain ⟨j, T, hj, rfl, hs, hsl, hon⟩ := hrel
              have hm40 : m ≤ 40 := by have := HFew2.out.2; rw [HM.out] at this; exact this
              by_cases hlt : j < m
              · have hltI : (j : Int) < (m : Int) := by omega
                have hi0 : (0 : Int) ≤ (j : Int) := by omega
                obtain ⟨b, off, o, rfl, hoi, q0, q1, q2, q3, hg1, hg2, hg3, hg4, hg5⟩ := HP.out.get hon.to_below (k := j) (by rw [HM.out]; exact hlt)
                have hk20 : o.ks.length ≤ 20 := HFew2.out.1 o (List.mem_of_getElem? hoi)
                have hdo := does4_ok hon (by omega) hg2 hg3 hg4 hg5 o.ask o.t o.id hg1
                have HDo := Lib.hid hdo
                have HSs := Lib.hid (stepQ_sorted (ask := o.ask) (t := o.t) (id := o.id) (ks := o.ks) hs)
                have HL := Lib.hid (show (stepQ T o.ask o.t o.id o.ks).length ≤ 800 + 20 * (j + 1) by have := stepQ_length (S := T) (ask := o.ask) (t := o.t) (id := o.id) (ks := o.ks); omega)
                clear hdo hs hsl hon hg1 hg2 hg3 hg4 hg5 hoi
                gi_wp2_with fail
                refine ⟨trivial, ?_⟩
                refine (callsIn_wide.2 HDo.out).mono ?_
                rintro e y2 ⟨rfl, hon1⟩
                have H8 := Lib.hid hon1
                clear hon1
                gi_wp2_with fail
                gi_roundg (m - (j + 1))
                case measure => omega
                case rel => exact ⟨j + 1, _, by omega, by go_num, HSs.out, HL.out, H8.out⟩
              · have hjm : j = m := by omega
                subst hjm
                have h8 : On w wr (sep (untA bl bt S t) (sep (cellK bu []) (sep (quA q T) (sep (refA nb T) (sep (quA qc S) (sep (refA rb S) (sep (boxA b0 50 #[.int .i64 nn, .int .i64 t]) emp))))))) :=
                  On.sw0 (On.ex_shut (f := fun v => sep (boxA bu 30 #[v]) (keysA v [])) (.slice none 0 0) (On.assoc' ((hon.add (Below.refl _ wr) (keysA_nil wr) (fun _ h => h.elim)).sw5.sw4.sw3.sw2.sw1.sw0.sw5.sw4.sw3.sw2)))
                have H8 := Lib.hid h8
                have HSs := Lib.hid hs
                have hT : T.length < 700000 := by omega
                clear hon h8 hs hsl
                gi_wp2_with fail
                refine wpIn_range_on rfl (by omega) (gf := 104) (lb := #[.pointer (some ⟨bl, 0, none⟩), .pointer (some ⟨bt, 0, none⟩)]) rfl trivial (enters_of Try.func104 (by kernel_rfl) rfl)
                  (Sq := untA bl bt S t) (Plain.unt bl bt S t) (fun pre => sep (cellK bu pre) (sep (quA q T) (sep (refA nb T) (sep (quA qc S) (sep (refA rb S) (sep (boxA b0 50 #[.int .i64 nn, .int .i64 t]) emp))))))
                  (fun _ => (Plain.cellK _ _).sep ((Plain.qu _ _).sep ((Plain.ref _ _).sep ((Plain.qu _ _).sep ((Plain.ref _ _).sep ((Plain.box _ _ _).sep Plain.emp)))))) (fun _ _ => prA False) (fun _ _ => Plain.pr _) H8.out (fun K hK => unt_iter _ (by omega) hK) (fun _ => rfl) ?round ?done ?stop
                case round =>
                  rintro K l pre ⟨x1, x2⟩ A hlA hlr hpre hon
                  have hlp := hpre.length_le
                  rw [List.length_append, List.length_singleton] at hlp
                  have hlu := (upto_pre S t).length_le
                  obtain ⟨kb, hkb⟩ : ∃ b, A.heap.size = b := ⟨_, rfl⟩
                  obtain ⟨A1, hA1⟩ : ∃ A1, A.alloc (.cells #[.int .i64 x2, .int .i64 x1] 24) = A1 := ⟨_, rfl⟩
                  have h8 := (hon.new1 24 #[.int .i64 x2, .int .i64 x1]).sw0
                  rw [hA1, hkb] at h8
                  have H9 := Lib.hid h8
                  clear hon hpre h8 hlr
                  gi_wp2_with fail
                  clear hA1 hkb
                  refine ⟨_, (Plain.box _ _ _).sep ((Plain.cellK _ _).sep ((Plain.qu _ _).sep ((Plain.ref _ _).sep ((Plain.qu _ _).sep ((Plain.ref _ _).sep ((Plain.box _ _ _).sep Plain.emp)))))), H9.out, fun Wb _ h9 => ?_⟩
                  obtain ⟨v, h10⟩ := (h9.sw1.sw0).ex_open
                  have h11 := h10.assoc
                  obtain ⟨va, vc, rfl, _⟩ := h11.sw0.keys1
                  have p0 : Wb.cell? ⟨bu, 0, none⟩ = some (.slice va pre.length vc) := (h11.box1 0).1
                  have p2 : Wb.cell? ⟨kb, 0, none⟩ = some (.int .i64 x2) := ((h11.sw2.sw1.sw0).box1 0).1
                  have p3 : Wb.cell? ⟨kb, 1, none⟩ = some (.int .i64 x1) := ((h11.sw2.sw1.sw0).box1 1).1
                  have h12 := h11.sw0
                  have hbk : Below Wb.heap.size Wb (Wb.alloc (.cells #[.int .i64 x2, .int .i64 x1] 24)) := (Below.refl _ Wb).alloc (Nat.le_refl _) _
                  obtain ⟨F, ⟨how, _⟩, _⟩ := (h12.below hbk).get1
                  have HRd := Lib.hid (keys_reads Wb x2 x1)
                  have HOw := Lib.hid how
                  have hkc := keyC_cells (x1, x2)
                  have hmx : pre.length + 1 ≤ maxLen := by unfold maxLen; omega
                  have hby : (pre.length + 1) * 16 ≤ 140737488355328 := by omega
                  have H12 := Lib.hid h12
                  have HBk := Lib.hid hbk
                  clear h9 h10 h11 h12 how hbk
                  gi_wp2_with (gi_at_builtin; go_loud (refine wpListIn_append_any (by rfl) _ _ 30 (by rfl) 24 2 16 keySlice (.slice va pre.length vc) pre.length (pre.flatMap keyC) (by rfl) HOw.out _ 1 (keyC (x1, x2)) (by rfl) HRd.out hkc hmx hby ?_; intro v' A2 hown hgrow hat; obtain ⟨qq, qn, qcc, rfl⟩ := own_form hown; have h13 := H12.out.keys_push HBk.out hgrow hown hat; have s4 : A2.cell? ⟨bu, 0, none⟩ = some (.slice va pre.length vc) := (h13.sw0.box1 0).1; have s5 : A2.frozen? ⟨bu, 0, none⟩ = false := (h13.sw0.box1 0).2; have H13 := Lib.hid (h13.sw0.box_set 0 (.slice qq qn qcc)); clear h13 hown hgrow hat))
                  have h14 := On.ex_shut (f := fun v => sep (boxA bu 30 #[v]) (keysA v (pre ++ [(x1, x2)]))) _ (On.assoc' H13.out)
                  exact (h14.sw0.sw1).sw0.out1
                case done =>
                  intro D A hD hon hKd
                  have hDw : w.heap.size ≤ D := Nat.le_trans H8.out.to_below.size hD
                  obtain ⟨u, hu⟩ : ∃ u, (upto S t).length = u := ⟨_, rfl⟩
                  have hu8 : u ≤ 800 := by rw [← hu]; have := (upto_pre S t).length_le; omega
                  have hond := hon.below ((Below.refl _ A).drew)
                  obtain ⟨v, h10⟩ := (hond.sw0).ex_open
                  have h11 := h10.assoc
                  obtain ⟨va, vc, rfl, _, _, hka⟩ := h11.sw0.keys_cap rfl (by rw [kv, List.length_map, hu])
                  have hfin : Calls Try.prog 41 #[.pointer (some ⟨rb, 0, none⟩), .int .i64 t] A.drew fun e w1 => ∃ a2 c2, e = .returned (.slice a2 u c2) ∧ (w1.cell? ⟨bu, 0, none⟩ = some (.slice va u vc) ∧ w1.cell? ⟨b0, 1, none⟩ = some (.int .i64 t)) ∧
                      Hid (Calls Try.prog 32 #[.slice va u vc, .slice a2 u c2] w1 fun e w2 => e = .returned (.bool true) ∧ (w2.cell? ⟨bu, 0, none⟩ = some (.slice va u vc) ∧ w2.cell? ⟨b0, 1, none⟩ = some (.int .i64 t)) ∧
                        Hid (Calls Try.prog 39 #[.pointer (some ⟨qc, 0, none⟩), .pointer (some ⟨rb, 0, none⟩)] w2 fun e w3 => e = .returned (.bool true) ∧ (w3.cell? ⟨bu, 0, none⟩ = some (.slice va u vc) ∧ w3.cell? ⟨b0, 1, none⟩ = some (.int .i64 t)) ∧
                          Hid (Calls Try.prog 39 #[.pointer (some ⟨q, 0, none⟩), .pointer (some ⟨nb, 0, none⟩)] w3 fun e w4 => e = .returned (.bool true) ∧ (w4.cell? ⟨bu, 0, none⟩ = some (.slice va u vc) ∧ w4.cell? ⟨b0, 1, none⟩ = some (.int .i64 t)) ∧
                            Hid (Calls Try.prog 27 #[] w4 fun e w5 => e = .returned (.bool true) ∧ (w5.cell? ⟨bu, 0, none⟩ = some (.slice va u vc) ∧ w5.cell? ⟨b0, 1, none⟩ = some (.int .i64 t)) ∧
                              Hid (On w w5 (sep (mkA D) emp)))))) := by
                    have h12 := h11.mk_add (D := D) hKd
                    refine (RL_until (h12.sw6.sw5.sw4.sw3.sw2.sw1.sw0) (by omega) t).mono fun e w1 ⟨a2, c2, he, hb1, hk2⟩ => ?_
                    rw [hu] at he
                    have g1 := h12.below hb1
                    refine ⟨a2, c2, he, ⟨((g1.sw0).box1 0).1, ((g1.sw7.sw6.sw5.sw4.sw3.sw2.sw1.sw0).box1 1).1⟩, Lib.hid ?_⟩
                    have hkc := keys_ok va a2 vc c2 _ _ w1 (hka _ _ _ (g1.sw1.sw0)) hk2 (by rw [kv, List.length_map, hu]; omega) (by rw [kv, List.length_map, hu]; omega)
                    rw [kv, List.length_map, hu, decide_eq_true rfl] at hkc
                    refine hkc.mono fun e w2 ⟨he, hb2⟩ => ?_
                    have g2 := g1.below hb2
                    refine ⟨he, ⟨((g2.sw0).box1 0).1, ((g2.sw7.sw6.sw5.sw4.sw3.sw2.sw1.sw0).box1 1).1⟩, Lib.hid ?_⟩
                    refine (same4_ok (g2.sw5.sw4.sw3.sw2.sw1.sw0.sw6.sw5.sw4.sw3.sw2.sw1) HS.out (by omega)).mono fun e w3 ⟨he, g3⟩ => ?_
                    refine ⟨he, ⟨((g3.sw2.sw1.sw0).box1 0).1, ((g3.sw7.sw6.sw5.sw4.sw3.sw2.sw1.sw0).box1 1).1⟩, Lib.hid ?_⟩
                    refine (same4_ok (g3.sw5.sw4.sw3.sw2.sw1.sw0.sw6.sw5.sw4.sw3.sw2.sw1) HSs.out (by omega)).mono fun e w4 ⟨he, g4⟩ => ?_
                    refine ⟨he, ⟨((g4.sw4.sw3.sw2.sw1.sw0).box1 0).1, ((g4.sw7.sw6.sw5.sw4.sw3.sw2.sw1.sw0).box1 1).1⟩, Lib.hid ?_⟩
                    refine (qawake_ok w4).mono fun e w5 ⟨he, hb5⟩ => ?_
                    have g5 := g4.below hb5
                    exact ⟨he, ⟨((g5.sw4.sw3.sw2.sw1.sw0).box1 0).1, ((g5.sw7.sw6.sw5.sw4.sw3.sw2.sw1.sw0).box1 1).1⟩, Lib.hid (g5.sw4.sw5.sw6.sw7).out1.out1.out1.out1.out1.out1.out1.out1⟩
                  obtain ⟨p0, p1⟩ : A.drew.cell? ⟨bu, 0, none⟩ = some (.slice va u vc) ∧ A.drew.cell? ⟨b0, 1, none⟩ = some (.int .i64 t) := ⟨(h11.box1 0).1, ((h11.sw6.sw5.sw4.sw3.sw2.sw1.sw0).box1 1).1⟩
                  have HFin := Lib.hid hfin
                  clear hon hKd hond h10 h11 hka hfin hu
                  gi_wp2_with fail
                  refine wpIn_wide.2 ?_
                  go_region_held3 (fun A0 => A0.cell? ⟨bu, 0, none⟩ = some (.slice va u vc) ∧ A0.cell? ⟨b0, 1, none⟩ = some (.int .i64 t))
                    (first | (refine ⟨?_, ?_⟩ <;> assumption) | go_keep)
                    (first
                      | (go_at_call 41; refine HFin.out.mono ?_; rintro e B1 ⟨a2, c2, rfl, ⟨k1, l1⟩, HK1⟩)
                      | (go_at_call 32; refine HK1.out.mono ?_; rintro e B2 ⟨rfl, ⟨k2, l2⟩, HK2⟩)
                      | (go_at_call 39; ((with_reducible refine HK2.out.mono ?_); rintro e B3 ⟨rfl, ⟨k3, l3⟩, HK3⟩))
                      | (go_at_call 39; ((with_reducible refine HK3.out.mono ?_); rintro e B4 ⟨rfl, ⟨k4, l4⟩, HK4'⟩))
                      | (go_at_call 27; refine HK4'.out.mono ?_; rintro e B5 ⟨rfl, ⟨k5, l5⟩, HK5⟩))
                  gi_wp2_with fail
                  all_goals exact fin_mark (X := emp) Plain.emp HK5.out.out1 hDw HK5.out.mk_get (fun A' h => ⟨by simp [results, Try.f5, go_sem], rfl, h.to_below⟩)
                case stop =>
                  intro D c pre A _ _ h _
                  exact (On.pr_open (p := False) (On.comm h)).1.elim
    · rw [decide_eq_false hfew2]
      rintro e w2 ⟨rfl, rfl⟩
      have HB1 := Lib.hid H1.out.to_below
      have HA := Lib.hid (qawake_ok w2)
      gi_wp2_with fail
      refine ⟨trivial, ?_⟩
      refine (callsIn_wide.2 HA.out).mono ?_
      rintro e w3 ⟨rfl, hb3⟩
      have HB3 := Lib.hid hb3
      clear hb3
      gi_wp2_with fail
      exact ⟨.bool true, by simp [results, Try.f5, go_sem], rfl, HB1.out.trans (HB3.out.mono HB1.out.size)⟩
  · rw [decide_eq_false hfew]
    rintro e w2 ⟨rfl, rfl⟩
    have HB1 := Lib.hid H1.out.to_below
    have HA := Lib.hid (qawake_ok w2)
    gi_wp2_with fail
    refine ⟨trivial, ?_⟩
    gi_wp2_with fail
    refine ⟨trivial, ?_⟩
    refine (callsIn_wide.2 HA.out).mono ?_
    rintro e w3 ⟨rfl, hb3⟩
    have HB3 := Lib.hid hb3
    clear hb3
    gi_wp2_with fail
    exact ⟨.bool true, by simp [results, Try.f5, go_sem], rfl, HB1.out.trans (HB3.out.mono HB1.out.size)⟩
end Go.Proofs.Ytkjpkhpiojahkaa
