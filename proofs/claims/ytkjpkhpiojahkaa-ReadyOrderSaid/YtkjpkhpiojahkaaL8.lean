/-
  Walk: ReadyOrder.
-/
import Derived.Test.YtkjpkhpiojahkaaOp4
import Derived.Test.YtkjpkhpiojahkaaKey2
import Derived.Test.YtkjpkhpiojahkaaL6
import Derived.Deep.DeepCutAuto
namespace Go.Proofs.Ytkjpkhpiojahkaa
set_option linter.unusedVariables false
open Go.RowKit Hp
attribute [local go_sem] Oper.semAt_some

namespace Hp
/-- every time of a queue is one that it takes -/
def Timed (S : List (It Int)) : Prop := ∀ x ∈ S, timeE x.2 = 0
theorem Timed.putL {S : List (It Int)} {ks : List (Int × Int)} (h : Timed S) : Timed (putL S ks) := by
  unfold Hp.putL
  split
  · rename_i hok
    have hp := okAll_puts (S := S) (ks := ks) hok
    intro x hx
    rcases List.mem_append.1 ((putAll_perm hp).subset hx) with hx | hx
    · exact h x hx
    · obtain ⟨k, hk, rfl⟩ := List.mem_map.1 hx
      exact (hp.1 k hk).2.1
  · exact h
theorem Timed.moveS {S : List (It Int)} {t id : Int} (h : Timed S) : Timed (moveS S t id) := by
  unfold Go.Proofs.Ytkjpkhpiojahkaa.moveS
  split
  · split
    · rename_i hh ht
      unfold chS
      rw [if_pos hh]
      intro x hx
      rcases ins_mem.1 hx with hx | hx
      · rw [hx]; exact ht
      · exact h x (without_sub.subset hx)
    · exact h
  · exact h
theorem Timed.stepQ {S : List (It Int)} {ask t id : Int} {ks : List (Int × Int)} (h : Timed S) : Timed (stepQ S ask t id ks) := by
  unfold Hp.stepQ
  split
  · exact h.putL
  · split
    · exact h.moveS
    · split
      · exact fun x hx => h x (without_sub.subset hx)
      · exact h
theorem move_back {S : List (It Int)} {t id k0 : Int} (hs : Sorted ltI S) (hd : S.Pairwise fun a b => a.1 ≠ b.1) (hm : (id, k0) ∈ S) (ht : timeE k0 = 0) :
    moveE (moveS S t id) k0 id = 0 ∧ moveS (moveS S t id) k0 id = S := by
  have hh := has_mem hm
  by_cases h0 : timeE t = 0
  · have e : moveS S t id = chS ltI S id t := by unfold Go.Proofs.Ytkjpkhpiojahkaa.moveS; rw [if_pos hh, if_pos h0]
    have hh2 : has (chS ltI S id t) id = true := by unfold chS; rw [if_pos hh]; exact has_ins
    rw [e]
    refine ⟨by unfold moveE; rw [if_pos hh2, ht], ?_⟩
    unfold Go.Proofs.Ytkjpkhpiojahkaa.moveS
    rw [if_pos hh2, if_pos ht]
    exact chS_back ltI_swo hs hd hm
  · have e : moveS S t id = S := by unfold Go.Proofs.Ytkjpkhpiojahkaa.moveS; rw [if_pos hh, if_neg h0]
    rw [e]
    refine ⟨by unfold moveE; rw [if_pos hh, ht], ?_⟩
    unfold Go.Proofs.Ytkjpkhpiojahkaa.moveS
    rw [if_pos hh, if_pos ht]
    unfold chS
    rw [if_pos hh]
    exact ins_back ltI_swo hs hd hm
theorem ends_at {S : List (It Int)} {x y : It Int} {k : Nat} (hx : S[0]? = some x) (hy : S[k]? = some y) (hk : S.length = k + 1) : S.headD (0, 0) = x ∧ S.reverse.headD (0, 0) = y ∧ S ≠ [] := by
  refine ⟨?_, ?_, fun e => by rw [e] at hx; cases hx⟩
  · cases S with
    | nil => cases hx
    | cons z S => cases hx; rfl
  · have h1 : S.reverse[0]? = some y := by
      rw [List.getElem?_reverse (by omega), hk]
      simpa using hy
    cases hr : S.reverse with
    | nil => rw [hr] at h1; cases h1
    | cons z T => rw [hr] at h1; cases h1; rfl
theorem keysAt_take {w : World} {a : Option Addr} {ks : List (Int × Int)} {i : Nat} (h : Ke.KeysAt w a ks) : Ke.KeysAt w a (ks.take i) := by
  rcases h with h | ⟨b, off, rfl, hb, h⟩
  · exact .inl (by rw [List.length_take]; omega)
  · refine .inr ⟨b, off, rfl, hb, fun k hk => ?_⟩
    rw [List.length_take] at hk
    rw [List.getElem?_take_of_lt (by omega)]
    exact h k (by omega)
theorem leastS_nat {S : List (It Int)} (m : Nat) : leastS S (m : Int) = S.take m := by
  unfold leastS
  split
  · have : m = 0 := by omega
    subst this; rfl
  · rw [Int.toNat_natCast]
end Hp

set_option maxRecDepth 100000 in
set_option maxHeartbeats 8000000 in
theorem order_ok (a : Option Addr) (cap : Nat) (os : List Op4) (m kt kid : Int) (hkid : (Lit.int .i64 kid).wf = true) (hmw : (Lit.int .i64 m).wf = true) (w : World) (ho : OpsAt4 w a os) (hcap : os.length ≤ 9223372036854775807) :
    Calls Try.prog 3 #[.slice a os.length cap, .int .i64 m, .agg #[.int .i64 kt, .int .i64 kid]] w fun e w' => e = .returned (.bool true) ∧ Below w.heap.size w w' := by
  obtain ⟨n, hn⟩ : ∃ n, os.length = n := ⟨_, rfl⟩
  obtain ⟨b5, hb5⟩ : ∃ b, w.heap.size = b := ⟨_, rfl⟩
  obtain ⟨W, hW⟩ : ∃ W, w.alloc (.cells #[.int .i64 kt, .int .i64 kid] 24) = W := ⟨_, rfl⟩
  have h0 := (On.emp w).new1 24 #[.int .i64 kt, .int .i64 kid]
  rw [hW, hb5] at h0
  have HN0 := Lib.hid (Q_new h0)
  have HO := Lib.hid ho
  have HN := Lib.hid hn
  have HFw := Lib.hid (fun (A : World) (hb : Below w.heap.size w A) => few4_any ho cap A hb hcap)
  rw [hn] at HFw hcap ⊢
  clear h0 ho hn
  go_enter Try.func3, Try.ntmps3
  go_wp2_with fail
  clear hW
  refine HN0.out.mono ?_
  rintro e w1 ⟨q, rfl, h1⟩
  have HF1 := Lib.hid (HFw.out _ h1.to_below)
  have H1 := Lib.hid h1
  clear h1
  go_wp2_with fail
  refine HF1.out.mono ?_
  by_cases hfew : fewP os
  · rw [decide_eq_true hfew]
    rintro e w2 ⟨rfl, rfl⟩
    obtain ⟨rb, hrb⟩ : ∃ rb, w2.heap.size = rb := ⟨_, rfl⟩
    have h2 := H1.out.add ((Below.refl _ w2).alloc (Nat.le_refl _) _) (refA_new w2) (fun j hj => by omega)
    rw [hrb] at h2
    have H2 := Lib.hid h2.left
    have HFew := Lib.hid hfew
    clear h2 hfew
    go_wp2_with fail
    go_loopg [9] n (fun gh s9 wr => ∃ (i : Nat) (S : List (It Int)), i + gh = n ∧ s9 = .int .i64 (i : Int) ∧ Sorted ltI S ∧ Timed S ∧ S.length ≤ 20 * i ∧ On w wr (sep (quA q S) (sep (refA rb S) (sep (boxA b5 24 #[.int .i64 kt, .int .i64 kid]) emp))))
    case atStart => exact ⟨0, [], by omega, rfl, List.Pairwise.nil, (fun x hx => by cases hx), by simp, H2.out⟩
    case round =>
      obtain ⟨i, S, hi, rfl, hs, ht, hsl, hon⟩ := hrel
      have hn40 : n ≤ 40 := by have := HFew.out.2; rw [HN.out] at this; exact this
      by_cases hlt : i < n
      · have hltI : (i : Int) < (n : Int) := by omega
        have hi0 : (0 : Int) ≤ (i : Int) := by omega
        obtain ⟨b, off, o, rfl, hoi, q0, q1, q2, q3, hg1, hg2, hg3, hg4, hg5⟩ := HO.out.get hon.to_below (k := i) (by rw [HN.out]; exact hlt)
        have hk20 : o.ks.length ≤ 20 := HFew.out.1 o (List.mem_of_getElem? hoi)
        have hdo := does4_ok hon (by omega) hg2 hg3 hg4 hg5 o.ask o.t o.id hg1
        have HDo := Lib.hid hdo
        have HS := Lib.hid (stepQ_sorted (ask := o.ask) (t := o.t) (id := o.id) (ks := o.ks) hs)
        have HT := Lib.hid (Timed.stepQ (ask := o.ask) (t := o.t) (id := o.id) (ks := o.ks) ht)
        have HL := Lib.hid (show (stepQ S o.ask o.t o.id o.ks).length ≤ 20 * (i + 1) by have := stepQ_length (S := S) (ask := o.ask) (t := o.t) (id := o.id) (ks := o.ks); omega)
        clear hdo hs ht hsl hon hg1 hg2 hg3 hg4 hg5 hoi
        go_wp2_with fail
        refine HDo.out.mono ?_
        rintro e x1 ⟨rfl, hon1⟩
        have H3 := Lib.hid hon1
        clear hon1
        go_wp2_with fail
        go_roundg (n - (i + 1))
        case measure => omega
        case rel => exact ⟨i + 1, _, by omega, by go_num, HS.out, HT.out, HL.out, H3.out⟩
      · have hin : i = n := by omega
        subst hin
        have hS800 : S.length ≤ 800 := by omega
        obtain ⟨k, hk⟩ : ∃ k, S.length = k := ⟨_, rfl⟩
        have hln := Q_len hon
        have hls := Q_least_all hon hs (by omega) (k : Int) (by omega)
        rw [hk] at hln
        have HLn := Lib.hid hln
        have HLs := Lib.hid hls
        have HS := Lib.hid hs
        have HT := Lib.hid ht
        have HK := Lib.hid hk
        rw [hk] at hS800
        clear hs ht hsl hon hln hls hk
        go_wp2_with fail
        refine HLn.out.mono ?_
        rintro e x1 ⟨rfl, rfl⟩
        go_wp2_with fail
        refine HLs.out.mono ?_
        rintro e x2 ⟨va, rfl, h2⟩
        obtain ⟨aa, ac, rfl, hac1, hac2, hall⟩ := h2.keys_cap rfl (by rw [kv, List.length_map, HK.out])
        have H2 := Lib.hid h2
        have HAll := Lib.hid hall
        clear h2 hall
        go_wp2_with fail
        go_loopg [11] k (fun gh s11 wr => ∃ j : Nat, j + gh = k ∧ s11 = .int .i64 (j : Int) ∧ On w wr (sep (keysA (.slice aa k ac) S) (sep (quA q S) (sep (refA rb S) (sep (boxA b5 24 #[.int .i64 kt, .int .i64 kid]) emp)))))
        case atStart => exact ⟨0, by omega, rfl, H2.out⟩
        case round =>
          obtain ⟨j, hj, rfl, hon⟩ := hrel
          by_cases hjk : j < k
          · have hjI : (j : Int) < (k : Int) := by omega
            have hj0 : (0 : Int) ≤ (j : Int) := by omega
            obtain ⟨b, off, rfl, hb, hc⟩ := keysAt_get (HAll.out _ _ _ hon) (n := k) (by omega) (by rw [kv, List.length_map, HK.out])
            have H3 := Lib.hid (hon.below ((Below.refl _ wr).drew))
            cases j with
            | zero =>
              clear hon hc
              go_wp2_with fail
              refine wp_region_loose (fun A => A = wr.drew) (by kernel_rfl) (by kernel_rfl) rfl ?_
              iterate 15 (first
                | (refine loose_skip (by rfl) ?_; simp only [Act.put, List.setIfInBounds_toArray, List.set_cons_zero, List.set_cons_succ])
                | (refine loose_val (v := ?_) (by rfl) ?_ ?_; rotate_left; (focus (intro A' hA'; subst hA'; go_simp; first | done | with_reducible rfl)); simp only [Act.put, List.setIfInBounds_toArray, List.set_cons_zero, List.set_cons_succ]))
              refine loose_nil ?_
              intro A3 hA3
              subst hA3
              go_wp2_with fail
              go_roundg (k - 1)
              case measure => omega
              case rel => exact ⟨1, by omega, by go_num, H3.out⟩
            | succ j =>
              obtain ⟨x, hx⟩ : ∃ x, S[j]? = some x := ⟨_, List.getElem?_eq_getElem (by rw [HK.out]; omega)⟩
              obtain ⟨y, hy⟩ : ∃ y, S[j + 1]? = some y := ⟨_, List.getElem?_eq_getElem (by rw [HK.out]; omega)⟩
              obtain ⟨r0, r1⟩ := hc j (by omega)
              obtain ⟨r2, r3⟩ := hc (j + 1) (by omega)
              rw [kv, List.getElem?_map, hx] at r0 r1
              rw [kv, List.getElem?_map, hy] at r2 r3
              simp only [Option.map_some, Option.getD_some] at r0 r1 r2 r3
              have hbf : Ke.bef (x.2, x.1) (y.2, y.1) = true := by
                rw [ke_bef_eq]
                have hp := List.pairwise_iff_getElem.1 HS.out j (j + 1) (by rw [HK.out]; omega) (by rw [HK.out]; omega) (by omega)
                rw [List.getElem?_eq_getElem (by rw [HK.out]; omega)] at hx hy
                cases hx
                cases hy
                exact hp
              have hcb : ∀ A, Below wr.drew.heap.size wr.drew A → Calls Try.prog 31 #[.agg #[.int .i64 x.2, .int .i64 x.1], .agg #[.int .i64 y.2, .int .i64 y.1]] A fun e w' => e = .returned (.bool true) ∧ Below wr.drew.heap.size wr.drew w' := fun A hA =>
                (Ke.before_any x.2 x.1 y.2 y.1 A).mono fun e w' ⟨h1, h2⟩ => ⟨by rw [h1, hbf], hA.trans (h2.mono hA.size)⟩
              have r0 : wr.drew.cell? ⟨b, off + j * 2, none⟩ = some (.int .i64 x.2) := r0
              have r1 : wr.drew.cell? ⟨b, off + j * 2 + 1, none⟩ = some (.int .i64 x.1) := r1
              have r2 : wr.drew.cell? ⟨b, off + (j + 1) * 2, none⟩ = some (.int .i64 y.2) := r2
              have r3 : wr.drew.cell? ⟨b, off + (j + 1) * 2 + 1, none⟩ = some (.int .i64 y.1) := r3
              have HCb := Lib.hid hcb
              have hwr1 : IntKind.i64.wrap (((j + 1 : Nat) : Int) - 1) = (j : Int) := by rw [IntWalk.i64_in _ (by omega)]; omega
              have hwr2 : IntKind.i64.wrap (j : Int) = (j : Int) := IntWalk.i64_in _ (by omega)
              have hjj : (j : Int) < (k : Int) := by omega
              have hjj0 : (0 : Int) ≤ (j : Int) := by omega
              have hjp : (0 : Int) < (j : Int) + 1 := by omega
              have hjI' : (j : Int) + 1 < (k : Int) := by omega
              have hj0' : (0 : Int) ≤ (j : Int) + 1 := by omega
              clear hon hc hx hy hbf hcb
              go_wp2_with fail
              refine wp_region_loose (fun A => Below wr.drew.heap.size wr.drew A) (by kernel_rfl) (by kernel_rfl) (Below.refl _ _) ?_
              iterate 15 (first
                | (refine loose_skip (by rfl) ?_; simp only [Act.put, List.setIfInBounds_toArray, List.set_cons_zero, List.set_cons_succ])
                | (refine loose_val (v := ?_) (by rfl) ?_ ?_; rotate_left; (focus (intro A' hA'; have s0 := zatB r0 hA' ;  have s1 := zatB r1 hA' ;  have s2 := zatB r2 hA' ;  have s3 := zatB r3 hA'; go_simp; first | done | with_reducible rfl)); simp only [Act.put, List.setIfInBounds_toArray, List.set_cons_zero, List.set_cons_succ])
                | (refine loose_call HCb.out (by rfl) ?_ ?_; (focus (intro A' hA'; go_simp; done)); simp only [Act.put, List.setIfInBounds_toArray, List.set_cons_zero, List.set_cons_succ]))
              refine loose_nil ?_
              intro A3 hA3
              have H4 := Lib.hid (H3.out.below hA3)
              clear hA3 r0 r1 r2 r3
              go_wp2_with fail
              go_roundg (k - (j + 2))
              case measure => omega
              case rel => exact ⟨j + 2, by omega, by go_num, H4.out⟩
          · have hjk : k = j := by omega
            subst hjk
            have H3 := Lib.hid hon
            clear hon
            go_upto_region 15 with fail
            go_cut [78] (fun s78 wy => ∃ g : Bool, s78 = .bool g ∧ (g = true → 0 ≤ m ∧ m < 1000) ∧ On w wy (sep (keysA (.slice aa k ac) S) (sep (quA q S) (sep (refA rb S) (sep (boxA b5 24 #[.int .i64 kt, .int .i64 kid]) emp)))))
            case first =>
              by_cases hm0 : 0 ≤ m
              · by_cases hm1 : m < 1000
                · have hg1 : decide (0 ≤ m) = true := by simp; omega
                  have hg2 : decide (m < 1000) = true := by simp; omega
                  go_wp2_with fail
                  go_meet
                  case rel => exact ⟨true, rfl, fun _ => ⟨hm0, hm1⟩, H3.out⟩
                · have hg1 : decide (0 ≤ m) = true := by simp; omega
                  have hg2 : decide (m < 1000) = false := by simp; omega
                  go_wp2_with fail
                  go_meet
                  case rel => exact ⟨false, rfl, (fun h => by cases h), H3.out⟩
              · have hg1 : decide (0 ≤ m) = false := by simp; omega
                go_wp2_with fail
                go_meet
                case rel => exact ⟨false, rfl, (fun h => by cases h), H3.out⟩
            case rest =>
              obtain ⟨gm, rfl, hgm, hon⟩ := hcut
              have H3 := Lib.hid hon
              clear hon
              go_upto_if 78 with fail
              go_cut [12, 13] (fun s12 s13 wy => On w wy (sep (keysA (.slice aa k ac) S) (sep (quA q S) (sep (refA rb S) (sep (boxA b5 24 #[.int .i64 kt, .int .i64 kid]) emp)))))
              case first =>
                cases gm with
                | false =>
                  go_wp2_with fail
                  go_meet
                  case rel => exact H3.out
                | true =>
                  obtain ⟨hm0, hm1⟩ := hgm rfl
                  clear hgm
                  obtain ⟨mn, rfl⟩ : ∃ mn : Nat, m = (mn : Int) := ⟨m.toNat, by omega⟩
                  have h1 := Q_least H3.out.sw0 HS.out (by have := HK.out; omega) (mn : Int)
                  rw [leastS_nat] at h1
                  have H4 := Lib.hid h1
                  clear h1
                  go_wp2_with fail
                  refine H4.out.mono ?_
                  rintro e y1 ⟨v1, rfl, h1⟩
                  have hmw1 : (mn : Int) + 1 = ((mn + 1 : Nat) : Int) := by omega
                  have h2 := Q_least h1.sw0 HS.out (by have := HK.out; omega) ((mn : Int) + 1)
                  rw [hmw1, leastS_nat] at h2
                  obtain ⟨la, hla⟩ : ∃ la, (S.take mn).length = la := ⟨_, rfl⟩
                  obtain ⟨lb, hlb⟩ : ∃ lb, (S.take (mn + 1)).length = lb := ⟨_, rfl⟩
                  obtain ⟨ba, bc, rfl, hbc1, hbc2, hka⟩ := h1.keys_cap rfl (by rw [kv, List.length_map, hla])
                  rw [← hmw1] at h2
                  have H5 := Lib.hid h2
                  have HKa := Lib.hid hka
                  have HLa := Lib.hid hla
                  have HLb := Lib.hid hlb
                  clear h1 h2 hka hla hlb hmw1
                  go_wp2_with fail
                  refine H5.out.mono ?_
                  rintro e y2 ⟨v2, rfl, h2⟩
                  obtain ⟨da, dc, rfl, hdc1, hdc2, hkd⟩ := h2.keys_cap rfl (by rw [kv, List.length_map, HLb.out])
                  have hl800 : la ≤ 1000 := by rw [← HLa.out, List.length_take]; omega
                  have hlab : la ≤ lb := by rw [← HLa.out, ← HLb.out, List.length_take, List.length_take]; omega
                  have H7 := Lib.hid h2
                  have HKd := Lib.hid hkd
                  clear h2 hkd
                  go_wp2_with fail
                  have h8 := H7.out
                  have hkt : kv (S.take mn) = (kv (S.take (mn + 1))).take la := by
                    rw [kv, kv, ← List.map_take, List.take_take]
                    congr 1
                    have hl := HLa.out
                    rw [List.length_take] at hl
                    by_cases h : mn ≤ S.length
                    · congr 1; omega
                    · rw [List.take_of_length_le (by omega), List.take_of_length_le (by omega)]
                  have hkc := keys_ok ba da bc dc (kv (S.take mn)) ((kv (S.take (mn + 1))).take la) y2 (HKa.out _ _ _ (h8.sw1.sw0)) (keysAt_take (HKd.out _ _ _ h8)) (by rw [kv, List.length_map, HLa.out]; omega) (by rw [← hkt, kv, List.length_map, HLa.out]; omega)
                  rw [← hkt, kv, List.length_map, HLa.out, decide_eq_true rfl] at hkc
                  have HKc := Lib.hid hkc
                  have hmin : min (mn : Int) (k : Int) = (la : Int) := by have hl := HLa.out; rw [List.length_take, HK.out] at hl; omega
                  clear h8 hkt hkc
                  refine HKc.out.mono ?_
                  rintro e y3 ⟨rfl, hb3⟩
                  have h9 := H7.out.below hb3
                  have H9 := Lib.hid (h9.sw1.sw2).out1.out1
                  clear hb3 h9
                  have hnlt : ¬ lb < la := by omega
                  by_cases hkm : k < mn
                  · have e : la = k := by omega
                    clear hmin
                    subst e
                    go_wp2_with fail
                    go_meet
                    case rel => exact H9.out
                  · have e : la = mn := by omega
                    clear hmin
                    subst e
                    go_wp2_with fail
                    go_meet
                    case rel => exact H9.out
              case rest =>
                have H3 := Lib.hid hcut
                clear hcut
                go_wp2_with fail
                obtain ⟨p1, hp1⟩ : ∃ p, (S.headD (0, 0)).2 = p := ⟨_, rfl⟩
                obtain ⟨q1, hq1⟩ : ∃ p, (S.headD (0, 0)).1 = p := ⟨_, rfl⟩
                obtain ⟨e1, he1⟩ : ∃ p, headE S = p := ⟨_, rfl⟩
                obtain ⟨p2, hp2⟩ : ∃ p, (S.reverse.headD (0, 0)).2 = p := ⟨_, rfl⟩
                obtain ⟨q2, hq2⟩ : ∃ p, (S.reverse.headD (0, 0)).1 = p := ⟨_, rfl⟩
                obtain ⟨e2, he2⟩ : ∃ p, headE S.reverse = p := ⟨_, rfl⟩
                have hf := Q_first H3.out.sw0 HS.out
                rw [hp1, hq1, he1] at hf
                refine hf.mono ?_
                rintro e y1 ⟨rfl, hb1⟩
                obtain ⟨ba, hba⟩ : ∃ ba, y1.heap.size = ba := ⟨_, rfl⟩
                obtain ⟨y2, hy2⟩ : ∃ y2, y1.alloc (.cells #[.int .i64 p1, .int .i64 q1] 24) = y2 := ⟨_, rfl⟩
                have h2 := (H3.out.below hb1).new1 24 #[.int .i64 p1, .int .i64 q1]
                rw [hy2, hba] at h2
                have hf2 := Q_last (h2.sw1.sw0) HS.out
                rw [hp2, hq2, he2] at hf2
                have HF2 := Lib.hid hf2
                have HH2 := Lib.hid h2
                have HP1 := Lib.hid hp1
                have HQ1 := Lib.hid hq1
                have HE1 := Lib.hid he1
                have HP2 := Lib.hid hp2
                have HQ2 := Lib.hid hq2
                have HE2 := Lib.hid he2
                clear hf hf2 h2 hb1 hp1 hq1 he1 hp2 hq2 he2
                go_wp2_with fail
                clear hy2 hba
                refine HF2.out.mono ?_
                rintro e y3 ⟨rfl, hb3⟩
                obtain ⟨bb, hbb⟩ : ∃ bb, y3.heap.size = bb := ⟨_, rfl⟩
                obtain ⟨y4, hy4⟩ : ∃ y4, y3.alloc (.cells #[.int .i64 p2, .int .i64 q2] 24) = y4 := ⟨_, rfl⟩
                have h4 := (HH2.out.below hb3).new1 24 #[.int .i64 p2, .int .i64 q2]
                rw [hy4, hbb] at h4
                have H4 := Lib.hid h4
                clear h4 hb3
                go_upto_region 22 with fail
                clear hy4 hbb
                go_cut [146] (fun s146 wy => s146 = .bool false ∧ On w wy (sep (keysA (.slice aa k ac) S) (sep (quA q S) (sep (refA rb S) (sep (boxA b5 24 #[.int .i64 kt, .int .i64 kid]) emp)))))
                case first =>
                  by_cases hk0 : k = 0
                  · have hkg : decide ((0 : Int) < (k : Int)) = false := by simp; omega
                    go_wp2_with fail
                    refine wp_region_loose (fun A => Below y4.drew.heap.size y4.drew A) (by kernel_rfl) (by kernel_rfl) (Below.refl _ _) ?_
                    iterate 28 (first
                      | (refine loose_skip (by rfl) ?_; simp only [Act.put, List.setIfInBounds_toArray, List.set_cons_zero, List.set_cons_succ])
                      | (refine loose_val (v := ?_) (by rfl) ?_ ?_; rotate_left; (focus (intro A' hA'; skip; go_simp; first | done | with_reducible rfl)); simp only [Act.put, List.setIfInBounds_toArray, List.set_cons_zero, List.set_cons_succ]))
                    refine loose_nil ?_
                    intro A3 hA3
                    have H6 := Lib.hid ((H4.out.below ((Below.refl _ y4).drew)).below hA3).out1.out1
                    clear hA3
                    go_wp2_with fail
                    go_meet
                    case rel => exact ⟨rfl, H6.out⟩
                  · have hkg : decide ((0 : Int) < (k : Int)) = true := by simp; omega
                    obtain ⟨k', rfl⟩ : ∃ k', k = k' + 1 := ⟨k - 1, by omega⟩
                    obtain ⟨x, hx⟩ : ∃ x, S[0]? = some x := ⟨_, List.getElem?_eq_getElem (by rw [HK.out]; omega)⟩
                    obtain ⟨y, hy⟩ : ∃ y, S[k']? = some y := ⟨_, List.getElem?_eq_getElem (by rw [HK.out]; omega)⟩
                    obtain ⟨hhd, hrd, hne⟩ := ends_at hx hy (by rw [HK.out])
                    have z1 : p1 = x.2 := by rw [← HP1.out, hhd]
                    have z2 : q1 = x.1 := by rw [← HQ1.out, hhd]
                    have z3 : p2 = y.2 := by rw [← HP2.out, hrd]
                    have z4 : q2 = y.1 := by rw [← HQ2.out, hrd]
                    have z5 : e1 = 0 := by rw [← HE1.out]; unfold headE; rw [if_neg (by simpa using hne)]
                    have z6 : e2 = 0 := by rw [← HE2.out]; unfold headE; rw [if_neg (by simpa using hne)]
                    subst z1 z2 z3 z4 z5 z6
                    obtain ⟨b, off, rfl, _, hc⟩ := keysAt_get (HAll.out _ _ _ (H4.out.sw1.sw0)) (n := k' + 1) (by omega) (by rw [kv, List.length_map, HK.out])
                    obtain ⟨r0, r1⟩ := hc 0 (by omega)
                    obtain ⟨r2, r3⟩ := hc k' (by omega)
                    rw [kv, List.getElem?_map, hx] at r0 r1
                    rw [kv, List.getElem?_map, hy] at r2 r3
                    simp only [Option.map_some, Option.getD_some, Nat.zero_mul, Nat.add_zero] at r0 r1 r2 r3
                    have a0 : y4.drew.cell? ⟨ba, 0, none⟩ = some (.int .i64 x.2) := (H4.out.sw0.box1 0).1
                    have a1 : y4.drew.cell? ⟨ba, 1, none⟩ = some (.int .i64 x.1) := (H4.out.sw0.box1 1).1
                    have b0 : y4.drew.cell? ⟨bb, 0, none⟩ = some (.int .i64 y.2) := (H4.out.box1 0).1
                    have b1 : y4.drew.cell? ⟨bb, 1, none⟩ = some (.int .i64 y.1) := (H4.out.box1 1).1
                    have r0 : y4.drew.cell? ⟨b, off, none⟩ = some (.int .i64 x.2) := r0
                    have r1 : y4.drew.cell? ⟨b, off + 1, none⟩ = some (.int .i64 x.1) := r1
                    have r2 : y4.drew.cell? ⟨b, off + k' * 2, none⟩ = some (.int .i64 y.2) := r2
                    have r3 : y4.drew.cell? ⟨b, off + k' * 2 + 1, none⟩ = some (.int .i64 y.1) := r3
                    have hq1 : ∀ w, (binOp BinOp.neq 24 (.agg #[.int .i64 x.2, .int .i64 x.1]) (.agg #[.int .i64 x.2, .int .i64 x.1])).run Try.prog w = .ok (.bool false) w := fun w => by rw [neq32]; simp
                    have hq2 : ∀ w, (binOp BinOp.neq 24 (.agg #[.int .i64 y.2, .int .i64 y.1]) (.agg #[.int .i64 y.2, .int .i64 y.1])).run Try.prog w = .ok (.bool false) w := fun w => by rw [neq32]; simp
                    have hwr1 : IntKind.i64.wrap (((k' + 1 : Nat) : Int) - 1) = (k' : Int) := by rw [IntWalk.i64_in _ (by omega)]; omega
                    have hwr2 : IntKind.i64.wrap (k' : Int) = (k' : Int) := IntWalk.i64_in _ (by omega)
                    have hm1 : (0 : Int) < ((k' + 1 : Nat) : Int) := by omega
                    have hm2 : (k' : Int) < ((k' + 1 : Nat) : Int) := by omega
                    have hm3 : (0 : Int) ≤ (k' : Int) := by omega
                    have hm4 : (k' : Int) < (k' : Int) + 1 := by omega
                    have hm5 : (0 : Int) < (k' : Int) + 1 := by omega
                    clear hx hy hhd hrd hne hc
                    go_wp2_with fail
                    refine wp_region_loose (fun A => Below y4.drew.heap.size y4.drew A) (by kernel_rfl) (by kernel_rfl) (Below.refl _ _) ?_
                    iterate 28 (first
                      | (refine loose_skip (by rfl) ?_; simp only [Act.put, List.setIfInBounds_toArray, List.set_cons_zero, List.set_cons_succ])
                      | (refine loose_val (v := ?_) (by rfl) ?_ ?_; rotate_left; (focus (intro A' hA'; have s0 := zatB r0 hA' ;  have s1 := zatB r1 hA' ;  have s2 := zatB r2 hA' ;  have s3 := zatB r3 hA' ;  have t0 := zatB a0 hA' ;  have t1 := zatB a1 hA' ;  have t2 := zatB b0 hA' ;  have t3 := zatB b1 hA'; go_simp; first | done | with_reducible rfl)); simp only [Act.put, List.setIfInBounds_toArray, List.set_cons_zero, List.set_cons_succ]))
                    refine loose_nil ?_
                    intro A3 hA3
                    have H6 := Lib.hid ((H4.out.below ((Below.refl _ y4).drew)).below hA3).out1.out1
                    clear hA3 r0 r1 r2 r3 a0 a1 b0 b1
                    go_wp2_with fail
                    go_meet
                    case rel => exact ⟨rfl, H6.out⟩
                case rest =>
                  obtain ⟨rfl, hon⟩ := hcut
                  have H6 := Lib.hid hon
                  clear hon H4 HH2 HF2
                  have d0 : wc.cell? ⟨b5, 0, none⟩ = some (.int .i64 kt) := ((H6.out.sw2.sw1.sw0).box1 0).1
                  have d1 : wc.cell? ⟨b5, 1, none⟩ = some (.int .i64 kid) := ((H6.out.sw2.sw1.sw0).box1 1).1
                  have hlS : S.length < 600000 := by have := HK.out; omega
                  have hdist := H6.out.sw0.qu_distinct
                  obtain ⟨kk, hkk⟩ : ∃ kk, keyAt 0 S kid = kk := ⟨_, rfl⟩
                  obtain ⟨ii, hii⟩ : ∃ ii, idAt S kid = ii := ⟨_, rfl⟩
                  obtain ⟨ge, hge⟩ : ∃ ge, hasE S kid = ge := ⟨_, rfl⟩
                  have hg := Q_get H6.out.sw0 (by omega) kid hkid
                  rw [hkk, hii, hge] at hg
                  have HG := Lib.hid hg
                  have HKk := Lib.hid hkk
                  have HIi := Lib.hid hii
                  have HGe := Lib.hid hge
                  have HDist := Lib.hid hdist
                  clear hg hkk hii hge hdist
                  go_wp2_with fail
                  refine HG.out.mono ?_
                  rintro e y5 ⟨rfl, hb5'⟩
                  obtain ⟨bo, hbo⟩ : ∃ bo, y5.heap.size = bo := ⟨_, rfl⟩
                  obtain ⟨y6, hy6⟩ : ∃ y6, y5.alloc (.cells #[.int .i64 kk, .int .i64 ii] 24) = y6 := ⟨_, rfl⟩
                  have h6 := (H6.out.below hb5').new1 24 #[.int .i64 kk, .int .i64 ii]
                  rw [hy6, hbo] at h6
                  have d2 : y6.cell? ⟨b5, 0, none⟩ = some (.int .i64 kt) := ((h6.sw3.sw2.sw1.sw0).box1 0).1
                  have d3 : y6.cell? ⟨b5, 1, none⟩ = some (.int .i64 kid) := ((h6.sw3.sw2.sw1.sw0).box1 1).1
                  have hmv := Q_move (h6.sw1.sw0) (by omega) kt kid hkid
                  have H7 := Lib.hid h6
                  clear h6 hb5' d0 d1
                  cases hh : has S kid with
                  | false =>
                    have z0 : ge = 14 := by rw [← HGe.out]; unfold hasE; rw [hh]; rfl
                    subst z0
                    have z1 : moveE S kt kid = 14 := by unfold moveE; rw [hh]; rfl
                    rw [z1] at hmv
                    have HMv := Lib.hid hmv
                    clear hmv z1 hh
                    go_wp2_with fail
                    clear hy6 hbo
                    refine HMv.out.mono ?_
                    rintro e y7 ⟨rfl, h7⟩
                    have HB7 := Lib.hid h7.to_below
                    have HA7 := Lib.hid (qawake_ok y7)
                    clear h7
                    go_wp2_with fail
                    refine HA7.out.mono ?_
                    rintro e y8 ⟨rfl, hb8⟩
                    have HB8 := Lib.hid hb8
                    clear hb8
                    go_wp2_with fail
                    go_ret
                    exact ⟨rfl, HB7.out.trans (HB8.out.mono HB7.out.size)⟩
                  | true =>
                    have z0 : ge = 0 := by rw [← HGe.out]; unfold hasE; rw [hh]; rfl
                    have z1 : ii = kid := by rw [← HIi.out]; unfold idAt; rw [hh]; rfl
                    subst z0 z1
                    obtain ⟨k0, hk0⟩ := has_some hh
                    have z2 : kk = k0 := by rw [← HKk.out]; exact keyAt_mem HDist.out hk0
                    subst z2
                    obtain ⟨hme, hms⟩ := move_back (t := kt) HS.out HDist.out hk0 (HT.out _ hk0)
                    have HMe := Lib.hid hme
                    have HMs := Lib.hid hms
                    have HMv := Lib.hid hmv
                    clear hmv hh hme hms hk0
                    go_wp2_with fail
                    clear hy6 hbo
                    refine HMv.out.mono ?_
                    rintro e y7 ⟨rfl, h7⟩
                    have g0 : y7.cell? ⟨bo, 0, none⟩ = some (.int .i64 kk) := ((h7.sw0).box1 0).1
                    have g1 : y7.cell? ⟨bo, 1, none⟩ = some (.int .i64 ii) := ((h7.sw0).box1 1).1
                    have hmv := Q_move h7 (by have := moveS_length (S := S) (t := kt) (id := ii); omega) kk ii hkid
                    rw [HMe.out, HMs.out] at hmv
                    have HMv2 := Lib.hid hmv
                    clear h7 hmv d2 d3
                    go_wp2_with fail
                    refine HMv2.out.mono ?_
                    rintro e y8 ⟨rfl, h8⟩
                    have hln := Q_len h8
                    have hls := Q_least_all h8 HS.out (by omega) (S.length : Int) (Int.le_refl _)
                    have HLn := Lib.hid hln
                    have HLs := Lib.hid hls
                    clear h8 hln hls g0 g1
                    go_wp2_with fail
                    refine HLn.out.mono ?_
                    rintro e y9 ⟨rfl, rfl⟩
                    go_wp2_with fail
                    refine HLs.out.mono ?_
                    rintro e y9 ⟨vl, rfl, h9⟩
                    have HKy := Lib.hid ((h9.sw2.sw1).keys2_same (by omega))
                    have H9 := Lib.hid h9
                    clear h9
                    go_wp2_with fail
                    refine HKy.out.mono ?_
                    rintro e y10 ⟨rfl, hb10⟩
                    have HB7 := Lib.hid (H9.out.below hb10).to_below
                    have HA7 := Lib.hid (qawake_ok y10)
                    clear hb10
                    go_wp2_with fail
                    refine HA7.out.mono ?_
                    rintro e y11 ⟨rfl, hb8⟩
                    have HB8 := Lib.hid hb8
                    clear hb8
                    go_wp2_with fail
                    go_ret
                    exact ⟨rfl, HB7.out.trans (HB8.out.mono HB7.out.size)⟩
  · rw [decide_eq_false hfew]
    rintro e w2 ⟨rfl, rfl⟩
    have HB1 := Lib.hid H1.out.to_below
    have HA := Lib.hid (qawake_ok w2)
    go_wp2_with fail
    refine HA.out.mono ?_
    rintro e w3 ⟨rfl, hb3⟩
    have HB3 := Lib.hid hb3
    clear hb3
    go_wp2_with fail
    go_ret
    exact ⟨rfl, HB1.out.trans (HB3.out.mono HB1.out.size)⟩
end Go.Proofs.Ytkjpkhpiojahkaa
