/-
  Walk: a queue's Put.
-/
import Derived.Test.YtkjpkhpiojahkaaQB
import Derived.Test.YtkjpkhpiojahkaaLK
namespace Go.Proofs.Ytkjpkhpiojahkaa
set_option linter.unusedVariables false
open Go.RowKit Hp

/-- the list when the first i keys have been put -/
def addN (S : List (It Int)) (ks : List (Int × Int)) : Nat → List (It Int)
  | 0 => S
  | i + 1 => putS ltI (addN S ks i) (ks[i]?.getD (0, 0)).2 (ks[i]?.getD (0, 0)).1
/-- what a Put leaves that comes as far as key i of n -/
def putT (S : List (It Int)) (ks : List (Int × Int)) (n i : Nat) : List (It Int) := if i < n then S else addN S ks n
/-- the list when the first j keys have been taken away again -/
def dropN (T : List (It Int)) (ks : List (Int × Int)) : Nat → List (It Int)
  | 0 => T
  | j + 1 => without (dropN T ks j) (ks[j]?.getD (0, 0)).2
section
variable {S T : List (It Int)} {ks : List (Int × Int)}
theorem addN_length : ∀ i, (addN S ks i).length ≤ S.length + i
  | 0 => Nat.le_refl _
  | i + 1 => by rw [addN]; have := putS_length (lt := ltI) (S := addN S ks i) (id := (ks[i]?.getD (0, 0)).2) (k := (ks[i]?.getD (0, 0)).1); have := addN_length i; omega
theorem addN_sorted (hs : Sorted ltI S) : ∀ i, Sorted ltI (addN S ks i)
  | 0 => hs
  | i + 1 => putS_sorted ltI_swo (addN_sorted hs i)
theorem dropN_sub : ∀ j, (dropN T ks j).Sublist T
  | 0 => List.Sublist.refl _
  | j + 1 => without_sub.trans (dropN_sub j)
theorem dropN_filter : ∀ j, dropN T ks j = T.filter fun x => (List.range j).all fun m => x.1 != (ks[m]?.getD (0, 0)).2
  | 0 => by rw [dropN]; exact (List.filter_eq_self.2 (by simp)).symm
  | j + 1 => by
    rw [dropN, without, dropN_filter j, List.filter_filter]
    congr 1
    funext x
    rw [List.range_succ, List.all_append]
    simp [Bool.and_comm]
theorem checkE_ok {t id : Int} (h : checkE S t id = 0) : 0 ≤ id ∧ timeE t = 0 ∧ has S id = false := by
  unfold checkE at h
  split at h
  · omega
  · rename_i h1
    split at h
    · rename_i h2
      refine ⟨by omega, h2, ?_⟩
      cases hh : has S id with
      | true => rw [hh] at h; simp at h
      | false => rfl
    · rename_i h2; exact absurd h h2
theorem dropN_back : ∀ i, (∀ j, j < i → checkE (addN S ks j) (ks[j]?.getD (0, 0)).1 (ks[j]?.getD (0, 0)).2 = 0) → dropN (addN S ks i) ks i = S
  | 0, _ => rfl
  | i + 1, h => by
    obtain ⟨h0, _, h1⟩ := checkE_ok (h i (by omega))
    have ih := dropN_back i fun j hj => h j (by omega)
    obtain ⟨k, hk⟩ : ∃ k, ks[i]?.getD (0, 0) = k := ⟨_, rfl⟩
    rw [hk] at h0 h1
    rw [addN, hk]
    unfold putS
    rw [if_neg (by omega), h1, if_neg (by simp)]
    rw [dropN_filter] at ih ⊢
    have e1 : ∀ l : List (It Int), ((ins ltI (k.2, k.1) l).filter fun x => (List.range (i + 1)).all fun m => x.1 != (ks[m]?.getD (0, 0)).2) = l.filter fun x => (List.range (i + 1)).all fun m => x.1 != (ks[m]?.getD (0, 0)).2 := by
      intro l
      induction l with
      | nil => simp [ins, List.range_succ, hk]
      | cons y l ihl =>
        rw [ins]
        split
        · rw [List.filter_cons, List.filter_cons, ihl]
        · rw [List.filter_cons_of_neg (by simp [List.range_succ, hk])]
    rw [e1]
    have e2 : ((addN S ks i).filter fun x => (List.range (i + 1)).all fun m => x.1 != (ks[m]?.getD (0, 0)).2) = (addN S ks i).filter fun x => (List.range i).all fun m => x.1 != (ks[m]?.getD (0, 0)).2 := by
      apply List.filter_congr
      intro x hx
      rw [List.range_succ, List.all_append]
      have := has_none.1 h1 x hx
      simp [hk, this]
    rw [e2]
    exact ih
end

theorem size38 (w : World) : (sizeOf (Try.prog.elem 30)).run Try.prog w = .ok 2 w := by kernel_rfl
theorem elem38 : Try.prog.underlying 30 = some (.slice (Try.prog.elem 30)) := by kernel_rfl
theorem slice_to (b off n cap i : Nat) (hi : i ≤ cap) (hc : 0 < cap) (w : World) :
    (Instr.slice 30 (.slice (some ⟨b, off, none⟩) n cap) none (some (.int .i64 (i : Int))) none).run Try.prog w = .ok (.slice (some ⟨b, off, none⟩) i cap) w := by
  rw [run_slice_h w 30 (some ⟨b, off, none⟩) n cap elem38 .i64 (i : Int) (by omega) (by omega), size38]
  simp only [Result.andThen, sliced]
  rw [if_neg (by omega)]
  simp [Addr.add]

section
variable {w0 w : World} {qb : Nat} {S : List (It Int)} {R : Ast}

set_option maxRecDepth 100000 in
set_option maxHeartbeats 16000000 in
theorem Q_put (h : On w0 w (sep (quA qb S) R)) (a : Option Addr) (cap : Nat) (ks : List (Int × Int)) (hk : ∀ A T, On w0 A (sep (quA qb T) R) → Ke.KeysAt A a ks) (hwf : ∀ k ∈ ks, (Lit.int .i64 k.2).wf = true) (hcap : ks.length ≤ cap) (hcm : cap ≤ 9223372036854775807)
    (hl : S.length + ks.length < 800000) (i : Nat) (hi : i ≤ ks.length) (hok : ∀ j, j < i → checkE (addN S ks j) (ks[j]?.getD (0, 0)).1 (ks[j]?.getD (0, 0)).2 = 0)
    (te : Int) (hte : te = if i < ks.length then checkE (addN S ks i) (ks[i]?.getD (0, 0)).1 (ks[i]?.getD (0, 0)).2 else 0) (hbad : i < ks.length → te ≠ 0) :
    Calls Try.prog 92 #[.pointer (some ⟨qb, 0, none⟩), .slice a ks.length cap] w fun e w' => e = .returned (.int .i64 te) ∧ On w0 w' (sep (quA qb (putT S ks ks.length i)) R) := by
  obtain ⟨n, hn⟩ : ∃ n, ks.length = n := ⟨_, rfl⟩
  rw [hn] at hcap hl hi hte hbad ⊢
  have hkey : ∀ A T j, j < n → On w0 A (sep (quA qb T) R) → ∃ b off, a = some ⟨b, off, none⟩ ∧ A.cell? ⟨b, off + j * 2, none⟩ = some (.int .i64 (ks[j]?.getD (0, 0)).1) ∧ A.cell? ⟨b, off + j * 2 + 1, none⟩ = some (.int .i64 (ks[j]?.getD (0, 0)).2) := fun A T j hj hA => by
    rcases hk A T hA with h0 | ⟨b, off, ha, _, hc⟩
    · omega
    · exact ⟨b, off, ha, (hc j (by omega)).1, (hc j (by omega)).2⟩
  have hwf' : ∀ j, j < n → (Lit.int .i64 (ks[j]?.getD (0, 0)).2).wf = true := fun j hj => by
    rw [List.getElem?_eq_getElem (by omega), Option.getD_some]
    exact hwf _ (List.getElem_mem _)
  have H0 := Lib.hid h
  have HKey := Lib.hid hkey
  have HWf := Lib.hid hwf'
  have HOk := Lib.hid hok
  have HTe := Lib.hid hte
  have HNn := Lib.hid hn
  have HBad := Lib.hid hbad
  have hnI : (n : Int) < 800000 := by omega
  have hcapI : (n : Int) ≤ (cap : Int) := by omega
  have hcapB : (cap : Int) ≤ 9223372036854775807 := by omega
  clear h hkey hwf hwf' hok hte hn hbad hk
  go_enter Try.func92, Try.ntmps92
  go_wp2_with fail
  go_loopg [14] (n + 1) (fun gh s14 wr => ∃ k : Nat, k + gh = n + 1 ∧ k ≤ i ∧ s14 = .int .i64 (k : Int) ∧ On w0 wr (sep (quA qb (addN S ks k)) R))
  case atStart => exact ⟨0, by omega, by omega, rfl, H0.out⟩
  case round =>
    obtain ⟨k, hk, hki, rfl, hon⟩ := hrel
    have hk0 : (0 : Int) ≤ (k : Int) := by omega
    by_cases hkn : k < n
    · have hknI : (k : Int) < (n : Int) := by omega
      obtain ⟨b, off, rfl, c0, c1⟩ := HKey.out wr _ k hkn hon
      obtain ⟨t, ht⟩ : ∃ t, (ks[k]?.getD (0, 0)).1 = t := ⟨_, rfl⟩
      obtain ⟨id, hid⟩ : ∃ id, (ks[k]?.getD (0, 0)).2 = id := ⟨_, rfl⟩
      rw [ht] at c0
      rw [hid] at c1
      have hw := HWf.out k hkn
      rw [hid] at hw
      obtain ⟨bx, hbx⟩ : ∃ bx, wr.heap.size = bx := ⟨_, rfl⟩
      obtain ⟨w1, hw1⟩ : ∃ w1, wr.alloc (.cells #[.int .i64 t, .int .i64 id] 24) = w1 := ⟨_, rfl⟩
      have h1 := hon.new1 24 #[.int .i64 t, .int .i64 id]
      rw [hw1, hbx] at h1
      have p0 : w1.cell? ⟨bx, 0, none⟩ = some (.int .i64 t) := (h1.box1 0).1
      have p1 : w1.cell? ⟨bx, 1, none⟩ = some (.int .i64 id) := (h1.box1 1).1
      have hlen : (addN S ks k).length < 800000 := by have := addN_length (S := S) (ks := ks) k; omega
      have hch := Q_check (h1.sw0) (by omega) t id hw
      have H1 := Lib.hid h1
      have HHt := Lib.hid ht
      have HId := Lib.hid hid
      have HW := Lib.hid hw
      clear hon h1 ht hid hw
      by_cases hki2 : k < i
      · have hz : checkE (addN S ks k) t id = 0 := by
          have := HOk.out k hki2
          rw [HHt.out, HId.out] at this
          exact this
        obtain ⟨z0, _, z2⟩ := checkE_ok hz
        rw [hz] at hch
        have HCh := Lib.hid hch
        have hadd : addN S ks (k + 1) = putS ltI (addN S ks k) id t := by rw [addN, HHt.out, HId.out]
        have HAdd := Lib.hid hadd
        have HZ2 := Lib.hid z2
        clear hch hz hadd z2
        go_wp2_with fail
        refine HCh.out.mono ?_
        rintro e w2 ⟨rfl, hb2⟩
        have h2 := (H1.out.below hb2)
        have q0 := zatB p0 hb2
        have q1 := zatB p1 hb2
        obtain ⟨g1, g2, h3⟩ := (h2.sw0).qu_open
        have c2 : w2.cell? ⟨qb, 0, none⟩ = some (.pointer (some ⟨g1, 0, none⟩)) := (h3.box1 0).1
        have hc := Ke.KU_put Ke.lessB ((h3.below ((Below.refl _ w2).drew)).sw0) (by rw [itq_length]; omega) id (t, id) HW.out
        rw [show putE (itq (addN S ks k)) id = 0 by unfold putE; rw [if_neg (by omega), itq_has, HZ2.out]; rfl] at hc
        have HCp := Lib.hid hc
        clear h2 h3 hc hb2 p0 p1 c0 c1
        go_wp2_with fail
        go_region_held3 (fun A0 => A0.cell? ⟨qb, 0, none⟩ = some (.pointer (some ⟨g1, 0, none⟩)) ∧ A0.cell? ⟨bx, 0, none⟩ = some (.int .i64 t) ∧ A0.cell? ⟨bx, 1, none⟩ = some (.int .i64 id))
          (first | (refine ⟨?_, ?_, ?_⟩ <;> assumption) | go_keep)
          (first
            | (go_at_call 139; refine HCp.out.mono ?_; rintro e w5 ⟨rfl, k5⟩; have r0 : w5.cell? ⟨qb, 0, none⟩ = some (.pointer (some ⟨g1, 0, none⟩)) := ((k5.sw0).box1 0).1; have r1 : w5.cell? ⟨qb, 1, none⟩ = some (.pointer (some ⟨g2, 0, none⟩)) := ((k5.sw0).box1 1).1; have r2 : w5.cell? ⟨bx, 0, none⟩ = some (.int .i64 t) := ((k5.sw2.sw1.sw0).box1 0).1; have r3 : w5.cell? ⟨bx, 1, none⟩ = some (.int .i64 id) := ((k5.sw2.sw1.sw0).box1 1).1; have K5 := Lib.hid (k5.mono1 fun F => Ke.permK itq_put F); clear k5))
        have h6 := K5.out.below ((Below.refl _ w5).drew)
        have hc2 := Ke.KU_put Ke.lessF (h6.sw1.sw0) (by rw [itq_length]; omega) id (t, id) HW.out
        rw [show putE (itq (addN S ks k)) id = 0 by unfold putE; rw [if_neg (by omega), itq_has, HZ2.out]; rfl] at hc2
        have HCp2 := Lib.hid hc2
        clear h6 hc2
        go_wp2_with fail
        go_region_held3 (fun A0 => A0.cell? ⟨qb, 1, none⟩ = some (.pointer (some ⟨g2, 0, none⟩)) ∧ A0.cell? ⟨bx, 0, none⟩ = some (.int .i64 t) ∧ A0.cell? ⟨bx, 1, none⟩ = some (.int .i64 id))
          (first | (refine ⟨?_, ?_, ?_⟩ <;> assumption) | go_keep)
          (first
            | (go_at_call 139; refine HCp2.out.mono ?_; rintro e w6 ⟨rfl, k6⟩; have s1 : w6.cell? ⟨qb, 1, none⟩ = some (.pointer (some ⟨g2, 0, none⟩)) := ((k6.sw1.sw0).box1 1).1; have s2 : w6.cell? ⟨bx, 0, none⟩ = some (.int .i64 t) := ((k6.sw2.sw1.sw0).box1 0).1; have s3 : w6.cell? ⟨bx, 1, none⟩ = some (.int .i64 id) := ((k6.sw2.sw1.sw0).box1 1).1; have K6 := Lib.hid (k6.mono1 fun F => Ke.permK itq_put F); clear k6))
        go_wp2_with fail
        have HOn := Lib.hid ((K6.out.sw1.sw0.sw1).qu_shut.sw0.out1)
        go_roundg (n + 1 - (k + 1))
        case measure => omega
        case rel => exact ⟨k + 1, by omega, by omega, by go_num, by rw [HAdd.out]; exact HOn.out⟩
      · have hkieq : i = k := by omega
        subst hkieq
        have hz : checkE (addN S ks i) t id = te := by
          have := HTe.out
          rw [if_pos hkn, HHt.out, HId.out] at this
          exact this.symm
        rw [hz] at hch
        have HCh := Lib.hid hch
        have hte0 := HBad.out hkn
        have hne2 : (te != 0) = true := by simp [hte0]
        have hil : (i : Int) ≤ (cap : Int) := by omega
        have hsl := slice_to b off n cap i (by omega) (by omega)
        have hsl2 : ∀ w, (Instr.sliceAt 30 (.slice (some ⟨b, off, none⟩) n cap) none (some (.int .i64 (i : Int))) none).run Try.prog w = .ok (.slice (some ⟨b, off, none⟩) i cap) w := fun w => (run_sliceAt_slice w 30 _ _ _ _ elem38).trans (hsl w)
        have HLen := Lib.hid hlen
        clear hch hz hk hki hki2 hi hcap hl hlen hte0
        go_wp2_with fail
        refine HCh.out.mono ?_
        rintro e w2 ⟨rfl, hb2⟩
        have HD0 := Lib.hid (H1.out.below hb2).out1
        clear hb2 p0 p1 c0 c1
        go_wp2_with fail
        go_loopg [28] i (fun gh s28 wr => ∃ j : Nat, j + gh = i ∧ s28 = .int .i64 (j : Int) ∧ On w0 wr (sep (quA qb (dropN (addN S ks i) ks j)) R))
        case atStart => exact ⟨0, by omega, rfl, HD0.out⟩
        case round =>
          obtain ⟨j, hj, rfl, hon2⟩ := hrel
          have hj0 : (0 : Int) ≤ (j : Int) := by omega
          by_cases hji : j < i
          · have hjiI : (j : Int) < (i : Int) := by omega
            obtain ⟨b', off', he, d0, d1⟩ := HKey.out wr _ j (by omega) hon2
            cases he
            obtain ⟨t2, ht2⟩ : ∃ t, (ks[j]?.getD (0, 0)).1 = t := ⟨_, rfl⟩
            obtain ⟨id2, hid2⟩ : ∃ id, (ks[j]?.getD (0, 0)).2 = id := ⟨_, rfl⟩
            rw [ht2] at d0
            rw [hid2] at d1
            have hw2 := HWf.out j (by omega)
            rw [hid2] at hw2
            obtain ⟨x1, hx1⟩ : ∃ w1, wr.alloc (.cells #[.int .i64 t2, .int .i64 id2] 24) = w1 := ⟨_, rfl⟩
            have h1 := hon2.new1 24 #[.int .i64 t2, .int .i64 id2]
            rw [hx1] at h1
            have p0 : x1.cell? ⟨wr.heap.size, 0, none⟩ = some (.int .i64 t2) := (h1.box1 0).1
            have p1 : x1.cell? ⟨wr.heap.size, 1, none⟩ = some (.int .i64 id2) := (h1.box1 1).1
            have hdl : (dropN (addN S ks i) ks j).length < 900000 := by have := (dropN_sub (T := addN S ks i) (ks := ks) j).length_le; have := HLen.out; omega
            have hdr := Q_drop (h1.sw0) hdl id2 hw2
            have hdn : dropN (addN S ks i) ks (j + 1) = without (dropN (addN S ks i) ks j) id2 := by rw [dropN, hid2]
            have HDr := Lib.hid hdr
            have HDn := Lib.hid hdn
            clear hon2 h1 hdr ht2 hid2 hdn hdl
            go_wp2_with fail
            refine HDr.out.mono ?_
            rintro e x2 ⟨rfl, hx2⟩
            have HX2 := Lib.hid hx2.sw0.out1
            clear hx2
            go_wp2_with fail
            go_roundg (i - (j + 1))
            case measure => omega
            case rel => exact ⟨j + 1, by omega, by go_num, by rw [HDn.out]; exact HX2.out⟩
          · have hji2 : j = i := by omega
            subst hji2
            have hbk := dropN_back j HOk.out
            have HOn := Lib.hid (show On w0 wr (sep (quA qb S) R) by rw [← hbk]; exact hon2)
            clear hon2 hbk
            go_wp2_with fail
            go_ret
            exact ⟨rfl, by unfold putT; rw [if_pos hkn]; exact HOn.out⟩
    · have hkn2 : k = n := by omega
      subst hkn2
      have hik : i = k := by omega
      subst hik
      have hz : te = 0 := by
        have := HTe.out
        rw [if_neg (by omega)] at this
        exact this
      subst hz
      have HOn := Lib.hid hon
      clear hon hk hki hi hcap hl hkn
      go_wp2_with fail
      go_ret
      exact ⟨rfl, by unfold putT; rw [if_neg (Nat.lt_irrefl _)]; exact HOn.out⟩
end
end Go.Proofs.Ytkjpkhpiojahkaa
