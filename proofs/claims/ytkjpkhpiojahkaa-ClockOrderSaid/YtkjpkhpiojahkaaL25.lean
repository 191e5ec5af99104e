/-
  Walk: ClockOrder.
-/
import Derived.Test.YtkjpkhpiojahkaaCkA
namespace Go.Proofs.Ytkjpkhpiojahkaa
set_option linter.unusedVariables false
open Go.RowKit Hp
attribute [local go_sem] Oper.semAt_some
/-- when those fire that are set -/
def OrderF (zs : List Int) (S : List (It Int)) (atf : Int → Int) (A : List Int) (i : Nat) : Prop := FOk (fun j => (j : Int) % 8) (fun _ f => f) zs S atf A i
theorem kf8 : ∀ j : Nat, j < 64 → (0 : Int) ≤ (j : Int) % 8 ∧ (j : Int) % 8 < 8 := fun j _ => by omega
/-- up to timer i -/
structure OrOk (zs late : List Int) (c : Ck) (F : List Int) (i : Nat) : Prop where
  ok : CkOk c
  now : c.now = 0
  lates : c.lates = late.drop c.S.length
  told : OrderF zs c.S c.at F i
  few : c.S.length ≤ i
section
variable {zs late F : List Int} {c : Ck} {i : Nat}
theorem OrOk.skip (h : OrOk zs late c F i) : OrOk zs late c (F.set i (-1)) (i + 1) := ⟨h.ok, h.now, h.lates, FOk.skip h.told (by decide), by have := h.few; omega⟩
theorem OrOk.late1 (h : OrOk zs late c F i) : c.late1 = late[c.S.length]?.getD 0 := by
  unfold Ck.late1
  rw [h.lates, List.headD_eq_head?_getD, List.head?_drop]
theorem OrOk.put (h : OrOk zs late c F i) (hi : i < zs.length) (h60 : zs.length ≤ 60) {x : Int} (hx : zs[i]?.getD 0 = x) (he : c.setE ((i : Int) % 8) (i : Int) x = 0) :
    OrOk zs late (c.set ((i : Int) % 8) (i : Int) x) (F.set i (x + c.late1)) (i + 1) ∧ (c.set ((i : Int) % 8) (i : Int) x).S.length = c.S.length + 1 ∧ 0 ≤ x ∧ x < 1099511627776 ∧ 0 ≤ c.late1 ∧ c.late1 ≤ 1073741824 := by
  obtain ⟨hm, ht, _, _, h5⟩ := setE_ok he
  have hx2 := timeE_iff.1 ht
  have hl := h.ok.late1
  have e2 : max x c.now = x := by rw [h.now]; omega
  have hn : has c.S (nm ((i : Int) % 8) (i : Int)) = false := has_none.2 fun y hy e => by
    obtain ⟨j, g1, g2, g3, _⟩ := FOk.mem h.told y hy
    have := nm_kf kf8 (i := j) (j := i) (by omega) (by omega) (g3.symm.trans e)
    omega
  have hf : c.fires x = x + c.late1 := by unfold Ck.fires; rw [e2]
  have hs := set_ok he hn
  have hok : CkOk (c.set ((i : Int) % 8) (i : Int) x) := h.ok.set
  have hL : (c.set ((i : Int) % 8) (i : Int) x).S.length = c.S.length + 1 := by rw [hs]; exact ins_length _ _
  have hr := nm_range hm
  have hat : ∀ n, 0 ≤ n → (c.set ((i : Int) % 8) (i : Int) x).at n = if n = nm ((i : Int) % 8) (i : Int) then x else c.at n := fun n hn0 => by
    rw [hs]
    exact atL_set h.ok.len hr hn0
  have ha1 : (c.set ((i : Int) % 8) (i : Int) x).at (nm ((i : Int) % 8) (i : Int)) = x := by rw [hat _ hr.1, if_pos rfl]
  refine ⟨⟨hok, by rw [hs]; exact h.now, ?_, ?_, by rw [hL]; have := h.few; omega⟩, hL, hx2.1, hx2.2, hl⟩
  · rw [hL, hs]
    show c.lates.tail = _
    rw [h.lates, List.tail_drop]
  · have := FOk.put h.told (atg := (c.set ((i : Int) % 8) (i : Int) x).at) (f := c.fires x) kf8 hi (by omega) (by rw [hf, hx]; omega) (by rw [ha1, hx]) (fun n h0 hne => by rw [hat n h0, if_neg hne])
    rw [hf] at this
    rw [hs] at this ⊢
    rw [hf]
    exact this
end
/-- goes on: what has fired, what is left -/
structure GoOk (zs : List Int) (S : List (It Int)) (atf : Int → Int) (A : List Int) (last : Int) : Prop where
  told : OrderF zs S atf A zs.length
  sorted : Sorted ltI S
  dist : S.Pairwise fun a b => a.1 ≠ b.1
  last : ∀ x ∈ S, last ≤ x.2
section
variable {zs A : List Int} {S T : List (It Int)} {atf : Int → Int} {last : Int} {x : It Int}
theorem GoOk.fire (h : GoOk zs (x :: T) atf A last) (h64 : zs.length ≤ 60) : ∃ p : Nat, p < zs.length ∧ x.1 / 64 = (p : Int) % 8 ∧ x.1 % 64 = (p : Int) ∧ A[p]? = some x.2 ∧ atf x.1 = zs[p]?.getD 0 ∧ zs[p]?.getD 0 ≤ x.2 ∧ last ≤ x.2 ∧ GoOk zs T atf (A.set p (-1)) x.2 := by
  obtain ⟨p, p1, p2, p3, p4, p5, p6, p7⟩ := FOk.who h.told kf8 (by omega)
  refine ⟨p, p1, p3, p4, p5, p6, p7, h.last x (List.mem_cons_self ..), FOk.fire h.told kf8 (by omega) h.dist p2 p1, (List.pairwise_cons.1 h.sorted).2, (List.pairwise_cons.1 h.dist).2, fun y hy => sorted_le h.sorted y hy⟩
theorem GoOk.not (h : GoOk zs S atf A last) (h64 : zs.length ≤ 60) {now : Int} (hl : ∀ x ∈ S, now < x.2) {k : Nat} (hk : k < zs.length) {f : Int} (hf : A[k]? = some f) (h0 : 0 ≤ f) : now < f := by
  obtain ⟨x, hx, e⟩ := FOk.arm h.told k hk f hf h0
  obtain ⟨j, g1, g2, g3, g4, _⟩ := FOk.mem h.told x hx
  have : j = k := nm_kf kf8 (by omega) (by omega) (g3.symm.trans e)
  subst this
  rw [hf] at g4
  have := Option.some.inj g4
  rw [this]
  exact hl x hx
end
theorem drop_cons {S : List (It Int)} {j : Nat} {x : It Int} (hx : S[j]? = some x) : S.drop j = x :: S.drop (j + 1) := by
  have hl := (List.getElem?_eq_some_iff.1 hx).1
  rw [List.drop_eq_getElem_cons hl]
  congr 1
  rw [List.getElem?_eq_getElem hl] at hx
  exact Option.some.inj hx
set_option maxRecDepth 100000 in
set_option maxHeartbeats 16000000 in
theorem korder_ok (a a' a2 : Option Addr) (cap cap' cap2 : Nat) (zs ls ys : List Int) (w : World) (hc : IntsAt w a zs) (hc' : IntsAt w a' ls) (hc2 : IntsAt w a2 ys) :
    Calls Try.prog 18 #[.slice a zs.length cap, .slice a' ls.length cap', .slice a2 ys.length cap2] w fun e w' => e = .returned (.bool true) ∧ Below w.heap.size w w' := by
  obtain ⟨n, hn⟩ : ∃ n, zs.length = n := ⟨_, rfl⟩
  obtain ⟨m, hm⟩ : ∃ n, ls.length = n := ⟨_, rfl⟩
  obtain ⟨r, hr⟩ : ∃ n, ys.length = n := ⟨_, rfl⟩
  have HLs0 := Lib.hid (fun w1 cb (h1 : On w w1 (sep (ckA cb Ck.new) emp)) (hl : ls.length ≤ 60) => K_late (cp := cap') h1 CkOk.new a' ls (fun A hA k hk => (by
    obtain ⟨b, off, g1, g2, g3⟩ := hc' k hk
    exact ⟨b, off, g1, Nat.lt_of_lt_of_le g2 hA.to_below.size, (hA.to_below.cell g2).trans g3⟩)) (by show ls.length + 0 < _; omega))
  rw [hn, hm, hr]
  rw [hm] at HLs0
  have HC := Lib.hid hc
  have HN := Lib.hid hn
  have HC' := Lib.hid hc'
  have HM := Lib.hid hm
  have HC2 := Lib.hid hc2
  have HR := Lib.hid hr
  clear hc hn hc' hm hc2 hr
  by_cases h60 : n ≤ 60 ∧ m ≤ 60 ∧ r ≤ 40
  · obtain ⟨h60, hm60, hr40⟩ := h60
    have g1 : decide ((60 : Int) < (n : Int)) = false := by simp; omega
    have g2 : decide ((60 : Int) < (m : Int)) = false := by simp; omega
    have g3 : decide ((40 : Int) < (r : Int)) = false := by simp; omega
    obtain ⟨i3, hi3, hz3, hz4, hz5⟩ := info_parts2 infoI
    have HN0 := Lib.hid (K_new (On.emp w))
    go_enter Try.func18, Try.ntmps18
    go_wp2_with fail
    refine HN0.out.mono ?_
    rintro e w1 ⟨cb, rfl, h1⟩
    have hla := HLs0.out w1 cb h1 hm60
    obtain ⟨E, hE⟩ : ∃ E, lateE ls = E := ⟨_, rfl⟩
    rw [hE] at hla
    have HLa := Lib.hid hla
    have HE := Lib.hid hE
    clear h1 hla HLs0 hE
    by_cases hE0 : E = 0
    · subst hE0
      go_wp2_with fail
      refine HLa.out.mono ?_
      rintro e w2 ⟨rfl, h2⟩
      have H2 := Lib.hid h2
      clear h2
      go_wp2_with (at_make; refine wpList_make_full _ rfl _ _ 54 rfl w2.heap.size 3 i3 (.int .i64 0) 1 Try.underlying54 hi3 hz3 hz4 .i64 .i64 _ _ n rfl rfl rfl rfl (by rw [hz5]; omega) (by unfold maxLen; omega) (Nat.le_refl _) ?_; intro w3 hown hgrow)
      have hb3 : Below w2.heap.size w2 w3 := ⟨hgrow.os, hgrow.tape, hgrow.output, hgrow.size, fun k hk => hgrow.block k hk (by simp)⟩
      rw [made_nums] at hown
      obtain ⟨g, hg⟩ : ∃ g, w2.heap.size = g := ⟨_, rfl⟩
      rw [hg] at hown
      have h3 : On w w3 (sep (numA g n (List.replicate n 0)) (sep (ckA cb (Ck.new.lateC ls)) emp)) := H2.out.add hb3 (rowA_of hown) (fun j hj => by omega)
      have H3 := Lib.hid h3.sw0
      rw [hg]
      clear hown hgrow hb3 hg h3
      go_loopg [9, 10] n (fun gh s9 s10 wr => ∃ (i : Nat) (c : Ck) (F : List Int), i + gh = n ∧ s9 = .int .i64 (c.S.length : Int) ∧ s10 = .int .i64 (i : Int) ∧ OrOk zs ls c F i ∧ On w wr (sep (ckA cb c) (sep (numA g n F) emp)))
      case atStart =>
        refine ⟨0, Ck.new.lateC ls, List.replicate n 0, by omega, ?_, rfl, ⟨CkOk.new.lateC, ?_, ?_, ?_, ?_⟩, H3.out⟩
        all_goals (unfold Ck.lateC; rw [if_pos HE.out])
        · rfl
        · rfl
        · rfl
        · exact FOk.start (by rw [List.length_replicate, HN.out])
        · exact Nat.le_refl _
      case round =>
        obtain ⟨i, c, F, hi, rfl, rfl, hs, hon⟩ := hrel
        have hsf := hs.few
        by_cases hlt : i < n
        · have hltI : (i : Int) < (n : Int) := by omega
          have hi0 : (0 : Int) ≤ (i : Int) := by omega
          obtain ⟨b, off, rfl, hb, hcc⟩ := HC.out.row (by rw [HN.out]; omega)
          have HBl := Lib.hid hb
          have HCc := Lib.hid (hcc i (by rw [HN.out]; exact hlt))
          obtain ⟨x, hx⟩ : ∃ x, zs[i]?.getD 0 = x := ⟨_, rfl⟩
          have HX0 := Lib.hid hx
          have hFl : F.length = n := by rw [← HN.out]; exact FOk.len hs.told
          obtain ⟨f0, hf0⟩ : ∃ f, F[i]? = some f := ⟨_, List.getElem?_eq_getElem (by omega)⟩
          obtain ⟨p0, p0f⟩ := hon.sw0.num hf0
          have h4 := (hon.sw0.num_set i (-1)).sw0
          obtain ⟨W1, hW1⟩ : ∃ x, wr.setCell ⟨g, i, none⟩ (.int .i64 (-1)) = x := ⟨_, rfl⟩
          rw [hW1] at h4
          have q0 : W1.cell? ⟨b, off + i, none⟩ = some (.int .i64 x) := by rw [← hx]; exact (h4.to_below.cell (by exact hb)).trans (hcc i (by rw [HN.out]; exact hlt))
          have hse := K_set h4 hs.ok (by rw [hs.lates, List.length_drop, HM.out]; omega) ((i : Int) % 8) (i : Int) x
          obtain ⟨E, hE⟩ : ∃ E, c.setE ((i : Int) % 8) (i : Int) x = E := ⟨_, rfl⟩
          rw [hE] at hse
          clear hb hcc hx hf0
          by_cases hE0 : E = 0
          · subst hE0
            obtain ⟨k1, k2, k3, k4, k5, k6⟩ := hs.put (by rw [HN.out]; exact hlt) (by rw [HN.out]; exact h60) HX0.out hE
            have hL := hs.late1
            obtain ⟨L, hLL⟩ : ∃ L, c.late1 = L := ⟨_, rfl⟩
            obtain ⟨G, hG⟩ : ∃ G, c.set ((i : Int) % 8) (i : Int) x = G := ⟨_, rfl⟩
            rw [hLL] at k1 hL k5 k6
            rw [hG] at hse k1 k2
            obtain ⟨l, hl⟩ : ∃ l, c.S.length = l := ⟨_, rfl⟩
            rw [hl] at hL k2 hsf ⊢
            have HSe := Lib.hid hse
            have HK1 := Lib.hid k1
            have HK2 := Lib.hid k2
            have HFl := Lib.hid hFl
            have hl0 : (0 : Int) ≤ (l : Int) := by omega
            by_cases hlm : l < m
            · have hlmI : (l : Int) < (m : Int) := by omega
              obtain ⟨b', off', rfl, hb', hcc'⟩ := HC'.out.row (by rw [HM.out]; omega)
              have HBl' := Lib.hid hb'
              have HCc' := Lib.hid (hcc' l (by rw [HM.out]; exact hlm))
              have HL := Lib.hid hL
              have zw : IntKind.i64.wrap (x + L) = x + L := IntWalk.i64_in _ (by omega)
              clear hs hon h4 hse k1 k2 hLL hG hl hFl hL hb' hcc' hE
              go_wp2_with fail
              refine HSe.out.mono ?_
              rintro e x1 ⟨rfl, h5⟩
              have h6 := h5.sw0
              obtain ⟨r0, r0f⟩ := h6.num (i := i) (b := -1) (by rw [List.getElem?_set, if_pos rfl, if_pos (by rw [HFl.out]; exact hlt)])
              have q1 : x1.cell? ⟨b, off + i, none⟩ = some (.int .i64 x) := by rw [← HX0.out]; exact (h6.to_below.cell (by exact HBl.out)).trans HCc.out
              have h7 := h6.num_set i x
              obtain ⟨W2, hW2⟩ : ∃ y, x1.setCell ⟨g, i, none⟩ (.int .i64 x) = y := ⟨_, rfl⟩
              rw [hW2] at h7
              have q2 : W2.cell? ⟨b, off + i, none⟩ = some (.int .i64 x) := by rw [← HX0.out]; exact (h7.to_below.cell (by exact HBl.out)).trans HCc.out
              have q3 : W2.cell? ⟨b', off' + l, none⟩ = some (.int .i64 L) := by rw [HL.out]; exact (h7.to_below.cell (by exact HBl'.out)).trans HCc'.out
              have h7d := h7.below (Below.refl _ W2).drew
              obtain ⟨s0, s0f⟩ := h7d.num (i := i) (b := x) (by rw [List.getElem?_set, if_pos rfl, if_pos (by rw [List.length_set, HFl.out]; exact hlt)])
              have h8 := h7d.num_set i (x + L)
              rw [List.set_set, List.set_set] at h8
              have H8 := Lib.hid h8.sw0
              clear h5 h6 h7 h7d h8 p0 p0f q0
              go_wp2_with fail
              refine wp_region_last (os := ?_) (s := ?_) (fun A' => A' = W2.drew) (by simp only [List.dropLast]; rfl) (by rfl) (by kernel_rfl) (by kernel_rfl) (by kernel_rfl) rfl ?_
              iterate 12 (first
                | (refine loose_skip (by rfl) ?_; simp only [Act.put, List.setIfInBounds_toArray, List.set_cons_zero, List.set_cons_succ])
                | (refine loose_val (v := ?_) (by rfl) ?_ ?_; rotate_left; (focus (intro A' hA'; subst hA' ;  have q2' := drewC q2 ;  have q3' := drewC q3; go_simp; first | done | with_reducible rfl)); simp only [Act.put, List.setIfInBounds_toArray, List.set_cons_zero, List.set_cons_succ]))
              refine loose_nil ?_
              intro A3 hA3
              subst hA3
              go_wp2_with fail
              go_roundg (n - (i + 1))
              case measure => omega
              case rel => exact ⟨i + 1, G, F.set i (x + L), by omega, by rw [HK2.out]; go_num, by go_num, HK1.out, H8.out⟩
            · have hlmI : ¬ (l : Int) < (m : Int) := by omega
              have hL0 : L = 0 := by rw [hL, List.getElem?_eq_none (by rw [HM.out]; omega)]; rfl
              subst hL0
              rw [Int.add_zero] at HK1
              clear hs hon h4 hse k1 k2 hLL hG hl hFl hL hE
              go_wp2_with fail
              refine HSe.out.mono ?_
              rintro e x1 ⟨rfl, h5⟩
              have h6 := h5.sw0
              obtain ⟨r0, r0f⟩ := h6.num (i := i) (b := -1) (by rw [List.getElem?_set, if_pos rfl, if_pos (by rw [HFl.out]; exact hlt)])
              have q1 : x1.cell? ⟨b, off + i, none⟩ = some (.int .i64 x) := by rw [← HX0.out]; exact (h6.to_below.cell (by exact HBl.out)).trans HCc.out
              have h7 := h6.num_set i x
              obtain ⟨W2, hW2⟩ : ∃ y, x1.setCell ⟨g, i, none⟩ (.int .i64 x) = y := ⟨_, rfl⟩
              rw [hW2, List.set_set] at h7
              have H8 := Lib.hid h7.sw0
              clear h5 h6 h7 p0 p0f q0
              go_wp2_with fail
              go_roundg (n - (i + 1))
              case measure => omega
              case rel => exact ⟨i + 1, G, F.set i x, by omega, by rw [HK2.out]; go_num, by go_num, HK1.out, H8.out⟩
          · have z : (E == 0) = false := by simpa using hE0
            rw [set_not (by rw [hE]; exact hE0)] at hse
            have HSe := Lib.hid hse
            have HS := Lib.hid hs.skip
            clear hs hon h4 hse hE hFl
            go_wp2_with fail
            refine HSe.out.mono ?_
            rintro e x1 ⟨rfl, h5⟩
            have H5 := Lib.hid h5
            clear h5 q0 p0 p0f
            go_wp2_with fail
            go_roundg (n - (i + 1))
            case measure => omega
            case rel => exact ⟨i + 1, c, F.set i (-1), by omega, rfl, by go_num, HS.out, H5.out⟩
        · have hin : i = n := by omega
          subst hin
          have hle := K_len ((Plain.num _ _ _).sepT Plain.emp.tame) hon hs.ok
          obtain ⟨l, hl⟩ : ∃ l, c.S.length = l := ⟨_, rfl⟩
          rw [hl] at hle ⊢
          have HLe := Lib.hid hle
          have HS := Lib.hid hs
          have z : ((l : Int) != (l : Int)) = false := by simp
          clear hs hon hle hl hsf
          go_wp2_with fail
          refine HLe.out.mono ?_
          rintro e x3 ⟨rfl, h5⟩
          have H5 := Lib.hid h5
          clear h5 z
          go_wp2_with fail
          go_loopg [11, 12, 13] r (fun gh s11 s12 s13 wr => ∃ (q : Nat) (now last : Int) (d : Ck) (A : List Int), q + gh = r ∧ s11 = .int .i64 now ∧ s12 = .int .i64 last ∧ s13 = .int .i64 (q : Int) ∧ CkOk d ∧ d.now = now ∧ GoOk zs d.S d.at A last ∧ On w wr (sep (ckA cb d) (sep (numA g i A) emp)))
          case atStart => exact ⟨0, 0, 0, c, F, by omega, rfl, rfl, rfl, HS.out.ok, HS.out.now, ⟨by rw [HN.out]; exact HS.out.told, HS.out.ok.sorted, HS.out.ok.dist, fun x hx => (timeE_iff.1 (HS.out.ok.times x hx)).1⟩, H5.out⟩
          case round =>
            obtain ⟨q, now, last, d, A, hq, rfl, rfl, rfl, hdo, hdn, hgo, hon⟩ := hrel
            have hnow := timeE_iff.1 hdo.now
            rw [hdn] at hnow
            obtain ⟨hn0, hn1⟩ := hnow
            by_cases hlt : q < r
            · have hltI : (q : Int) < (r : Int) := by omega
              have hq0 : (0 : Int) ≤ (q : Int) := by omega
              obtain ⟨b2, off2, rfl, hb2, hcc2⟩ := HC2.out.row (by rw [HR.out]; omega)
              obtain ⟨y, hy⟩ : ∃ x, ys[q]?.getD 0 = x := ⟨_, rfl⟩
              have q0 : wr.cell? ⟨b2, off2 + q, none⟩ = some (.int .i64 y) := by rw [← hy]; exact (hon.to_below.cell (by exact hb2)).trans (hcc2 q (by rw [HR.out]; exact hlt))
              have zs0 : IntKind.i64.wrap (1099511627776 - now) = 1099511627776 - now := IntWalk.i64_in _ (by omega)
              clear hcc2 hy hb2
              by_cases hy0 : y < 0
              · have HAw := Lib.hid (kawake_ok wr)
                have HF := Lib.hid hon.to_below
                clear hdo hdn hgo hon
                go_wp2_with fail
                refine HAw.out.mono ?_
                rintro e x4 ⟨rfl, hb4⟩
                have HB4 := Lib.hid hb4
                clear hb4
                go_wp2_with fail
                go_ret
                exact ⟨rfl, HF.out.trans (HB4.out.mono HF.out.size)⟩
              · by_cases hy1 : 1099511627776 - now ≤ y
                · have HAw := Lib.hid (kawake_ok wr)
                  have HF := Lib.hid hon.to_below
                  clear hdo hdn hgo hon
                  go_wp2_with fail
                  refine HAw.out.mono ?_
                  rintro e x4 ⟨rfl, hb4⟩
                  have HB4 := Lib.hid hb4
                  clear hb4
                  go_wp2_with fail
                  go_ret
                  exact ⟨rfl, HF.out.trans (HB4.out.mono HF.out.size)⟩
                · have zs1 : IntKind.i64.wrap (now + y) = now + y := IntWalk.i64_in _ (by omega)
                  obtain ⟨to, hto⟩ : ∃ t, now + y = t := ⟨_, rfl⟩
                  have ht0 : timeE to = 0 := timeE_iff.2 (by omega)
                  have he := stepE_zero (c := d) ht0 (by omega)
                  have hru := run_ok (d.S.length + 1) d to (Nat.lt_succ_self _) he
                  have hrun := K_run ((Plain.num _ _ _).sepT Plain.emp.tame) hon hdo to
                  have hDo := CkOk.run (d.S.length + 1) (to := to) hdo
                  rw [he, hru] at hrun
                  rw [hru] at hDo
                  obtain ⟨T, hT⟩ : ∃ T, (upto d.S to).map d.evOf = T := ⟨_, rfl⟩
                  have hTl : T.length = (upto d.S to).length := by rw [← hT]; exact List.length_map _
                  obtain ⟨D, hD⟩ : ∃ D, d.gone to = D := ⟨_, rfl⟩
                  simp only at hrun hDo
                  rw [hT, hD] at hrun
                  rw [hD] at hDo
                  have HD1 := Lib.hid (show D.S = d.S.drop T.length by rw [← hD, hTl]; rfl)
                  have HD2 := Lib.hid (show D.now = to by rw [← hD]; rfl)
                  have HD3 := Lib.hid (show D.at = d.at by rw [← hD]; rfl)
                  have HRu := Lib.hid hrun
                  have HDo := Lib.hid hDo
                  have HT := Lib.hid hT
                  have HTl := Lib.hid hTl
                  have HGo := Lib.hid hgo
                  have HdO := Lib.hid hdo
                  have z : (to != to) = false := by simp
                  clear hdo hdn hgo hon ht0 he hru hrun hDo hT hTl hD
                  go_wp2_with fail
                  refine HRu.out.mono ?_
                  rintro e x4 ⟨v, rfl, h6⟩
                  obtain ⟨ea, ec, rfl⟩ := h6.evs_form
                  have h6' : On w x4 (sep (evsA (.slice ea T.length ec) T) (sep (ckA cb D) (sep (numA g i A) emp))) := h6
                  obtain ⟨mm, hmm⟩ : ∃ m, T.length = m := ⟨_, rfl⟩
                  have hTl := HTl.out
                  have hD1 := HD1.out
                  have hm512 : mm ≤ 512 := by
                    have := (upto_pre d.S to).length_le
                    have := HdO.out.few
                    omega
                  rw [hmm] at h6' hTl hD1 ⊢
                  have hno := K_now h6'.sw0 HDo.out
                  rw [HD2.out] at hno
                  have HNo := Lib.hid hno
                  have H6 := Lib.hid h6'
                  have HMm := Lib.hid hmm
                  have HTl2 := Lib.hid hTl
                  have HD1' := Lib.hid hD1
                  clear h6 h6' hmm hno hTl hD1
                  go_wp2_with fail
                  refine HNo.out.mono ?_
                  rintro e x5 ⟨rfl, rfl⟩
                  go_wp2_with fail
                  clear q0 zs0 zs1 z
                  go_loopg [12, 16] mm (fun gh s12 s16 wy => ∃ (j : Nat) (la : Int) (B : List Int), j + gh = mm ∧ s12 = .int .i64 la ∧ s16 = .int .i64 (j : Int) ∧ GoOk zs (d.S.drop j) d.at B la ∧ On w wy (sep (evsA (.slice ea mm ec) T) (sep (ckA cb D) (sep (numA g i B) emp))))
                  case atStart => exact ⟨0, last, A, by omega, rfl, rfl, HGo.out, H6.out⟩
                  case round =>
                    obtain ⟨j, la, B, hj, rfl, rfl, hgo, hon⟩ := hrel
                    by_cases hlj : j < mm
                    · have hltI2 : (j : Int) < (mm : Int) := by omega
                      have hj0 : (0 : Int) ≤ (j : Int) := by omega
                      obtain ⟨⟨x1, x2⟩, hxu⟩ : ∃ x, (upto d.S to)[j]? = some x := ⟨_, List.getElem?_eq_getElem (by rw [← HTl2.out]; exact hlj)⟩
                      have hx : d.S[j]? = some (x1, x2) := by
                        have hp := upto_pre d.S to
                        obtain ⟨t, ht⟩ := hp
                        rw [← ht, List.getElem?_append_left (by rw [← HTl2.out]; exact hlj)]
                        exact hxu
                      have hxt : x2 ≤ to := upto_le (List.mem_of_getElem? hxu)
                      have hev : T[j]? = some (d.evOf (x1, x2)) := by rw [← HT.out, List.getElem?_map, hxu]; rfl
                      rw [drop_cons hx] at hgo
                      obtain ⟨p, p1, p3, p4, p5, p6, p7, p8, p9⟩ := hgo.fire (by rw [HN.out]; exact h60)
                      simp only at p3 p4 p5 p6 p7 p8
                      obtain ⟨yy, hyy⟩ : ∃ y, zs[p]?.getD 0 = y := ⟨_, rfl⟩
                      rw [hyy] at p6 p7
                      have hx2 := timeE_iff.1 (HdO.out.times (x1, x2) (List.mem_of_getElem? hx))
                      have hat := HdO.out.atR x1
                      rw [p6] at hat
                      simp only at hx2
                      obtain ⟨eb, rfl, f0, f1, f2, f3, f4⟩ := hon.evs_at hev
                      have e0 : (d.evOf (x1, x2)).kind = (p : Int) % 8 := p3
                      have e1 : (d.evOf (x1, x2)).id = (p : Int) := p4
                      have e2 : (d.evOf (x1, x2)).at' = yy := p6
                      have e3 : (d.evOf (x1, x2)).late = x2 - yy := by show x2 - d.at x1 = _; rw [p6]
                      have e4 : (d.evOf (x1, x2)).now = x2 := rfl
                      rw [e0] at f0
                      rw [e1] at f1
                      rw [e2] at f2
                      rw [e3] at f3
                      rw [e4] at f4
                      obtain ⟨u, hu⟩ : ∃ u, x2 - yy = u := ⟨_, rfl⟩
                      rw [hu] at f3
                      obtain ⟨kd, hkd⟩ : ∃ u, (p : Int) % 8 = u := ⟨_, rfl⟩
                      rw [hkd] at f0
                      have hpn : p < i := by rw [← HN.out]; exact p1
                      obtain ⟨b, off, rfl, hb, hcc⟩ := HC.out.row (by rw [HN.out]; omega)
                      obtain ⟨bx, hbx⟩ : ∃ b, wr.heap.size = b := ⟨_, rfl⟩
                      obtain ⟨W1, hW1⟩ : ∃ x, wr.alloc (.cells #[.int .i64 kd, .int .i64 (p : Int), .int .i64 yy, .int .i64 u, .int .i64 x2] 109) = x := ⟨_, rfl⟩
                      have h7 := hon.new1 109 #[.int .i64 kd, .int .i64 (p : Int), .int .i64 yy, .int .i64 u, .int .i64 x2]
                      rw [hW1, hbx] at h7
                      have k00 := (h7).bx 0 rfl
                      have k01 := (h7).bx 1 rfl
                      have k02 := (h7).bx 2 rfl
                      have k03 := (h7).bx 3 rfl
                      have k04 := (h7).bx 4 rfl
                      have h8 := (h7.sw2.sw1.sw0)
                      have q0 := (h8.num p5).1
                      have q0f := ((h8.below (Below.refl _ W1).drew).num p5).2
                      have r0 : W1.cell? ⟨b, off + p, none⟩ = some (.int .i64 yy) := by rw [← hyy]; exact (h8.to_below.cell (by exact hb)).trans (hcc p (by rw [HN.out]; exact hpn))
                      have h9 := (h8.below (Below.refl _ W1).drew).num_set p (-1)
                      obtain ⟨W2, hW2⟩ : ∃ x, W1.drew.setCell ⟨g, p, none⟩ (.int .i64 (-1)) = x := ⟨_, rfl⟩
                      rw [hW2] at h9
                      have m04 := (h9.sw0).bx 4 rfl
                      have hp0 : (0 : Int) ≤ (p : Int) := by omega
                      have hpI : (p : Int) < (i : Int) := by omega
                      have hpI2 : ¬ (i : Int) ≤ (p : Int) := by omega
                      have hpI3 : decide ((i : Int) ≤ (p : Int)) = false := decide_eq_false hpI2
                      have hpI4 : decide ((p : Int) < 0) = false := decide_eq_false (by omega)
                      have hpI5 : ¬ (p : Int) < 0 := by omega
                      have hpI6 : decide (i ≤ p) = false := decide_eq_false (by omega)
                      have hpI7 : ¬ i ≤ p := by omega
                      have hkd2 : (((p % 8 : Nat)) : Int) = kd := by omega
                      have hkd3 : Int.tmod (p : Int) 8 = kd := by rw [Int.tmod_eq_emod_of_nonneg hp0]; exact hkd
                      have z0 : (kd != kd) = false := by simp
                      have z1 : (x2 != x2) = false := by simp
                      have z2 : (yy != yy) = false := by simp
                      have z3 : (u != u) = false := by simp
                      have z4 : IntKind.i64.wrap (x2 - yy) = u := by rw [IntWalk.i64_in _ (by omega)]; exact hu
                      have z5 : decide (u < 0) = false := decide_eq_false (by omega)
                      have z5' : ¬ u < 0 := by omega
                      have z6 : decide (x2 < la) = false := decide_eq_false (by omega)
                      have z6' : ¬ x2 < la := by omega
                      have z7 : decide (to < x2) = false := decide_eq_false (by omega)
                      have z7' : ¬ to < x2 := by omega
                      have H9 := Lib.hid (h9.sw1.sw0.sw2.sw1)
                      have HP9 := Lib.hid p9
                      have HU := Lib.hid hu
                      clear hon h7 h8 h9 hgo hxu hx hxt hev p1 p3 p4 p5 p6 p7 p8 p9 hb hcc e0 e1 e2 e3 e4 hx2 hat hyy hu
                      go_wp2_with fail
                      have k00_d := drewC k00
                      have k01_d := drewC k01
                      have k02_d := drewC k02
                      have k03_d := drewC k03
                      have k04_d := drewC k04
                      have q0_d := drewC q0
                      have r0_d := drewC r0
                      refine wp_region_loose (fun A => A = W1.drew) (by kernel_rfl) (by kernel_rfl) rfl ?_
                      repeat (first
                        | (refine loose_skip (by rfl) ?_; simp only [Act.put, List.setIfInBounds_toArray, List.set_cons_zero, List.set_cons_succ])
                        | (refine loose_val (v := ?_) (by rfl) ?_ ?_; rotate_left; (focus (intro A' hA'; subst hA'; go_simp; first | done | with_reducible rfl)); simp only [Act.put, List.setIfInBounds_toArray, List.set_cons_zero, List.set_cons_succ]))
                      refine loose_nil ?_
                      intro A3 hA3
                      subst hA3
                      go_wp2_with fail
                      go_roundg (mm - (j + 1))
                      case measure => omega
                      case rel => exact ⟨j + 1, x2, B.set p (-1), by omega, rfl, by go_num, HP9.out, (H9.out.sw2.sw1.sw0).out1⟩
                    · have hjm : j = mm := by omega
                      subst hjm
                      have HGo2 := Lib.hid hgo
                      have HGt := Lib.hid (show ∀ x ∈ d.S.drop j, to < x.2 by
                        have := late_gt (S := d.S) (t := to) HdO.out.sorted
                        rw [HTl2.out]
                        exact this)
                      have H10 := Lib.hid hon.out1
                      clear hgo hon
                      go_wp2_with fail
                      go_loopg [18] i (fun gh s18 wz => ∃ (k : Nat), k + gh = i ∧ s18 = .int .i64 (k : Int) ∧ On w wz (sep (ckA cb D) (sep (numA g i B) emp)))
                      case atStart => exact ⟨0, by omega, rfl, H10.out⟩
                      case round =>
                        obtain ⟨k, hk, rfl, hon⟩ := hrel
                        by_cases hlk : k < i
                        · have hltI3 : (k : Int) < (i : Int) := by omega
                          have hk0 : (0 : Int) ≤ (k : Int) := by omega
                          have hBl : B.length = i := by rw [← HN.out]; exact FOk.len HGo2.out.told
                          obtain ⟨f, hf⟩ : ∃ f, B[k]? = some f := ⟨_, List.getElem?_eq_getElem (by omega)⟩
                          have q0 := (hon.sw0.num hf).1
                          have hfn := fun h0 => HGo2.out.not (by rw [HN.out]; exact h60) HGt.out (k := k) (by rw [HN.out]; exact hlk) hf h0
                          have H11 := Lib.hid hon
                          by_cases hf0 : 0 ≤ f
                          · have hf1 := hfn hf0
                            have hf2 : ¬ f ≤ to := by omega
                            clear hon hf hfn
                            go_wp2_with fail
                            go_roundg (i - (k + 1))
                            case measure => omega
                            case rel => exact ⟨k + 1, by omega, by go_num, H11.out⟩
                          · clear hon hf hfn
                            go_wp2_with fail
                            go_roundg (i - (k + 1))
                            case measure => omega
                            case rel => exact ⟨k + 1, by omega, by go_num, H11.out⟩
                        · have hki : k = i := by omega
                          subst hki
                          have H11 := Lib.hid hon
                          clear hon
                          go_wp2_with fail
                          go_roundg (r - (q + 1))
                          case measure => omega
                          case rel => exact ⟨q + 1, to, la, D, B, by omega, rfl, rfl, by go_num, HDo.out, HD2.out, by rw [HD1'.out, HD3.out]; exact HGo2.out, H11.out⟩
            · have HAw := Lib.hid (kawake_ok wr)
              have HF := Lib.hid hon.to_below
              have hqr : q = r := by omega
              subst hqr
              clear hdo hdn hgo hon
              go_wp2_with fail
              refine HAw.out.mono ?_
              rintro e x4 ⟨rfl, hb4⟩
              have HB4 := Lib.hid hb4
              clear hb4
              go_wp2_with fail
              go_ret
              exact ⟨rfl, HF.out.trans (HB4.out.mono HF.out.size)⟩
    · have z : (E != 0) = true := by simpa using hE0
      go_wp2_with fail
      refine HLa.out.mono ?_
      rintro e w2 ⟨rfl, h2⟩
      have HF := Lib.hid h2.to_below
      have HAw := Lib.hid (kawake_ok w2)
      clear h2
      go_wp2_with fail
      refine HAw.out.mono ?_
      rintro e x4 ⟨rfl, hb4⟩
      have HB4 := Lib.hid hb4
      clear hb4
      go_wp2_with fail
      go_ret
      exact ⟨rfl, HF.out.trans (HB4.out.mono HF.out.size)⟩
  · have HN0 := Lib.hid (K_new (On.emp w))
    by_cases hn60 : n ≤ 60
    · have g1 : decide ((60 : Int) < (n : Int)) = false := by simp; omega
      by_cases hm60 : m ≤ 60
      · have hr40 : ¬ r ≤ 40 := fun h => h60 ⟨hn60, hm60, h⟩
        have g2 : decide ((60 : Int) < (m : Int)) = false := by simp; omega
        have g3 : decide ((40 : Int) < (r : Int)) = true := by simp; omega
        go_enter Try.func18, Try.ntmps18
        go_wp2_with fail
        refine HN0.out.mono ?_
        rintro e w1 ⟨cb, rfl, h1⟩
        have HA := Lib.hid (kawake_ok w1)
        have HF := Lib.hid h1.to_below
        clear h1
        go_wp2_with fail
        refine HA.out.mono ?_
        rintro e w3 ⟨rfl, hb3⟩
        have HB3 := Lib.hid hb3
        clear hb3
        go_wp2_with fail
        go_ret
        exact ⟨rfl, HF.out.trans (HB3.out.mono HF.out.size)⟩
      · have g2 : decide ((60 : Int) < (m : Int)) = true := by simp; omega
        go_enter Try.func18, Try.ntmps18
        go_wp2_with fail
        refine HN0.out.mono ?_
        rintro e w1 ⟨cb, rfl, h1⟩
        have HA := Lib.hid (kawake_ok w1)
        have HF := Lib.hid h1.to_below
        clear h1
        go_wp2_with fail
        refine HA.out.mono ?_
        rintro e w3 ⟨rfl, hb3⟩
        have HB3 := Lib.hid hb3
        clear hb3
        go_wp2_with fail
        go_ret
        exact ⟨rfl, HF.out.trans (HB3.out.mono HF.out.size)⟩
    · have g1 : decide ((60 : Int) < (n : Int)) = true := by simp; omega
      go_enter Try.func18, Try.ntmps18
      go_wp2_with fail
      refine HN0.out.mono ?_
      rintro e w1 ⟨cb, rfl, h1⟩
      have HA := Lib.hid (kawake_ok w1)
      have HF := Lib.hid h1.to_below
      clear h1
      go_wp2_with fail
      refine HA.out.mono ?_
      rintro e w3 ⟨rfl, hb3⟩
      have HB3 := Lib.hid hb3
      clear hb3
      go_wp2_with fail
      go_ret
      exact ⟨rfl, HF.out.trans (HB3.out.mono HF.out.size)⟩
end Go.Proofs.Ytkjpkhpiojahkaa
