/-
  Walk: ClockLate.
-/
import Derived.Test.YtkjpkhpiojahkaaCkA
namespace Go.Proofs.Ytkjpkhpiojahkaa
set_option linter.unusedVariables false
open Go.RowKit Hp
attribute [local go_sem] Oper.semAt_some
/-- up to timer i: which are set, how late they are to be, how late the latest is -/
structure LtOk (zs late : List Int) (c : Ck) (F : List Int) (M : Int) (i : Nat) : Prop where
  ok : CkOk c
  now : c.now = 0
  worst : c.worst = 0
  lates : c.lates = late.drop c.S.length
  told : FOk (fun _ => 2) (fun a f => f - a) zs c.S c.at F i
  most : MxOk c.S c.at M
  few : c.S.length ≤ i
  soon : ∀ x ∈ c.S, x.2 ≤ 2147483648
/-- how late those are to be that are left -/
def LateF (zs : List Int) (S : List (It Int)) (atf : Int → Int) (A : List Int) (i : Nat) : Prop := FOk (fun _ => 2) (fun a f => f - a) zs S atf A i
theorem kf2 : ∀ j : Nat, j < 64 → (0 : Int) ≤ 2 ∧ (2 : Int) < 8 := fun _ _ => ⟨by decide, by decide⟩
section
variable {zs late F : List Int} {c : Ck} {M : Int} {i : Nat}
theorem LtOk.skip (h : LtOk zs late c F M i) : LtOk zs late c (F.set i (-1)) M (i + 1) := ⟨h.ok, h.now, h.worst, h.lates, h.told.skip (by decide), h.most, by have := h.few; omega, h.soon⟩
theorem headD_drop (l : List Int) (n : Nat) : (l.drop n).headD 0 = l[n]?.getD 0 := by
  rw [List.headD_eq_head?_getD, List.head?_drop]
theorem LtOk.late1 (h : LtOk zs late c F M i) : c.late1 = late[c.S.length]?.getD 0 := by
  unfold Ck.late1
  rw [h.lates]
  exact headD_drop _ _
theorem LtOk.put (h : LtOk zs late c F M i) (hi : i < zs.length) (h60 : zs.length ≤ 60) {x : Int} (hx : zs[i]?.getD 0 = x) (h0 : 0 ≤ x) (h1 : x ≤ 1073741824) :
    c.setE 2 (i : Int) x = 0 ∧ LtOk zs late (c.set 2 (i : Int) x) (F.set i c.late1) (max M c.late1) (i + 1) ∧ (c.set 2 (i : Int) x).S.length = c.S.length + 1 := by
  have hm : mayT 2 (i : Int) := ⟨by decide, by decide, by omega, by omega⟩
  have hl := h.ok.late1
  have e2 : max x c.now = x := by rw [h.now]; omega
  have ht : timeE x = 0 := timeE_iff.2 ⟨h0, by omega⟩
  have he : c.setE 2 (i : Int) x = 0 := by
    unfold Ck.setE
    rw [if_pos hm, if_pos ht, e2]
    unfold afterE
    rw [if_pos ht, if_neg (by omega), if_neg (by omega)]
  have hn : has c.S (nm 2 (i : Int)) = false := has_none.2 fun y hy e => by
    obtain ⟨j, g1, g2, g3, _⟩ := h.told.mem y hy
    have := nm_kf kf2 (i := j) (j := i) (by omega) (by omega) (g3.symm.trans e)
    omega
  have hf : c.fires x = x + c.late1 := by unfold Ck.fires; rw [e2]
  have hs := set_ok he hn
  have hok : CkOk (c.set 2 (i : Int) x) := h.ok.set
  have hL : (c.set 2 (i : Int) x).S.length = c.S.length + 1 := by rw [hs]; exact ins_length _ _
  have hr := nm_range hm
  have hat : ∀ n, 0 ≤ n → (c.set 2 (i : Int) x).at n = if n = nm 2 (i : Int) then x else c.at n := fun n hn0 => by
    rw [hs]
    exact atL_set h.ok.len hr hn0
  have ha1 : (c.set 2 (i : Int) x).at (nm 2 (i : Int)) = x := by rw [hat _ hr.1, if_pos rfl]
  have hlx : ∀ y ∈ c.S, (c.set 2 (i : Int) x).at y.1 = c.at y.1 := fun y hy => by
    rw [hat _ (h.ok.ids y hy).1, if_neg (has_none.1 hn y hy)]
  refine ⟨he, ⟨hok, by rw [hs]; exact h.now, by rw [hs]; exact h.worst, ?_, ?_, ?_, by rw [hL]; have := h.few; omega, ?_⟩, hL⟩
  · rw [hL, hs]
    show c.lates.tail = _
    rw [h.lates, List.tail_drop]
  · have := h.told.put (atg := (c.set 2 (i : Int) x).at) (f := c.fires x) kf2 hi (by omega) (by rw [hf, hx]; omega) (by rw [ha1, hx]) (fun n h0 hne => by rw [hat n h0, if_neg hne])
    rw [hx, hf] at this
    simp only [show x + c.late1 - x = c.late1 by omega] at this
    rw [hs] at this ⊢
    rw [hf]
    exact this
  · have := h.most.put (atg := (c.set 2 (i : Int) x).at) (f := c.fires x) (n := nm 2 (i : Int)) hlx (by rw [ha1, hf]; omega)
    rw [ha1, hf, show x + c.late1 - x = c.late1 by omega] at this
    rw [hs] at this ⊢
    rw [hf]
    exact this
  · intro y hy
    rw [hs] at hy
    rcases ins_mem.1 hy with rfl | hy
    · show c.fires x ≤ _
      rw [hf]
      omega
    · exact h.soon y hy
theorem LtOk.run (h : LtOk zs late c F M i) : c.stepE 8589934592 = 0 ∧ Ck.run (c.S.length + 1) c 8589934592 = (c.S.map c.evOf, { c with S := [], now := 8589934592, worst := M }) := by
  obtain ⟨h1, h2⟩ := run_all (to := 8589934592) h.ok (by decide) (by rw [h.now]; decide) (fun x hx => by have := h.soon x hx; omega)
  refine ⟨h1, ?_⟩
  obtain ⟨g1, g2, g3⟩ := worstOf_mx c c.S c.worst
  rw [h.worst] at g1 g2 g3
  have : worstOf c c.S c.worst = M := by
    rw [h.worst]
    exact MxOk.uniq ⟨g1, g2, g3⟩ h.most
  rw [h2, this]
end
set_option maxRecDepth 100000 in
set_option maxHeartbeats 8000000 in
theorem klate_ok (a a' : Option Addr) (cap cap' : Nat) (zs ls : List Int) (w : World) (hc : IntsAt w a zs) (hc' : IntsAt w a' ls) :
    Calls Try.prog 20 #[.slice a zs.length cap, .slice a' ls.length cap'] w fun e w' => e = .returned (.bool true) ∧ Below w.heap.size w w' := by
  obtain ⟨n, hn⟩ : ∃ n, zs.length = n := ⟨_, rfl⟩
  obtain ⟨m, hm⟩ : ∃ n, ls.length = n := ⟨_, rfl⟩
  have HLs0 := Lib.hid (fun w1 cb (h1 : On w w1 (sep (ckA cb Ck.new) emp)) (hl : ls.length ≤ 60) => K_late (cp := cap') h1 CkOk.new a' ls (fun A hA k hk => (by
    obtain ⟨b, off, g1, g2, g3⟩ := hc' k hk
    exact ⟨b, off, g1, Nat.lt_of_lt_of_le g2 hA.to_below.size, (hA.to_below.cell g2).trans g3⟩)) (by show ls.length + 0 < _; omega))
  rw [hn, hm]
  rw [hm] at HLs0
  have HC := Lib.hid hc
  have HN := Lib.hid hn
  have HC' := Lib.hid hc'
  have HM := Lib.hid hm
  clear hc hn hc' hm
  by_cases h60 : n ≤ 60 ∧ m ≤ 60
  · obtain ⟨h60, hm60⟩ := h60
    have g1 : decide ((60 : Int) < (n : Int)) = false := by simp; omega
    have g2 : decide ((60 : Int) < (m : Int)) = false := by simp; omega
    obtain ⟨i3, hi3, hz3, hz4, hz5⟩ := info_parts2 infoI
    have HN0 := Lib.hid (K_new (On.emp w))
    go_enter Try.func20, Try.ntmps20
    go_wp2_with fail
    refine HN0.out.mono ?_
    rintro e w1 ⟨cb, rfl, h1⟩
    have hla := HLs0.out w1 cb h1 hm60
    obtain ⟨E, hE⟩ : ∃ E, lateE ls = E := ⟨_, rfl⟩
    rw [hE] at hla
    have HLa := Lib.hid hla
    have HE := Lib.hid hE
    clear h1 hla HLs0 hE
    by_cases hE0 : E = 0
    · subst hE0
      go_wp2_with fail
      refine HLa.out.mono ?_
      rintro e w2 ⟨rfl, h2⟩
      have H2 := Lib.hid h2
      clear h2
      go_wp2_with (at_make; refine wpList_make_full _ rfl _ _ 54 rfl w2.heap.size 3 i3 (.int .i64 0) 1 Try.underlying54 hi3 hz3 hz4 .i64 .i64 _ _ n rfl rfl rfl rfl (by rw [hz5]; omega) (by unfold maxLen; omega) (Nat.le_refl _) ?_; intro w3 hown hgrow)
      have hb3 : Below w2.heap.size w2 w3 := ⟨hgrow.os, hgrow.tape, hgrow.output, hgrow.size, fun k hk => hgrow.block k hk (by simp)⟩
      rw [made_nums] at hown
      obtain ⟨g, hg⟩ : ∃ g, w2.heap.size = g := ⟨_, rfl⟩
      rw [hg] at hown
      have h3 : On w w3 (sep (numA g n (List.replicate n 0)) (sep (ckA cb (Ck.new.lateC ls)) emp)) := H2.out.add hb3 (rowA_of hown) (fun j hj => by omega)
      have H3 := Lib.hid h3.sw0
      rw [hg]
      clear hown hgrow hb3 hg h3
      go_loopg [6, 7, 9] n (fun gh s6 s7 s9 wr => ∃ (i : Nat) (c : Ck) (F : List Int) (M : Int), i + gh = n ∧ s6 = .int .i64 M ∧ s7 = .int .i64 (c.S.length : Int) ∧ s9 = .int .i64 (i : Int) ∧ LtOk zs ls c F M i ∧ On w wr (sep (ckA cb c) (sep (numA g n F) emp)))
      case atStart =>
        refine ⟨0, Ck.new.lateC ls, List.replicate n 0, 0, by omega, rfl, ?_, rfl, ⟨CkOk.new.lateC, ?_, ?_, ?_, ?_, ?_, ?_, ?_⟩, H3.out⟩
        all_goals (unfold Ck.lateC; rw [if_pos HE.out])
        · rfl
        · rfl
        · rfl
        · rfl
        · exact FOk.start (by rw [List.length_replicate, HN.out])
        · exact ⟨Int.le_refl _, (fun x hx => by cases hx), .inl rfl⟩
        · exact Nat.le_refl _
        · exact fun x hx => by cases hx
      case round =>
        obtain ⟨i, c, F, M, hi, rfl, rfl, rfl, hs, hon⟩ := hrel
        have hsf := hs.few
        by_cases hlt : i < n
        · have hltI : (i : Int) < (n : Int) := by omega
          have hi0 : (0 : Int) ≤ (i : Int) := by omega
          obtain ⟨b, off, rfl, hb, hcc⟩ := HC.out.row (by rw [HN.out]; omega)
          have HBl := Lib.hid hb
          have HCc := Lib.hid hcc
          obtain ⟨x, hx⟩ : ∃ x, zs[i]?.getD 0 = x := ⟨_, rfl⟩
          have HX0 := Lib.hid hx
          have hFl : F.length = n := by rw [← HN.out]; exact hs.told.len
          obtain ⟨f0, hf0⟩ : ∃ f, F[i]? = some f := ⟨_, List.getElem?_eq_getElem (by omega)⟩
          obtain ⟨p0, p0f⟩ := hon.sw0.num hf0
          have h4 := (hon.sw0.num_set i (-1)).sw0
          obtain ⟨W1, hW1⟩ : ∃ x, wr.setCell ⟨g, i, none⟩ (.int .i64 (-1)) = x := ⟨_, rfl⟩
          rw [hW1] at h4
          have q0 : W1.cell? ⟨b, off + i, none⟩ = some (.int .i64 x) := by rw [← hx]; exact (h4.to_below.cell (by exact hb)).trans (hcc i (by rw [HN.out]; exact hlt))
          clear hb hcc hx hf0
          by_cases hx0 : x < 0
          · have H4 := Lib.hid h4
            have HS := Lib.hid hs.skip
            clear hs hon h4
            go_wp2_with fail
            go_roundg (n - (i + 1))
            case measure => omega
            case rel => exact ⟨i + 1, c, F.set i (-1), M, by omega, rfl, rfl, by go_num, HS.out, H4.out⟩
          · by_cases hx1 : 1073741824 < x
            · have H4 := Lib.hid h4
              have HS := Lib.hid hs.skip
              clear hs hon h4
              go_wp2_with fail
              go_roundg (n - (i + 1))
              case measure => omega
              case rel => exact ⟨i + 1, c, F.set i (-1), M, by omega, rfl, rfl, by go_num, HS.out, H4.out⟩
            · obtain ⟨k1, k2, k3⟩ := hs.put (by rw [HN.out]; exact hlt) (by rw [HN.out]; exact h60) HX0.out (by omega) (by omega)
              have hse := K_set h4 hs.ok (by rw [hs.lates, List.length_drop, HM.out]; omega) 2 (i : Int) x
              rw [k1] at hse
              have hL := hs.late1
              have hlr := hs.ok.late1
              obtain ⟨L, hLL⟩ : ∃ L, c.late1 = L := ⟨_, rfl⟩
              obtain ⟨G, hG⟩ : ∃ G, c.set 2 (i : Int) x = G := ⟨_, rfl⟩
              rw [hLL] at k2 hL hlr
              rw [hG] at hse k2 k3
              obtain ⟨l, hl⟩ : ∃ l, c.S.length = l := ⟨_, rfl⟩
              rw [hl] at hL k3 hsf ⊢
              have HSe := Lib.hid hse
              have HK2 := Lib.hid k2
              have HK3 := Lib.hid k3
              have HFl := Lib.hid hFl
              have hl0 : (0 : Int) ≤ (l : Int) := by omega
              obtain ⟨MM, hMM⟩ : ∃ m, max M L = m := ⟨_, rfl⟩
              have hmw' : (if M < L then L else M) = MM := by rw [← hMM]; omega
              rw [hMM] at HK2
              by_cases hlm : l < m
              · have hlmI : (l : Int) < (m : Int) := by omega
                obtain ⟨b', off', rfl, hb', hcc'⟩ := HC'.out.row (by rw [HM.out]; omega)
                have HBl' := Lib.hid hb'
                have HCc' := Lib.hid (hcc' l (by rw [HM.out]; exact hlm))
                have HL := Lib.hid hL
                clear hs hon h4 hse k1 k2 k3 hLL hG hl hFl hMM hL hb' hcc' hlr
                go_wp2_with fail
                refine HSe.out.mono ?_
                rintro e x1 ⟨rfl, h5⟩
                have h6 := h5.sw0
                obtain ⟨r0, r0f⟩ := h6.num (i := i) (b := -1) (by rw [List.getElem?_set, if_pos rfl, if_pos (by rw [HFl.out]; exact hlt)])
                have h7 := h6.num_set i 0
                obtain ⟨W2, hW2⟩ : ∃ x, x1.setCell ⟨g, i, none⟩ (.int .i64 0) = x := ⟨_, rfl⟩
                rw [hW2] at h7
                have q1 : W2.cell? ⟨b', off' + l, none⟩ = some (.int .i64 L) := by rw [HL.out]; exact (h7.to_below.cell (by exact HBl'.out)).trans HCc'.out
                obtain ⟨_, s0f⟩ := h7.num (i := i) (b := 0) (by rw [List.getElem?_set, if_pos rfl, if_pos (by rw [List.length_set, HFl.out]; exact hlt)])
                obtain ⟨s0, _⟩ := h7.num (i := i) (b := 0) (by rw [List.getElem?_set, if_pos rfl, if_pos (by rw [List.length_set, HFl.out]; exact hlt)])
                have h8 := h7.num_set i L
                obtain ⟨W3, hW3⟩ : ∃ x, W2.setCell ⟨g, i, none⟩ (.int .i64 L) = x := ⟨_, rfl⟩
                rw [hW3] at h8
                obtain ⟨t0, _⟩ := h8.num (i := i) (b := L) (by rw [List.getElem?_set, if_pos rfl, if_pos (by rw [List.length_set, List.length_set, HFl.out]; exact hlt)])
                rw [List.set_set, List.set_set] at h8
                have H8 := Lib.hid h8.sw0
                clear h5 h6 h7 h8 p0 p0f q0
                go_wp2_with fail
                go_roundg (n - (i + 1))
                case measure => omega
                case rel => exact ⟨i + 1, G, F.set i L, MM, by omega, rfl, by rw [HK3.out]; go_num, by go_num, HK2.out, H8.out⟩
              · have hlmI : ¬ (l : Int) < (m : Int) := by omega
                have hL0 : L = 0 := by rw [hL, List.getElem?_eq_none (by rw [HM.out]; omega)]; rfl
                subst hL0
                clear hs hon h4 hse k1 k2 k3 hLL hG hl hFl hMM hL hlr
                go_wp2_with fail
                refine HSe.out.mono ?_
                rintro e x1 ⟨rfl, h5⟩
                have h6 := h5.sw0
                obtain ⟨r0, r0f⟩ := h6.num (i := i) (b := -1) (by rw [List.getElem?_set, if_pos rfl, if_pos (by rw [HFl.out]; exact hlt)])
                have h7 := h6.num_set i 0
                obtain ⟨W2, hW2⟩ : ∃ x, x1.setCell ⟨g, i, none⟩ (.int .i64 0) = x := ⟨_, rfl⟩
                rw [hW2] at h7
                obtain ⟨s0, s0f⟩ := h7.num (i := i) (b := 0) (by rw [List.getElem?_set, if_pos rfl, if_pos (by rw [List.length_set, HFl.out]; exact hlt)])
                rw [List.set_set] at h7
                have H8 := Lib.hid h7.sw0
                clear h5 h6 h7 p0 p0f q0
                go_wp2_with fail
                go_roundg (n - (i + 1))
                case measure => omega
                case rel => exact ⟨i + 1, G, F.set i 0, MM, by omega, rfl, by rw [HK3.out]; go_num, by go_num, HK2.out, H8.out⟩
        · have hin : i = n := by omega
          subst hin
          obtain ⟨k1, k2⟩ := hs.run
          have hrun := K_run ((Plain.num _ _ _).sepT Plain.emp.tame) hon hs.ok 8589934592
          rw [k1, k2] at hrun
          have hdo : CkOk { c with S := [], now := 8589934592, worst := M } := by
            have := CkOk.run (c.S.length + 1) (to := 8589934592) hs.ok
            rw [k2] at this
            exact this
          obtain ⟨D, hD⟩ : ∃ D, ({ c with S := [], now := 8589934592, worst := M } : Ck) = D := ⟨_, rfl⟩
          have HD1 := Lib.hid (show D.S = [] by rw [← hD])
          have HD2 := Lib.hid (show D.worst = M by rw [← hD])
          rw [hD] at hrun hdo
          obtain ⟨T, hT⟩ : ∃ T, c.S.map c.evOf = T := ⟨_, rfl⟩
          rw [hT] at hrun
          have hTl : T.length = c.S.length := by rw [← hT]; exact List.length_map _
          have HRu := Lib.hid hrun
          have HDo := Lib.hid hdo
          have HT := Lib.hid hT
          have HS := Lib.hid hs
          have hFl : F.length = i := by rw [← HN.out]; exact hs.told.len
          have z : (M != M) = false := by simp
          rw [← hTl]
          have HTl0 := Lib.hid hTl
          clear hs hon k1 k2 hrun hdo hD hT hTl
          go_wp2_with fail
          refine HRu.out.mono ?_
          rintro e x2 ⟨v, rfl, h3⟩
          obtain ⟨ea, ec, rfl⟩ := h3.evs_form
          obtain ⟨k, hk⟩ : ∃ m, T.length = m := ⟨_, rfl⟩
          have h3' : On w x2 (sep (evsA (.slice ea T.length ec) T) (sep (ckA cb D) (sep (numA g i F) emp))) := h3
          have hTl := HTl0.out
          rw [hk] at h3' hTl ⊢
          have hwo := K_worst h3'.sw0 HDo.out
          rw [HD2.out] at hwo
          have HWo := Lib.hid hwo
          have H3 := Lib.hid h3'
          have HK := Lib.hid hk
          have HTl := Lib.hid hTl
          clear h3 h3' hk hwo hTl
          go_wp2_with fail
          refine HWo.out.mono ?_
          rintro e x3 ⟨rfl, rfl⟩
          go_wp2_with fail
          have hk60 : k ≤ 60 := by have := HTl.out; have := HS.out.few; omega
          go_loopg [12] k (fun gh s12 wr => ∃ (j : Nat) (A : List Int), j + gh = k ∧ s12 = .int .i64 (j : Int) ∧ LateF zs (c.S.drop j) c.at A i ∧ On w wr (sep (evsA (.slice ea k ec) T) (sep (ckA cb D) (sep (numA g i A) emp))))
          case atStart => exact ⟨0, F, by omega, rfl, HS.out.told, H3.out⟩
          case round =>
            obtain ⟨j, A, hj, rfl, hfo, hon⟩ := hrel
            by_cases hlt : j < k
            · have hltI : (j : Int) < (k : Int) := by omega
              have hj0 : (0 : Int) ≤ (j : Int) := by omega
              obtain ⟨x, hx⟩ : ∃ x, c.S[j]? = some x := ⟨_, List.getElem?_eq_getElem (by rw [← HTl.out]; exact hlt)⟩
              have hdr : c.S.drop j = x :: c.S.drop (j + 1) := by
                have hl := (List.getElem?_eq_some_iff.1 hx).1
                rw [List.drop_eq_getElem_cons hl]
                congr 1
                rw [List.getElem?_eq_getElem hl] at hx
                exact Option.some.inj hx
              rw [hdr] at hfo
              unfold LateF at hfo
              have hds : (x :: c.S.drop (j + 1)).Pairwise fun a b => a.1 ≠ b.1 := by
                rw [← hdr]
                exact HS.out.ok.dist.sublist (List.drop_sublist _ _)
              obtain ⟨p, p1, p2, p3, p4, p5, p6, p7⟩ := hfo.who kf2 (by rw [HN.out]; omega)
              have hfi := hfo.fire kf2 (by rw [HN.out]; omega) hds p2 p1
              have hAl : A.length = i := by rw [← HN.out]; exact hfo.len
              have hev : T[j]? = some (c.evOf x) := by rw [← HT.out, List.getElem?_map, hx]; rfl
              have hond := hon.below (Below.refl _ wr).drew
              obtain ⟨b2, rfl, f0, f1, f2, f3, f4⟩ := hon.evs_at hev
              have q0 := ((hon.sw1.sw0).num p5).1
              have q0f := ((hond.sw1.sw0).num p5).2
              have hpn : p < i := by rw [← HN.out]; exact p1
              obtain ⟨b, off, rfl, hb, hcc⟩ := HC.out.row (by rw [HN.out]; omega)
              obtain ⟨y, hy⟩ : ∃ y, zs[p]?.getD 0 = y := ⟨_, rfl⟩
              have r0 : wr.cell? ⟨b, off + p, none⟩ = some (.int .i64 y) := by rw [← hy]; exact (hon.to_below.cell (by exact hb)).trans (hcc p (by rw [HN.out]; exact hpn))
              have h4 := (hond.sw1.sw0).num_set p (-1)
              have e1 : (c.evOf x).id = (p : Int) := p4
              have e2 : (c.evOf x).at' = y := p6.trans hy
              have e3 : (c.evOf x).late = x.2 - y := by show x.2 - c.at x.1 = _; rw [p6, hy]
              rw [e1] at f1
              rw [e2] at f2
              rw [e3] at f3
              rw [hy] at q0
              obtain ⟨u, hu⟩ : ∃ u, x.2 - y = u := ⟨_, rfl⟩
              rw [hu] at f3 q0
              have z1 : (u != u) = false := by simp
              have z2 : (y != y) = false := by simp
              have hp0 : (0 : Int) ≤ (p : Int) := by omega
              have hpI : (p : Int) < (i : Int) := by omega
              have hpI2 : ¬ (i : Int) ≤ (p : Int) := by omega
              have hpI3 : decide ((i : Int) ≤ (p : Int)) = false := decide_eq_false hpI2
              have hpI4 : decide ((p : Int) < 0) = false := decide_eq_false (by omega)
              have hpI5 : ¬ (p : Int) < 0 := by omega
              have hpI6 : decide (i ≤ p) = false := decide_eq_false (by omega)
              have hpI7 : ¬ i ≤ p := by omega
              have hpI8 : i ≤ p ↔ False := iff_false_intro hpI7
              have H4 := Lib.hid h4
              have HFi := Lib.hid hfi
              clear hon hond h4 hfi hfo hdr hds hev hx p2 p3 p4 p5 p6 p7 hb hcc hy e1 e2 e3 hu f0 f4
              go_wp2_with fail
              have f1_d := drewC f1
              have f2_d := drewC f2
              have f3_d := drewC f3
              have q0_d := drewC q0
              have r0_d := drewC r0
              refine wp_region_loose (fun A => A = wr.drew) (by kernel_rfl) (by kernel_rfl) rfl ?_
              repeat (first
                | (refine loose_skip (by rfl) ?_; simp only [Act.put, List.setIfInBounds_toArray, List.set_cons_zero, List.set_cons_succ])
                | (refine loose_val (v := ?_) (by rfl) ?_ ?_; rotate_left; (focus (intro A' hA'; subst hA'; go_simp; first | done | with_reducible rfl)); simp only [Act.put, List.setIfInBounds_toArray, List.set_cons_zero, List.set_cons_succ]))
              refine loose_nil ?_
              intro A3 hA3
              subst hA3
              go_wp2_with fail
              go_roundg (k - (j + 1))
              case measure => omega
              case rel => exact ⟨j + 1, A.set p (-1), by omega, by go_num, HFi.out, (H4.out.sw0.sw1)⟩
            · have hjk : j = k := by omega
              subst hjk
              have h4 := hon.out1
              have hle := K_len ((Plain.num _ _ _).sepT Plain.emp.tame) h4 HDo.out
              rw [HD1.out] at hle
              have hle' : Calls Try.prog 76 #[.pointer (some ⟨cb, 0, none⟩)] wr fun e w' => e = .returned (.int .i64 0) ∧ On w w' (sep (ckA cb D) (sep (numA g i A) emp)) := hle
              have HLe := Lib.hid hle'
              clear hon h4 hle hle' hfo
              go_wp2_with fail
              refine HLe.out.mono ?_
              rintro e x3 ⟨rfl, h5⟩
              have HF := Lib.hid h5.to_below
              have HAw := Lib.hid (kawake_ok x3)
              clear h5
              go_wp2_with fail
              refine HAw.out.mono ?_
              rintro e x4 ⟨rfl, hb4⟩
              have HB4 := Lib.hid hb4
              clear hb4
              go_wp2_with fail
              go_ret
              exact ⟨rfl, HF.out.trans (HB4.out.mono HF.out.size)⟩
    · have z : (E != 0) = true := by simpa using hE0
      go_wp2_with fail
      refine HLa.out.mono ?_
      rintro e w2 ⟨rfl, h2⟩
      have HF := Lib.hid h2.to_below
      have HAw := Lib.hid (kawake_ok w2)
      clear h2
      go_wp2_with fail
      refine HAw.out.mono ?_
      rintro e w3 ⟨rfl, hb3⟩
      have HB3 := Lib.hid hb3
      clear hb3
      go_wp2_with fail
      go_ret
      exact ⟨rfl, HF.out.trans (HB3.out.mono HF.out.size)⟩
  · have HN0 := Lib.hid (K_new (On.emp w))
    by_cases hn60 : n ≤ 60
    · have hm60 : ¬ m ≤ 60 := fun h => h60 ⟨hn60, h⟩
      have g1 : decide ((60 : Int) < (n : Int)) = false := by simp; omega
      have g2 : decide ((60 : Int) < (m : Int)) = true := by simp; omega
      go_enter Try.func20, Try.ntmps20
      go_wp2_with fail
      refine HN0.out.mono ?_
      rintro e w1 ⟨cb, rfl, h1⟩
      have HA := Lib.hid (kawake_ok w1)
      have HF := Lib.hid h1.to_below
      clear h1
      go_wp2_with fail
      refine HA.out.mono ?_
      rintro e w3 ⟨rfl, hb3⟩
      have HB3 := Lib.hid hb3
      clear hb3
      go_wp2_with fail
      go_ret
      exact ⟨rfl, HF.out.trans (HB3.out.mono HF.out.size)⟩
    · have g1 : decide ((60 : Int) < (n : Int)) = true := by simp; omega
      go_enter Try.func20, Try.ntmps20
      go_wp2_with fail
      refine HN0.out.mono ?_
      rintro e w1 ⟨cb, rfl, h1⟩
      have HA := Lib.hid (kawake_ok w1)
      have HF := Lib.hid h1.to_below
      clear h1
      go_wp2_with fail
      refine HA.out.mono ?_
      rintro e w3 ⟨rfl, hb3⟩
      have HB3 := Lib.hid hb3
      clear hb3
      go_wp2_with fail
      go_ret
      exact ⟨rfl, HF.out.trans (HB3.out.mono HF.out.size)⟩
end Go.Proofs.Ytkjpkhpiojahkaa
