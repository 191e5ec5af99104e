/-
  Walk: the law ChainParts.
-/
import Derived.Test.YtmbdolmkldbjcaaParts
namespace Go.Proofs.Ytmbdolmkldbjcaa
open Go.RowKit

theorem Check_big (a : Option Addr) (cap len : Nat) (w : World) (h64 : 64 < len) :
    Calls Try.prog 16 #[.slice a len cap] w fun e w' => e = .returned (.int .i64 13) ∧ w = w' := by
  go_enter Try.func16, Try.ntmps16
  go_wp2
  go_ret
  exact ⟨rfl, rfl⟩
theorem Check_all (a : Option Addr) (cap : Nat) (zs : List Int) (w : World) (hc : IntsAt w a zs) :
    Calls Try.prog 16 #[.slice a zs.length cap] w fun e w' => e = .returned (.int .i64 (err zs)) ∧ w = w' := by
  by_cases h : 64 < zs.length
  · exact (Check_big a cap zs.length w h).mono fun _ _ ⟨he, hw⟩ => ⟨he.trans (ret_int (by rw [err, if_pos h])), hw⟩
  · exact Check_any a cap zs w (by omega) hc
theorem Roots_off (a : Option Addr) (cap : Nat) (zs : List Int) (w : World) (hc : IntsAt w a zs) (he : err zs ≠ 0) :
    Calls Try.prog 20 #[.slice a zs.length cap] w fun e w' => e = .returned (.slice none 0 0) ∧ w = w' := by
  have hk := Check_all a cap zs w hc
  obtain ⟨r, hr⟩ : ∃ r, err zs = r := ⟨_, rfl⟩
  rw [hr] at hk he
  have hb : (r != 0) = true := by simp [he]
  have HK := Lib.hid hk
  clear hk he hr
  go_enter Try.func20, Try.ntmps20
  go_wp2_with (go_at_call 16; refine HK.out.mono ?_; rintro e w' ⟨rfl, rfl⟩)
  go_ret
  exact ⟨rfl, rfl⟩

set_option maxRecDepth 100000 in
set_option maxHeartbeats 1000000 in
theorem parts_bad (a : Option Addr) (cap : Nat) (zs : List Int) (w : World) (hc : IntsAt w a zs) (he : err zs ≠ 0) :
    Calls Try.prog 7 #[.slice a zs.length cap] w fun e w' => e = .returned (.bool true) ∧ Below w.heap.size w w' := by
  have h1 := Wrong_all a cap zs w hc
  have h2 := Roots_off a cap zs w hc he
  obtain ⟨r, hr⟩ : ∃ r, err zs = r := ⟨_, rfl⟩
  rw [hr] at h1 he
  have hb : (r != 0) = true := by simp [he]
  have H1 := Lib.hid h1
  have H2 := Lib.hid h2
  clear h1 h2 he hr
  go_enter Try.func7, Try.ntmps7
  go_wp2_with (first | (go_at_call 10; refine H1.out.mono ?_; rintro e w2 ⟨rfl, rfl⟩) | (go_at_call 20; refine H2.out.mono ?_; rintro e w2 ⟨rfl, rfl⟩) | (go_at_call 8; refine (awake_hid _).out.mono ?_; rintro e w6 ⟨rfl, hb6⟩))
  go_ret
  exact ⟨rfl, hb6⟩

theorem own_set {w : World} {B g n cp k : Nat} {f : List Int} {y : Int} (h : w.ownsRow B 3 1 (.slice (some ⟨g, 0, none⟩) n cp) n (vals f)) (_hk : k < f.length) :
    (w.setCell ⟨g, k, none⟩ (.int .i64 y)).ownsRow B 3 1 (.slice (some ⟨g, 0, none⟩) n cp) n (vals (f.set k y)) := by
  obtain ⟨h1, h2⟩ := h
  refine ⟨by simpa [vals] using h1, ?_⟩
  rcases h2 with ⟨hv, _⟩ | ⟨g', cap, cur, hv, hb, hg, hn, hm, hs, ht⟩
  · cases hv
  · injection hv with ha _ hcp
    injection ha with ha
    injection ha with ha
    subst ha
    subst hcp
    refine .inr ⟨g, cp, cur.setIfInBounds k (.int .i64 y), rfl, hb, ?_, hn, hm, by simpa using hs, ?_⟩
    · simp [World.setCell, Array.getElem?_modify, hg]
    · rw [Array.toList_setIfInBounds, List.take_set, ht]
      simp [vals, List.map_set]
theorem own_get {w : World} {B g n cp k : Nat} {f : List Int} (h : w.ownsRow B 3 1 (.slice (some ⟨g, 0, none⟩) n cp) n (vals f)) (hk : k < f.length) :
    w.cell? ⟨g, k, none⟩ = some (.int .i64 (f[k]?.getD 0)) := own_cell h (by simp [vals, hk])
theorem own_free {w : World} {B g n cp : Nat} {xs : List Value} {t : TypeId} {size : Nat} (h : w.ownsRow B t size (.slice (some ⟨g, 0, none⟩) n cp) n xs) (o : Nat) : w.frozen? ⟨g, o, none⟩ = false := by
  rcases h.2 with ⟨hv, _⟩ | ⟨g', cap, cur, hv, hb, hg, _⟩
  · cases hv
  · injection hv with ha _ _
    injection ha with ha
    injection ha with ha
    subst ha
    simp [World.frozen?, hg]
theorem own_other {w : World} {B n g : Nat} {v : Value} {xs : List Value} {t : TypeId} {size : Nat} (h : w.ownsRow B t size v n xs) (hg : g < B) (k : Nat) (y : Value) : (w.setCell ⟨g, k, none⟩ y).ownsRow B t size v n xs :=
  ownsRow_obj h fun j o hj ho _ => setCell_ctl ho (.inr (by have := (h.lt j hj).1; dsimp only; omega))

theorem ints_own2 {w : World} {B : Nat} {v : Value} {l : List Int} (h : w.ownsRow B 3 1 v l.length (vals l)) :
    ∃ a cap, v = .slice a l.length cap ∧ IntsAt w a l := by
  rcases h.2 with ⟨rfl, hn⟩ | ⟨g, cap, cur, rfl, hg, hgg, hn, hm, hs, ht⟩
  · exact ⟨none, 0, by rw [hn], fun k hk => by omega⟩
  · refine ⟨_, cap, rfl, fun k hk => ⟨g, 0, rfl, (Array.getElem?_eq_some_iff.1 hgg).1, ?_⟩⟩
    have := h.cells (g := g) rfl k (.int .i64 (l[k]?.getD 0)) (by simp [vals, hk])
    have ha : (⟨g, 0, none⟩ : Addr).add k = ⟨g, 0 + k, none⟩ := by unfold Addr.add; split <;> simp_all
    rwa [ha] at this

theorem end_of {zs : List Int} {x : Int} {kt : Nat} (he : err zs = 0) (hx : 0 ≤ x ∧ x < zs.length) (hz : zs.getD kt 0 = -1) (hk : (kt : Int) ∈ chain zs x) :
    lastOf (along zs x) = (kt : Int) ∧ wrongOf zs [x] = 0 := by
  have hw : wrongOf zs [x] = 0 := wrongOf_fine he (by simp; exact hx)
  obtain ⟨_, _, hr⟩ := err_ok he
  refine ⟨?_, hw⟩
  rw [along, if_pos hw]
  refine last_of_root (ringF ?_) ?_ hk
  · have := hr x.toNat (by omega)
    rwa [Int.toNat_of_nonneg hx.1] at this
  · unfold nxt
    simpa using hz
theorem not_mem_take {l : List Int} {k : Nat} {x : Int} (h : l.Nodup) (hx : l[k]? = some x) : x ∉ l.take k := by
  intro hm
  obtain ⟨hk, hkx⟩ := List.getElem?_eq_some_iff.1 hx
  rw [← List.take_append_drop k l, List.nodup_append] at h
  exact h.2.2 x hm x (by rw [List.drop_eq_getElem_cons hk, hkx]; exact List.mem_cons_self) rfl
theorem sN_le (zs : List Int) (i : Nat) (x : Int) : sN zs i x ≤ (rootsN zs zs.length).length :=
  Nat.le_trans (List.length_filter_le _ _) (by rw [List.length_take]; omega)

theorem seen_step {zs bs f : List Int} {i k kx : Nat} (h : ∀ x : Nat, x < zs.length → f[x]?.getD 0 = (sN zs i x : Int) + if (x : Int) ∈ bs.take k then 1 else 0)
    (hx : bs[k]? = some (kx : Int)) (_hn : (kx : Int) ∉ bs.take k) (_hv : f[kx]?.getD 0 = (sN zs i kx : Int)) (hl : f.length = zs.length) (hk : kx < zs.length) (x : Nat) (hxz : x < zs.length) :
    (f.set kx ((sN zs i kx : Int) + 1))[x]?.getD 0 = (sN zs i x : Int) + if (x : Int) ∈ bs.take (k + 1) then 1 else 0 := by
  rw [List.take_add_one, hx]
  by_cases e : kx = x
  · subst e
    rw [List.getElem?_set_self (by omega)]
    simp
  · rw [List.getElem?_set_ne e, h x hxz]
    have : ((x : Int) ∈ bs.take k ++ (some (kx : Int)).toList) ↔ (x : Int) ∈ bs.take k := by
      simp; omega
    simp only [this]

theorem zat {w w' : World} {g o : Nat} {v : Value} (h : w.cell? ⟨g, o, none⟩ = some v) (hb : Below w.heap.size w w') (hg : g < w.heap.size) : w'.cell? ⟨g, o, none⟩ = some v := by
  simpa [World.cell?, hb.block g hg] using h

theorem made_zero (n : Nat) : (madeCells (Value.int .i64 0).cells (n * 1)).toList = vals (List.replicate n 0) := by
  rw [vals, List.map_replicate, List.eq_replicate_iff]
  refine ⟨by simp [madeCells], fun b hb => ?_⟩
  simp [madeCells, Value.cells] at hb
  obtain ⟨x, _, rfl⟩ := hb
  simp [Nat.mod_one]

set_option maxRecDepth 100000 in
set_option maxHeartbeats 4000000 in
theorem parts_ok (a : Option Addr) (cap : Nat) (zs : List Int) (w : World) (hc : IntsAt w a zs) (he : err zs = 0) :
    Calls Try.prog 7 #[.slice a zs.length cap] w fun e w' => e = .returned (.bool true) ∧ Below w.heap.size w w' := by
  obtain ⟨i0, hi0, hz0, hz1, hz2⟩ := info_parts Try.info3
  obtain ⟨h64, hgd, hrr⟩ := err_ok he
  have h1 := Wrong_all a cap zs w hc
  rw [he] at h1
  have H1 := Lib.hid h1
  have HE := Lib.hid he
  have HRR := Lib.hid hrr
  clear h1 he hrr hgd
  go_enter Try.func7, Try.ntmps7
  go_wp2_with (first | (go_at_call 10; refine H1.out.mono ?_; rintro e w2 ⟨rfl, rfl⟩) | (at_make; refine wpList_make_full _ rfl _ _ 22 rfl w.heap.size 3 i0 (.int .i64 0) 1 Try.underlying22 hi0 hz0 hz1 .i64 .i64 _ _ zs.length rfl rfl rfl rfl (by rw [hz2]; omega) (by unfold maxLen; omega) (Nat.le_refl _) ?_; intro w1 hown hgrow))
  have hb1 : Below w.heap.size w w1 := ⟨hgrow.os, hgrow.tape, hgrow.output, hgrow.size, fun k hk => hgrow.block k hk (by simp)⟩
  have hlt1 := hown.lt w.heap.size rfl
  rw [made_zero] at hown
  obtain ⟨Sb, hSb⟩ : ∃ Sb, w.heap.size = Sb := ⟨_, rfl⟩
  have hsz1 : Sb + 1 ≤ w1.heap.size := by rw [← hSb]; omega
  rw [hSb] at hown hlt1 ⊢
  have hroots := Roots_ok a cap zs w1 (hc.below (Nat.le_refl _) hb1) HE.out
  have HRo := Lib.hid hroots
  have HOwn := Lib.hid hown
  have HB1 := Lib.hid hb1
  have HSb := Lib.hid hSb
  clear hroots hown hgrow hb1 hlt1 hSb
  go_wp2_with fail
  refine HRo.out.mono ?_
  rintro e w2 ⟨v, rfl, hownr, hb2⟩
  obtain ⟨ra, rcap, rfl, hrat⟩ := ints_own hownr (by have := hb2.size; exact this)
  have hs2 := hb2.size
  have hbw2 : Below Sb w w2 := by
    have h1 := HB1.out
    rw [HSb.out] at h1
    exact h1.trans (hb2.mono (by omega))
  have hseen2 := ownsRow_below HOwn.out hb2
  have hrl := rootsN_length zs zs.length
  obtain ⟨rs, hrs⟩ : ∃ rs, rootsN zs zs.length = rs := ⟨_, rfl⟩
  rw [hrs] at hownr hrat hrl ⊢
  have HRs := Lib.hid hrs
  have HOr := Lib.hid hownr
  have HB2 := Lib.hid hbw2
  have HSeen2 := Lib.hid hseen2
  clear hrs hownr hbw2 hseen2 hb2 hrat
  go_wp2_with fail
  go_loopg [5] rs.length (fun gh s5 wr => ∃ (i : Nat) (f : List Int), i + gh = rs.length ∧ s5 = .int .i64 i ∧ f.length = zs.length ∧ wr.ownsRow Sb 3 1 (.slice (some ⟨Sb, 0, none⟩) zs.length zs.length) zs.length (vals f) ∧
    wr.ownsRow w1.heap.size 3 1 (.slice ra rs.length rcap) rs.length (vals rs) ∧ (∀ x : Nat, x < zs.length → f[x]?.getD 0 = (sN zs i x : Int)) ∧ Below Sb w wr ∧ w2.heap.size ≤ wr.heap.size)
  case atStart => exact ⟨0, List.replicate zs.length 0, by omega, rfl, by simp, HSeen2.out, HOr.out, fun x hx => by simp [hx, sN], HB2.out, Nat.le_refl _⟩
  case round =>
    obtain ⟨i, f, hi, rfl, hf, hseen, hownr, hfx, hb, hszr⟩ := hrel
    have HI := Lib.hid hi
    have HF := Lib.hid hf
    have HFx := Lib.hid hfx
    have HSeen := Lib.hid hseen
    have HOr' := Lib.hid hownr
    have HB := Lib.hid hb
    have hi' : i ≤ rs.length := by omega
    clear hi hf hfx hseen hb
    by_cases hlt : i < rs.length
    · obtain ⟨ra', rcap', hrv, hrat⟩ := ints_own hownr (by omega)
      cases hrv
      obtain ⟨rg, roff, rfl, hrb, hrc⟩ := hrat i hlt
      obtain ⟨t, ht⟩ : ∃ t, rs[i]? = some t := ⟨_, List.getElem?_eq_getElem hlt⟩
      rw [ht, Option.getD_some] at hrc
      have hmem : t ∈ rootsN zs zs.length := by rw [HRs.out]; exact List.mem_of_getElem? ht
      obtain ⟨kt, hkt, hkz, rfl⟩ := mem_rootsN.1 hmem
      have hbeh : ∀ A, Below Sb w A → Calls Try.prog 21 #[.slice a zs.length cap, .int .i64 (kt : Int)] A fun e w' => ∃ v, e = .returned v ∧ w'.ownsRow (A.heap.size + 3) 3 1 v (behindN zs kt zs.length).length (vals (behindN zs kt zs.length)) ∧ Below A.heap.size A w' :=
        fun A hA => Behind_ok a cap zs kt A (hc.below (Nat.le_of_eq HSb.out) hA) HE.out ⟨by omega, by omega⟩
      have HBeh := Lib.hid (hbeh wr HB.out)
      have HT := Lib.hid ht
      have HMem := Lib.hid hmem
      have HKz := Lib.hid hkz
      clear hownr hrat hbeh ht hmem hkz
      go_wp2_with fail
      refine HBeh.out.mono ?_
      rintro e w3 ⟨v, rfl, hownb, hb3⟩
      obtain ⟨bs, hbs⟩ : ∃ bs, behindN zs kt zs.length = bs := ⟨_, rfl⟩
      rw [hbs] at hownb
      have hbl : bs.length ≤ zs.length := hbs ▸ behindN_length zs kt zs.length
      obtain ⟨ba, bcap, rfl, hbat⟩ := ints_own2 hownb
      have hs3 := hb3.size
      have hseen3 := ownsRow_below HSeen.out hb3
      have hownr3 := ownsRow_below HOr'.out hb3
      have hbw3 : Below Sb w w3 := HB.out.trans (hb3.mono (by have := HB.out.size; have := HSb.out; omega))
      have hlts := hownb.lt
      have HBs := Lib.hid hbs
      have HOb := Lib.hid hownb
      have HSeen3 := Lib.hid hseen3
      have HOr3 := Lib.hid hownr3
      have HB3 := Lib.hid hbw3
      clear hbs hownb hseen3 hownr3 hbw3 hb3 hbat hlts
      go_wp2_with fail
      obtain ⟨wo, rfl⟩ : ∃ wo, wo = wr := ⟨_, rfl⟩
      go_loopg [7] bs.length (fun gh s7 ws => ∃ (k : Nat) (f' : List Int), k + gh = bs.length ∧ s7 = .int .i64 k ∧ f'.length = zs.length ∧ ws.ownsRow Sb 3 1 (.slice (some ⟨Sb, 0, none⟩) zs.length zs.length) zs.length (vals f') ∧
        ws.ownsRow w1.heap.size 3 1 (.slice (some ⟨rg, roff, none⟩) rs.length rcap) rs.length (vals rs) ∧ ws.ownsRow (wo.heap.size + 3) 3 1 (.slice ba bs.length bcap) bs.length (vals bs) ∧
        (∀ x : Nat, x < zs.length → f'[x]?.getD 0 = (sN zs i x : Int) + if (x : Int) ∈ bs.take k then 1 else 0) ∧ Below Sb w ws ∧ w3.heap.size ≤ ws.heap.size)
      case atStart => exact ⟨0, f, by omega, rfl, HF.out, HSeen3.out, HOr3.out, HOb.out, fun x hx => by simp [HFx.out x hx], HB3.out, Nat.le_refl _⟩
      case round =>
        obtain ⟨k, f', hk, rfl, hf', hseen', hownr', hownb', hfx', hb', hszs⟩ := hrel
        have hk' : k ≤ bs.length := by omega
        by_cases hltk : k < bs.length
        · obtain ⟨ba', bcap', hbv, hbat⟩ := ints_own2 hownb'
          cases hbv
          obtain ⟨bg, boff, rfl, hbb, hbc⟩ := hbat k hltk
          obtain ⟨x, hx⟩ : ∃ x, bs[k]? = some x := ⟨_, List.getElem?_eq_getElem hltk⟩
          rw [hx, Option.getD_some] at hbc
          have hxm : x ∈ behindN zs kt zs.length := by rw [HBs.out]; exact List.mem_of_getElem? hx
          obtain ⟨kx, hkx, hkc, rfl⟩ := mem_behindN.1 hxm
          have hkx' : (0 : Int) ≤ (kx : Int) ∧ (kx : Int) < zs.length := ⟨by omega, by omega⟩
          have hal := end_of HE.out hkx' HKz.out hkc
          have hseen2' := hseen'
          have hgt := own_get hseen' (show kx < f'.length by omega)
          have hfv := hfx' kx hkx
          have hnd : (kx : Int) ∉ bs.take k := by
            rw [← HBs.out] at hx ⊢
            exact not_mem_take (behindN_nodup _ _ _) hx
          rw [if_neg hnd, Int.add_zero] at hfv
          rw [hfv] at hgt
          have hsle : sN zs i kx ≤ 64 := Nat.le_trans (sN_le zs i kx) (by rw [HRs.out]; omega)
          have hcall : Calls Try.prog 14 #[.slice a zs.length cap, .int .i64 (kx : Int)] wr fun e w' => e = .returned (.tuple #[.int .i64 (kt : Int), .int .i64 0]) ∧ Below wr.heap.size wr w' := by
            have := Cend_any a cap zs kx wr (by omega) (hc.below (Nat.le_of_eq HSb.out) hb')
            rwa [hal.1, hal.2] at this
          have hfree := own_free hseen' kx
          have HK := Lib.hid hk
          have HF' := Lib.hid hf'
          have HFx' := Lib.hid hfx'
          have HSeen' := Lib.hid hseen'
          have HOr2 := Lib.hid hownr'
          have HOb2 := Lib.hid hownb'
          have HB' := Lib.hid hb'
          have HX := Lib.hid hx
          have HKc := Lib.hid hkc
          have HCall := Lib.hid hcall
          have HGt := Lib.hid hgt
          have HFree := Lib.hid hfree
          have HNd := Lib.hid hnd
          have HFv := Lib.hid hfv
          clear hk hf' hfx' hseen' hownr' hownb' hb' hx hkc hcall hgt hfree hnd hfv hxm hal hseen2' hbat
          go_wp2_with fail
          refine HCall.out.mono ?_
          rintro e w5 ⟨rfl, hb5⟩
          have hseen5 := ownsRow_below HSeen'.out hb5
          have hgt5 : w5.cell? ⟨Sb, kx, none⟩ = some (.int .i64 (sN zs i kx : Int)) := by
            have := own_get hseen5 (show kx < f'.length by rw [HF'.out]; omega)
            rwa [HFv.out] at this
          have hfree5 := own_free hseen5 kx
          have hownr5 := ownsRow_below HOr2.out hb5
          have hownb5 := ownsRow_below HOb2.out hb5
          obtain ⟨ra5, rc5, hv5, hat5⟩ := ints_own2 hownr5
          cases hv5
          obtain ⟨b5, o5, he5, hbr5, hrc5⟩ := hat5 i hlt
          cases he5
          rw [HT.out, Option.getD_some] at hrc5
          clear hat5
          obtain ⟨ba6, bc6, hv6, hat6⟩ := ints_own2 hownb5
          cases hv6
          obtain ⟨b6, o6, he6, hbb6, hbc6⟩ := hat6 k hltk
          cases he6
          rw [HX.out, Option.getD_some] at hbc6
          clear hat6
          have hs5 := hb5.size
          have hbw5 : Below Sb w w5 := HB'.out.trans (hb5.mono (by have := HB'.out.size; have := HSb.out; omega))
          have HSeen5 := Lib.hid hseen5
          have HOr5 := Lib.hid hownr5
          have HOb5 := Lib.hid hownb5
          have HB5 := Lib.hid hbw5
          clear hseen5 hownr5 hownb5 hbw5 hb5
          go_wp2_with fail
          go_roundg (bs.length - (k + 1))
          case measure => have := HK.out; omega
          case rel =>
            refine ⟨k + 1, f'.set kx (sN zs i kx + 1), by omega, by go_num, by simp [HF'.out], own_set HSeen5.out (by rw [HF'.out]; omega), own_other HOr5.out (by omega) kx _, own_other HOb5.out (by omega) kx _, ?_, HB5.out.setCell (p := ⟨Sb, kx, none⟩) (Nat.le_refl _) _, by simp [World.setCell]; omega⟩
            intro x hx
            exact seen_step HFx'.out HX.out HNd.out HFv.out (by rw [HF'.out]) hkx x hx
        · have hend : ∀ x : Nat, x < zs.length → f'[x]?.getD 0 = (sN zs (i + 1) x : Int) := by
            intro x hx
            rw [hfx' x hx, List.take_of_length_le (by omega), sN_succ (by rw [HRs.out]; exact HT.out), ← HBs.out]
            by_cases hm : (kt : Int) ∈ chain zs (x : Int)
            · rw [if_pos (mem_behindN.2 ⟨x, hx, hm, rfl⟩), if_pos hm]; rfl
            · rw [if_neg (fun h => by obtain ⟨k', _, h1, h2⟩ := mem_behindN.1 h; rw [← h2] at h1; exact hm h1), if_neg hm]; rfl
          have HEnd := Lib.hid hend
          have HF' := Lib.hid hf'
          have HSeen' := Lib.hid hseen'
          have HOr2 := Lib.hid hownr'
          have HB' := Lib.hid hb'
          clear hk hf' hfx' hseen' hownr' hownb' hb' hend
          go_wp2_with fail
          go_roundg (rs.length - (i + 1))
          case measure => have := HI.out; omega
          case rel => exact ⟨i + 1, f', by omega, by go_num, HF'.out, HSeen'.out, HOr2.out, HEnd.out, HB'.out, by omega⟩
    · have hone : ∀ x : Nat, x < zs.length → f[x]?.getD 0 = 1 := by
        intro x hx
        have hil : i = (rootsN zs zs.length).length := by rw [HRs.out]; omega
        rw [HFx.out x hx, hil, sN_all HE.out ⟨by omega, by omega⟩]
        rfl
      have HOne := Lib.hid hone
      clear hone hownr
      go_wp2_with fail
      go_loopg [10] zs.length (fun gh s10 ws => ∃ j : Nat, j + gh = zs.length ∧ s10 = .int .i64 j ∧ ws.ownsRow Sb 3 1 (.slice (some ⟨Sb, 0, none⟩) zs.length zs.length) zs.length (vals f) ∧ Below Sb w ws)
      case atStart => exact ⟨0, by omega, rfl, HSeen.out, HB.out⟩
      case round =>
        obtain ⟨j, hj, rfl, hsn, hbn⟩ := hrel
        by_cases hlj : j < zs.length
        · have hgt := own_get hsn (show j < f.length by rw [HF.out]; omega)
          rw [HOne.out j hlj] at hgt
          obtain ⟨zb, zo, rfl, hzb, hzc⟩ := hc.below (Nat.le_of_eq HSb.out) hbn j hlj
          obtain ⟨z, hz⟩ : ∃ z, zs[j]?.getD 0 = z := ⟨_, rfl⟩
          rw [hz] at hzc
          have hjr : (0 : Int) ≤ (j : Int) ∧ (j : Int) < zs.length := ⟨by omega, by omega⟩
          have hlong : ∀ x : Int, (0 ≤ x ∧ x < zs.length) → ∀ A, Below Sb w A → Calls Try.prog 22 #[.slice (some ⟨zb, zo, none⟩) zs.length cap, .int .i64 x] A fun e w' => e = .returned (.tuple #[.int .i64 ((chain zs x).length : Nat), .int .i64 0]) ∧ Below A.heap.size A w' := by
            intro x hx A hA
            have := Long_any (some ⟨zb, zo, none⟩) cap zs x A (by omega) (hc.below (Nat.le_of_eq HSb.out) hA)
            have hw : wrongOf zs [x] = 0 := wrongOf_fine HE.out (by simp; exact hx)
            rwa [along, if_pos hw, hw] at this
          have hzz : nxt zs (j : Int) = z := by
            rw [nxt, if_neg (by omega), ← hz]; simp
          have hcl := chain_length hjr (ringF (HRR.out j hlj))
          rw [hzz] at hcl
          have hl1 := hlong j hjr wr hbn
          have hnl : (chain zs (j : Int)).length ≤ 64 := Nat.le_trans (chainL_length zs zs.length _) h64
          have HJ := Lib.hid hj
          have HS := Lib.hid hsn
          have HBn := Lib.hid hbn
          have HL1 := Lib.hid hl1
          have HLong := Lib.hid hlong
          have HZ := Lib.hid hz
          by_cases hzn : z = -1
          · rw [if_pos hzn] at hcl
            rw [hcl] at hl1
            have HL1 := Lib.hid hl1
            subst hzn
            clear hj hsn hbn hl1 hlong hz hzz hcl hgt
            go_wp2_with fail
            refine HL1.out.mono ?_
            rintro e w6 ⟨rfl, hb6⟩
            have hsn6 := ownsRow_below HS.out hb6
            have hgt := own_get hsn6 (show j < f.length by rw [HF.out]; omega)
            rw [HOne.out j hlj] at hgt
            have hbw6 : Below Sb w w6 := HBn.out.trans (hb6.mono (by have := HBn.out.size; have := HSb.out; omega))
            have hzc6 := (zat hzc hb6 hzb)
            have HS6 := Lib.hid hsn6
            have HB6 := Lib.hid hbw6
            clear hsn6 hbw6 hb6 hzc
            go_wp2_with fail
            go_roundg (zs.length - (j + 1))
            case measure => have := HJ.out; omega
            case rel => exact ⟨j + 1, by omega, by go_num, HS6.out, HB6.out⟩
          · have hzr : 0 ≤ z ∧ z < zs.length := by
              have := (err_ok HE.out).2.1 j hlj
              rw [List.getD, hz] at this
              rcases this with h | h
              · exact absurd h hzn
              · exact h
            rw [if_neg hzn] at hcl
            obtain ⟨m, hm⟩ : ∃ m, (chain zs z).length = m := ⟨_, rfl⟩
            have hm64 : m ≤ 64 := by omega
            have hl1' : Calls Try.prog 22 #[.slice (some ⟨zb, zo, none⟩) zs.length cap, .int .i64 (j : Int)] wr fun e w' => e = .returned (.tuple #[.int .i64 ((m : Int) + 1), .int .i64 0]) ∧ Below wr.heap.size wr w' := by
              rw [hcl, hm] at hl1
              exact hl1
            have HL1 := Lib.hid hl1'
            have HM := Lib.hid hm
            have HZN := Lib.hid hzn
            clear hj hsn hbn hl1 hlong hz hzz hcl hgt hl1' hm hzn
            go_wp2_with fail
            refine HL1.out.mono ?_
            rintro e w6 ⟨rfl, hb6⟩
            have hsn6 := ownsRow_below HS.out hb6
            have hbw6 : Below Sb w w6 := HBn.out.trans (hb6.mono (by have := HBn.out.size; have := HSb.out; omega))
            have hzc6 := (zat hzc hb6 hzb)
            have hl2 := HLong.out z hzr w6 hbw6
            rw [HM.out] at hl2
            have HL2 := Lib.hid hl2
            have HS6 := Lib.hid hsn6
            have HB6 := Lib.hid hbw6
            have hs6 := hb6.size
            clear hsn6 hbw6 hb6 hzc hl2
            go_wp2_with fail
            refine HL2.out.mono ?_
            rintro e w7 ⟨rfl, hb7⟩
            have hsn7 := ownsRow_below HS6.out hb7
            have hgt := own_get hsn7 (show j < f.length by rw [HF.out]; omega)
            rw [HOne.out j hlj] at hgt
            have hbw7 : Below Sb w w7 := HB6.out.trans (hb7.mono (by have := HB6.out.size; have := HSb.out; omega))
            have HS7 := Lib.hid hsn7
            have HB7 := Lib.hid hbw7
            clear hsn7 hbw7 hb7
            go_wp2_with fail
            go_roundg (zs.length - (j + 1))
            case measure => have := HJ.out; omega
            case rel => exact ⟨j + 1, by omega, by go_num, HS7.out, HB7.out⟩
        · go_wp2_with fail
          refine (awake_hid _).out.mono ?_
          rintro e w8 ⟨rfl, hb8⟩
          have hb9 : Below w.heap.size w w8 := by
            rw [HSb.out]
            exact hbn.trans (hb8.mono (by have := hbn.size; have := HSb.out; omega))
          have HB9 := Lib.hid hb9
          clear hb9 hb8 hbn hsn hj
          go_wp2_with fail
          go_ret
          exact ⟨rfl, HB9.out⟩
end Go.Proofs.Ytmbdolmkldbjcaa
