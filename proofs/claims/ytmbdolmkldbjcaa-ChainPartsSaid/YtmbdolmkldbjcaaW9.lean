/-
  Walks: chain.Assign.
-/
import Derived.Test.YtmbdolmkldbjcaaActs
import Derived.Deep.RegionHeld3
import Derived.Deep.AppendLies
import Derived.WalkSpells
namespace Go.Proofs.Ytmbdolmkldbjcaa
open Go.RowKit

theorem Try.info33 : (Try.prog.info? 33).map (fun i => (i.zero, i.size, i.bytes)) = some (some (actV 0 0 0 false), 4, 32) := by kernel_rfl
theorem zero33 (w : World) : (zeroValue 33).run Try.prog w = .ok (.agg #[.int .i64 0, .int .i64 0, .int .i64 0, .bool false]) w := by kernel_rfl

theorem rightOf_ok {zs cs : List Int} (h : rightOf zs cs = 0) : zs.length ≤ 64 ∧ Good zs ∧ (∀ i, OkI zs i → Rings zs i = false) ∧ (∀ j, j < cs.length → OkI zs (cs.getD j 0)) ∧
    (∀ j, j < cs.length → 0 ≤ cs.getD j 0 → cs.getD j 0 ∉ cs.take j) := by
  unfold rightOf at h
  split at h
  · rename_i h1; exact absurd h h1
  rename_i h1
  simp only [Decidable.not_not] at h1
  obtain ⟨h2, h3, h4⟩ := err_ok h1
  unfold picked at h
  split at h
  · cases h
  rename_i h5
  split at h
  · cases h
  rename_i h6
  refine ⟨h2, h3, ?_, fun j hj => Classical.byContradiction fun hn => h5 ⟨j, hj, hn⟩, fun j hj h7 h8 => h6 ⟨j, hj, h7, h8⟩⟩
  rintro i (rfl | ⟨hi, hi'⟩)
  · simp [Rings, nxts_none]
  · have := h4 i.toNat (by omega)
    rwa [Int.toNat_of_nonneg hi] at this

theorem along_of {zs cs : List Int} {x : Int} (h : rightOf zs cs = 0) (hx : 0 ≤ x ∧ x < zs.length) : wrongOf zs [x] = 0 ∧ lastOf (along zs x) = endOf zs x := by
  have he : err zs = 0 := by
    unfold rightOf at h
    split at h
    · rename_i h1; exact absurd h h1
    · rename_i h1; simpa using h1
  have : wrongOf zs [x] = 0 := by
    rw [wrongOf, if_neg (by rw [he]; simp), if_neg]
    rintro ⟨j, hj, hn⟩
    simp at hj
    subst hj
    exact hn (by simpa using hx)
  exact ⟨this, by rw [along, if_pos this, endOf_last]⟩

theorem grown_of_below {w w' : World} (h : Below w.heap.size w w') : w.grownBy w' none := ⟨h.os, h.tape, h.output, h.size, fun k hk _ => h.block k hk⟩
theorem ownsRow_below {w w' : World} {B : Nat} {e : TypeId} {size n : Nat} {v : Value} {xs : List Value} (h : w.ownsRow B e size v n xs) (hb : Below w.heap.size w w') : w'.ownsRow B e size v n xs :=
  h.kept (grown_of_below hb) (by cases hv : v.ownBlock <;> simp)
theorem mapI.below {w w' : World} {P : Program} {k : TypeId} {b n : Nat} {f : Int → Option Value} (h : mapI w P k b n f) (hb : Below w.heap.size w w') : mapI w' P k b n f :=
  h.of_same (hb.block b h.lt)
theorem own_ne_map {w : World} {P : Program} {k : TypeId} {b n m : Nat} {f : Int → Option Value} {B : Nat} {e : TypeId} {size : Nat} {v : Value} {xs : List Value}
    (h : mapI w P k b n f) (ho : w.ownsRow B e size v m xs) : v.ownBlock ≠ some b := by
  intro he
  obtain ⟨es, c, hb⟩ := h.is
  rcases ho.2 with ⟨rfl, _⟩ | ⟨g, cap, cur, rfl, _, hg, _⟩
  · simp [Value.ownBlock] at he
  · simp [Value.ownBlock] at he
    subst he
    rw [hb] at hg
    cases hg
theorem own_mod {w w' : World} {P : Program} {k : TypeId} {b n m : Nat} {f : Int → Option Value} {B : Nat} {e : TypeId} {size : Nat} {v : Value} {xs : List Value}
    (h : mapI w P k b n f) (ho : w.ownsRow B e size v m xs) (hm : Mod (fun j => j = b) w w') : w'.ownsRow B e size v m xs := by
  have hne := own_ne_map h ho
  refine ⟨ho.1, ?_⟩
  rcases ho.2 with hn | ⟨g, cap, cur, rfl, hb, hg, rest⟩
  · exact .inl hn
  · exact .inr ⟨g, cap, cur, rfl, hb, hm.obj hg (fun h => hne (by simp [Value.ownBlock, h])), rest⟩
theorem after_append {w wr w1 : World} {P : Program} {k : TypeId} {b n m : Nat} {f : Int → Option Value} {e : TypeId} {size : Nat} {v : Value} {xs : List Value} {o : Obj}
    (hmap : mapI wr P k b n f) (hown : wr.ownsRow w.heap.size e size v m xs) (hb : Below w.heap.size w wr) (hgrow : (wr.alloc o).grownBy w1 v.ownBlock) :
    mapI w1 P k b n f ∧ Below w.heap.size w w1 := by
  have hne := own_ne_map hmap hown
  have hsz := hb.size
  refine ⟨?_, (hb.alloc hsz _).grown hgrow (by simp; omega) (fun j hj => (hown.lt j hj).1)⟩
  have h1 : mapI (wr.alloc o) P k b n f := hmap.below ((Below.refl _ _).alloc (Nat.le_refl _) _)
  exact h1.of_same (hgrow.block b h1.lt (Ne.symm hne))

theorem ownsRow_cases {w : World} {B : Nat} {e : TypeId} {size n : Nat} {v : Value} {xs : List Value} (h : w.ownsRow B e size v n xs) :
    (v = .slice none 0 0 ∧ n = 0) ∨ ∃ g cap cur, v = .slice (some ⟨g, 0, none⟩) n cap ∧ B ≤ g ∧ w.heap[g]? = some (.cells cur e (0, 0)) ∧ n ≤ cap ∧ cap ≤ maxLen ∧ cur.size = cap * size ∧ cur.toList.take (n * size) = xs := h.2

theorem endOf_ok {zs : List Int} {x : Int} (hg : Good zs) (hr : ∀ i, OkI zs i → Rings zs i = false) (hx : 0 ≤ x ∧ x < zs.length) : 0 ≤ endOf zs x ∧ endOf zs x < zs.length := by
  have hne : chain zs x ≠ [] := chain_ne (by omega) (ringF (hr x (.inr hx)))
  have hpos := List.length_pos_iff.2 hne
  refine chainL_ok hg zs.length x (.inr hx) _ ?_
  unfold endOf
  rw [List.getD, List.getElem?_eq_getElem (by omega)]
  exact List.getElem_mem _

theorem cells4 {w w' : World} {S : Nat → Prop} {o : Value × Value × Value × Value} {t : TypeId} {B : Nat} (hB : B = w.heap.size) (h : Mod S (w.alloc (.cells #[o.1, o.2.1, o.2.2.1, o.2.2.2] t)) w') (hS : ¬ S B) :
    w'.cell? ⟨B, 0, none⟩ = some o.1 ∧ w'.cell? ⟨B, 1, none⟩ = some o.2.1 ∧ w'.cell? ⟨B, 2, none⟩ = some o.2.2.1 ∧ w'.cell? ⟨B, 3, none⟩ = some o.2.2.2 := by
  subst hB
  refine ⟨h.cell ?_ hS, h.cell ?_ hS, h.cell ?_ hS, h.cell ?_ hS⟩ <;> exact (World.cell?_alloc_at _ _ _ _ rfl).trans rfl

theorem set_rel {wr : World} {cu : Array Value} {g cp m : Nat} {zs cs : List Int} {acts : List Act0} {a : Act0} {b : Bool} (h1 : wr.heap[g]? = some (.cells cu 33 (0, 0))) (h2 : cu.size = cp * 4)
    (h3 : cu.toList.take (acts.length * 4) = cellsOf zs cs m acts) (ha : acts[m]? = some a) (hb : b = spins zs cs a) (o : Obj) :
    ∃ cu' : Array Value, ((wr.setCell ⟨g, m * 4 + 3, none⟩ (.bool b)).alloc o).heap[g]? = some (.cells cu' 33 (0, 0)) ∧ cu'.size = cp * 4 ∧ cu'.toList.take (acts.length * 4) = cellsOf zs cs (m + 1) acts := by
  have hg := lt_of_some h1
  have hm : m < acts.length := (List.getElem?_eq_some_iff.1 ha).1
  refine ⟨cu.setIfInBounds (m * 4 + 3) (.bool b), ?_, by simp [h2], ?_⟩
  · rw [Below.heap_alloc _ _ _ (by simpa [World.setCell] using hg)]
    simp [World.setCell, Array.getElem?_modify, h1]
  · rw [Array.toList_setIfInBounds, List.take_set, h3, hb]
    exact cellsOf_set zs cs acts m a ha

theorem mod_set {w : World} {g m : Nat} {b : Value} {o : Obj} : Mod (fun j => j = g) w ((w.setCell ⟨g, m, none⟩ b).alloc o) :=
  ((Mod.refl (fun j => j = g) w).setCell (p := ⟨g, m, none⟩) (fun _ => rfl) b).alloc o

set_option maxHeartbeats 4000000 in
theorem Assign_ok (a b : Option Addr) (cap cap' : Nat) (zs cs : List Int) (w : World) (hl' : cs.length ≤ 1000000)
    (hc : IntsAt w a zs) (hc' : IntsAt w b cs) (hr : rightOf zs cs = 0) :
    Calls Try.prog 9 #[.slice a zs.length cap, .slice b cs.length cap'] w fun e w' => ∃ v, e = .returned (.tuple #[v, .int .i64 0]) ∧
      w'.ownsRow w.heap.size 33 4 v (acts0 zs cs cs.length).length (cellsOf zs cs cs.length (acts0 zs cs cs.length)) ∧ Below w.heap.size w w' := by
  obtain ⟨hl, hg, hrg, hp, _⟩ := rightOf_ok hr
  obtain ⟨i0, hi0, hz0, hz1, hz2⟩ := info_parts Try.info33
  have hcall := right_any a b cap cap' zs cs w (by omega) (by omega) hc hc'
  rw [hr] at hcall
  have HC := Lib.hid hcall
  have HR := Lib.hid hr
  have HP := Lib.hid hp
  have HG := Lib.hid hg
  have HRG := Lib.hid hrg
  clear hcall hr hp hg hrg
  have hmm := @run_makeMap Try.prog
  go_enter Try.func9, Try.ntmps9
  go_wp2_with (go_at_call 23; refine HC.out.mono ?_; rintro e w1 ⟨rfl, hb1⟩)
  obtain ⟨wm, hwm⟩ : ∃ wm, w1.alloc (.map #[] 0) = wm := ⟨_, rfl⟩
  have hmade : mapI wm Try.prog 3 w1.heap.size 0 (fun _ => none) := by rw [← hwm]; exact mapI_made _ _ _
  have hbm : Below w.heap.size w wm := by rw [← hwm]; exact hb1.alloc hb1.size _
  obtain ⟨bm, hbmm⟩ : ∃ bm, w1.heap.size = bm := ⟨_, rfl⟩
  have hlem : w.heap.size ≤ bm := by rw [← hbmm]; exact hb1.size
  rw [hwm, hbmm]
  rw [hbmm] at hmade
  clear hwm hbmm hb1
  have HM0 := Lib.hid hmade
  clear hmade
  go_loopg [7, 27] cs.length (fun g v k wr => ∃ n : Nat, n + g = cs.length ∧ k = .int .i64 n ∧ wr.ownsRow w.heap.size 33 4 v (acts0 zs cs n).length (cellsOf zs cs 0 (acts0 zs cs n)) ∧
      mapI wr Try.prog 3 bm n (byV zs cs n) ∧ Below w.heap.size w wr)
  case atStart => exact ⟨0, by omega, rfl, World.ownsRow_nil _ _ _ _, HM0.out, hbm⟩
  case round =>
    obtain ⟨n, hn, rfl, hown, hmap, hb⟩ := hrel
    have HN := Lib.hid hn
    have hn' : n ≤ cs.length := by omega
    have hsz := hb.size
    clear hn
    by_cases hlt : n < cs.length
    · have hla := acts0_length zs cs n
      obtain ⟨b', off, rfl, _, hcell⟩ := (hc'.below (Nat.le_refl _) hb) n hlt
      obtain ⟨x, hx⟩ : ∃ x, cs[n]?.getD 0 = x := ⟨_, rfl⟩
      have HX := Lib.hid hx
      rw [hx] at hcell
      clear hx
      have hok : OkI zs x := getD_ok HP.out hlt HX.out
      have HW := Lib.hid (wf_ok hok (by omega))
      have HOwn := Lib.hid hown
      have HMap := Lib.hid hmap
      have HB := Lib.hid hb
      clear hown hmap hb
      rcases hok with hm | ⟨h0, h1⟩
      · have hb : (x == -1) = true := by simp [hm]
        have HE := Lib.hid hm
        clear hm
        go_wp2
        go_roundg (gk - 1)
        case measure => have := HN.out; omega
        case rel =>
          have e1 : acts0 zs cs (n + 1) = acts0 zs cs n := by rw [acts0, List.getD, HX.out, if_pos HE.out]
          have e2 : byV zs cs (n + 1) = byV zs cs n := by unfold byV; rw [byF, List.getD, HX.out, if_pos HE.out]
          exact ⟨n + 1, by have := HN.out; omega, by go_num, by rw [e1]; exact HOwn.out, by rw [e2]; exact HMap.out.mono (Nat.le_succ n), HB.out⟩
      · have hb : (x == -1) = false := by simp; omega
        obtain ⟨hw0, hlo⟩ := along_of HR.out ⟨h0, h1⟩
        obtain ⟨y, hy⟩ : ∃ y, endOf zs x = y := ⟨_, rfl⟩
        rw [hy] at hlo
        have hcE := Cend_any a cap zs x wr (by omega) (hc.below (Nat.le_refl _) HB.out)
        rw [hw0, hlo] at hcE
        have HCE := Lib.hid hcE
        have HY := Lib.hid hy
        clear hw0 hlo hcE hy
        go_wp2_with fail
        refine HCE.out.mono ?_
        rintro e w2 ⟨rfl, hb2⟩
        have hmap2 := HMap.out.below hb2
        have hown2 := ownsRow_below HOwn.out hb2
        have hbb2 : Below w.heap.size w w2 := HB.out.trans (hb2.mono hsz)
        have hyok := endOf_ok HG.out HRG.out ⟨h0, h1⟩
        rw [HY.out] at hyok
        have hyw := wf_ok (zs := zs) (x := y) (.inr hyok) (by omega)
        have hlk := (hmap2.below (w' := w2.alloc (.cells #[.int .i64 n, .int .i64 x, .int .i64 y, .bool false] 33)) ((Below.refl _ _).alloc (Nat.le_refl _) _)).look_ok (t := 44) (e := 33) Try.underlying3 Try.underlying44 (zero33 _) hyw
        have HM2 := Lib.hid hmap2
        have HO2 := Lib.hid hown2
        have HB2 := Lib.hid hbb2
        have HYO := Lib.hid hyok
        have HYW := Lib.hid hyw
        clear hmap2 hown2 hbb2 hyok hyw
        rcases hby : byF zs cs n y with _ | ⟨k0, x0, y0⟩
        · have hv : byV zs cs n y = none := by rw [byV, hby]; rfl
          rw [hv] at hlk
          simp only [Option.getD_none, Option.isSome_none] at hlk
          have HBY := Lib.hid hby
          clear hby hv
          have hup := (HM2.out.below (w' := (w2.alloc (.cells #[.int .i64 n, .int .i64 x, .int .i64 y, .bool false] 33)).alloc (.cells #[.int .i64 0, .int .i64 0, .int .i64 0, .bool false] 33)) (((Below.refl _ _).alloc (Nat.le_refl _) _).alloc (by simp) _)).update (t := 44) (e := 33) Try.underlying3 Try.underlying44 (by unfold maxLen; omega) HYW.out (.agg #[.int .i64 n, .int .i64 x, .int .i64 y, .bool false])
          obtain ⟨w5, hrun, hm5, hd5⟩ := hup
          have hbx : Mod (fun j => j = bm) (w2.alloc (.cells #[.int .i64 n, .int .i64 x, .int .i64 y, .bool false] 33)) w5 := ((Mod.refl _ _).alloc _).trans hd5 (fun _ h _ => h)
          have hltm := HM2.out.lt
          obtain ⟨c0, c1, c2, c3⟩ := cells4 (o := (.int .i64 n, .int .i64 x, .int .i64 y, .bool false)) rfl hbx (fun h => by omega)
          dsimp only at c0 c1 c2 c3
          have hm22 : Mod (fun j => j = bm) w2 w5 := ((Mod.refl _ _).alloc _).trans hbx (fun _ h _ => h)
          have hown5 := own_mod HM2.out HO2.out hm22
          have hb5 : Below w.heap.size w w5 := (((Mod.of_below (S := none') HB2.out).trans hm22 (fun i hi h => by omega))).to_below
          have e1 : acts0 zs cs (n + 1) = acts0 zs cs n ++ [((n : Int), x, y)] := by rw [acts0, List.getD, HX.out, if_neg (by omega), HY.out]
          have e2 : byV zs cs (n + 1) = put (byV zs cs n) y (some (.agg #[.int .i64 n, .int .i64 x, .int .i64 y, .bool false])) := by
            funext z
            unfold byV
            rw [byF, List.getD, HX.out, if_neg (by omega), HY.out, if_pos (.inl (by rw [HBY.out]; rfl))]
            by_cases hz : z = y
            · subst hz; rw [put_same, if_pos rfl]; rfl
            · rw [put_other _ hz, if_neg hz]
          rw [← e2] at hm5
          have HM5 := Lib.hid hm5
          have HO5 := Lib.hid hown5
          have HB5 := Lib.hid hb5
          have E1 := Lib.hid e1
          clear hm5 hd5 hbx hm22 hown5 hb5 e1 e2
          have hs5 := HB5.out.size
          go_wp2_with (at_builtin; refine wpList_append_own _ rfl _ _ 24 rfl w.heap.size 33 i0 (actV 0 0 0 false) 4 32 Try.underlying24 hi0 hz0 hz1 hz2 rfl (by decide) _ _ _ rfl (HO5.out.alloc _) ⟨w5.heap.size, 0, none⟩ 1 1 [.int .i64 n, .int .i64 x, .int .i64 y, .bool false] rfl rfl (World.news_of_block (cs := #[.int .i64 n, .int .i64 x, .int .i64 y, .bool false]) (t := 33) (fr := (0, 0)) (heap_alloc_new w5 _)) (by simp [Value.oneCell']) (by unfold maxLen; omega) (by omega) (by simp; omega) ?_; intro v' w6 hown6 hgrow _)
          obtain ⟨hm6, hb6⟩ := after_append HM5.out HO5.out HB5.out hgrow
          have HO6 := Lib.hid hown6
          have HM6 := Lib.hid hm6
          have HB6 := Lib.hid hb6
          clear hown6 hgrow hm6 hb6
          go_wp2
          go_roundg (gk - 1)
          case measure => have := HN.out; omega
          case rel =>
            refine ⟨n + 1, by have := HN.out; omega, by go_num, ?_, HM6.out, HB6.out⟩
            rw [E1.out, cellsOf_zero_snoc, List.length_append]
            exact HO6.out

        · have hv : byV zs cs n y = some (.agg #[.int .i64 k0, .int .i64 x0, .int .i64 y0, .bool false]) := by rw [byV, hby]; rfl
          rw [hv] at hlk
          simp only [Option.getD_some, Option.isSome_some] at hlk
          have HBY := Lib.hid hby
          clear hby hv
          by_cases hxy : x = y
          · have hxb : (x == y) = true := by simp [hxy]
            have HXY := Lib.hid hxy
            clear hxy
            have hup := (HM2.out.below (w' := (w2.alloc (.cells #[.int .i64 n, .int .i64 x, .int .i64 y, .bool false] 33)).alloc (.cells #[.int .i64 k0, .int .i64 x0, .int .i64 y0, .bool false] 33)) (((Below.refl _ _).alloc (Nat.le_refl _) _).alloc (by simp) _)).update (t := 44) (e := 33) Try.underlying3 Try.underlying44 (by unfold maxLen; omega) HYW.out (.agg #[.int .i64 n, .int .i64 x, .int .i64 y, .bool false])
            obtain ⟨w5, hrun, hm5, hd5⟩ := hup
            have hbx : Mod (fun j => j = bm) (w2.alloc (.cells #[.int .i64 n, .int .i64 x, .int .i64 y, .bool false] 33)) w5 := ((Mod.refl _ _).alloc _).trans hd5 (fun _ h _ => h)
            have hltm := HM2.out.lt
            obtain ⟨c0, c1, c2, c3⟩ := cells4 (o := (.int .i64 n, .int .i64 x, .int .i64 y, .bool false)) rfl hbx (fun h => by omega)
            dsimp only at c0 c1 c2 c3
            have hm22 : Mod (fun j => j = bm) w2 w5 := ((Mod.refl _ _).alloc _).trans hbx (fun _ h _ => h)
            have hown5 := own_mod HM2.out HO2.out hm22
            have hb5 : Below w.heap.size w w5 := (((Mod.of_below (S := none') HB2.out).trans hm22 (fun i hi h => by omega))).to_below
            have e1 : acts0 zs cs (n + 1) = acts0 zs cs n ++ [((n : Int), x, y)] := by rw [acts0, List.getD, HX.out, if_neg (by omega), HY.out]
            have e2 : byV zs cs (n + 1) = put (byV zs cs n) y (some (.agg #[.int .i64 n, .int .i64 x, .int .i64 y, .bool false])) := by
              funext z
              unfold byV
              rw [byF, List.getD, HX.out, if_neg (by omega), HY.out, if_pos (.inr HXY.out)]
              by_cases hz : z = y
              · subst hz; rw [put_same, if_pos rfl]; rfl
              · rw [put_other _ hz, if_neg hz]
            rw [← e2] at hm5
            have HM5 := Lib.hid hm5
            have HO5 := Lib.hid hown5
            have HB5 := Lib.hid hb5
            have E1 := Lib.hid e1
            clear hm5 hd5 hbx hm22 hown5 hb5 e1 e2
            have hs5 := HB5.out.size
            go_wp2_with (at_builtin; refine wpList_append_own _ rfl _ _ 24 rfl w.heap.size 33 i0 (actV 0 0 0 false) 4 32 Try.underlying24 hi0 hz0 hz1 hz2 rfl (by decide) _ _ _ rfl (HO5.out.alloc _) ⟨w5.heap.size, 0, none⟩ 1 1 [.int .i64 n, .int .i64 x, .int .i64 y, .bool false] rfl rfl (World.news_of_block (cs := #[.int .i64 n, .int .i64 x, .int .i64 y, .bool false]) (t := 33) (fr := (0, 0)) (heap_alloc_new w5 _)) (by simp [Value.oneCell']) (by unfold maxLen; omega) (by omega) (by simp; omega) ?_; intro v' w6 hown6 hgrow _)
            obtain ⟨hm6, hb6⟩ := after_append HM5.out HO5.out HB5.out hgrow
            have HO6 := Lib.hid hown6
            have HM6 := Lib.hid hm6
            have HB6 := Lib.hid hb6
            clear hown6 hgrow hm6 hb6
            go_wp2
            go_roundg (gk - 1)
            case measure => have := HN.out; omega
            case rel =>
              refine ⟨n + 1, by have := HN.out; omega, by go_num, ?_, HM6.out, HB6.out⟩
              rw [E1.out, cellsOf_zero_snoc, List.length_append]
              exact HO6.out
          · have hxb : (x == y) = false := by simp [hxy]
            have HXY := Lib.hid hxy
            clear hxy
            obtain ⟨w5, hw5⟩ : ∃ w5, ((w2.alloc (.cells #[.int .i64 n, .int .i64 x, .int .i64 y, .bool false] 33)).alloc (.cells #[.int .i64 k0, .int .i64 x0, .int .i64 y0, .bool false] 33)) = w5 := ⟨_, rfl⟩
            have hb25 : Below w2.heap.size w2 w5 := by rw [← hw5]; exact ((Below.refl _ _).alloc (Nat.le_refl _) _).alloc (by simp) _
            have hs25 := HB2.out.size
            have hm5 := HM2.out.below hb25
            have hown5 := ownsRow_below HO2.out hb25
            have hb5 := HB2.out.trans (hb25.mono hs25)
            have e1 : acts0 zs cs (n + 1) = acts0 zs cs n ++ [((n : Int), x, y)] := by rw [acts0, List.getD, HX.out, if_neg (by omega), HY.out]
            have e2 : byV zs cs (n + 1) = byV zs cs n := by
              unfold byV
              rw [byF, List.getD, HX.out, if_neg (by omega), HY.out, if_neg (by rw [HBY.out]; rintro (h | h); cases h; exact HXY.out h)]
            rw [← e2] at hm5
            have HM5 := Lib.hid hm5
            have HO5 := Lib.hid hown5
            have HB5 := Lib.hid hb5
            have E1 := Lib.hid e1
            clear hm5 hown5 hb5 e1 e2 hb25
            subst hw5
            have hnb : ∀ j u, [Value.int .i64 n, .int .i64 x, .int .i64 y, .bool false][j]? = some u →
                (((w2.alloc (.cells #[.int .i64 n, .int .i64 x, .int .i64 y, .bool false] 33)).alloc (.cells #[.int .i64 k0, .int .i64 x0, .int .i64 y0, .bool false] 33)).alloc (.cells #[.int .i64 n, .int .i64 x, .int .i64 y, .bool false] 33)).cell? ((⟨w2.heap.size + 1 + 1, 0, none⟩ : Addr).add j) = some u :=
              World.news_of_block (cs := #[.int .i64 n, .int .i64 x, .int .i64 y, .bool false]) (t := 33) (fr := (0, 0)) (by
                have := heap_alloc_new ((w2.alloc (.cells #[.int .i64 n, .int .i64 x, .int .i64 y, .bool false] 33)).alloc (.cells #[.int .i64 k0, .int .i64 x0, .int .i64 y0, .bool false] 33)) (.cells #[.int .i64 n, .int .i64 x, .int .i64 y, .bool false] 33)
                simpa using this)
            have HNB := Lib.hid hnb
            clear hnb
            go_wp2_with (at_builtin; refine wpList_append_own _ rfl _ _ 24 rfl w.heap.size 33 i0 (actV 0 0 0 false) 4 32 Try.underlying24 hi0 hz0 hz1 hz2 rfl (by decide) _ _ _ rfl (HO5.out.alloc _) ⟨w2.heap.size + 1 + 1, 0, none⟩ 1 1 [.int .i64 n, .int .i64 x, .int .i64 y, .bool false] rfl rfl HNB.out (by simp [Value.oneCell']) (by unfold maxLen; omega) (by omega) (by simp; omega) ?_; intro v' w6 hown6 hgrow _)
            obtain ⟨hm6, hb6⟩ := after_append HM5.out HO5.out HB5.out hgrow
            have HO6 := Lib.hid hown6
            have HM6 := Lib.hid hm6
            have HB6 := Lib.hid hb6
            clear hown6 hgrow hm6 hb6
            go_wp2
            go_roundg (gk - 1)
            case measure => have := HN.out; omega
            case rel =>
              refine ⟨n + 1, by have := HN.out; omega, by go_num, ?_, HM6.out.mono (Nat.le_succ n), HB6.out⟩
              rw [E1.out, cellsOf_zero_snoc, List.length_append]
              exact HO6.out
    · have hne : n = cs.length := by omega
      subst hne
      have HOwn := Lib.hid hown
      have HMap := Lib.hid hmap
      have HB := Lib.hid hb
      have hla := acts0_length zs cs cs.length
      clear hown hmap hb
      obtain ⟨acts, hacts⟩ : ∃ l, acts0 zs cs cs.length = l := ⟨_, rfl⟩
      have HL := Lib.hid hacts
      have hown : wr.ownsRow w.heap.size 33 4 u7 acts.length (cellsOf zs cs 0 acts) := by rw [← hacts]; exact HOwn.out
      rw [hacts] at hla
      clear hacts
      -- the second loop: the slice is written in place
      rcases ownsRow_cases hown with ⟨rfl, hlen0⟩ | ⟨g, cp, cur, rfl, hg1, hg2, hg3, hg4, hg5, hg6⟩
      · have HE := Lib.hid hlen0
        clear hown hlen0
        go_wp2
        go_loop [67] (fun k => k = .int .i64 0) (fun _ => 0)
        case atStart => rfl
        case round =>
          obtain rfl := hrel
          go_wp2
          go_ret2
          refine ⟨_, rfl, ?_, HB.out⟩
          rw [HL.out, HE.out, List.length_eq_zero_iff.1 HE.out]
          exact World.ownsRow_nil _ _ _ _
      · have HCur := Lib.hid (show wr.heap[g]? = some (.cells cur 33 (0, 0)) ∧ cur.size = cp * 4 ∧ cur.toList.take (acts.length * 4) = cellsOf zs cs 0 acts from ⟨hg2, hg5, hg6⟩)
        clear hown hg2 hg5 hg6
        have hlen : acts.length ≤ 1000000 := by omega
        go_wp2
        go_loopg [67] acts.length (fun gh k wq => ∃ m : Nat, m + gh = acts.length ∧ k = .int .i64 m ∧ (∃ cur' : Array Value, wq.heap[g]? = some (.cells cur' 33 (0, 0)) ∧ cur'.size = cp * 4 ∧ cur'.toList.take (acts.length * 4) = cellsOf zs cs m acts) ∧
          mapI wq Try.prog 3 bm cs.length (byV zs cs cs.length) ∧ Below w.heap.size w wq)
        case atStart => exact ⟨0, by omega, rfl, ⟨cur, HCur.out⟩, HMap.out, HB.out⟩
        case round =>
          obtain ⟨m, hm, rfl, ⟨cu, hc1, hc2, hc3⟩, hmap, hb⟩ := hrel
          have HN := Lib.hid hm
          have hm' : m ≤ acts.length := by omega
          have HC1 := Lib.hid hc1
          have HC2 := Lib.hid hc2
          have HC3 := Lib.hid hc3
          have hgl := lt_of_some hc1
          clear hm hc1 hc2 hc3
          by_cases hlt : m < acts.length
          · obtain ⟨k1, x1, y1, hact⟩ : ∃ k x y, acts[m]? = some (k, x, y) := ⟨_, _, _, List.getElem?_eq_getElem hlt⟩
            have hcells : ∀ j, j < 4 → wr.cell? ⟨g, m * 4 + j, none⟩ = (actC k1 x1 y1 false)[j]? := fun j hj => by
              have h0 := cell_of_row wr g (m * 4 + j) cu 33 (0, 0) HC1.out
              rw [h0]
              have h1 := cellsOf_at zs cs m acts m _ hact j hj
              rw [if_neg (by omega), ← HC3.out, List.getElem?_take_of_lt (by omega)] at h1
              simpa using h1
            have c0 := hcells 0 (by omega)
            have c1 := hcells 1 (by omega)
            have c2 := hcells 2 (by omega)
            have c3 := hcells 3 (by omega)
            simp only [actC, Nat.add_zero, List.getElem?_cons_zero, List.getElem?_cons_succ] at c0 c1 c2 c3
            have hfr : wr.frozen? ⟨g, m * 4 + 3, none⟩ = false := by simp [World.frozen?, HC1.out]
            clear hcells
            have hmem : (k1, x1, y1) ∈ acts0 zs cs cs.length := by rw [HL.out]; exact List.mem_of_getElem? hact
            obtain ⟨j, hj1, hj2, hj3⟩ := acts0_wf zs cs cs.length _ hmem
            obtain ⟨⟨k0, x0, y0⟩, hby⟩ := Option.isSome_iff_exists.1 (byF_some zs cs cs.length _ hmem)
            dsimp only at hby
            have hv : byV zs cs cs.length y1 = some (.agg #[.int .i64 k0, .int .i64 x0, .int .i64 y0, .bool false]) := by rw [byV, hby]; rfl
            have hyw : (Lit.int .i64 y1).wf = true := by
              have hjx := HP.out j hj1
              have hjy := endOf_ok HG.out HRG.out (x := cs.getD j 0) (by rcases hjx with h | h; exact absurd h hj2; exact h)
              injection hj3 with _ hj4
              injection hj4 with _ hj5
              rw [← hj5] at hjy
              exact wf_ok (zs := zs) (x := y1) (.inr hjy) (by omega)
            have hlk := (hmap.below (w' := wr.alloc (.cells #[.int .i64 k1, .int .i64 x1, .int .i64 y1, .bool false] 33)) ((Below.refl _ _).alloc (Nat.le_refl _) _)).lookup (t := 44) (e := 33) Try.underlying3 Try.underlying44 (zero33 _) hyw
            rw [hv] at hlk
            simp only [Option.getD_some] at hlk
            have HAct := Lib.hid hact
            have HBY := Lib.hid hby
            have HMap := Lib.hid hmap
            have HB := Lib.hid hb
            clear hmem hj1 hj2 hj3 hby hv hyw hact hmap hb
            have hgb : g ≠ bm := fun h => by
              obtain ⟨es, c, ho⟩ := HMap.out.is
              have h1 := HC1.out
              rw [h, ho] at h1
              cases h1
            have HGB := Lib.hid hgb
            clear hgb
            by_cases hsame : k0 = k1 ∧ x0 = x1 ∧ y0 = y1
            · obtain ⟨rfl, rfl, rfl⟩ := hsame
              have hsp : false = spins zs cs (k0, x0, y0) := by simp [spins, HBY.out]
              have HSp := Lib.hid hsp
              clear hsp
              go_wp2_with fail
              go_roundg (gk - 1)
              case measure => have := HN.out; omega
              case rel => exact ⟨m + 1, by have := HN.out; omega, by go_num, set_rel HC1.out HC2.out HC3.out HAct.out HSp.out _, HMap.out.mod mod_set (fun h => HGB.out h.symm), (((Mod.of_below (S := none') HB.out).trans mod_set (fun i hi h => by omega))).to_below⟩
            · have hsp : true = spins zs cs (k1, x1, y1) := by
                symm
                simp only [spins, HBY.out, decide_eq_true_eq]
                intro h
                injection h with h
                injection h with h1 h
                injection h with h2 h3
                exact hsame ⟨h1, h2, h3⟩
              have HSp := Lib.hid hsp
              have HSame := Lib.hid hsame
              clear hsp hsame
              go_wp2_with fail
              all_goals first
                | (exfalso; refine HSame.out ⟨?_, ?_, ?_⟩ <;> (first | assumption | (simp_all; done)); done)
                | (go_roundg (gk - 1)
                   case measure => have := HN.out; omega
                   case rel => exact ⟨m + 1, by have := HN.out; omega, by go_num, set_rel HC1.out HC2.out HC3.out HAct.out HSp.out _, HMap.out.mod mod_set (fun h => HGB.out h.symm), (((Mod.of_below (S := none') HB.out).trans mod_set (fun i hi h => by omega))).to_below⟩)
          · have hmz : m = acts.length := by omega
            have HE := Lib.hid hmz
            have HMap := Lib.hid hmap
            have HB := Lib.hid hb
            clear hmz hmap hb
            go_wp2
            go_ret2
            refine ⟨_, rfl, ?_, HB.out⟩
            rw [HL.out]
            have hz : cellsOf zs cs cs.length acts = cellsOf zs cs m acts := cellsOf_all _ _ _ _ _ hla (by have := HE.out; omega)
            rw [hz]
            exact ⟨cellsOf_length _ _ _ _, .inr ⟨g, cp, cu, rfl, hg1, HC1.out, hg3, hg4, HC2.out, HC3.out⟩⟩

set_option maxHeartbeats 400000 in
theorem Assign_bad (a b : Option Addr) (cap cap' : Nat) (zs cs : List Int) (w : World) (hl : zs.length ≤ 17592186044416) (hl' : cs.length ≤ 17592186044416)
    (hc : IntsAt w a zs) (hc' : IntsAt w b cs) (hr : rightOf zs cs ≠ 0) :
    Calls Try.prog 9 #[.slice a zs.length cap, .slice b cs.length cap'] w fun e w' => e = .returned (.tuple #[.slice none 0 0, .int .i64 (rightOf zs cs)]) ∧ Below w.heap.size w w' := by
  have hcall := right_any a b cap cap' zs cs w hl hl' hc hc'
  obtain ⟨r, hrr⟩ : ∃ r, rightOf zs cs = r := ⟨_, rfl⟩
  rw [hrr] at hcall hr ⊢
  have HC := Lib.hid hcall
  have hb : (r != 0) = true := by simp [hr]
  clear hcall hr hrr
  go_enter Try.func9, Try.ntmps9
  go_wp2_with (go_at_call 23; refine HC.out.mono ?_; rintro e w1 ⟨rfl, hb1⟩)
  go_ret2
  exact ⟨rfl, hb1⟩
end Go.Proofs.Ytmbdolmkldbjcaa
