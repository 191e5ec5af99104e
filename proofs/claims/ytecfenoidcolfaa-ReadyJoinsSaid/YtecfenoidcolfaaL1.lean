/-
  Walk: the law HeapTakes.
-/
import Derived.Test.YtecfenoidcolfaaAwake
import Derived.Test.YtecfenoidcolfaaRow
namespace Go.Proofs.Ytecfenoidcolfaa
set_option linter.unusedVariables false
open Go.RowKit Hp

/-- a number and its key -/
def itm (zs : List Int) (j : Nat) : It Int := ((j : Int), zs[j]?.getD 0)
def La (zs : List Int) : Nat → List (It Int)
  | 0 => []
  | i + 1 => itm zs i :: La zs i
/-- going round from f on -/
def Lb (zs : List Int) (f : Nat) : Nat → List (It Int)
  | 0 => []
  | i + 1 => itm zs ((f + i) % zs.length) :: Lb zs f i
theorem mem_La {zs : List Int} {x : It Int} : ∀ {i : Nat}, x ∈ La zs i ↔ ∃ j, j < i ∧ x = itm zs j
  | 0 => by simp [La]
  | i + 1 => by
    rw [La, List.mem_cons, mem_La]
    constructor
    · rintro (h | ⟨j, h1, h2⟩)
      · exact ⟨i, by omega, h⟩
      · exact ⟨j, by omega, h2⟩
    · rintro ⟨j, h1, h2⟩
      by_cases e : j = i
      · subst e; exact .inl h2
      · exact .inr ⟨j, by omega, h2⟩
theorem mem_Lb {zs : List Int} {f : Nat} {x : It Int} : ∀ {i : Nat}, x ∈ Lb zs f i ↔ ∃ j, j < i ∧ x = itm zs ((f + j) % zs.length)
  | 0 => by simp [Lb]
  | i + 1 => by
    rw [Lb, List.mem_cons, mem_Lb]
    constructor
    · rintro (h | ⟨j, h1, h2⟩)
      · exact ⟨i, by omega, h⟩
      · exact ⟨j, by omega, h2⟩
    · rintro ⟨j, h1, h2⟩
      by_cases e : j = i
      · subst e; exact .inl h2
      · exact .inr ⟨j, by omega, h2⟩
theorem La_length (zs : List Int) : ∀ i, (La zs i).length = i
  | 0 => rfl
  | i + 1 => by rw [La, List.length_cons, La_length]
theorem Lb_length (zs : List Int) (f : Nat) : ∀ i, (Lb zs f i).length = i
  | 0 => rfl
  | i + 1 => by rw [Lb, List.length_cons, Lb_length]
theorem mod_inj {n f j k : Nat} (hj : j < n) (hk : k < n) (h : (f + j) % n = (f + k) % n) : j = k := by
  have h1 := Nat.div_add_mod (f + j) n
  have h2 := Nat.div_add_mod (f + k) n
  rw [h] at h1
  obtain ⟨a, ha⟩ : ∃ a, (f + j) / n = a := ⟨_, rfl⟩
  obtain ⟨b, hb⟩ : ∃ b, (f + k) / n = b := ⟨_, rfl⟩
  rw [ha] at h1
  rw [hb] at h2
  rcases Nat.lt_trichotomy a b with hlt | rfl | hgt
  · have : n * (a + 1) ≤ n * b := Nat.mul_le_mul_left n hlt
    rw [Nat.mul_succ] at this
    omega
  · omega
  · have : n * (b + 1) ≤ n * a := Nat.mul_le_mul_left n hgt
    rw [Nat.mul_succ] at this
    omega
theorem La_new {zs : List Int} {i : Nat} : ∀ x ∈ La zs i, x.1 ≠ (i : Int) := fun x hx => by
  obtain ⟨j, h1, rfl⟩ := mem_La.1 hx
  simp [itm]; omega
theorem Lb_new {zs : List Int} {f i : Nat} (hi : i < zs.length) : ∀ x ∈ Lb zs f i, x.1 ≠ (((f + i) % zs.length : Nat) : Int) := fun x hx e => by
  obtain ⟨j, h1, rfl⟩ := mem_Lb.1 hx
  simp only [itm] at e
  have := mod_inj (by omega) hi (Int.ofNat.inj e)
  omega
theorem La_distinct {zs : List Int} : ∀ i, (La zs i).Pairwise fun a b => a.1 ≠ b.1
  | 0 => List.Pairwise.nil
  | i + 1 => List.pairwise_cons.2 ⟨fun x hx => Ne.symm (La_new x hx), La_distinct i⟩
theorem Lb_distinct {zs : List Int} {f : Nat} : ∀ i, i ≤ zs.length → (Lb zs f i).Pairwise fun a b => a.1 ≠ b.1
  | 0, _ => List.Pairwise.nil
  | i + 1, h => List.pairwise_cons.2 ⟨fun x hx => Ne.symm (Lb_new (by omega) x hx), Lb_distinct i (by omega)⟩
theorem perm_of_sub : ∀ {l m : List (It Int)}, (l.Pairwise fun a b => a.1 ≠ b.1) → (∀ x ∈ l, x ∈ m) → m.length = l.length → l.Perm m
  | [], m, _, _, hl => by rw [List.length_eq_zero_iff.1 hl]
  | x :: l, m, hd, hs, hl => by
    have hx := hs x List.mem_cons_self
    have hp := List.perm_cons_erase hx
    have hd' := List.pairwise_cons.1 hd
    refine ((perm_of_sub hd'.2 (fun y hy => ?_) ?_).cons x).trans hp.symm
    · rcases List.mem_cons.1 (hp.mem_iff.1 (hs y (List.mem_cons_of_mem _ hy))) with h | h
      · exact absurd (by rw [h]) (hd'.1 y hy)
      · exact h
    · have := hp.length_eq
      simp at this hl
      omega
theorem Lb_perm {zs : List Int} {f : Nat} : (Lb zs f zs.length).Perm (La zs zs.length) :=
  perm_of_sub (Lb_distinct _ (Nat.le_refl _)) (fun x hx => by
    obtain ⟨j, h1, rfl⟩ := mem_Lb.1 hx
    exact mem_La.2 ⟨_, Nat.mod_lt _ (by omega), rfl⟩) (by rw [La_length, Lb_length])

/-- all, in order -/
def Srt (zs : List Int) : List (It Int) := srt ltI (La zs zs.length)
theorem Srt_perm (zs : List Int) : (Srt zs).Perm (La zs zs.length) := srt_perm _
theorem Srt_length (zs : List Int) : (Srt zs).length = zs.length := by rw [(Srt_perm zs).length_eq, La_length]
theorem Srt_sorted (zs : List Int) : Sorted ltI (Srt zs) := srt_sorted ltI_swo (La_distinct _)
theorem Srt_at {zs : List Int} {i : Nat} (hi : i < zs.length) : ∃ j, j < zs.length ∧ (Srt zs)[i]? = some (itm zs j) := by
  have hl : i < (Srt zs).length := by rw [Srt_length]; exact hi
  obtain ⟨j, h1, h2⟩ := mem_La.1 ((Srt_perm zs).mem_iff.1 (List.getElem_mem hl))
  exact ⟨j, h1, by rw [List.getElem?_eq_getElem hl, h2]⟩
/-- which numbers were seen -/
def seenL (n : Nat) (l : List (It Int)) : List Value := (List.range n).map fun (x : Nat) => Value.bool (decide ((x : Int) ∈ l.map (·.1)))
theorem seenL_length (n : Nat) (l : List (It Int)) : (seenL n l).length = n := by simp [seenL]
theorem seenL_at {n : Nat} {l : List (It Int)} {x : Nat} (hx : x < n) : (seenL n l)[x]? = some (.bool (decide ((x : Int) ∈ l.map (·.1)))) := by
  simp [seenL, hx]
theorem seenL_set {n : Nat} {l : List (It Int)} {x : Nat} {k : Int} (_hx : x < n) : (seenL n l).set x (.bool true) = seenL n (l ++ [((x : Int), k)]) := by
  apply List.ext_getElem?
  intro y
  rw [List.getElem?_set]
  by_cases h : x = y
  · subst h
    by_cases hx : x < n
    · rw [if_pos rfl, if_pos (by rw [seenL_length]; exact hx), seenL_at hx]
      simp
    · omega
  · rw [if_neg h]
    by_cases hy : y < n
    · rw [seenL_at hy, seenL_at hy]
      have : ((y : Int) ∈ (l ++ [((x : Int), k)]).map (·.1)) ↔ ((y : Int) ∈ l.map (·.1)) := by
        simp; omega
      simp only [this]
    · rw [List.getElem?_eq_none (by rw [seenL_length]; omega), List.getElem?_eq_none (by rw [seenL_length]; omega)]
theorem seen_not {zs : List Int} {i j : Nat} (hi : (Srt zs)[i]? = some (itm zs j)) : ¬ ((j : Int) ∈ ((Srt zs).take i).map (·.1)) := by
  intro hm
  obtain ⟨x, hx, he⟩ := List.mem_map.1 hm
  obtain ⟨hil, hie⟩ := List.getElem?_eq_some_iff.1 hi
  have hd : (Srt zs).Pairwise fun a b => a.1 ≠ b.1 := distinct_perm (Srt_perm zs).symm (La_distinct _)
  rw [← List.take_append_drop i (Srt zs), List.pairwise_append] at hd
  have := hd.2.2 x hx (itm zs j) (by rw [List.drop_eq_getElem_cons hil, hie]; exact List.mem_cons_self)
  exact this he

/-- the order of keys of servers -/
def bef (a b : Int × Int) : Bool := decide (a.1 < b.1) || (decide (a.1 = b.1) && decide (a.2 < b.2))
theorem before_any (a1 a2 b1 b2 : Int) (w : World) : Calls Try.prog 24 #[.agg #[.int .i64 a1, .int .i64 a2], .agg #[.int .i64 b1, .int .i64 b2]] w fun e w' => e = .returned (.bool (bef (a1, a2) (b1, b2))) ∧ Below w.heap.size w w' := by
  go_enter Try.func24, Try.ntmps24
  go_wp2
  all_goals go_ret
  all_goals refine ⟨ret_bool ?_, ((Below.refl _ w).alloc (Nat.le_refl _) _).alloc (by simp) _⟩
  all_goals simp [bef, *]

theorem bef_ahead {x y : It Int} (h : Hp.ahead ltI x y = true) : bef (x.2, x.1) (y.2, y.1) = true := by
  rw [ahead_iff] at h
  simp [bef, ltI] at *
  omega

set_option maxRecDepth 100000 in
set_option maxHeartbeats 4000000 in
theorem takes_few (a : Option Addr) (cap : Nat) (zs : List Int) (fr : Int) (w : World) (hc : IntsAt w a zs) (hl : zs.length = 0 ∨ 60 < zs.length) :
    Calls Try.prog 3 #[.slice a zs.length cap, .int .i64 fr] w fun e w' => e = .returned (.bool true) ∧ Below w.heap.size w w' := by
  have hh := H_new (On.emp w)
  have HN := Lib.hid hh
  clear hh
  go_enter Try.func3, Try.ntmps3
  go_wp2_with fail
  refine HN.out.mono ?_
  rintro e w1 ⟨ha, rfl, h1⟩
  have HN2 := Lib.hid (H_new h1)
  clear h1
  go_wp2_with fail
  refine HN2.out.mono ?_
  rintro e w2 ⟨hb, rfl, h2⟩
  have HA := Lib.hid (awake_ok w2)
  have HB := Lib.hid h2.to_below
  clear h2
  rcases hl with hl | hl
  · have hlI : (zs.length : Int) = 0 := by omega
    have hlI2 : ¬ (60 : Int) < (zs.length : Int) := by omega
    go_wp2_with fail
    refine HA.out.mono ?_
    rintro e w3 ⟨rfl, hb3⟩
    have HB3 := Lib.hid (HB.out.trans (hb3.mono HB.out.size))
    clear hb3
    go_wp2_with fail
    go_ret
    exact ⟨rfl, HB3.out⟩
  · have hlI2 : (60 : Int) < (zs.length : Int) := by omega
    go_wp2_with fail
    refine HA.out.mono ?_
    rintro e w3 ⟨rfl, hb3⟩
    have HB3 := Lib.hid (HB.out.trans (hb3.mono HB.out.size))
    clear hb3
    go_wp2_with fail
    go_ret
    exact ⟨rfl, HB3.out⟩

theorem Try.info4 : (Try.prog.info? 4).map (fun i => (i.zero, i.size, i.bytes)) = some (some (.bool false), 1, 1) := by kernel_rfl
theorem made_false (n : Nat) : (madeCells (Value.bool false).cells (n * 1)).toList = seenL n [] := by
  have : seenL n [] = List.replicate n (.bool false) := by
    rw [List.eq_replicate_iff]
    refine ⟨seenL_length _ _, fun b hb => ?_⟩
    simp [seenL] at hb
    obtain ⟨_, _, rfl⟩ := hb
    rfl
  rw [this, List.eq_replicate_iff]
  refine ⟨by simp [madeCells], fun b hb => ?_⟩
  simp [madeCells, Value.cells] at hb
  obtain ⟨x, _, rfl⟩ := hb
  simp [Nat.mod_one]
/-- the last one that was taken -/
def lastC (l : List (It Int)) (i : Nat) : Array Value := if i = 0 then #[.int .i64 0, .int .i64 0] else #[.int .i64 (l.getD (i - 1) (0, 0)).2, .int .i64 (l.getD (i - 1) (0, 0)).1]

set_option maxRecDepth 100000 in
set_option maxHeartbeats 4000000 in
theorem takes_ok (a : Option Addr) (cap : Nat) (zs : List Int) (fr : Int) (hfr : (Lit.int .i64 fr).wf = true) (w : World) (hc : IntsAt w a zs) (hl0 : zs.length ≠ 0) (hl1 : zs.length ≤ 60) :
    Calls Try.prog 3 #[.slice a zs.length cap, .int .i64 fr] w fun e w' => e = .returned (.bool true) ∧ Below w.heap.size w w' := by
  obtain ⟨i0, hi0, hz0, hz1, hz2⟩ := info_parts2 Try.info4
  obtain ⟨n, hn⟩ : ∃ n, zs.length = n := ⟨_, rfl⟩
  have hfr' : -9223372036854775808 ≤ fr ∧ fr ≤ 9223372036854775807 := by
    simp [Lit.wf, IntKind.min, IntKind.max, IntKind.signed, IntKind.bits] at hfr
    omega
  have hm1 : - (n : Int) < fr.tmod n ∧ fr.tmod n < n := by
    have h1 := Int.tmod_lt_of_pos fr (show (0 : Int) < n by omega)
    have h2 := Int.lt_tmod_of_pos fr (show (0 : Int) < n by omega)
    omega
  obtain ⟨f0, hf0, hf1⟩ : ∃ f0 : Nat, (fr.tmod n + n).tmod n = (f0 : Int) ∧ f0 < n := by
    have h1 := Int.tmod_nonneg (n : Int) (show 0 ≤ fr.tmod n + n by omega)
    have h2 := Int.tmod_lt_of_pos (fr.tmod n + n) (show (0 : Int) < n by omega)
    exact ⟨((fr.tmod n + n).tmod n).toNat, by omega, by omega⟩
  have HN := Lib.hid (H_new (On.emp w))
  rw [hn]
  obtain ⟨kb, ko, rfl, hkb, hkc⟩ := hc.row hl0
  rw [hn] at hkc
  have HKc := Lib.hid hkc
  have HNn := Lib.hid hn
  have hnI0 : ¬ (n : Int) = 0 := by omega
  have hnb : ((n : Int) == 0) = false := by simp; omega
  have hnI1 : ¬ (60 : Int) < (n : Int) := by omega
  have hn60 : (n : Int) ≤ 60 := by omega
  have hn0 : (0 : Int) < (n : Int) := by omega
  clear hc hfr hn hkc
  go_enter Try.func3, Try.ntmps3
  go_wp2_with fail
  refine HN.out.mono ?_
  rintro e w1 ⟨ha, rfl, h1⟩
  have HN2 := Lib.hid (H_new h1)
  clear h1
  go_wp2_with fail
  refine HN2.out.mono ?_
  rintro e w2 ⟨hb, rfl, h2⟩
  have HO2 := Lib.hid h2
  clear h2
  go_wp2_with fail
  go_loopg [10, 11] n (fun gh s10 s11 wr => ∃ i : Nat, i + gh = n ∧ s10 = .int .i64 (i : Int) ∧ On w wr (sep (H ha (La zs i)) (sep (H hb (Lb zs f0 i)) emp)))
  case atStart => exact ⟨0, by omega, rfl, HO2.out.left⟩
  case round =>
    obtain ⟨i, hi, rfl, hon⟩ := hrel
    by_cases hlt : i < n
    · have hltI : (i : Int) < (n : Int) := by omega
      have hi0 : (0 : Int) ≤ (i : Int) := by omega
      obtain ⟨k, hk⟩ : ∃ k, (f0 + i) % n = k := ⟨_, rfl⟩
      have hkn : k < n := by rw [← hk]; exact Nat.mod_lt _ (by omega)
      have hknI : (k : Int) < (n : Int) := by omega
      have hk0 : (0 : Int) ≤ (k : Int) := by omega
      have hw1 : IntKind.i64.wrap ((f0 : Int) + (i : Int)) = ((f0 + i : Nat) : Int) := by rw [IntWalk.i64_in _ (by omega)]; omega
      have hw2 : ((f0 : Int) + (i : Int)).tmod n = (k : Int) := by
        rw [← hk]
        exact rfl
      obtain ⟨x, hx⟩ : ∃ x, zs[i]?.getD 0 = x := ⟨_, rfl⟩
      obtain ⟨y, hy⟩ : ∃ y, zs[k]?.getD 0 = y := ⟨_, rfl⟩
      have hb1 := hon.to_below
      have q1 : wr.cell? ⟨kb, ko + i, none⟩ = some (.int .i64 x) := by rw [← hx]; exact (hb1.cell (by exact hkb)).trans (HKc.out i hlt)
      have hc1 := H_put hon (i : Int) x (by omega) (by simp [Lit.wf, IntKind.min, IntKind.max, IntKind.signed, IntKind.bits]; omega) La_new (by rw [La_length]; omega)
      have HC1 := Lib.hid hc1
      have HK := Lib.hid hk
      have HX := Lib.hid hx
      have HY := Lib.hid hy
      clear hon hb1 hc1 hk hx hy
      go_wp2_with fail
      refine HC1.out.mono ?_
      rintro e w3 ⟨rfl, h3⟩
      have hb3 := h3.to_below
      have q2 : w3.cell? ⟨kb, ko + k, none⟩ = some (.int .i64 y) := by rw [← HY.out]; exact (hb3.cell (by exact hkb)).trans (HKc.out k hkn)
      have hc2 := H_put h3.left (k : Int) y (by omega) (by simp [Lit.wf, IntKind.min, IntKind.max, IntKind.signed, IntKind.bits]; omega) (by
        have := @Lb_new zs f0 i (by rw [HNn.out]; exact hlt)
        rwa [HNn.out, HK.out] at this) (by rw [Lb_length]; omega)
      have HC2 := Lib.hid hc2
      clear h3 hb3 hc2 q1
      go_wp2_with fail
      refine HC2.out.mono ?_
      rintro e w4 ⟨rfl, h4⟩
      have H4 := Lib.hid h4.left
      clear h4 q2
      go_wp2_with fail
      go_roundg (n - (i + 1))
      case measure => omega
      case rel =>
        refine ⟨i + 1, by omega, by go_num, ?_⟩
        have := H4.out
        rw [← HX.out, ← HY.out] at this
        rw [La, Lb, HNn.out, HK.out]
        exact this
    · have hin : i = n := by omega
      subst hin
      have HOn := Lib.hid hon
      clear hon
      go_wp2_with (at_make; refine wpList_make_full _ rfl _ _ 30 rfl wr.heap.size 4 i0 (.bool false) 1 Try.underlying30 hi0 hz0 hz1 .i64 .i64 _ _ i rfl rfl rfl rfl (by rw [hz2]; omega) (by unfold maxLen; omega) (Nat.le_refl _) ?_; intro w5 hown hgrow)
      rw [made_false] at hown
      obtain ⟨sb, hsb⟩ : ∃ sb, wr.heap.size = sb := ⟨_, rfl⟩
      obtain ⟨lb, hlb⟩ : ∃ lb, w5.heap.size = lb := ⟨_, rfl⟩
      have hb5 : Below wr.heap.size wr w5 := ⟨hgrow.os, hgrow.tape, hgrow.output, hgrow.size, fun k hk => hgrow.block k hk (by simp)⟩
      have hslt : sb < lb := by
        have := own_lt hown (j := wr.heap.size) rfl
        omega
      have hrow := rowA_of hown
      have honS : On w wr (sep (H ha ((Srt zs).drop 0)) (sep (H hb ((Srt zs).drop 0)) emp)) := by
        have e1 : (La zs i).Perm ((Srt zs).drop 0) := by rw [List.drop_zero, ← HNn.out]; exact (Srt_perm zs).symm
        have e2 : (Lb zs f0 i).Perm ((Srt zs).drop 0) := by rw [List.drop_zero, ← HNn.out]; exact Lb_perm.trans (Srt_perm zs).symm
        exact ((HOn.out.mono1 fun F => H_perm e1 F).left.mono1 fun F => H_perm e2 F).left
      have hon5 := honS.add hb5 hrow (fun j hj => by omega)
      have hon6 := hon5.add ((Below.refl _ w5).alloc (Nat.le_refl _) (.cells #[.int .i64 0, .int .i64 0] 32)) (boxA_new w5 32 #[.int .i64 0, .int .i64 0]) (fun j hj => by omega)
      rw [hsb, hlb] at hon6
      have hon7 : On w (w5.alloc (.cells #[.int .i64 0, .int .i64 0] 32)) (sep (H ha ((Srt zs).drop 0)) (sep (H hb ((Srt zs).drop 0)) (sep (rowA (.slice (some ⟨sb, 0, none⟩) i i) 4 1 i (seenL i ((Srt zs).take 0))) (sep (boxA lb 32 (lastC (Srt zs) 0)) emp)))) := by
        exact hon6.fourth.fourth.fourth.sink2
      have HO7 := Lib.hid hon7
      have HSl := Lib.hid (Srt_length zs)
      rw [hsb]
      clear honS hon5 hon6 hon7 hrow hown hgrow hb5
      go_wp2_with fail
      rw [hlb]
      go_loopg [14, 15, 16, 17, 18, 19, 20, 21] i (fun gh s14 s15 s16 s17 s18 s19 s20 s21 ws => ∃ k : Nat, k + gh = i ∧ s14 = .int .i64 (k : Int) ∧
        On w ws (sep (H ha ((Srt zs).drop k)) (sep (H hb ((Srt zs).drop k)) (sep (rowA (.slice (some ⟨sb, 0, none⟩) i i) 4 1 i (seenL i ((Srt zs).take k))) (sep (boxA lb 32 (lastC (Srt zs) k)) emp)))))
      case atStart => exact ⟨0, by omega, rfl, HO7.out⟩
      case round =>
        obtain ⟨k, hk, rfl, hon⟩ := hrel
        by_cases hlt : k < i
        · obtain ⟨j, hj, hsj⟩ := Srt_at (zs := zs) (i := k) (by rw [HNn.out]; exact hlt)
          rw [HNn.out] at hj
          obtain ⟨z, hz⟩ : ∃ z, zs[j]?.getD 0 = z := ⟨_, rfl⟩
          have hitm : itm zs j = ((j : Int), z) := by rw [itm, hz]
          have hkl : k < (Srt zs).length := by rw [HSl.out, HNn.out]; exact hlt
          have hdk : (Srt zs).drop k = ((j : Int), z) :: (Srt zs).drop (k + 1) := by
            rw [List.drop_eq_getElem_cons hkl]
            rw [List.getElem?_eq_getElem hkl] at hsj
            rw [Option.some.inj hsj, hitm]
          have hsd : Sorted ltI (((j : Int), z) :: (Srt zs).drop (k + 1)) := by rw [← hdk]; exact (Srt_sorted zs).sublist (List.drop_sublist _ _)
          have hlen : ((Srt zs).drop (k + 1)).length < 999999 := by rw [List.length_drop, HSl.out, HNn.out]; omega
          have hon2 := hon
          rw [hdk] at hon2
          have HT1 := Lib.hid (H_take hon2 hsd hlen)
          have hns := seen_not hsj
          have HSj := Lib.hid hsj
          have HItm := Lib.hid hitm
          have HZ := Lib.hid hz
          have HSd := Lib.hid hsd
          have HLen := Lib.hid hlen
          have HNs := Lib.hid hns
          have HKl := Lib.hid hkl
          have hltI : (k : Int) < (i : Int) := by omega
          have hjI : (j : Int) < (i : Int) := by omega
          have hj0 : (0 : Int) ≤ (j : Int) := by omega
          have hjb : ((i : Int) ≤ (j : Int)) = False := by simp; omega
          clear hon hon2 hsj hitm hz hsd hlen hns hdk hkl
          go_wp2_with fail
          refine HT1.out.mono ?_
          rintro e x1 ⟨rfl, g1⟩
          have HT2 := Lib.hid (H_take g1.left HSd.out HLen.out)
          clear g1
          go_wp2_with fail
          refine HT2.out.mono ?_
          rintro e x2 ⟨rfl, g2⟩
          have hon3 := g2.left
          clear g2
          obtain ⟨x3, hx3⟩ : ∃ x3, x2.alloc (.cells #[.int .i64 z, .int .i64 (j : Int)] 32) = x3 := ⟨_, rfl⟩
          have hb23 : Below x2.heap.size x2 x3 := by rw [← hx3]; exact (Below.refl _ x2).alloc (Nat.le_refl _) _
          have n0 : x3.cell? ⟨x2.heap.size, 0, none⟩ = some (.int .i64 z) := by rw [← hx3, World.cell?_alloc_at _ _ _ _ rfl]; rfl
          have n1 : x3.cell? ⟨x2.heap.size, 1, none⟩ = some (.int .i64 (j : Int)) := by rw [← hx3, World.cell?_alloc_at _ _ _ _ rfl]; rfl
          have hf : ∀ x4, Below x2.heap.size x2 x4 → x4.cell? ⟨sb, j, none⟩ = some (.bool false) ∧ x4.frozen? ⟨sb, j, none⟩ = false ∧ x4.frozen? ⟨lb, 0, none⟩ = false ∧ x4.frozen? ⟨lb, 1, none⟩ = false ∧
              x4.cell? ⟨lb, 0, none⟩ = (lastC (Srt zs) k)[0]? ∧ x4.cell? ⟨lb, 1, none⟩ = (lastC (Srt zs) k)[1]? ∧ x4.cell? ⟨kb, ko + j, none⟩ = some (.int .i64 z) ∧
              On w (((x4.setCell ⟨sb, j, none⟩ (.bool true)).setCell ⟨lb, 0, none⟩ (.int .i64 z)).setCell ⟨lb, 1, none⟩ (.int .i64 (j : Int)))
                (sep (H ha ((Srt zs).drop (k + 1))) (sep (H hb ((Srt zs).drop (k + 1))) (sep (rowA (.slice (some ⟨sb, 0, none⟩) i i) 4 1 i (seenL i ((Srt zs).take (k + 1)))) (sep (boxA lb 32 (lastC (Srt zs) (k + 1))) emp)))) := fun x4 hb4 => by
            have hon4 := hon3.below hb4
            obtain ⟨F3, h3, _⟩ := hon4.third.get1
            obtain ⟨F4, h4, _⟩ := hon4.fourth.get1
            refine ⟨?_, own_freeG h3.1 _, boxA_free h4 _, boxA_free h4 _, boxA_cell h4 _, boxA_cell h4 _, ?_, ?_⟩
            · have := own_cellG h3.1 (seenL_at (l := (Srt zs).take k) hj)
              rwa [decide_eq_false HNs.out] at this
            · rw [← HZ.out]
              exact (hon4.to_below.cell (by exact hkb)).trans (HKc.out j hj)
            · have e1 : (seenL i ((Srt zs).take k)).set j (.bool true) = seenL i ((Srt zs).take (k + 1)) := by
                rw [seenL_set (k := z) hj, List.take_add_one, HSj.out, HItm.out]
                rfl
              have e2 : ((lastC (Srt zs) k).setIfInBounds 0 (.int .i64 z)).setIfInBounds 1 (.int .i64 (j : Int)) = lastC (Srt zs) (k + 1) := by
                have hg : (Srt zs).getD k (0, 0) = ((j : Int), z) := by rw [List.getD_eq_getElem?_getD, HSj.out, HItm.out]; rfl
                have e3 : lastC (Srt zs) (k + 1) = #[.int .i64 z, .int .i64 (j : Int)] := by
                  unfold lastC
                  rw [if_neg (by omega), Nat.add_sub_cancel, hg]
                rw [e3]
                unfold lastC
                split <;> rfl
              have s1 := (hon4.third.step1 (fun F hF => rowA_set (i := j) (y := .bool true) hF)).sink2
              rw [e1] at s1
              have s2 := s1.fourth.step1 (fun F hF => boxA_set hF 0 (.int .i64 z))
              have s3 := (s2.step1 (fun F hF => boxA_set hF 1 (.int .i64 (j : Int)))).sink3
              rwa [e2] at s3
          have hsx : sb < x2.heap.size := by
            obtain ⟨F3, h3, _⟩ := hon3.third.get1
            exact own_lt h3.1 (j := sb) rfl
          have hlx : lb < x2.heap.size := by
            obtain ⟨F4, h4, _⟩ := hon3.fourth.get1
            exact lt_of_some h4.1
          have hx1 : sb ≠ x2.heap.size := by omega
          have hx2 : lb ≠ x2.heap.size := by omega
          have hx4 : x2.heap.size ≠ sb := by omega
          have hx5 : x2.heap.size ≠ lb := by omega
          have hsl : sb ≠ lb := by omega
          have hsl2 : lb ≠ sb := by omega
          obtain ⟨r1, r2, r3, r4, r5, r6, r7, _⟩ := hf x2 (Below.refl _ _)
          have HF := Lib.hid hf
          have HB23 := Lib.hid hb23
          clear hf hb23 hon3
          rcases Nat.eq_zero_or_pos k with hk0 | hk0
          · subst hk0
            obtain ⟨m1, m2, m3, m4, m5, m6, m7, hon5⟩ := HF.out x3 HB23.out
            have HO5 := Lib.hid hon5
            have e0 : (lastC (Srt zs) 0)[0]? = some (.int .i64 0) := rfl
            have e1 : (lastC (Srt zs) 0)[1]? = some (.int .i64 0) := rfl
            rw [e0] at r5 m5
            rw [e1] at r6 m6
            clear hon5 e0 e1
            go_wp2_with fail
            go_roundg (i - 1)
            case measure => omega
            case rel => exact ⟨1, by omega, by go_num, HO5.out⟩
          · obtain ⟨k', hk'⟩ : ∃ k', k = k' + 1 := ⟨k - 1, by omega⟩
            have hkp : (0 : Int) < (k : Int) := by omega
            obtain ⟨⟨l1, l2⟩, hl⟩ : ∃ x, (Srt zs).getD (k - 1) (0, 0) = x := ⟨_, rfl⟩
            have e0 : (lastC (Srt zs) k)[0]? = some (.int .i64 l2) := by unfold lastC; rw [if_neg (by omega), hl]; rfl
            have e1 : (lastC (Srt zs) k)[1]? = some (.int .i64 l1) := by unfold lastC; rw [if_neg (by omega), hl]; rfl
            have hbef : bef (l2, l1) (z, (j : Int)) = true := by
              have hs := Srt_sorted zs
              have hkl := HKl.out
              have h1 : (Srt zs)[k - 1] = (l1, l2) := by rw [← hl, getD_of (by omega)]
              have h2 : (Srt zs)[k] = ((j : Int), z) := by
                have := HSj.out
                rw [List.getElem?_eq_getElem hkl, HItm.out] at this
                exact Option.some.inj this
              have := List.pairwise_iff_getElem.1 hs (k - 1) k (by omega) hkl (by omega)
              rw [h1, h2] at this
              exact bef_ahead this
            have hcall := before_any l2 l1 z (j : Int) x3
            rw [hbef] at hcall
            have HCall := Lib.hid hcall
            obtain ⟨m1, m2, m3, m4, m5, m6, m7, _⟩ := HF.out x3 HB23.out
            rw [e0] at r5 m5
            rw [e1] at r6 m6
            have HE0 := Lib.hid e0
            have HE1 := Lib.hid e1
            clear hcall hbef hl e0 e1
            go_wp2_with fail
            refine HCall.out.mono ?_
            rintro e x4 ⟨rfl, hb34⟩
            have p0 := zatB n0 hb34
            have p1 := zatB n1 hb34
            obtain ⟨o1, o2, o3, o4, o5, o6, o7, hon5⟩ := HF.out x4 (HB23.out.trans (hb34.mono HB23.out.size))
            rw [HE0.out] at o5
            rw [HE1.out] at o6
            have HO5 := Lib.hid hon5
            clear hon5 hb34 m1 m2 m3 m4 m5 m6 m7 n0 n1
            go_wp2_with fail
            go_roundg (i - (k + 1))
            case measure => omega
            case rel => exact ⟨k + 1, by omega, by go_num, HO5.out⟩
        · have hki : k = i := by omega
          subst hki
          have hd : (Srt zs).drop k = [] := List.drop_eq_nil_of_le (by rw [HSl.out, HNn.out]; exact Nat.le_refl _)
          rw [hd] at hon
          have HT1 := Lib.hid (H_take_none hon)
          clear hon hd
          go_wp2_with fail
          refine HT1.out.mono ?_
          rintro e x1 ⟨rfl, g1⟩
          have HLn := Lib.hid (H_len g1)
          have HAw := Lib.hid (awake_ok x1)
          have HB1 := Lib.hid g1.to_below
          clear g1
          go_wp2_with fail
          refine HLn.out.mono ?_
          rintro e x2 ⟨rfl, rfl⟩
          go_wp2_with fail
          refine HAw.out.mono ?_
          rintro e x3 ⟨rfl, hb3⟩
          have HB3 := Lib.hid (HB1.out.trans (hb3.mono HB1.out.size))
          clear hb3
          go_wp2_with fail
          go_ret
          exact ⟨rfl, HB3.out⟩
end Go.Proofs.Ytecfenoidcolfaa
