/-
  Walks: the reference's Chain, End.
-/
import Derived.Test.YtmbdolmkldbjcaaW3
import Derived.Deep.LoopGhost
import Derived.Maps.AppendAt
namespace Go.Proofs.Ytmbdolmkldbjcaa
open Go.RowKit

theorem Try.info3 : (Try.prog.info? 3).map (fun i => (i.zero, i.size, i.bytes)) = some (some (.int .i64 0), 1, 8) := by kernel_rfl

def vals (l : List Int) : List Value := l.map (Value.int .i64)

/-- behind the append of one number -/
theorem rel_push {w wr w1 : World} {v v' : Value} {pre : List Int} {x : Int} (hsz : w.heap.size ≤ wr.heap.size)
    (hown : wr.ownsRow w.heap.size 3 1 v pre.length (vals pre)) (hb : Below w.heap.size w wr)
    (hown' : w1.ownsRow w.heap.size 3 1 v' (pre.length + 1) (vals pre ++ [.int .i64 x])) (hgrow : (wr.alloc (.cells #[.int .i64 x] 3)).grownBy w1 v.ownBlock) :
    w1.ownsRow w.heap.size 3 1 v' (pre ++ [x]).length (vals (pre ++ [x])) ∧ Below w.heap.size w w1 := by
  refine ⟨?_, (hb.alloc hsz _).grown hgrow (by simp; omega) (fun j hj => (hown.lt j hj).1)⟩
  simpa [vals] using hown'

set_option maxHeartbeats 1600000 in
theorem Chain_any (a : Option Addr) (cap : Nat) (zs : List Int) (i : Int) (w : World) (hl : zs.length ≤ 64) (hc : IntsAt w a zs)
    (hg : Good zs) (hi : OkI zs i) (hr : Rings zs i = false) :
    Calls Try.prog 19 #[.slice a zs.length cap, .int .i64 i] w fun e w' => ∃ v, e = .returned v ∧
      w'.ownsRow w.heap.size 3 1 v (chain zs i).length (vals (chain zs i)) ∧ Below w.heap.size w w' := by
  obtain ⟨i0, hi0, hz0, hz1, hz2⟩ := info_parts Try.info3
  have hr' := ringF hr
  clear hr
  have HG := Lib.hid hg
  have HI := Lib.hid hi
  have HR := Lib.hid hr'
  clear hg hi hr'
  go_enter Try.func19, Try.ntmps19
  go_wp2
  go_loopg [1, 5] zs.length (fun n j v wr => ∃ (x : Int) (pre : List Int), j = .int .i64 x ∧ OkI zs x ∧ nxts zs n x = -1 ∧ chain zs i = pre ++ chainL zs n x ∧ pre.length + n ≤ 64 ∧
      wr.ownsRow w.heap.size 3 1 v pre.length (vals pre) ∧ Below w.heap.size w wr)
  case atStart => exact ⟨i, [], rfl, HI.out, HR.out, rfl, by simpa using hl, World.ownsRow_nil _ _ _ _, Below.refl _ _⟩
  case round =>
    obtain ⟨x, pre, rfl, hok, hx, hch, hlen, hown, hb⟩ := hrel
    have HX := Lib.hid hx
    have HC := Lib.hid hch
    clear hx hch
    rcases hok with hm | ⟨h0, h1⟩
    · have h0 : ¬ 0 ≤ x := by omega
      have HM := Lib.hid hm
      clear hm
      go_wp2
      go_ret
      refine ⟨_, rfl, ?_, hb⟩
      have h := HC.out
      rw [HM.out, chainL_none, List.append_nil] at h
      rw [h]; exact hown
    · have hok : OkI zs x := .inr ⟨h0, h1⟩
      have HO := Lib.hid hok
      clear hok
      obtain ⟨m, hm1, hm2, hm3⟩ := chainL_step (zs := zs) (i := x) (by omega) HX.out
      have hlen2 : pre.length + m + 1 ≤ 64 := by omega
      have HM1 := Lib.hid hm1
      have HM2 := Lib.hid hm2
      have HM3 := Lib.hid hm3
      clear hm1 hm2 hm3
      have hsz := hb.size
      have hcc := cell_one_new wr (.int .i64 x) 3
      go_wp2_with (at_builtin; refine wpList_append_own _ rfl _ _ 22 rfl w.heap.size 3 i0 (.int .i64 0) 1 8 Try.underlying22 hi0 hz0 hz1 hz2 rfl (by decide) _ _ _ rfl (hown.alloc _) ⟨wr.heap.size, 0, none⟩ 1 1 [.int .i64 x] rfl rfl hcc (by simp [Value.oneCell']) (by unfold maxLen; omega) (by omega) (by simp; omega) ?_; intro v' w1 hown' hgrow _; obtain ⟨hown1, hb1⟩ := rel_push hsz hown hb hown' hgrow; obtain ⟨b, off, rfl, hbb, hcell⟩ := (hc.below (Nat.le_refl _) hb1) x.toNat (by omega); clear hown' hgrow hown hcc)
      go_roundg m
      case measure => have := HM1.out; omega
      case rel =>
        refine ⟨nxt zs x, pre ++ [x], ?_, HO.out.nxt HG.out, HM3.out, by rw [HC.out, HM2.out]; simp, by simp; omega, hown1, hb1⟩
        rw [nxt, if_neg (by omega)]; simp [List.getD, List.getElem?_eq_getElem (show x.toNat < zs.length by omega)]

/-- an owned row of numbers, as a slice that is read -/
theorem ints_own {w : World} {B : Nat} {v : Value} {l : List Int} (h : w.ownsRow B 3 1 v l.length (vals l)) (hB : B ≤ w.heap.size) :
    ∃ a cap, v = .slice a l.length cap ∧ IntsAt w a l := by
  rcases h.2 with ⟨rfl, hn⟩ | ⟨g, cap, cur, rfl, hg, hgg, hn, hm, hs, ht⟩
  · exact ⟨none, 0, by rw [hn], fun k hk => by omega⟩
  · refine ⟨_, cap, rfl, fun k hk => ⟨g, 0, rfl, (Array.getElem?_eq_some_iff.1 hgg).1, ?_⟩⟩
    have := h.cells (g := g) rfl k (.int .i64 (l[k]?.getD 0)) (by simp [vals, hk])
    have ha : (⟨g, 0, none⟩ : Addr).add k = ⟨g, 0 + k, none⟩ := by unfold Addr.add; split <;> simp_all
    rwa [ha] at this

set_option maxHeartbeats 400000 in
theorem End_any (a : Option Addr) (cap : Nat) (zs : List Int) (i : Int) (w : World) (hl : zs.length ≤ 64) (hc : IntsAt w a zs)
    (hg : Good zs) (hi : OkI zs i) (hr : Rings zs i = false) (hne : i ≠ -1) :
    Calls Try.prog 12 #[.slice a zs.length cap, .int .i64 i] w fun e w' => e = .returned (.int .i64 (endOf zs i)) ∧ Below w.heap.size w w' := by
  have hcl := chainL_length zs zs.length i
  have hcn := chain_ne hne (ringF hr)
  have hpos : 0 < (chain zs i).length := List.length_pos_iff.2 hcn
  have hlen : (chain zs i).length ≤ 64 := Nat.le_trans hcl hl
  obtain ⟨l, hL⟩ : ∃ l, chain zs i = l := ⟨_, rfl⟩
  have hcall := Chain_any a cap zs i w hl hc hg hi hr
  have HE : Hid (endOf zs i = l.getD (l.length - 1) 0) := Lib.hid (by unfold endOf; rw [hL])
  rw [hL] at hpos hlen hcall
  have HC := Lib.hid hcall
  clear hcall hcl hcn hL hr hne hi hg
  go_enter Try.func12, Try.ntmps12
  go_wp2_with fail
  refine HC.out.mono ?_
  rintro e w1 ⟨v, rfl, hown, hb⟩
  obtain ⟨a', cap', rfl, hat⟩ := ints_own hown hb.size
  obtain ⟨b, off, rfl, hbb, hcell⟩ := hat (l.length - 1) (by omega)
  have hw1 : IntKind.i64.wrap ((l.length : Int) - 1) = ((l.length - 1 : Nat) : Int) := by rw [IntWalk.i64_in _ (by omega)]; omega
  have hw2 : ((l.length : Int) - 1).toNat = l.length - 1 := by omega
  clear hown
  go_wp2
  go_ret
  exact ⟨ret_int (by rw [HE.out]; simp [List.getD, List.getElem?_eq_getElem (show l.length - 1 < l.length by omega)]), hb⟩
end Go.Proofs.Ytmbdolmkldbjcaa
