/-
  Walks: chain.Along, its iterator, chain.End.
-/
import Derived.Test.YtmbdolmkldbjcaaW5
import Derived.Test.YtmbdolmkldbjcaaIter
import Derived.Shelf.RegionOpen
import Derived.OwnWalkIn
import Derived.TacticsInMore
import Derived.LoopNIn
import Derived.LoopIn
import Derived.Sort.LoopGhostIn
namespace Go.Proofs.Ytmbdolmkldbjcaa
open Go.RowKit
attribute [local go_sem] Oper.semAt_some

/-- a thread's chain, as it is gone through; nothing, where something is wrong -/
def along (zs : List Int) (i : Int) : List Int := if wrongOf zs [i] = 0 then chain zs i else []

theorem along_eq {zs : List Int} {i : Int} (h : wrongOf zs [i] = 0) : Good zs ∧ (0 ≤ i ∧ i < zs.length) ∧ Rings zs i = false ∧ zs.length ≤ 64 := by
  unfold wrongOf at h
  split at h
  · rename_i h1; exact absurd h h1
  rename_i h1
  simp only [Decidable.not_not] at h1
  obtain ⟨h2, h3, h4⟩ := err_ok h1
  split at h
  · cases h
  rename_i h5
  have h6 : 0 ≤ i ∧ i < zs.length := Classical.byContradiction fun hn => h5 ⟨0, by simp, by simpa using hn⟩
  refine ⟨h3, h6, ?_, h2⟩
  have := h4 i.toNat (by omega)
  rwa [Int.toNat_of_nonneg h6.1] at this

set_option maxHeartbeats 400000 in
theorem Along_any (a : Option Addr) (len cap : Nat) (i : Int) (w : World) :
    Calls Try.prog 24 #[.slice a len cap, .int .i64 i] w fun e w' => e = .returned (.func (.func 29) #[] #[.pointer (some ⟨w.heap.size, 0, none⟩), .pointer (some ⟨w.heap.size + 1, 0, none⟩)]) ∧
      w' = (w.alloc (.cells #[.slice a len cap] 22)).alloc (.cells #[.int .i64 i] 3) := by
  go_enter Try.func24, Try.ntmps24
  go_wp2
  go_ret
  exact ⟨rfl, rfl⟩

/-- the block that a slice's numbers lie in -/
def IntsR (a : Option Addr) (zs : List Int) : Nat → Prop := fun k => 0 < zs.length ∧ ∃ p, a = some p ∧ k = p.block
theorem IntsAt.lt {w : World} {a : Option Addr} {zs : List Int} (h : IntsAt w a zs) {k : Nat} (hk : IntsR a zs k) : k < w.heap.size := by
  obtain ⟨h0, p, rfl, rfl⟩ := hk
  obtain ⟨b, off, ha, hb, _⟩ := h 0 h0
  cases ha
  exact hb
/-- the blocks that the iterator reads -/
def alongR (B1 B2 : Nat) (a : Option Addr) (zs : List Int) : Nat → Prop := fun k => k = B1 ∨ k = B2 ∨ IntsR a zs k

theorem IntsAt.keeps {w w' : World} {R : Nat → Prop} {a : Option Addr} {zs : List Int} (h : IntsAt w a zs) (hk : Keeps R w w') (hR : ∀ k, IntsR a zs k → R k) : IntsAt w' a zs := by
  intro k hlt
  obtain ⟨b, off, ha, h1, h2⟩ := h k hlt
  exact ⟨b, off, ha, Nat.lt_of_lt_of_le h1 hk.size, hk.cell h2 (hR b ⟨by omega, _, ha, rfl⟩)⟩
theorem IntsAt.mv {w w' : World} {B : Nat} {a : Option Addr} {zs : List Int} (h : IntsAt w a zs) (hk : Mv none' B w w') : IntsAt w' a zs :=
  h.keeps (hk.keeps (R := fun _ => True) fun _ _ h => h) fun _ _ => trivial
theorem IntsAt.mod {w w' : World} {S : Nat → Prop} {a : Option Addr} {zs : List Int} (h : IntsAt w a zs) (hk : Mod S w w') (hS : ∀ k, IntsR a zs k → ¬ S k) : IntsAt w' a zs := by
  intro k hlt
  obtain ⟨b, off, ha, h1, h2⟩ := h k hlt
  exact ⟨b, off, ha, Nat.lt_of_lt_of_le h1 hk.size, hk.cell h2 (hS b ⟨by omega, _, ha, rfl⟩)⟩
theorem IntsAt.alloc {w : World} {a : Option Addr} {zs : List Int} (h : IntsAt w a zs) (o : Obj) : IntsAt (w.alloc o) a zs :=
  h.mod ((Mod.refl none' w).alloc o) fun _ _ h => h

set_option maxHeartbeats 1600000 in
theorem Along1_iter (n : Nat) (B1 B2 : Nat) (a : Option Addr) (cap : Nat) (zs : List Int) (i : Int) (w : World) (hl : zs.length ≤ 17592186044416)
    (h1 : w.cell? ⟨B1, 0, none⟩ = some (.slice a zs.length cap)) (h2 : w.cell? ⟨B2, 0, none⟩ = some (.int .i64 i)) (hc : IntsAt w a zs) :
    Iter Fence.wide n Try.prog 29 #[.pointer (some ⟨B1, 0, none⟩), .pointer (some ⟨B2, 0, none⟩)] (fun x => #[.int .i64 x]) (alongR B1 B2 a zs) none' (along zs i) w := by
  intro l J Jx W hk hsz hJ hJx hY h0
  have c1 := hk.cell h1 (.inl rfl)
  have c2 := hk.cell h2 (.inr (.inl rfl))
  have cc := hc.keeps hk (fun k hk => .inr (.inr hk))
  obtain ⟨r, hr⟩ : ∃ r, wrongOf zs [i] = r := ⟨_, rfl⟩
  have hcall : Calls Try.prog 25 #[.slice a zs.length cap, .slice (some ⟨W.heap.size, 0, none⟩) 1 1] (W.alloc (.cells #[.int .i64 i] 3)) fun e w' => e = .returned (.int .i64 r) ∧ (W.alloc (.cells #[.int .i64 i] 3)) = w' := by
    have := wrong_any a (some ⟨W.heap.size, 0, none⟩) cap 1 zs [i] (W.alloc (.cells #[.int .i64 i] 3)) hl (by simp) (cc.alloc _) (fun k hlt => by
      simp at hlt
      subst hlt
      exact ⟨W.heap.size, 0, rfl, by simp, (World.cell?_alloc_at _ _ _ _ rfl).trans rfl⟩)
    rw [hr] at this
    exact this
  have c2' := ((Mod.refl none' W).alloc (.cells #[.int .i64 i] 3)).cell c2 (fun h => h)
  have HC := Lib.hid hcall
  have HR := Lib.hid hr
  have HJ := Lib.hid hJ
  have HJx := Lib.hid hJx
  have HY := Lib.hid hY
  clear hcall hr hJ hJx hY h1 h2 hc
  refine callsIn_of_wp Try.func29 rfl trivial ?_ rfl
  simp only [Try.ntmps29, List.size_toArray, List.length_cons, List.length_nil, Nat.reduceAdd, Nat.reduceSub, Array.replicate_succ, Array.replicate_zero, List.push_toArray, List.append_toArray, List.nil_append, List.cons_append]
  by_cases h0r : r = 0
  · subst h0r
    have HA : Hid (along zs i = chain zs i) := if_pos HR.out
    obtain ⟨hg, hi, hrg, hl64⟩ := along_eq HR.out
    have HG := Lib.hid hg
    have HN := Lib.hid (ringF hrg)
    clear hg hrg
    gi_wp2_with (refine ⟨trivial, fun h => (by cases h), ?_⟩; gi_at_call 25; refine (callsIn_wide.2 HC.out).mono ?_; rintro e w' ⟨rfl, rfl⟩)
    gi_loopg [4] zs.length (fun m p wr => ∃ (x : Int) (pre : List Int), p = .int .i64 x ∧ OkI zs x ∧ nxts zs m x = -1 ∧ along zs i = pre ++ chainL zs m x ∧ J pre wr ∧ Keeps (alongR B1 B2 a zs) W wr)
    case atStart => exact ⟨i, [], rfl, .inr hi, HN.out, HA.out, HJ.out _ _ _ h0 (((Mod.refl none' W).alloc _).mv _), ((Mod.refl none' W).alloc _).keeps fun _ _ _ h => h⟩
    case round =>
      obtain ⟨x, pre, rfl, hok, hx, hch, hj, hkr⟩ := hrel
      have HX := Lib.hid hx
      have HCh := Lib.hid hch
      clear hx hch
      rcases hok with hm | ⟨hx0, hx1⟩
      · have hb : (x != -1) = false := by simp [hm]
        have HM := Lib.hid hm
        clear hm
        gi_wp2
        refine ⟨fun _ h => (by cases h), ?_⟩
        gi_wp2
        go_end0
        refine ⟨⟨_, rfl⟩, .inl ?_⟩
        have h := HCh.out
        rw [HM.out, chainL_none, List.append_nil] at h
        rw [h]; exact hj
      · have hb : (x != -1) = true := by simp; omega
        obtain ⟨m, hm1, hm2, hm3⟩ := chainL_step (zs := zs) (i := x) (by omega) HX.out
        have hpre : pre ++ [x] <+: along zs i := by rw [HCh.out, hm2]; exact ⟨chainL zs m (nxt zs x), by simp⟩
        obtain ⟨fn, tmps, assign, body, hy, hR⟩ := HY.out pre x wr hj hpre
        have HR' := Lib.hid hR
        have HM1 := Lib.hid hm1
        have HM2 := Lib.hid hm2
        have HM3 := Lib.hid hm3
        clear hR hm1 hm2 hm3
        gi_wp2
        refine ⟨fun h => (by cases h), HR'.out.mono ?_⟩
        rintro e W3 (⟨rfl, hJ3, hk3, _⟩ | ⟨rfl, hJx3, _, _⟩)
        · have hk4 := hkr.trans hk3
          obtain ⟨b, off, rfl, hbb, hcell⟩ := (cc.keeps hk4 (fun k hk => .inr (.inr hk))) x.toNat (by omega)
          have c1' := hk4.cell c1 (.inl rfl)
          have hkH := Lib.hid hk4
          clear hk4 hk3 hkr
          gi_wp2
          gi_roundg m
          case measure => have := HM1.out; omega
          case rel =>
            have hok : OkI zs x := .inr ⟨hx0, hx1⟩
            refine ⟨nxt zs x, pre ++ [x], ?_, hok.nxt HG.out, HM3.out, by rw [HCh.out, HM2.out]; simp, hJ3, hkH.out⟩
            rw [nxt, if_neg (by omega)]; simp [List.getD, List.getElem?_eq_getElem (show x.toNat < zs.length by omega)]
        · gi_wp2
          go_end0
          exact ⟨⟨_, rfl⟩, .inr ⟨pre ++ [x], hpre, hJx3⟩⟩
  · have hb : (r != 0) = true := by simp [h0r]
    have HA : Hid (along zs i = []) := if_neg (by rw [HR.out]; exact h0r)
    gi_wp2_with (refine ⟨trivial, fun h => (by cases h), ?_⟩; gi_at_call 25; refine (callsIn_wide.2 HC.out).mono ?_; rintro e w' ⟨rfl, rfl⟩)
    refine bodyPost_ret (results_none rfl _ _ _) rfl ?_
    exact ⟨⟨_, rfl⟩, .inl (by rw [HA.out]; exact HJ.out _ _ _ h0 (((Mod.refl none' W).alloc _).mv _))⟩
end Go.Proofs.Ytmbdolmkldbjcaa
