/-
  Walk: the law HeapKinds.
  A slice of keys that came in, as the walks want it.
-/
import Derived.Test.YtecfenoidcolfaaKHO
import Derived.Test.YtecfenoidcolfaaAwake
import Derived.Deep.Slices
import Derived.Deep.Fields
import Derived.ChangeArms
import Derived.OpenShut
/-! ### Walk: the law HeapKinds. -/
namespace Go.Proofs.Ytecfenoidcolfaa.Ke
set_option linter.unusedVariables false
open Go.RowKit Hp

/-- a heap of keys that are structures, as a piece of memory -/
def heapA (hb lf : Nat) (lt : (Int × Int) → (Int × Int) → Bool) (M : List (It (Int × Int))) : Ast where
  holds w F := HeapAt w hb lf lt F M
  stable := fun h hm hS => h.mod hm hS
  lt := fun h hj => h.lt_F hj
abbrev H (hb : Nat) (M : List (It (Int × Int))) : Ast := heapA hb 24 bef M

section
variable {w0 w : World} {hb : Nat} {M : List (It (Int × Int))} {R : Ast}
theorem H_perm {M' : List (It (Int × Int))} (hp : M.Perm M') (F : Nat → Prop) (h : (H hb M).holds w F) : (H hb M').holds w F := HeapAt.perm h hp
theorem H_put (h : On w0 w (sep (H hb M) R)) (id : Int) (k : Int × Int) (h0 : 0 ≤ id) (hw : (Lit.int .i64 id).wf = true) (hn : ∀ x ∈ M, x.1 ≠ id) (hM : M.length < 1000000) :
    Calls Try.prog 27 #[.pointer (some ⟨hb, 0, none⟩), .int .i64 id, .agg #[.int .i64 k.1, .int .i64 k.2]] w fun e w' => e = .returned (.int .i64 0) ∧ On w0 w' (sep (H hb ((id, k) :: M)) R) :=
  h.call1 (B := H hb ((id, k) :: M)) fun _ hF => Put_ok lessB hF id k h0 hw hn hM
theorem H_take {x1 : Int} {x2 : Int × Int} (h : On w0 w (sep (H hb ((x1, x2) :: M)) R)) (hs : Sorted bef ((x1, x2) :: M)) (hM : M.length < 999999) :
    Calls Try.prog 28 #[.pointer (some ⟨hb, 0, none⟩)] w fun e w' => e = .returned (.tuple #[.int .i64 x1, .agg #[.int .i64 x2.1, .int .i64 x2.2], .int .i64 0]) ∧ On w0 w' (sep (H hb M) R) :=
  h.call1 (B := H hb M) fun _ hF => Take_some lessB hF hs hM
theorem H_len (h : On w0 w (sep (H hb M) R)) :
    Calls Try.prog 29 #[.pointer (some ⟨hb, 0, none⟩)] w fun e w' => e = .returned (.int .i64 (M.length : Int)) ∧ w = w' := by
  obtain ⟨F, hF, _⟩ := h.get1
  exact Len_ok hF
end
theorem H_new {w0 w : World} {R : Ast} (h : On w0 w R) : Calls Try.prog 26 #[.func (.func 24) #[] #[]] w fun e w' => ∃ hb, e = .returned (.tuple #[.pointer (some ⟨hb, 0, none⟩), .int .i64 0]) ∧ On w0 w' (sep (H hb []) R) :=
  (New_ok bef w).mono fun _ _ ⟨hb, F, he, h1, h2, h3⟩ => ⟨hb, he, h.add (B := H hb []) h2 h1 h3⟩

/-- the keys of a slice that came in -/
def KeysAt (w : World) (a : Option Addr) (ks : List (Int × Int)) : Prop :=
  ks.length = 0 ∨ ∃ b off, a = some ⟨b, off, none⟩ ∧ b < w.heap.size ∧ ∀ k, k < ks.length → w.cell? ⟨b, off + k * 2, none⟩ = some (.int .i64 (ks[k]?.getD (0, 0)).1) ∧ w.cell? ⟨b, off + k * 2 + 1, none⟩ = some (.int .i64 (ks[k]?.getD (0, 0)).2)

def itm (ks : List (Int × Int)) (j : Nat) : It (Int × Int) := ((j : Int), ks[j]?.getD (0, 0))
def La (ks : List (Int × Int)) : Nat → List (It (Int × Int))
  | 0 => []
  | i + 1 => itm ks i :: La ks i
theorem mem_La {ks : List (Int × Int)} {x : It (Int × Int)} : ∀ {i : Nat}, x ∈ La ks i ↔ ∃ j, j < i ∧ x = itm ks j
  | 0 => by simp [La]
  | i + 1 => by
    rw [La, List.mem_cons, mem_La]
    constructor
    · rintro (h | ⟨j, h1, h2⟩)
      · exact ⟨i, by omega, h⟩
      · exact ⟨j, by omega, h2⟩
    · rintro ⟨j, h1, h2⟩
      by_cases e : j = i
      · subst e; exact .inl h2
      · exact .inr ⟨j, by omega, h2⟩
theorem La_length (ks : List (Int × Int)) : ∀ i, (La ks i).length = i
  | 0 => rfl
  | i + 1 => by rw [La, List.length_cons, La_length]
theorem La_new {ks : List (Int × Int)} {i : Nat} : ∀ x ∈ La ks i, x.1 ≠ (i : Int) := fun x hx => by
  obtain ⟨j, h1, rfl⟩ := mem_La.1 hx
  simp [itm]; omega
theorem La_distinct {ks : List (Int × Int)} : ∀ i, (La ks i).Pairwise fun a b => a.1 ≠ b.1
  | 0 => List.Pairwise.nil
  | i + 1 => List.pairwise_cons.2 ⟨fun x hx => Ne.symm (La_new x hx), La_distinct i⟩
/-- all, in order -/
def Srt (ks : List (Int × Int)) : List (It (Int × Int)) := srt bef (La ks ks.length)
theorem Srt_perm (ks : List (Int × Int)) : (Srt ks).Perm (La ks ks.length) := srt_perm _
theorem Srt_length (ks : List (Int × Int)) : (Srt ks).length = ks.length := by rw [(Srt_perm ks).length_eq, La_length]
theorem Srt_sorted (ks : List (Int × Int)) : Sorted bef (Srt ks) := srt_sorted bef_swo (La_distinct _)
theorem Srt_at {ks : List (Int × Int)} {i : Nat} (hi : i < ks.length) : ∃ j, j < ks.length ∧ (Srt ks)[i]? = some (itm ks j) := by
  have hl : i < (Srt ks).length := by rw [Srt_length]; exact hi
  obtain ⟨j, h1, h2⟩ := mem_La.1 ((Srt_perm ks).mem_iff.1 (List.getElem_mem hl))
  exact ⟨j, h1, by rw [List.getElem?_eq_getElem hl, h2]⟩
/-- the last one that was taken -/
def lastC (l : List (It (Int × Int))) (i : Nat) : Array Value := if i = 0 then #[.int .i64 0, .int .i64 0] else #[.int .i64 (l.getD (i - 1) (0, 0, 0)).2.1, .int .i64 (l.getD (i - 1) (0, 0, 0)).2.2]
def lastN (l : List (It (Int × Int))) (i : Nat) : Int := if i = 0 then -1 else (l.getD (i - 1) (0, 0, 0)).1

set_option maxRecDepth 100000 in
set_option maxHeartbeats 4000000 in
theorem kinds_many (a : Option Addr) (cap : Nat) (ks : List (Int × Int)) (w : World) (hl : 60 < ks.length) :
    Calls Try.prog 4 #[.slice a ks.length cap] w fun e w' => e = .returned (.bool true) ∧ Below w.heap.size w w' := by
  have HN := Lib.hid (H_new (On.emp w))
  go_enter Try.func4, Try.ntmps4
  go_wp2_with fail
  refine HN.out.mono ?_
  rintro e w1 ⟨ha, rfl, h1⟩
  have HA := Lib.hid (awake_ok w1)
  have HB := Lib.hid h1.to_below
  clear h1
  have hlI2 : (60 : Int) < (ks.length : Int) := by omega
  go_wp2_with fail
  refine HA.out.mono ?_
  rintro e w3 ⟨rfl, hb3⟩
  have HB3 := Lib.hid (HB.out.trans (hb3.mono HB.out.size))
  clear hb3
  go_wp2_with fail
  go_ret
  exact ⟨rfl, HB3.out⟩

set_option maxRecDepth 100000 in
set_option maxHeartbeats 4000000 in
theorem kinds_ok (a : Option Addr) (cap : Nat) (ks : List (Int × Int)) (w : World) (hc : KeysAt w a ks) (hl1 : ks.length ≤ 60) :
    Calls Try.prog 4 #[.slice a ks.length cap] w fun e w' => e = .returned (.bool true) ∧ Below w.heap.size w w' := by
  obtain ⟨n, hn⟩ : ∃ n, ks.length = n := ⟨_, rfl⟩
  have HN := Lib.hid (H_new (On.emp w))
  rw [hn]
  have HC := Lib.hid hc
  have HNn := Lib.hid hn
  have hnI1 : ¬ (60 : Int) < (n : Int) := by omega
  have hn60 : (n : Int) ≤ 60 := by omega
  clear hc hn
  go_enter Try.func4, Try.ntmps4
  go_wp2_with fail
  refine HN.out.mono ?_
  rintro e w1 ⟨hh, rfl, h1⟩
  have HO2 := Lib.hid h1
  clear h1
  go_wp2_with fail
  go_loopg [5] n (fun gh s5 wr => ∃ i : Nat, i + gh = n ∧ s5 = .int .i64 (i : Int) ∧ On w wr (sep (H hh (La ks i)) emp))
  case atStart => exact ⟨0, by omega, rfl, HO2.out⟩
  case round =>
    obtain ⟨i, hi, rfl, hon⟩ := hrel
    by_cases hlt : i < n
    · have hltI : (i : Int) < (n : Int) := by omega
      have hi0 : (0 : Int) ≤ (i : Int) := by omega
      obtain ⟨b, off, rfl, hb, hcells⟩ : ∃ b off, a = some ⟨b, off, none⟩ ∧ b < w.heap.size ∧ ∀ k, k < ks.length → w.cell? ⟨b, off + k * 2, none⟩ = some (.int .i64 (ks[k]?.getD (0, 0)).1) ∧ w.cell? ⟨b, off + k * 2 + 1, none⟩ = some (.int .i64 (ks[k]?.getD (0, 0)).2) :=
        HC.out.resolve_left (by rw [HNn.out]; omega)
      obtain ⟨x, hx⟩ : ∃ x, ks[i]?.getD (0, 0) = x := ⟨_, rfl⟩
      have hb1 := hon.to_below
      have q0 : wr.cell? ⟨b, off + i * 2, none⟩ = some (.int .i64 x.1) := by rw [← hx]; exact (hb1.cell (by exact hb)).trans (hcells i (by rw [HNn.out]; exact hlt)).1
      have q1 : wr.cell? ⟨b, off + i * 2 + 1, none⟩ = some (.int .i64 x.2) := by rw [← hx]; exact (hb1.cell (by exact hb)).trans (hcells i (by rw [HNn.out]; exact hlt)).2
      have hc1 := H_put hon (i : Int) x (by omega) (by simp [Lit.wf, IntKind.min, IntKind.max, IntKind.signed, IntKind.bits]; omega) La_new (by rw [La_length]; omega)
      have HC1 := Lib.hid hc1
      have HX := Lib.hid hx
      clear hon hb1 hc1 hx hcells
      go_wp2_with fail
      refine HC1.out.mono ?_
      rintro e w3 ⟨rfl, h3⟩
      have H3 := Lib.hid h3
      clear h3 q0 q1
      go_wp2_with fail
      go_roundg (n - (i + 1))
      case measure => omega
      case rel =>
        refine ⟨i + 1, by omega, by go_num, ?_⟩
        have := H3.out
        rw [← HX.out] at this
        exact this
    · have hin : i = n := by omega
      subst hin
      obtain ⟨lb, hlb⟩ : ∃ lb, wr.heap.size = lb := ⟨_, rfl⟩
      have hon6 : On w (wr.alloc (.cells #[.int .i64 0, .int .i64 0] 32)) (sep (H hh ((Srt ks).drop 0)) (sep (boxA lb 32 (lastC (Srt ks) 0)) emp)) := by
        have e1 : (La ks i).Perm ((Srt ks).drop 0) := by rw [List.drop_zero, ← HNn.out]; exact (Srt_perm ks).symm
        have h1 := (hon.mono1 fun F => H_perm e1 F).add ((Below.refl _ wr).alloc (Nat.le_refl _) (.cells #[.int .i64 0, .int .i64 0] 32)) (boxA_new wr 32 #[.int .i64 0, .int .i64 0]) (fun j hj => by omega)
        rw [hlb] at h1
        exact h1.left
      have HO7 := Lib.hid hon6
      have HSl := Lib.hid (Srt_length ks)
      clear hon6 hon
      go_wp2_with fail
      go_loopg [6, 8, 9, 10, 11] i (fun gh s6 s8 s9 s10 s11 ws => ∃ k : Nat, k + gh = i ∧ s8 = .int .i64 (k : Int) ∧ s6 = .int .i64 (lastN (Srt ks) k) ∧
        On w ws (sep (H hh ((Srt ks).drop k)) (sep (boxA lb 32 (lastC (Srt ks) k)) emp)))
      case atStart => exact ⟨0, by omega, rfl, rfl, HO7.out⟩
      case round =>
        obtain ⟨k, hk, rfl, rfl, hon⟩ := hrel
        by_cases hlt : k < i
        · obtain ⟨j, hj, hsj⟩ := Srt_at (ks := ks) (i := k) (by rw [HNn.out]; exact hlt)
          rw [HNn.out] at hj
          obtain ⟨b, off, rfl, hb, hcells⟩ : ∃ b off, a = some ⟨b, off, none⟩ ∧ b < w.heap.size ∧ ∀ k, k < ks.length → w.cell? ⟨b, off + k * 2, none⟩ = some (.int .i64 (ks[k]?.getD (0, 0)).1) ∧ w.cell? ⟨b, off + k * 2 + 1, none⟩ = some (.int .i64 (ks[k]?.getD (0, 0)).2) :=
            HC.out.resolve_left (by rw [HNn.out]; omega)
          obtain ⟨z, hz⟩ : ∃ z, ks[j]?.getD (0, 0) = z := ⟨_, rfl⟩
          have hcj := hcells j (by rw [HNn.out]; exact hj)
          rw [hz] at hcj
          have hitm : itm ks j = ((j : Int), z) := by rw [itm, hz]
          have hkl : k < (Srt ks).length := by rw [HSl.out, HNn.out]; exact hlt
          have hdk : (Srt ks).drop k = ((j : Int), z) :: (Srt ks).drop (k + 1) := by
            rw [List.drop_eq_getElem_cons hkl]
            rw [List.getElem?_eq_getElem hkl] at hsj
            rw [Option.some.inj hsj, hitm]
          have hsd : Sorted bef (((j : Int), z) :: (Srt ks).drop (k + 1)) := by rw [← hdk]; exact (Srt_sorted ks).sublist (List.drop_sublist _ _)
          have hlen : ((Srt ks).drop (k + 1)).length < 999999 := by rw [List.length_drop, HSl.out, HNn.out]; omega
          have hg : (Srt ks).getD k (0, 0, 0) = ((j : Int), z) := by rw [List.getD_eq_getElem?_getD, hsj, hitm]; rfl
          have hon2 := hon
          rw [hdk] at hon2
          have HT1 := Lib.hid (H_take hon2 hsd hlen)
          have HG := Lib.hid hg
          have HKl := Lib.hid hkl
          have HCj := Lib.hid hcj
          have hltI : (k : Int) < (i : Int) := by omega
          have hjI : (j : Int) < (i : Int) := by omega
          have hj0 : (0 : Int) ≤ (j : Int) := by omega
          clear hon hon2 hsj hitm hz hsd hlen hdk hkl hg hcj hcells
          go_wp2_with fail
          refine HT1.out.mono ?_
          rintro e x1 ⟨rfl, hon3⟩
          obtain ⟨x3, hx3⟩ : ∃ x3, x1.alloc (.cells #[.int .i64 z.1, .int .i64 z.2] 32) = x3 := ⟨_, rfl⟩
          have hb23 : Below x1.heap.size x1 x3 := by rw [← hx3]; exact (Below.refl _ x1).alloc (Nat.le_refl _) _
          have n0 : x3.cell? ⟨x1.heap.size, 0, none⟩ = some (.int .i64 z.1) := by rw [← hx3, World.cell?_alloc_at _ _ _ _ rfl]; rfl
          have n1 : x3.cell? ⟨x1.heap.size, 1, none⟩ = some (.int .i64 z.2) := by rw [← hx3, World.cell?_alloc_at _ _ _ _ rfl]; rfl
          have hlx : lb < x1.heap.size := by
            obtain ⟨F4, h4, _⟩ := hon3.left.get1
            exact lt_of_some h4.1
          have hf : ∀ x4, Below x1.heap.size x1 x4 → x4.frozen? ⟨lb, 0, none⟩ = false ∧ x4.frozen? ⟨lb, 1, none⟩ = false ∧
              x4.cell? ⟨lb, 0, none⟩ = (lastC (Srt ks) k)[0]? ∧ x4.cell? ⟨lb, 1, none⟩ = (lastC (Srt ks) k)[1]? ∧
              On w ((x4.setCell ⟨lb, 0, none⟩ (.int .i64 z.1)).setCell ⟨lb, 1, none⟩ (.int .i64 z.2)) (sep (H hh ((Srt ks).drop (k + 1))) (sep (boxA lb 32 (lastC (Srt ks) (k + 1))) emp)) := fun x4 hb4 => by
            have hon4 := hon3.below hb4
            obtain ⟨F4, h4, _⟩ := hon4.left.get1
            refine ⟨boxA_free h4 _, boxA_free h4 _, boxA_cell h4 _, boxA_cell h4 _, ?_⟩
            have e2 : ((lastC (Srt ks) k).setIfInBounds 0 (.int .i64 z.1)).setIfInBounds 1 (.int .i64 z.2) = lastC (Srt ks) (k + 1) := by
              have e3 : lastC (Srt ks) (k + 1) = #[.int .i64 z.1, .int .i64 z.2] := by
                unfold lastC
                rw [if_neg (by omega), Nat.add_sub_cancel, HG.out]
              rw [e3]
              unfold lastC
              split <;> rfl
            have s2 := hon4.left.step1 (fun F hF => boxA_set hF 0 (.int .i64 z.1))
            have s3 := (s2.step1 (fun F hF => boxA_set hF 1 (.int .i64 z.2))).left
            rwa [e2] at s3
          have hkeys : ∀ A', Below x3.heap.size x3 A' → A'.cell? ⟨b, off + j * 2, none⟩ = some (.int .i64 z.1) ∧ A'.cell? ⟨b, off + j * 2 + 1, none⟩ = some (.int .i64 z.2) ∧ A'.cell? ⟨x1.heap.size, 0, none⟩ = some (.int .i64 z.1) ∧ A'.cell? ⟨x1.heap.size, 1, none⟩ = some (.int .i64 z.2) := fun A' hA => by
            have h1 := (hon3.below (hb23.trans (hA.mono hb23.size))).to_below
            exact ⟨(h1.cell (by exact hb)).trans HCj.out.1, (h1.cell (by exact hb)).trans HCj.out.2, zatB n0 hA, zatB n1 hA⟩
          have hlN : lastN (Srt ks) (k + 1) = (j : Int) := by unfold lastN; rw [if_neg (by omega), Nat.add_sub_cancel, HG.out]
          have HKeys := Lib.hid hkeys
          have HF := Lib.hid hf
          have HB23 := Lib.hid hb23
          have HLN := Lib.hid hlN
          have hx2 : lb ≠ x1.heap.size := by omega
          have hx5 : x1.heap.size ≠ lb := by omega
          have hjneg : ((j : Int) < 0) = False := by simp
          have hjge : ((i : Int) ≤ (j : Int)) = False := by simp; omega
          clear hf hb23 hon3 hkeys hlN
          go_wp2_with fail
          clear hx3
          refine wp_region_loose (fun A' => Below x3.heap.size x3 A') (by kernel_rfl) (by kernel_rfl) ((Below.refl _ x3).drew) ?_
          iterate 20 (first
            | (refine loose_skip (by rfl) ?_; simp only [Act.put, List.setIfInBounds_toArray, List.set_cons_zero, List.set_cons_succ])
            | (refine loose_val (v := ?_) (by rfl) ?_ ?_; rotate_left; (focus (intro A' hA'; obtain ⟨k0, k1, k2, k3⟩ := HKeys.out A' hA'; go_simp; first | done | with_reducible rfl)); simp only [Act.put, List.setIfInBounds_toArray, List.set_cons_zero, List.set_cons_succ]))
          refine loose_nil ?_
          intro x4 hb34
          obtain ⟨k0, k1, n2, n3⟩ := HKeys.out x4 hb34
          have HB4 := Lib.hid (HB23.out.trans (hb34.mono HB23.out.size))
          have hs4 : x1.heap.size < x4.heap.size := World.block_lt_of_cell? x4 _ n2
          clear hb34 n0 n1
          rcases Nat.eq_zero_or_pos k with hk0 | hk0
          · subst hk0
            obtain ⟨m1, m2, m3, m4, hon5⟩ := HF.out x4 HB4.out
            have HO5 := Lib.hid hon5
            have e0 : (lastC (Srt ks) 0)[0]? = some (.int .i64 0) := rfl
            have e1 : (lastC (Srt ks) 0)[1]? = some (.int .i64 0) := rfl
            rw [e0] at m3
            rw [e1] at m4
            clear hon5 e0 e1
            go_wp2_with fail
            go_roundg (i - 1)
            case measure => omega
            case rel => exact ⟨1, by omega, by go_num, by rw [HLN.out], HO5.out⟩
          · have hkp : (0 : Int) < (k : Int) := by omega
            obtain ⟨⟨l1, l2⟩, hl⟩ : ∃ x, (Srt ks).getD (k - 1) (0, 0, 0) = x := ⟨_, rfl⟩
            have e0 : (lastC (Srt ks) k)[0]? = some (.int .i64 l2.1) := by unfold lastC; rw [if_neg (by omega), hl]; rfl
            have e1 : (lastC (Srt ks) k)[1]? = some (.int .i64 l2.2) := by unfold lastC; rw [if_neg (by omega), hl]; rfl
            have e2 : lastN (Srt ks) k = l1 := by unfold lastN; rw [if_neg (by omega), hl]
            have hah : Hp.ahead bef (l1, l2) ((j : Int), z) = true := by
              have hkl := HKl.out
              have h1 : (Srt ks)[k - 1] = (l1, l2) := by rw [← hl, getD_of (by omega)]
              have h2 : (Srt ks)[k] = ((j : Int), z) := by rw [← HG.out, getD_of hkl]
              have := List.pairwise_iff_getElem.1 (Srt_sorted ks) (k - 1) k (by omega) hkl (by omega)
              rwa [h1, h2] at this
            have hna := ahead_asymm bef_swo hah
            rw [nahead_iff] at hna
            rw [ahead_iff] at hah
            dsimp only at hna hah
            obtain ⟨r2, hr2⟩ : ∃ r2, bef l2 z = r2 := ⟨_, rfl⟩
            have hlj : r2 = false → (((j : Int) < l1) = False) := fun e => by
              rw [hr2, e] at hah
              simp
              rcases hah with h | h
              · cases h
              · omega
            have HC1 := Lib.hid (fun A => before_any z.1 z.2 l2.1 l2.2 A)
            have HC2 := Lib.hid (fun A => before_any l2.1 l2.2 z.1 z.2 A)
            have hb1 : bef (z.1, z.2) (l2.1, l2.2) = false := hna.1
            have hb2 : bef (l2.1, l2.2) (z.1, z.2) = r2 := hr2
            have HBb1 := Lib.hid hb1
            have HBb2 := Lib.hid hb2
            have HLj := Lib.hid hlj
            have HE0 := Lib.hid e0
            have HE1 := Lib.hid e1
            obtain ⟨m1, m2, m3, m4, _⟩ := HF.out x4 HB4.out
            rw [e0] at m3
            rw [e1] at m4
            rw [e2]
            clear hl e0 e1 e2 hah hna hr2 hlj hb1 hb2
            go_wp2_with fail
            refine (HC1.out x4).mono ?_
            rw [HBb1.out]
            rintro e x5 ⟨rfl, hb45⟩
            have p2 := zatB n2 hb45
            have p3 := zatB n3 hb45
            have HB5 := Lib.hid (HB4.out.trans (hb45.mono HB4.out.size))
            obtain ⟨o1, o2, o3, o4, _⟩ := HF.out x5 HB5.out
            rw [HE0.out] at o3
            rw [HE1.out] at o4
            clear m1 m2 m3 m4 n2 n3 hb45
            go_wp2_with fail
            refine (HC2.out x5).mono ?_
            rw [HBb2.out]
            rintro e x6 ⟨rfl, hb56⟩
            have t2 := zatB p2 hb56
            have t3 := zatB p3 hb56
            have HB6 := Lib.hid (HB5.out.trans (hb56.mono HB5.out.size))
            obtain ⟨v1, v2, v3, v4, hon6⟩ := HF.out x6 HB6.out
            rw [HE0.out] at v3
            rw [HE1.out] at v4
            have HO6 := Lib.hid hon6
            clear o1 o2 o3 o4 p2 p3 hb56 hon6
            cases r2 with
            | true =>
              go_wp2_with fail
              go_roundg (i - (k + 1))
              case measure => omega
              case rel => exact ⟨k + 1, by omega, by go_num, by rw [HLN.out], HO6.out⟩
            | false =>
              have hlj := HLj.out rfl
              go_wp2_with fail
              go_roundg (i - (k + 1))
              case measure => omega
              case rel => exact ⟨k + 1, by omega, by go_num, by rw [HLN.out], HO6.out⟩
        · have hki : k = i := by omega
          subst hki
          have hd : (Srt ks).drop k = [] := List.drop_eq_nil_of_le (by rw [HSl.out, HNn.out]; exact Nat.le_refl _)
          rw [hd] at hon
          have HLn := Lib.hid (H_len hon)
          have HAw := Lib.hid (awake_ok wr)
          have HB1 := Lib.hid hon.to_below
          clear hon hd
          go_wp2_with fail
          refine HLn.out.mono ?_
          rintro e x2 ⟨rfl, rfl⟩
          go_wp2_with fail
          refine HAw.out.mono ?_
          rintro e x3 ⟨rfl, hb3⟩
          have HB3 := Lib.hid (HB1.out.trans (hb3.mono HB1.out.size))
          clear hb3
          go_wp2_with fail
          go_ret
          exact ⟨rfl, HB3.out⟩
end Go.Proofs.Ytecfenoidcolfaa.Ke

/-! ### A slice of keys that came in, as the walks want it. -/
namespace Go.Proofs.Ytecfenoidcolfaa.Ke
set_option linter.unusedVariables false
open Go.RowKit Go.ChangeShapes Go.WideShapes Go.Deep

theorem exists_list {β : Type} (d : β) (Q : Nat → β → Prop) : ∀ n, (∀ i, i < n → ∃ x, Q i x) → ∃ l : List β, l.length = n ∧ ∀ i, i < n → Q i (l[i]?.getD d)
  | 0, _ => ⟨[], rfl, by omega⟩
  | n + 1, h => by
    obtain ⟨l, h1, h2⟩ := exists_list d Q n fun i hi => h i (by omega)
    obtain ⟨x, hx⟩ := h n (by omega)
    refine ⟨l ++ [x], by simp [h1], fun i hi => ?_⟩
    by_cases hin : i = n
    · subst hin
      rw [List.getElem?_append_right (by omega)]
      simpa [h1] using hx
    · rw [List.getElem?_append_left (by omega)]
      exact h2 i (by omega)

theorem spot_none {w : World} {x : Addr} {v : Value} (h : w.cell? x = some v) : x.spot = none := by
  unfold World.cell? at h
  split at h
  · split at h
    · cases h
    · rename_i hs; simpa using hs
  · cases h

theorem Try.fields32 : ∃ f0 f1 : Field, Try.prog.underlying 32 = some (.struct #[f0, f1]) ∧ f0.type = 3 ∧ f1.type = 3 ∧ f0.offset = 0 ∧ f1.offset = 1 :=
  ⟨_, _, Try.underlying32, rfl, rfl, rfl, rfl⟩
theorem cells38 : Try.prog.cellsOf 32 = 2 := by kernel_rfl
theorem cells3 : Try.prog.cellsOf 3 = 1 := by kernel_rfl

variable {Hd : Type} {enc : TypeId × Value → Hd} {w : World} {base : Nat} {spare : Nat → Bool} {held : Bool}
set_option maxRecDepth 100000 in
/-- two cells that are a key -/
theorem open_key {fuel : Nat} {cs : List Value} {x : DataW Hd × List MemPlace} (h : DataW.trod enc Try.prog w base spare held fuel 32 cs = some x) :
    ∃ p q : Int, cs = [.int .i64 p, .int .i64 q] ∧ (Lit.int .i64 p).wf = true ∧ (Lit.int .i64 q).wf = true := by
  obtain ⟨f0, f1, hs, t0, t1, o0, o1⟩ := Try.fields32
  obtain ⟨xs, n, _, _, hl, hxl, hf⟩ := DataW.trod_struct hs h
  rw [cells38] at hl
  match cs, hl, xs, hxl with
  | [c0, c1], _, [y0, y1], _ =>
    have h0 := hf 0 f0 rfl
    have h1 := hf 1 f1 rfl
    rw [t0, o0, cells3] at h0
    rw [t1, o1, cells3] at h1
    obtain ⟨p, hp, _, hp2⟩ := DataW.trod_int Try.underlying3 h0
    obtain ⟨q, hq, _, hq2⟩ := DataW.trod_int Try.underlying3 h1
    simp at hp hq
    exact ⟨p, q, by rw [hp, hq], hp2, hq2⟩

theorem open_keys {fuel : Nat} {a : Option Addr} {len cap : Nat} {x : DataW Hd × List MemPlace} (h : DataW.trod enc Try.prog w base spare held fuel 38 [.slice a len cap] = some x) :
    ∃ ks : List (Int × Int), ks.length = len ∧ KeysAt w a ks ∧ ∀ k ∈ ks, (Lit.int .i64 k.1).wf = true ∧ (Lit.int .i64 k.2).wf = true := by
  rcases open_slice Try.underlying38 h with ⟨h0, _⟩ | ⟨a', len', cap', m, n, D, Pl, hcs, _, hl, _, hm, _, hi⟩
  · injection h0 with h0
    injection h0 with _ h0 _
    exact ⟨[], by rw [h0]; rfl, .inl rfl, by simp⟩
  · injection hcs with hcs
    injection hcs with h1 h2 h3
    subst h1
    subst h2
    subst h3
    have hlm : len ≤ m := by rw [hm]; split <;> omega
    rw [cells38] at hi
    have hq : ∀ i, i < len → ∃ k : Int × Int, (w.cell? (a'.add (i * 2)) = some (.int .i64 k.1) ∧ w.cell? (a'.add (i * 2 + 1)) = some (.int .i64 k.2)) ∧ (Lit.int .i64 k.1).wf = true ∧ (Lit.int .i64 k.2).wf = true := fun i hil => by
      obtain ⟨cs', hc, ht⟩ := hi i (by omega)
      obtain ⟨p, q, rfl, hp, hq⟩ := open_key ht
      obtain ⟨_, _, hat⟩ := World.cells?_some hc
      have e0 := hat 0 (by omega)
      have e1 := hat 1 (by omega)
      rw [Go.Deep.add_add] at e0 e1
      exact ⟨(p, q), ⟨by simpa using e0, by simpa using e1⟩, hp, hq⟩
    obtain ⟨ks, hk1, hk2⟩ := exists_list (0, 0) _ len hq
    refine ⟨ks, hk1, ?_, fun k hk => ?_⟩
    · rcases Nat.eq_zero_or_pos len with h0 | h0
      · exact .inl (by rw [hk1]; exact h0)
      · have hs : (a'.add (0 * 2)).spot = none := spot_none (hk2 0 h0).1.1
        obtain ⟨b, off, spot⟩ := a'
        have hs' : spot = none := by
          unfold Addr.add at hs
          split at hs <;> simp_all
        subst hs'
        have ha : ∀ j, (⟨b, off, none⟩ : Addr).add j = ⟨b, off + j, none⟩ := fun j => by unfold Addr.add; split <;> simp_all
        refine .inr ⟨b, off, rfl, ?_, fun k hk => ?_⟩
        · have := (hk2 0 h0).1.1
          rw [ha] at this
          exact World.block_lt_of_cell? w _ this
        · have := (hk2 k (by omega)).1
          rw [ha, ha] at this
          exact ⟨this.1, by rw [Nat.add_assoc]; exact this.2⟩
    · obtain ⟨i, hi, e⟩ := List.mem_iff_getElem.1 hk
      have := (hk2 i (by omega)).2
      rwa [List.getElem?_eq_getElem hi, Option.getD_some, e] at this
end Go.Proofs.Ytecfenoidcolfaa.Ke
