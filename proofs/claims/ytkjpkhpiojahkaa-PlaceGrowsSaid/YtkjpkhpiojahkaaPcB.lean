/-
  Place: Moves.
-/
import Derived.Test.YtkjpkhpiojahkaaPcA
import Derived.Test.YtkjpkhpiojahkaaPl5
import Derived.Test.YtkjpkhpiojahkaaPc5
namespace Go.Proofs.Ytkjpkhpiojahkaa
set_option linter.unusedVariables false
open Go.RowKit Hp
attribute [local go_sem] Oper.semAt_some
theorem intSlice : SliceOf Try.prog 54 3 1 8 := by
  obtain ⟨i, hi, h⟩ := Option.map_eq_some_iff.1 infoInt
  simp only [Prod.mk.injEq] at h
  exact ⟨Try.underlying54, ⟨i, .int .i64 0, hi, h.1, h.2.1, h.2.2, by simp [Value.cells]⟩, by decide⟩
theorem ints_snoc (l : List Int) (x : Int) : ints l ++ [.int .i64 x] = ints (l ++ [x]) := by unfold ints; rw [List.map_append]; rfl
theorem On.ints_nil {w0 w : World} {R : Ast} (h : On w0 w R) : On w0 w (sep (intsA (.slice none 0 0) []) R) :=
  h.add (Below.refl _ w) (F := fun _ => False) ⟨World.ownsRow_nil _ _ _ _, fun j => by simp [Value.ownBlock]⟩ (fun _ h => h.elim)
theorem reads_one {A : World} {b : Nat} {v : Value} (h : A.cell? ⟨b, 0, none⟩ = some v) : Reads A (.slice (some ⟨b, 0, none⟩) 1 1) 1 1 [v] :=
  .inr ⟨_, _, rfl, rfl, fun j u hu => by
    match j, hu with
    | 0, hu => cases hu; exact h⟩
def movE (a b : List Int) : Int := if workE a = 0 then (if workE b = 0 then (if a.length = b.length then 0 else 1) else workE b) else workE a
section
variable {w0 w : World} {R : Ast} {a b : List Int} {aa ba : Option Addr} {ac bc : Nat}
set_option maxRecDepth 100000 in
set_option maxHeartbeats 8000000 in
theorem moves_ok (h : On w0 w R) (ha : ∀ A, On w0 A R → IntsAt A aa a) (hal : a.length < 1000000) (haw : ∀ x ∈ a, (Lit.int .i64 x).wf = true) (hb : ∀ A, On w0 A R → IntsAt A ba b) (hbl : b.length < 1000000) (hbw : ∀ x ∈ b, (Lit.int .i64 x).wf = true) :
    Calls Try.prog 63 #[.slice aa a.length ac, .slice ba b.length bc] w fun e w' => ∃ v, e = .returned (.tuple #[v, .int .i64 (movE a b)]) ∧ (movE a b ≠ 0 → v = .slice none 0 0 ∧ On w0 w' R) ∧ (movE a b = 0 → On w0 w' (sep (intsA v (movesL a b)) R)) := by
  have HW1 := Lib.hid (fun (A : World) (hA : On w0 A R) => pworkers_ok aa ac a A (ha A hA) hal haw)
  have HW2 := Lib.hid (fun (A : World) (hA : On w0 A R) => pworkers_ok ba bc b A (hb A hA) hbl hbw)
  have HIa := Lib.hid ha
  have HIb := Lib.hid hb
  obtain ⟨E1, hE1⟩ : ∃ x, workE a = x := ⟨_, rfl⟩
  obtain ⟨E2, hE2⟩ : ∃ x, workE b = x := ⟨_, rfl⟩
  obtain ⟨G, hG⟩ : ∃ x, movE a b = x := ⟨_, rfl⟩
  have hg := hG
  rw [hG]
  unfold movE at hg
  rw [hE1, hE2] at hg
  rw [hE1] at HW1
  rw [hE2] at HW2
  obtain ⟨n, hn⟩ : ∃ x, a.length = x := ⟨_, rfl⟩
  obtain ⟨m, hm⟩ : ∃ x, b.length = x := ⟨_, rfl⟩
  rw [hn, hm] at hg
  rw [hn] at HW1 hal ⊢
  rw [hm] at HW2 hbl ⊢
  have HG := Lib.hid hg
  have HN := Lib.hid hn
  have HM := Lib.hid hm
  have H := Lib.hid h
  clear h ha haw hb hbw hE1 hE2 hG hg hn hm
  have hI0 : ∀ w, (Instr.index 166 (.agg #[.slice aa n ac, .slice ba m bc]) (.int .i64 0)).run Try.prog w = .ok (.slice aa n ac) w := fun w => by kernel_rfl
  have hI1 : ∀ w, (Instr.index 166 (.agg #[.slice aa n ac, .slice ba m bc]) (.int .i64 1)).run Try.prog w = .ok (.slice ba m bc) w := fun w => by kernel_rfl
  go_enter Try.func63, Try.ntmps63
  go_wp2_with fail
  go_loopg [15] 2 (fun gh s15 wr => ∃ i : Nat, i + gh = 2 ∧ s15 = .int .i64 (i : Int) ∧ (1 ≤ i → E1 = 0) ∧ (2 ≤ i → E2 = 0) ∧ On w0 wr R)
  case atStart => exact ⟨0, by omega, rfl, fun h => absurd h (by decide), fun h => absurd h (by decide), H.out⟩
  case round =>
    obtain ⟨i, hi, rfl, he1, he2, hon⟩ := hrel
    have h3 : i = 0 ∨ i = 1 ∨ i = 2 := by omega
    have HOn := Lib.hid hon
    rcases h3 with rfl | rfl | rfl
    · have HC := Lib.hid (HW1.out wr hon)
      clear hon he1 he2
      go_wp2_with fail
      refine HC.out.mono ?_
      rintro e x1 ⟨rfl, hb1⟩
      have H1 := Lib.hid (HOn.out.below hb1)
      clear hb1
      by_cases h0 : E1 = 0
      · subst h0
        go_wp2_with fail
        go_roundg 1
        case measure => omega
        case rel => exact ⟨1, by omega, by go_num, fun _ => trivial, fun h => absurd h (by decide), H1.out⟩
      · have z : (E1 != 0) = true := by simpa using h0
        have hg : G = E1 := by have := HG.out; rw [if_neg h0] at this; exact this.symm
        subst hg
        go_wp2_with fail
        go_ret2
        exact ⟨_, rfl, fun _ => ⟨rfl, H1.out⟩, fun h => absurd h h0⟩
    · have h10 := he1 (by decide)
      subst h10
      have HC := Lib.hid (HW2.out wr hon)
      clear hon he1 he2
      go_wp2_with fail
      refine HC.out.mono ?_
      rintro e x1 ⟨rfl, hb1⟩
      have H1 := Lib.hid (HOn.out.below hb1)
      clear hb1
      by_cases h0 : E2 = 0
      · subst h0
        go_wp2_with fail
        go_roundg 0
        case measure => omega
        case rel => exact ⟨2, by omega, by go_num, fun _ => trivial, fun _ => trivial, H1.out⟩
      · have z : (E2 != 0) = true := by simpa using h0
        have hg : G = E2 := by have := HG.out; simp only [if_true, if_neg h0] at this; exact this.symm
        subst hg
        go_wp2_with fail
        go_ret2
        exact ⟨_, rfl, fun _ => ⟨rfl, H1.out⟩, fun h => absurd h h0⟩
    · have h10 := he1 (by decide)
      have h20 := he2 (by decide)
      subst h10
      subst h20
      have hg := HG.out
      simp only [if_true] at hg
      have H1 := Lib.hid hon.ints_nil
      clear hon he1 he2 HOn
      obtain ⟨w9, hw9⟩ : ∃ x, x = wr := ⟨_, rfl⟩
      subst hw9
      by_cases hnm : n = m
      · rw [if_pos hnm] at hg
        subst hg
        subst hnm
        go_wp2_with fail
        go_loopg [9, 31] n (fun gh s9 s31 wr => ∃ i : Nat, i + gh = n ∧ s31 = .int .i64 (i : Int) ∧ On w0 wr (sep (intsA s9 (movesN a b i)) R))
        case atStart => exact ⟨0, by omega, rfl, H1.out⟩
        case round =>
          obtain ⟨i, hi, rfl, hon⟩ := hrel
          by_cases hlt : i < n
          · have hltI : (i : Int) < (n : Int) := by omega
            have hi0 : (0 : Int) ≤ (i : Int) := by omega
            obtain ⟨bb, off, rfl, hbl, hc⟩ := (HIb.out wr hon.out1).row (by rw [HM.out]; omega)
            obtain ⟨ab, aof, rfl, hal2, hd⟩ := (HIa.out wr hon.out1).row (by rw [HN.out]; omega)
            obtain ⟨x, hx⟩ : ∃ x, b[i]? = some x := ⟨_, List.getElem?_eq_getElem (by rw [HM.out]; exact hlt)⟩
            obtain ⟨y, hy⟩ : ∃ y, a[i]? = some y := ⟨_, List.getElem?_eq_getElem (by rw [HN.out]; exact hlt)⟩
            have q0 : wr.cell? ⟨bb, off + i, none⟩ = some (.int .i64 x) := by
              have := hc i (by rw [HM.out]; exact hlt)
              rw [hx] at this
              exact this
            have q1 : wr.cell? ⟨ab, aof + i, none⟩ = some (.int .i64 y) := by
              have := hd i (by rw [HN.out]; exact hlt)
              rw [hy] at this
              exact this
            have hms := movesN_succ a b i
            rw [hx, hy] at hms
            simp only [Option.getD_some] at hms
            have hml := movesN_length a b i
            have HOn := Lib.hid hon
            by_cases hx1 : x = -1
            · subst hx1
              rw [if_neg (by simp)] at hms
              have HMs := Lib.hid hms
              clear hon hbl hc hal2 hd hx hy hms
              go_wp2_with fail
              go_roundg (n - (i + 1))
              case measure => omega
              case rel => exact ⟨i + 1, by omega, by go_num, by rw [HMs.out]; exact HOn.out⟩
            · have z1 : (x != -1) = true := by simpa using hx1
              by_cases hxy : x = y
              · subst hxy
                rw [if_neg (by simp)] at hms
                have HMs := Lib.hid hms
                have z2 : (x != x) = false := by simp
                clear hon hbl hc hal2 hd hx hy hms
                go_wp2_with fail
                go_roundg (n - (i + 1))
                case measure => omega
                case rel => exact ⟨i + 1, by omega, by go_num, by rw [HMs.out]; exact HOn.out⟩
              · have z2 : (x != y) = true := by simpa using hxy
                rw [if_pos (by rw [z1, z2]; rfl)] at hms
                obtain ⟨M, hM⟩ : ∃ M, movesN a b i = M := ⟨_, rfl⟩
                rw [hM] at hml hms
                have HMs := Lib.hid hms
                obtain ⟨k, hk⟩ : ∃ k, M.length = k := ⟨_, rfl⟩
                rw [hk] at hml
                have h1 := hon.new1 3 #[.int .i64 (i : Int)]
                rw [hM] at h1
                obtain ⟨bz, hbz⟩ : ∃ x, wr.heap.size = x := ⟨_, rfl⟩
                obtain ⟨W, hW⟩ : ∃ x, wr.alloc (.cells #[.int .i64 (i : Int)] 3) = x := ⟨_, rfl⟩
                rw [hW, hbz] at h1
                have HRd := Lib.hid (reads_one (h1.bx 0 rfl))
                obtain ⟨F, hF, _⟩ := h1.sw0.get1
                have hown := hF.1
                rw [hk] at hown
                have HOw := Lib.hid hown
                have HM2 := Lib.hid hM
                have HK := Lib.hid hk
                have H1' := Lib.hid h1.sw0
                have hmx : k + 1 ≤ maxLen := by unfold maxLen; omega
                have hby : (k + 1) * 8 ≤ 140737488355328 := by omega
                have hone : ∀ u ∈ [Value.int .i64 (i : Int)], u.oneCell' = true := by simp; rfl
                clear hon hbl hc hal2 hd hx hy hms hM hk h1 hF hown
                go_wp2_with (at_builtin; go_loud (refine wpList_append_any (by rfl) _ _ 54 (by rfl) 3 1 8 intSlice _ k (ints M) (by rfl) HOw.out (.slice (some ⟨bz, 0, none⟩) 1 1) 1 [.int .i64 (i : Int)] (by rfl) HRd.out hone hmx hby ?_; intro v' w2 hown hgrow hat; have HOw2 := Lib.hid hown; have HGr := Lib.hid hgrow; have HAt := Lib.hid hat; clear hown hgrow hat))
                have h2 := H1'.out.row_push (Below.refl _ _) HGr.out HOw2.out HAt.out
                rw [ints_snoc, ← HMs.out, show k + 1 = (movesN a b (i + 1)).length from by rw [HMs.out, List.length_append, HK.out]; rfl] at h2
                have H3 := Lib.hid h2.sw0.out1
                clear h2
                go_roundg (n - (i + 1))
                case measure => omega
                case rel => exact ⟨i + 1, by omega, by go_num, H3.out⟩
          · have hin : i = n := by omega
            subst hin
            have H2 := Lib.hid hon
            clear hon
            go_wp2_with fail
            go_ret2
            exact ⟨_, rfl, by rw [show movesL a b = movesN a b i from by unfold movesL; rw [HM.out]]; exact H2.out⟩
      · have z : ((n : Int) != (m : Int)) = true := by simp; omega
        rw [if_neg hnm] at hg
        subst hg
        go_wp2_with fail
        go_ret2
        exact ⟨_, rfl, rfl, H1.out.out1⟩
end
end Go.Proofs.Ytkjpkhpiojahkaa
