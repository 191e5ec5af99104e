/-
  Clock: New, Late, Set, Clear, When, Next.
-/
import Derived.Test.YtkjpkhpiojahkaaCk1
namespace Go.Proofs.Ytkjpkhpiojahkaa
set_option linter.unusedVariables false
open Go.RowKit Hp
attribute [local go_sem] Oper.semAt_some
section
variable {w0 w : World} {R : Ast} {cb : Nat} {c : Ck}
set_option maxRecDepth 100000 in
set_option maxHeartbeats 2000000 in
theorem K_new (h : On w0 w R) : Calls Try.prog 72 #[] w fun e w' => ∃ cb, e = .returned (.pointer (some ⟨cb, 0, none⟩)) ∧ On w0 w' (sep (ckA cb Ck.new) R) := by
  have HT := Lib.hid (T_new h 512 (by decide) (by decide))
  clear h
  go_enter Try.func72, Try.ntmps72
  go_wp2_with fail
  refine HT.out.mono ?_
  rintro e w1 ⟨tb, rfl, h1⟩
  have H1 := Lib.hid h1
  clear h1
  go_wp2_with fail
  go_ret
  have e : Try.zeroCells172.setIfInBounds 0 (.pointer (some ⟨tb, 0, none⟩)) = ckCells tb (List.replicate 512 0) (.slice none 0 0) 0 0 := by kernel_rfl
  rw [e]
  have h2 := (H1.out.lat_nil).new1 172 (ckCells tb (List.replicate 512 0) (.slice none 0 0) 0 0)
  exact ⟨_, rfl, On.ck_shut (c := Ck.new) (h2.sw1)⟩
/-- is a lateness not one? -/
def badL (x : Int) : Bool := decide (x < 0) || decide (1073741824 < x)
set_option maxRecDepth 100000 in
set_option maxHeartbeats 2000000 in
theorem badL_ok (x : Int) (w : World) : Calls Try.prog 125 #[.int .i64 x] w fun e w' => e = .returned (.bool (badL x)) ∧ w = w' := by
  by_cases h1 : x < 0
  · have e : badL x = true := by unfold badL; rw [decide_eq_true h1]; rfl
    rw [e]
    clear e
    go_enter Try.func125, Try.ntmps125
    go_wp2_with fail
    go_ret
    exact ⟨rfl, rfl⟩
  · by_cases h2 : 1073741824 < x
    · have e : badL x = true := by unfold badL; rw [decide_eq_true h2, Bool.or_true]
      rw [e]
      clear e
      go_enter Try.func125, Try.ntmps125
      go_wp2_with fail
      go_ret
      exact ⟨rfl, rfl⟩
    · have e : badL x = false := by unfold badL; rw [decide_eq_false h1, decide_eq_false h2]; rfl
      rw [e]
      clear e
      go_enter Try.func125, Try.ntmps125
      go_wp2_with fail
      go_ret
      exact ⟨rfl, rfl⟩
theorem lateE_take {l : List Int} : (∀ x ∈ l, badL x = false) ↔ lateE l = 0 := by
  unfold lateE
  constructor
  · intro h
    rw [if_neg]
    intro hh
    obtain ⟨x, hx, h1⟩ := List.any_eq_true.1 hh
    have := h x hx
    unfold badL at this
    rw [this] at h1
    cases h1
  · intro h x hx
    split at h
    · cases h
    · rename_i h1
      cases hb : badL x with
      | false => rfl
      | true => exact absurd (List.any_eq_true.2 ⟨x, hx, hb⟩) h1
set_option maxRecDepth 100000 in
set_option maxHeartbeats 4000000 in
theorem indexB_ok (a : Option Addr) (cp : Nat) (zs : List Int) (w : World) (h : IntsAt w a zs) (hl : zs.length < 1000000) :
    Calls Try.prog 157 #[.slice a zs.length cp, .func (.func 125) #[] #[]] w fun e w' => (∃ i : Int, e = .returned (.int .i64 i) ∧ (0 ≤ i ↔ lateE zs ≠ 0)) ∧ w = w' := by
  obtain ⟨n, hn⟩ : ∃ n, zs.length = n := ⟨_, rfl⟩
  rw [hn] at hl ⊢
  have HC := Lib.hid h
  have HN := Lib.hid hn
  clear h hn
  go_enter Try.func157, Try.ntmps157
  go_wp2_with fail
  go_loopg [8] n (fun gh s8 wr => ∃ i : Nat, i + gh = n ∧ s8 = .int .i64 (i : Int) ∧ (∀ x ∈ zs.take i, badL x = false) ∧ w = wr)
  case atStart => exact ⟨0, by omega, rfl, fun x hx => by simp at hx, rfl⟩
  case round =>
    obtain ⟨i, hi, rfl, hb, rfl⟩ := hrel
    have HB := Lib.hid hb
    clear hb
    by_cases hlt : i < n
    · have hltI : (i : Int) < (n : Int) := by omega
      have hi0 : (0 : Int) ≤ (i : Int) := by omega
      obtain ⟨x, hx⟩ : ∃ x, zs[i]? = some x := ⟨_, List.getElem?_eq_getElem (by rw [HN.out]; exact hlt)⟩
      obtain ⟨b, off, rfl, _, hc⟩ := HC.out.row (by rw [HN.out]; omega)
      have q0 : w.cell? ⟨b, off + i, none⟩ = some (.int .i64 x) := by
        have := hc i (by rw [HN.out]; exact hlt)
        rw [hx] at this
        exact this
      have hbo := badL_ok x w
      obtain ⟨B, hB⟩ : ∃ B, badL x = B := ⟨_, rfl⟩
      rw [hB] at hbo
      have HBo := Lib.hid hbo
      have HX := Lib.hid hx
      have HBx := Lib.hid hB
      clear hc hx hbo hB
      cases B with
      | true =>
        go_wp2_with fail
        refine HBo.out.mono ?_
        rintro e w1 ⟨rfl, rfl⟩
        go_wp2_with fail
        go_ret
        refine ⟨⟨_, rfl, ⟨fun _ h0 => ?_, fun _ => hi0⟩⟩, rfl⟩
        have := lateE_take.2 h0 x (List.mem_of_getElem? HX.out)
        rw [HBx.out] at this
        cases this
      | false =>
        go_wp2_with fail
        refine HBo.out.mono ?_
        rintro e w1 ⟨rfl, rfl⟩
        go_wp2_with fail
        go_roundg (n - (i + 1))
        case measure => omega
        case rel =>
          refine ⟨i + 1, by omega, by go_num, fun y hy => ?_, rfl⟩
          rw [List.take_add_one, HX.out] at hy
          rcases List.mem_append.1 hy with hy | hy
          · exact HB.out y hy
          · have : y = x := by simpa using hy
            rw [this]
            exact HBx.out
    · have hin : i = n := by omega
      have HZ := Lib.hid (show lateE zs = 0 from lateE_take.1 (by have := HB.out; rw [List.take_of_length_le (by rw [HN.out]; omega)] at this; exact this))
      subst hin
      go_wp2_with fail
      go_ret
      exact ⟨⟨_, rfl, ⟨fun h => absurd h (by decide), fun h => absurd HZ.out h⟩⟩, rfl⟩
set_option maxRecDepth 100000 in
set_option maxHeartbeats 2000000 in
theorem containsB_ok (a : Option Addr) (cp : Nat) (zs : List Int) (w : World) (h : IntsAt w a zs) (hl : zs.length < 1000000) :
    Calls Try.prog 124 #[.slice a zs.length cp, .func (.func 125) #[] #[]] w fun e w' => e = .returned (.bool (decide (lateE zs ≠ 0))) ∧ w = w' := by
  have HI := Lib.hid (indexB_ok a cp zs w h hl)
  obtain ⟨n, hn⟩ : ∃ n, zs.length = n := ⟨_, rfl⟩
  rw [hn] at HI ⊢
  clear h hn hl
  go_enter Try.func124, Try.ntmps124
  go_wp2_with fail
  refine HI.out.mono ?_
  rintro e w1 ⟨⟨i, rfl, hi⟩, rfl⟩
  have HE := Lib.hid hi
  clear hi
  go_wp2_with fail
  go_ret
  refine ⟨?_, rfl⟩
  have := HE.out
  by_cases h0 : (0 : Int) ≤ i
  · rw [decide_eq_true (this.1 h0)]
    first | (rw [decide_eq_true h0]; done) | simp [h0]
  · rw [decide_eq_false (fun h => h0 (this.2 h))]
    first | (rw [decide_eq_false h0]; done) | simp [h0]
set_option maxRecDepth 100000 in
set_option maxHeartbeats 4000000 in
theorem K_late (h : On w0 w (sep (ckA cb c) R)) (ho : CkOk c) (a : Option Addr) (cp : Nat) (zs : List Int) (hr : ∀ A, On w0 A R → IntsAt A a zs) (hl : zs.length + c.lates.length < 1000000) :
    Calls Try.prog 74 #[.pointer (some ⟨cb, 0, none⟩), .slice a zs.length cp] w fun e w' => e = .returned (.int .i64 (lateE zs)) ∧ On w0 w' (sep (ckA cb (c.lateC zs)) R) := by
  have HCo := Lib.hid (containsB_ok a cp zs w (hr w h.out1) (by omega))
  obtain ⟨tb, v, h1⟩ := h.ck_open
  have c1 := h1.bxg (ck_lates ho.len)
  have c1f := (h1.box1 513).2
  have hrd : ReadsI w (.slice a zs.length cp) zs.length zs := reads_intsAt (hr w h.out1) rfl
  obtain ⟨va, vc, rfl, _⟩ := (h1.sw1.sw0).lat_read
  have H1 := Lib.hid (h1.sw1.sw0)
  have HRd := Lib.hid hrd
  have HLn := Lib.hid ho.len
  have hmx : c.lates.length + zs.length ≤ maxLen := by unfold maxLen; omega
  have hby : (c.lates.length + zs.length) * 8 ≤ 140737488355328 := by omega
  obtain ⟨n, hn⟩ : ∃ n, zs.length = n := ⟨_, rfl⟩
  rw [hn] at HCo HRd hmx hby ⊢
  obtain ⟨E, hE⟩ : ∃ E, lateE zs = E := ⟨_, rfl⟩
  rw [hE] at HCo ⊢
  have HE := Lib.hid hE
  have H := Lib.hid h
  clear h h1 hr hl hrd hn hE ho
  by_cases h0 : E = 0
  · subst h0
    rw [decide_eq_false (by simp)] at HCo
    go_enter Try.func74, Try.ntmps74
    go_wp2_with fail
    refine HCo.out.mono ?_
    rintro e w1 ⟨rfl, rfl⟩
    go_wp2_with (at_builtin; go_loud (refine wpList_append_lat (by rfl) _ _ (by rfl) (by rfl) H1.out (by rfl) HRd.out hmx hby ?_; intro v' w2 h2 _; (obtain ⟨qa, qc, rfl, _⟩ := h2.lat_read); (obtain ⟨L, hL⟩ : ∃ x, (c.lates ++ zs).length = x := ⟨_, rfl⟩); rw [hL] at h2 ⊢; (have d1 := (h2.sw0).bxg (ck_lates HLn.out)); (have d1f := ((h2.sw0).box1 513).2); (have H2 := Lib.hid ((h2.sw0).box_set 513 (.slice qa L qc))); clear h2 hL))
    go_ret
    refine ⟨rfl, ?_⟩
    have h3 := H2.out
    rw [ck_setLates HLn.out] at h3
    have e1 : c.lateC zs = { c with lates := c.lates ++ zs } := by unfold Ck.lateC; rw [if_pos HE.out]
    rw [e1]
    exact On.ck_shut (c := { c with lates := c.lates ++ zs }) (h3.sw1)
  · rw [decide_eq_true h0] at HCo
    have e1 : c.lateC zs = c := by unfold Ck.lateC; rw [if_neg (by rw [HE.out]; exact h0)]
    have e2 : E = 10 := by
      have := HE.out
      unfold lateE at this
      split at this
      · exact this.symm
      · exact absurd this.symm h0
    subst e2
    have HE1 := Lib.hid e1
    clear e1
    go_enter Try.func74, Try.ntmps74
    go_wp2_with fail
    refine HCo.out.mono ?_
    rintro e w1 ⟨rfl, rfl⟩
    go_wp2_with fail
    go_ret
    exact ⟨rfl, by rw [HE1.out]; exact H.out⟩
end
end Go.Proofs.Ytkjpkhpiojahkaa
