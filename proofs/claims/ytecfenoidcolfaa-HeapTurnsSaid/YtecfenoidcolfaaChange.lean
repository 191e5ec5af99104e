/-
  Walk: Change.
-/
import Derived.Test.YtecfenoidcolfaaAll
namespace Go.Proofs.Ytecfenoidcolfaa
set_option linter.unusedVariables false
open Go.RowKit Hp

theorem Raw.set_key {w : World} {A : List (It Int)} {g cap : Nat} (h : w.ownsRow 0 119 2 (.slice (some ⟨g, 0, none⟩) A.length cap) A.length (A.flatMap itC)) {i : Nat} {id k0 : Int} (hi : A[i]? = some (id, k0)) (k : Int) :
    (w.setCell ⟨g, i * 2 + 1, none⟩ (.int .i64 k)).ownsRow 0 119 2 (.slice (some ⟨g, 0, none⟩) A.length cap) A.length ((A.set i (id, k)).flatMap itC) := by
  have hil := (List.getElem?_eq_some_iff.1 hi).1
  have h2 := own_setG (i := i * 2 + 1) (y := .int .i64 k) h
  have hl := flat_length itC 2 itC_len A
  have e := flat_set itC 2 itC_len A i (id, k) hil ((A.flatMap itC).set (i * 2 + 1) (.int .i64 k)) (by simp [hl]) (fun j hj => by
    rw [List.getElem?_set]
    by_cases h1 : i * 2 + 1 = j
    · subst h1
      simp [hl, hj, itC]
    · rw [if_neg h1]
      by_cases h3 : i * 2 = j
      · subst h3
        have := flat_at itC 2 itC_len A i 0 _ hi (by omega)
        rw [Nat.add_zero] at this
        rw [this]
        simp [itC]
      · rw [if_neg (by omega)])
  rw [← e]
  exact h2

section
variable {w : World} {hb lf : Nat} {lt : Int → Int → Bool} {F : Nat → Prop} {M : List (It Int)}

set_option maxRecDepth 100000 in
set_option maxHeartbeats 4000000 in
theorem Change_same (HL : LessI lf lt) (h : HeapAt w hb lf lt F M) {id k0 : Int} (hm : (id, k0) ∈ M) (k : Int) (hM : M.length < 1000000) :
    Calls Try.prog 37 #[.pointer (some ⟨hb, 0, none⟩), .int .i64 id, .int .i64 k] w fun e w' => e = .returned (.int .i64 0) ∧ HeapSame w w' hb lf lt F ((id, k) :: M.erase (id, k0)) := by
  have hwf := (h.ids _ hm).2
  obtain ⟨v, mb, A, f, hraw, hheap, hpos, hperm, hids, hF1, hF2, hF3⟩ := h
  obtain ⟨i, hi, hf⟩ := HeapAt.place hraw hpos hperm hm
  have hth := there_some hraw hwf hf
  have hc1 := hraw.c1
  have hlt := hraw.lt
  have hil := (List.getElem?_eq_some_iff.1 hi).1
  have hAl : A.length < 1000000 := by rw [hperm.length_eq]; exact hM
  have hyd : A.getD i (0, 0) = (id, k0) := by rw [getD_of (by omega)]; rw [List.getElem?_eq_getElem (by omega)] at hi; exact Option.some.inj hi
  obtain ⟨g, cap, rfl, d0, d1, d2, d3, hg⟩ := hraw.cell hi
  dsimp only at d0 d1
  have hgg := hraw.own_ne (j := g) rfl
  have hset : Mod (fun j => j = g) w (w.setCell ⟨g, i * 2 + 1, none⟩ (.int .i64 k)) := (Mod.refl (fun j => j = g) w).setCell (p := ⟨g, i * 2 + 1, none⟩) (fun _ => rfl) _
  have hrW : Raw (w.setCell ⟨g, i * 2 + 1, none⟩ (.int .i64 k)) hb lf (.slice (some ⟨g, 0, none⟩) A.length cap) mb (A.set i (id, k)) A.length f :=
    ⟨hset.obj hraw.st (fun e => hgg.1 e.symm), by rw [List.length_set]; exact Raw.set_key hraw.row hi k, hraw.map.mod hset (fun e => hgg.2.1 e.symm)⟩
  have hpos1 : Pos (A.set i (id, k)) (0, 0) f := by
    have := hpos.change hil k
    rwa [hyd] at this
  have hcp := change_perm hil (0, 0) (id, k)
  rw [hyd] at hcp
  have hids2 : ∀ y ∈ A.set i (id, k), 0 ≤ y.1 ∧ (Lit.int .i64 y.1).wf = true := fun y hy => by
    rcases List.mem_cons.1 (hcp.mem_iff.1 hy) with rfl | h
    · exact hids (id, k0) hm
    · exact hids y (hperm.mem_iff.1 (List.mem_of_mem_erase h))
  have hup := up_then HL hrW hil hheap hpos1 (fun y hy => (hids2 y hy).2) (by unfold maxLen; omega) (by omega)
  have hfoot : ∀ j, Foot (.slice (some ⟨g, 0, none⟩) A.length cap) mb j → F j := hF2
  have hfin : ∀ (w' : World) (A' : List (It Int)) (f' : Int → Option Nat), Mod F w w' → Raw w' hb lf (.slice (some ⟨g, 0, none⟩) A.length cap) mb A' A.length f' → A'.Perm (A.set i (id, k)) → IsHeap lt A' (0, 0) → Pos A' (0, 0) f' →
      HeapSame w w' hb lf lt F ((id, k) :: M.erase (id, k0)) := fun w' A' f' h1 h2 h3 h4 h5 => by
    have hl : A'.length = A.length := by rw [h3.length_eq, List.length_set]
    have hp : A'.Perm ((id, k) :: M.erase (id, k0)) := h3.trans (hcp.trans ((hperm.erase _).cons _))
    exact ⟨⟨_, mb, A', f', by rw [hl]; exact h2, h4, h5, hp, fun x hx => hids2 x (h3.mem_iff.1 (hp.mem_iff.2 hx)), hF1, hF2, fun j hj => Nat.lt_of_lt_of_le (hF3 j hj) h1.size⟩, h1⟩
  have hMs : Mod F w (w.setCell ⟨g, i * 2 + 1, none⟩ (.int .i64 k)) := hset.mono (fun j hj _ => by rw [hj]; exact hF2 g (.inl rfl))
  have hi0 : (0 : Int) ≤ (i : Int) := by omega
  have hilI : (i : Int) < (A.length : Int) := by omega
  have HTh := Lib.hid hth
  have HUp := Lib.hid hup
  have HFin := Lib.hid hfin
  have HFoot := Lib.hid hfoot
  have HIds := Lib.hid hids2
  have HMs := Lib.hid hMs
  clear hth hup hfin hfoot hids2 hMs hids hF1 hF2 hF3 hcp hpos1 hrW hset hgg hyd hf hi hm hwf hperm hpos hheap hraw
  go_enter Try.func37, Try.ntmps37
  go_wp2_with (first | (go_at_call 72; refine HTh.out.mono ?_; rintro e w' ⟨rfl, rfl⟩))
  refine HUp.out.mono ?_
  rintro e w4 ⟨rfl, A', f', i', hr4, hp4, hpos4, hm4, hi4, hfx4, hxe4, hdn4⟩
  have c4 := hr4.c2
  have hA'l : A'.length = A.length := by rw [hp4.length_eq, List.length_set]
  have hlk : (Instr.lookup 114 (.map (some mb)) (.int .i64 id) false).run Try.prog w4 = .ok (.int .i64 (i' : Int)) w4 := by
    have := hr4.map.toI.lookup (t := 114) (e := 3) Try.underlying3 Try.underlying114 (zero3 w4) (x := id) (HIds.out (id, k) (List.mem_of_getElem? (i := i) (by rw [List.getElem?_set_self hil]))).2
    rw [lift_some hfx4] at this
    exact this
  have hdown := down_any HL hr4 hi4 hdn4 (hpos4.but hi4) (fun y hy => (HIds.out y (hp4.mem_iff.1 hy)).2) (by unfold maxLen; omega) (by omega)
  rw [hxe4, hfx4, show (some i').isSome = true from rfl, if_pos rfl] at hdown
  have HDown := Lib.hid hdown
  have HM4 := Lib.hid (HMs.out.trans hm4 (fun j hj _ => HFoot.out j hj))
  have HP4 := Lib.hid hp4
  clear hr4 hp4 hpos4 hm4 hi4 hfx4 hxe4 hdn4 hdown hA'l
  go_wp2_with (first | (go_at_call 80; refine HDown.out.mono ?_; rintro e w5 ⟨rfl, A5, f5, hr5, hp5, hh5, hpos5, hm5⟩; have HTo := Lib.hid (HFin.out w5 A5 f5 (HM4.out.trans hm5 (fun j hj _ => HFoot.out j hj)) hr5 (hp5.trans HP4.out) hh5 hpos5); clear hr5 hp5 hh5 hpos5 hm5))
  go_ret
  exact ⟨rfl, HTo.out⟩
end
end Go.Proofs.Ytecfenoidcolfaa
