/-
  The document's clock in memory: First, drop.
-/
import Derived.Test.YtkjpkhpiojahkaaRk1
namespace Go.Proofs.Ytkjpkhpiojahkaa
set_option linter.unusedVariables false
open Go.RowKit Hp
attribute [local go_sem] Oper.semAt_some
/-- the best of the first ones -/
def BestTo (L : List Tm) (j : Nat) (x : Int) : Prop := (x = -1 ∧ j = 0) ∨ ∃ (o : Nat) (b : Tm), x = (o : Int) ∧ o < j ∧ L[o]? = some b ∧ ∀ p u, p < j → L[p]? = some u → ¬ tmBef u b
theorem BestTo.all {L : List Tm} {x : Int} (h : BestTo L L.length x) : FirstIs L x := by
  rcases h with ⟨h1, h2⟩ | ⟨o, b, h1, h2, h3, h4⟩
  · exact .inl ⟨h1, List.eq_nil_of_length_eq_zero h2⟩
  · refine .inr ⟨o, b, h1, h3, fun u hu => ?_⟩
    obtain ⟨p, hp, e⟩ := List.mem_iff_getElem.1 hu
    exact h4 p u hp (by rw [List.getElem?_eq_getElem hp, e])
theorem tmBef_irr (t : Tm) : ¬ tmBef t t := by unfold tmBef; omega
theorem tmBef_trans {a b c : Tm} (h1 : tmBef a b) (h2 : ¬ tmBef c b) : ¬ tmBef c a := by unfold tmBef at *; omega
theorem BestTo.keep {L : List Tm} {j o : Nat} {b t : Tm} (hb : L[o]? = some b) (ho : o < j) (h : ∀ p u, p < j → L[p]? = some u → ¬ tmBef u b) (ht : L[j]? = some t) (hn : ¬ tmBef t b) : BestTo L (j + 1) (o : Int) :=
  .inr ⟨o, b, rfl, by omega, hb, fun p u hp hu => by
    by_cases hpj : p = j
    · subst hpj
      rw [ht] at hu
      cases hu
      exact hn
    · exact h p u (by omega) hu⟩
theorem BestTo.take {L : List Tm} {j : Nat} {b t : Tm} (h : ∀ p u, p < j → L[p]? = some u → ¬ tmBef u b) (ht : L[j]? = some t) (hn : tmBef t b) : BestTo L (j + 1) (j : Int) :=
  .inr ⟨j, t, rfl, by omega, ht, fun p u hp hu => by
    by_cases hpj : p = j
    · subst hpj
      rw [ht] at hu
      cases hu
      exact tmBef_irr _
    · exact tmBef_trans hn (h p u (by omega) hu)⟩
section
variable {w0 w : World} {R : Ast} {rb : Nat} {r : Rk} {L : List Tm}
set_option maxRecDepth 100000 in
set_option maxHeartbeats 8000000 in
theorem RK_first (h : On w0 w (sep (rkA rb r) R)) (hl : r.L.length < 100000) :
    Calls Try.prog 135 #[.pointer (some ⟨rb, 0, none⟩)] w fun e w' => (∃ x, e = .returned (.int .i64 x) ∧ FirstIs r.L x) ∧ Below w.heap.size w w' := by
  obtain ⟨v1, v2, h⟩ := h.rk_open
  obtain ⟨a, c, rfl, _⟩ := h.sw0.tms_form
  have h' : On w0 w (sep (boxA rb 116 #[.slice a r.L.length c, v2, .int .i64 r.now, .int .i64 r.worst]) (sep (tmsA (.slice a r.L.length c) r.L) (sep (latA v2 r.lates) R))) := h
  obtain ⟨n, hn⟩ : ∃ n, r.L.length = n := ⟨_, rfl⟩
  rw [hn] at h' hl
  have H := Lib.hid h'.sw0
  have HN := Lib.hid hn
  clear h h' hn
  go_enter Try.func135, Try.ntmps135
  go_wp2_with fail
  go_loopg [3, 4] n (fun gh s3 s4 wr => ∃ (j : Nat) (x : Int), j + gh = n ∧ s3 = .int .i64 x ∧ s4 = .int .i64 (j : Int) ∧ BestTo r.L j x ∧ Below w.heap.size w wr)
  case atStart => exact ⟨0, -1, by omega, rfl, rfl, .inl ⟨rfl, rfl⟩, Below.refl _ _⟩
  case round =>
    obtain ⟨j, x, hj, rfl, rfl, hb, hbl⟩ := hrel
    have hw := H.out.below hbl
    have q0 := hw.sw0.bx 0 rfl
    have HBl := Lib.hid hbl
    by_cases hlt : j < n
    · have hltI : (j : Int) < (n : Int) := by omega
      have hj0 : (0 : Int) ≤ (j : Int) := by omega
      obtain ⟨t, ht⟩ : ∃ t, r.L[j]? = some t := ⟨_, List.getElem?_eq_getElem (by rw [HN.out]; exact hlt)⟩
      obtain ⟨g, rfl, c0, c1, c2, c3⟩ := hw.tms_at ht
      have HT := Lib.hid ht
      clear ht
      rcases hb with ⟨rfl, rfl⟩ | ⟨o, b, rfl, ho, hob, hbb⟩
      · clear hbl hw c0 c1 c2 c3
        go_wp2_with fail
        go_roundg (n - (0 + 1))
        case measure => omega
        case rel => exact ⟨0 + 1, 0, by omega, by go_num, by go_num, .inr ⟨0, t, rfl, by omega, HT.out, fun p u hp hu => by
          have : p = 0 := by omega
          subst this
          rw [HT.out] at hu
          cases hu
          exact tmBef_irr _⟩, HBl.out⟩
      · have hoI : (o : Int) < (n : Int) := by omega
        have ho0 : (0 : Int) ≤ (o : Int) := by omega
        have ho1 : ¬ (o : Int) < 0 := by omega
        obtain ⟨b5, hb5⟩ : ∃ b, wr.heap.size = b := ⟨_, rfl⟩
        obtain ⟨W1, hW1⟩ : ∃ x, wr.alloc (.cells #[.int .i64 t.kind, .int .i64 t.id, .int .i64 t.at', .int .i64 t.fires] 124) = x := ⟨_, rfl⟩
        have h1 := hw.new1 124 #[.int .i64 t.kind, .int .i64 t.id, .int .i64 t.at', .int .i64 t.fires]
        rw [hW1, hb5] at h1
        have r0 := (h1.sw1.sw0).bx 0 rfl
        obtain ⟨_, e1, d0, d1, d2, d3⟩ := h1.sw0.tms_at hob
        cases e1
        obtain ⟨b6, hb6⟩ : ∃ b, W1.heap.size = b := ⟨_, rfl⟩
        obtain ⟨W2, hW2⟩ : ∃ x, W1.alloc (.cells #[.int .i64 b.kind, .int .i64 b.id, .int .i64 b.at', .int .i64 b.fires] 124) = x := ⟨_, rfl⟩
        have h2 := h1.new1 124 #[.int .i64 b.kind, .int .i64 b.id, .int .i64 b.at', .int .i64 b.fires]
        rw [hW2, hb6] at h2
        have m00 := (h2).bx 0 rfl
        have m01 := (h2).bx 1 rfl
        have m03 := (h2).bx 3 rfl
        have m10 := (h2.sw0).bx 0 rfl
        have m11 := (h2.sw0).bx 1 rfl
        have m13 := (h2.sw0).bx 3 rfl
        have HB2 := Lib.hid (show Below w.heap.size w W2 by
          rw [← hW2, ← hW1]
          exact (hbl.alloc hbl.size _).alloc (Nat.le_trans hbl.size (by simp)) _)
        have HOb := Lib.hid hob
        have HBb := Lib.hid hbb
        have HTake := Lib.hid (fun hn : tmBef t b => BestTo.take hbb HT.out hn)
        have HKeep := Lib.hid (fun hn : ¬ tmBef t b => BestTo.keep hob ho hbb HT.out hn)
        clear hbl hw h1 h2 hob hbb
        by_cases hf : t.fires < b.fires
        · have HX := Lib.hid (HTake.out (by unfold tmBef; omega))
          go_wp2_with fail
          go_roundg (n - (j + 1))
          case measure => omega
          case rel => exact ⟨j + 1, j, by omega, rfl, by go_num, HX.out, HB2.out⟩
        · by_cases hf2 : t.fires = b.fires
          · have z0 : (t.fires == b.fires) = true := by simpa using hf2
            by_cases hk : t.kind < b.kind
            · have HX := Lib.hid (HTake.out (by unfold tmBef; omega))
              clear hf2
              go_wp2_with fail
              go_roundg (n - (j + 1))
              case measure => omega
              case rel => exact ⟨j + 1, j, by omega, rfl, by go_num, HX.out, HB2.out⟩
            · by_cases hk2 : t.kind = b.kind
              · have z1 : (t.kind == b.kind) = true := by simpa using hk2
                by_cases hi : t.id < b.id
                · have HX := Lib.hid (HTake.out (by unfold tmBef; omega))
                  clear hf2 hk2
                  go_wp2_with fail
                  go_roundg (n - (j + 1))
                  case measure => omega
                  case rel => exact ⟨j + 1, j, by omega, rfl, by go_num, HX.out, HB2.out⟩
                · have HX := Lib.hid (HKeep.out (by unfold tmBef; omega))
                  clear hf2 hk2
                  go_wp2_with fail
                  go_roundg (n - (j + 1))
                  case measure => omega
                  case rel => exact ⟨j + 1, o, by omega, rfl, by go_num, HX.out, HB2.out⟩
              · have z1 : (t.kind == b.kind) = false := by simpa using hk2
                have HX := Lib.hid (HKeep.out (by unfold tmBef; omega))
                clear hf2 hk2
                go_wp2_with fail
                go_roundg (n - (j + 1))
                case measure => omega
                case rel => exact ⟨j + 1, o, by omega, rfl, by go_num, HX.out, HB2.out⟩
          · have z0 : (t.fires == b.fires) = false := by simpa using hf2
            have HX := Lib.hid (HKeep.out (by unfold tmBef; omega))
            clear hf2
            go_wp2_with fail
            go_roundg (n - (j + 1))
            case measure => omega
            case rel => exact ⟨j + 1, o, by omega, rfl, by go_num, HX.out, HB2.out⟩
    · have hjn : j = n := by omega
      subst hjn
      have HX := Lib.hid (show FirstIs r.L x from BestTo.all (by rw [HN.out]; exact hb))
      clear hb hbl hw
      go_wp2_with fail
      go_ret
      exact ⟨⟨_, rfl, HX.out⟩, HBl.out⟩
end
end Go.Proofs.Ytkjpkhpiojahkaa
