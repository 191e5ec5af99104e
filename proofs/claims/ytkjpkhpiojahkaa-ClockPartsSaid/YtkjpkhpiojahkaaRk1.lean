/-
  The document's clock in memory: At, First, May, Time.
-/
import Derived.Test.YtkjpkhpiojahkaaRk0
namespace Go.Proofs.Ytkjpkhpiojahkaa
set_option linter.unusedVariables false
open Go.RowKit Hp
attribute [local go_sem] Oper.semAt_some
def tmC (t : Tm) : List Value := [.int .i64 t.kind, .int .i64 t.id, .int .i64 t.at', .int .i64 t.fires]
theorem tmC_len (t : Tm) : (tmC t).length = 4 := rfl
def tmsA (v : Value) (L : List Tm) : Ast := rowA v 124 4 L.length (L.flatMap tmC)
theorem Plain.tms (v : Value) (L : List Tm) : Plain (tmsA v L) := Plain.row _ _ _ _ _
theorem info124 : (Try.prog.info? 124).map (fun i => (i.zero, i.size, i.bytes)) = some (some (.agg #[.int .i64 0, .int .i64 0, .int .i64 0, .int .i64 0]), 4, 32) := by kernel_rfl
theorem tmSlice : SliceOf Try.prog 114 124 4 32 := by
  obtain ⟨i0, hi0, hz0, hz1, hz2⟩ := info_parts2 info124
  exact ⟨Try.underlying114, ⟨i0, _, hi0, hz0, hz1, hz2, rfl⟩, by omega⟩
theorem tmsA_nil (w : World) : (tmsA (.slice none 0 0) []).holds w (fun _ => False) := ⟨World.ownsRow_nil _ _ _ _, fun j => by simp [Value.ownBlock]⟩
def rkA (rb : Nat) (r : Rk) : Ast := exA fun p : Value × Value => sep (boxA rb 116 #[p.1, p.2, .int .i64 r.now, .int .i64 r.worst]) (sep (tmsA p.1 r.L) (latA p.2 r.lates))
theorem Plain.rk (rb : Nat) (r : Rk) : Plain (rkA rb r) := Plain.ex fun _ => (Plain.box _ _ _).sep ((Plain.tms _ _).sep (Plain.lat _ _))
section
variable {w0 w : World} {R : Ast} {rb : Nat} {r : Rk} {L : List Tm}
theorem On.rk_open (h : On w0 w (sep (rkA rb r) R)) : ∃ v1 v2, On w0 w (sep (boxA rb 116 #[v1, v2, .int .i64 r.now, .int .i64 r.worst]) (sep (tmsA v1 r.L) (sep (latA v2 r.lates) R))) := by
  obtain ⟨⟨v1, v2⟩, h⟩ := h.ex_open
  exact ⟨v1, v2, ((h.assoc.sw0.assoc).sw1.sw0)⟩
theorem On.rk_shut {v1 v2 : Value} (h : On w0 w (sep (boxA rb 116 #[v1, v2, .int .i64 r.now, .int .i64 r.worst]) (sep (tmsA v1 r.L) (sep (latA v2 r.lates) R)))) : On w0 w (sep (rkA rb r) R) := by
  have h1 := (h.sw0.sw1)
  exact On.ex_shut (f := fun p : Value × Value => sep (boxA rb 116 #[p.1, p.2, .int .i64 r.now, .int .i64 r.worst]) (sep (tmsA p.1 r.L) (latA p.2 r.lates))) (v1, v2) (On.assoc' (On.sw0 (On.assoc' h1)))
theorem On.tms_form {v : Value} (h : On w0 w (sep (tmsA v L) R)) : ∃ a c, v = .slice a L.length c ∧ L.length ≤ c := by
  obtain ⟨F, ⟨how, _⟩, _⟩ := h.get1
  rcases own_parts how with ⟨h1, h2⟩ | ⟨_, _, _, h1, _, _, h3, _⟩
  · exact ⟨_, 0, by rw [h2]; exact h1, by omega⟩
  · exact ⟨_, _, h1, h3⟩
theorem On.tms_at {a : Option Addr} {n c k : Nat} {t : Tm} (h : On w0 w (sep (tmsA (.slice a n c) L) R)) (ht : L[k]? = some t) :
    ∃ b, a = some ⟨b, 0, none⟩ ∧ w.cell? ⟨b, k * 4, none⟩ = some (.int .i64 t.kind) ∧ w.cell? ⟨b, k * 4 + 1, none⟩ = some (.int .i64 t.id) ∧ w.cell? ⟨b, k * 4 + 2, none⟩ = some (.int .i64 t.at') ∧ w.cell? ⟨b, k * 4 + 3, none⟩ = some (.int .i64 t.fires) := by
  obtain ⟨F, ⟨how, _⟩, _⟩ := h.get1
  have hk := (List.getElem?_eq_some_iff.1 ht).1
  rcases own_parts how with ⟨_, h2⟩ | ⟨g, cap, cur, h1, _⟩
  · omega
  · cases h1
    have e : ∀ j u, (tmC t)[j]? = some u → j < 4 → w.cell? ⟨g, k * 4 + j, none⟩ = some u := fun j u hu hj => own_cellG how (by rw [flat_at tmC 4 tmC_len L k j t ht hj]; exact hu)
    exact ⟨g, rfl, e 0 _ rfl (by decide), e 1 _ rfl (by decide), e 2 _ rfl (by decide), e 3 _ rfl (by decide)⟩
set_option maxRecDepth 100000 in
theorem RK_may (k i : Int) (w : World) : Calls Try.prog 133 #[.int .i64 k, .int .i64 i] w fun e w' => e = .returned (.bool (decide (mayT k i))) ∧ w = w' := by
  have e : decide (mayT k i) = (decide (0 ≤ k) && (decide (k ≤ 7) && (decide (0 ≤ i) && decide (i ≤ 63)))) := by
    rw [Bool.eq_iff_iff]
    simp only [Bool.and_eq_true, decide_eq_true_eq]
    unfold mayT
    omega
  rw [e]
  clear e
  by_cases h1 : 0 ≤ k
  · rw [decide_eq_true h1]
    by_cases h2 : k ≤ 7
    · rw [decide_eq_true h2]
      by_cases h3 : 0 ≤ i
      · rw [decide_eq_true h3]
        go_enter Try.func133, Try.ntmps133
        go_wp2_with fail
        go_ret
        exact ⟨rfl, rfl⟩
      · rw [decide_eq_false h3]
        go_enter Try.func133, Try.ntmps133
        go_wp2_with fail
        go_ret
        exact ⟨rfl, rfl⟩
    · rw [decide_eq_false h2]
      go_enter Try.func133, Try.ntmps133
      go_wp2_with fail
      go_ret
      exact ⟨rfl, rfl⟩
  · rw [decide_eq_false h1]
    go_enter Try.func133, Try.ntmps133
    go_wp2_with fail
    go_ret
    exact ⟨rfl, rfl⟩
theorem RK_time (t : Int) (w : World) : Calls Try.prog 136 #[.int .i64 t] w fun e w' => e = .returned (.int .i64 (timeE t)) ∧ w = w' := by
  unfold timeE
  by_cases h1 : t < 0
  · rw [if_pos h1]
    go_enter Try.func136, Try.ntmps136
    go_wp2_with fail
    go_ret
    exact ⟨rfl, rfl⟩
  · rw [if_neg h1]
    by_cases h2 : 1099511627776 ≤ t
    · rw [if_pos h2]
      go_enter Try.func136, Try.ntmps136
      go_wp2_with fail
      go_ret
      exact ⟨rfl, rfl⟩
    · rw [if_neg h2]
      go_enter Try.func136, Try.ntmps136
      go_wp2_with fail
      go_ret
      exact ⟨rfl, rfl⟩
set_option maxRecDepth 100000 in
set_option maxHeartbeats 4000000 in
theorem RK_at (h : On w0 w (sep (rkA rb r) R)) (hl : r.L.length < 100000) (k i : Int) :
    Calls Try.prog 134 #[.pointer (some ⟨rb, 0, none⟩), .int .i64 k, .int .i64 i] w fun e w' => (∃ x, e = .returned (.int .i64 x) ∧ AtIs r.L k i x) ∧ w = w' := by
  obtain ⟨v1, v2, h⟩ := h.rk_open
  obtain ⟨a, c, rfl, _⟩ := h.sw0.tms_form
  have h' : On w0 w (sep (boxA rb 116 #[.slice a r.L.length c, v2, .int .i64 r.now, .int .i64 r.worst]) (sep (tmsA (.slice a r.L.length c) r.L) (sep (latA v2 r.lates) R))) := h
  obtain ⟨n, hn⟩ : ∃ n, r.L.length = n := ⟨_, rfl⟩
  rw [hn] at h' hl
  have q0 := h'.bx 0 rfl
  have H := Lib.hid h'.sw0
  have HN := Lib.hid hn
  clear h h' hn
  go_enter Try.func134, Try.ntmps134
  go_wp2_with fail
  go_loopg [7] n (fun gh s7 wr => ∃ j : Nat, j + gh = n ∧ s7 = .int .i64 (j : Int) ∧ (∀ t ∈ r.L.take j, tmIs k i t = false) ∧ w = wr)
  case atStart => exact ⟨0, by omega, rfl, (fun t ht => by simp at ht), rfl⟩
  case round =>
    obtain ⟨j, hj, rfl, hb, rfl⟩ := hrel
    have HB := Lib.hid hb
    clear hb
    by_cases hlt : j < n
    · have hltI : (j : Int) < (n : Int) := by omega
      have hj0 : (0 : Int) ≤ (j : Int) := by omega
      obtain ⟨t, ht⟩ : ∃ t, r.L[j]? = some t := ⟨_, List.getElem?_eq_getElem (by rw [HN.out]; exact hlt)⟩
      obtain ⟨b, rfl, c0, c1, _, _⟩ := H.out.tms_at ht
      have HT := Lib.hid ht
      clear ht
      by_cases hk : t.kind = k
      · have z0 : (t.kind == k) = true := by simpa using hk
        by_cases hi : t.id = i
        · have z1 : (t.id == i) = true := by simpa using hi
          have HI := Lib.hid (tmIs_iff.2 ⟨hk, hi⟩)
          clear hk hi
          go_wp2_with fail
          go_ret
          exact ⟨⟨_, rfl, .inr ⟨j, t, rfl, HT.out, HI.out⟩⟩, rfl⟩
        · have z1 : (t.id == i) = false := by simpa using hi
          have HI := Lib.hid (show tmIs k i t = false by unfold tmIs; rw [z1, Bool.and_false])
          clear hk hi
          go_wp2_with fail
          go_roundg (n - (j + 1))
          case measure => omega
          case rel =>
            refine ⟨j + 1, by omega, by go_num, fun u hu => ?_, rfl⟩
            rw [List.take_add_one, HT.out] at hu
            rcases List.mem_append.1 hu with hu | hu
            · exact HB.out u hu
            · have : u = t := by simpa using hu
              rw [this]
              exact HI.out
      · have z0 : (t.kind == k) = false := by simpa using hk
        have HI := Lib.hid (show tmIs k i t = false by unfold tmIs; rw [z0, Bool.false_and])
        clear hk
        go_wp2_with fail
        go_roundg (n - (j + 1))
        case measure => omega
        case rel =>
          refine ⟨j + 1, by omega, by go_num, fun u hu => ?_, rfl⟩
          rw [List.take_add_one, HT.out] at hu
          rcases List.mem_append.1 hu with hu | hu
          · exact HB.out u hu
          · have : u = t := by simpa using hu
            rw [this]
            exact HI.out
    · have hjn : j = n := by omega
      subst hjn
      have HZ := Lib.hid (show ∀ t ∈ r.L, tmIs k i t = false by have := HB.out; rw [List.take_of_length_le (by rw [HN.out]; omega)] at this; exact this)
      go_wp2_with fail
      go_ret
      exact ⟨⟨_, rfl, .inl ⟨rfl, HZ.out⟩⟩, rfl⟩
end
end Go.Proofs.Ytkjpkhpiojahkaa
