/-
  Clock: a clock in memory, and the calls that do little.
-/
import Derived.Test.YtkjpkhpiojahkaaCk0
import Derived.Test.YtkjpkhpiojahkaaLat
import Derived.Test.YtkjpkhpiojahkaaT6
namespace Go.Proofs.Ytkjpkhpiojahkaa
set_option linter.unusedVariables false
open Go.RowKit Hp
attribute [local go_sem] Oper.semAt_some
def ckCells (tb : Nat) (ats : List Int) (v : Value) (now worst : Int) : Array Value := (.pointer (some ⟨tb, 0, none⟩) :: (intL ats ++ [v, .int .i64 now, .int .i64 worst])).toArray
def ckA (cb : Nat) (c : Ck) : Ast := exA fun p : Nat × Value => sep (boxA cb 172 (ckCells p.1 c.ats p.2 c.now c.worst)) (sep (tqA p.1 512 c.S 0 0) (latA p.2 c.lates))
theorem Plain.ck (cb : Nat) (c : Ck) : Plain (ckA cb c) := Plain.ex fun _ => (Plain.box _ _ _).sep ((Plain.tq _ _ _ _ _).sep (Plain.lat _ _))
section
variable {tb : Nat} {ats : List Int} {v : Value} {now worst x : Int}
theorem ck_q : (ckCells tb ats v now worst)[0]? = some (.pointer (some ⟨tb, 0, none⟩)) := rfl
theorem ck_at {n : Nat} (h : ats[n]? = some x) : (ckCells tb ats v now worst)[1 + n]? = some (.int .i64 x) := by
  rw [Nat.add_comm]
  unfold ckCells
  rw [List.getElem?_toArray, List.getElem?_cons_succ, List.getElem?_append_left (by have := (List.getElem?_eq_some_iff.1 h).1; simp [intL]; exact this)]
  exact ints_get h
theorem ints_len (zs : List Int) : (intL zs).length = zs.length := by simp [intL]
theorem ck_lates (hl : ats.length = 512) : (ckCells tb ats v now worst)[513]? = some v := by
  unfold ckCells
  rw [List.getElem?_toArray, List.getElem?_cons_succ, List.getElem?_append_right (by rw [ints_len]; omega), ints_len, hl]
  rfl
theorem ck_now (hl : ats.length = 512) : (ckCells tb ats v now worst)[514]? = some (.int .i64 now) := by
  unfold ckCells
  rw [List.getElem?_toArray, List.getElem?_cons_succ, List.getElem?_append_right (by rw [ints_len]; omega), ints_len, hl]
  rfl
theorem ck_worst (hl : ats.length = 512) : (ckCells tb ats v now worst)[515]? = some (.int .i64 worst) := by
  unfold ckCells
  rw [List.getElem?_toArray, List.getElem?_cons_succ, List.getElem?_append_right (by rw [ints_len]; omega), ints_len, hl]
  rfl
theorem ck_setAt (hl : ats.length = 512) {n : Nat} (hn : n < 512) : (ckCells tb ats v now worst).setIfInBounds (1 + n) (.int .i64 x) = ckCells tb (ats.set n x) v now worst := by
  rw [Nat.add_comm]
  unfold ckCells
  rw [List.setIfInBounds_toArray, List.set_cons_succ, List.set_append_left _ _ (by rw [ints_len]; omega)]
  congr 3
  unfold intL
  rw [List.map_set]
theorem ck_setLates (hl : ats.length = 512) (u : Value) : (ckCells tb ats v now worst).setIfInBounds 513 u = ckCells tb ats u now worst := by
  unfold ckCells
  rw [List.setIfInBounds_toArray, List.set_cons_succ, List.set_append_right _ _ (by rw [ints_len]; omega), ints_len, hl]
  rfl
theorem ck_setNow (hl : ats.length = 512) : (ckCells tb ats v now worst).setIfInBounds 514 (.int .i64 x) = ckCells tb ats v x worst := by
  unfold ckCells
  rw [List.setIfInBounds_toArray, List.set_cons_succ, List.set_append_right _ _ (by rw [ints_len]; omega), ints_len, hl]
  rfl
theorem ck_setWorst (hl : ats.length = 512) : (ckCells tb ats v now worst).setIfInBounds 515 (.int .i64 x) = ckCells tb ats v now x := by
  unfold ckCells
  rw [List.setIfInBounds_toArray, List.set_cons_succ, List.set_append_right _ _ (by rw [ints_len]; omega), ints_len, hl]
  rfl
end
section
variable {w0 w : World} {R : Ast} {cb : Nat} {c : Ck}
theorem On.bxg {b t k : Nat} {cs : Array Value} {u : Value} (h : On w0 w (sep (boxA b t cs) R)) (hv : cs[k]? = some u) : w.cell? ⟨b, k, none⟩ = some u := (h.box1 k).1.trans hv
theorem On.ck_open (h : On w0 w (sep (ckA cb c) R)) : ∃ tb v, On w0 w (sep (boxA cb 172 (ckCells tb c.ats v c.now c.worst)) (sep (tqA tb 512 c.S 0 0) (sep (latA v c.lates) R))) := by
  obtain ⟨⟨tb, v⟩, h⟩ := h.ex_open
  exact ⟨tb, v, ((h.assoc.sw0.assoc).sw1.sw0)⟩
theorem On.ck_shut {tb : Nat} {v : Value} (h : On w0 w (sep (boxA cb 172 (ckCells tb c.ats v c.now c.worst)) (sep (tqA tb 512 c.S 0 0) (sep (latA v c.lates) R)))) : On w0 w (sep (ckA cb c) R) := by
  have h1 := (h.sw0.sw1)
  exact On.ex_shut (f := fun p : Nat × Value => sep (boxA cb 172 (ckCells p.1 c.ats p.2 c.now c.worst)) (sep (tqA p.1 512 c.S 0 0) (latA p.2 c.lates))) (tb, v) (On.assoc' (On.sw0 (On.assoc' h1)))
set_option maxRecDepth 100000 in
set_option maxHeartbeats 2000000 in
theorem K_now (h : On w0 w (sep (ckA cb c) R)) (ho : CkOk c) : Calls Try.prog 78 #[.pointer (some ⟨cb, 0, none⟩)] w fun e w' => e = .returned (.int .i64 c.now) ∧ w = w' := by
  obtain ⟨tb, v, h⟩ := h.ck_open
  have c1 := h.bxg (ck_now ho.len)
  clear h ho
  go_enter Try.func78, Try.ntmps78
  go_wp2_with fail
  go_ret
  exact ⟨rfl, rfl⟩
set_option maxRecDepth 100000 in
set_option maxHeartbeats 2000000 in
theorem K_worst (h : On w0 w (sep (ckA cb c) R)) (ho : CkOk c) : Calls Try.prog 79 #[.pointer (some ⟨cb, 0, none⟩)] w fun e w' => e = .returned (.int .i64 c.worst) ∧ w = w' := by
  obtain ⟨tb, v, h⟩ := h.ck_open
  have c1 := h.bxg (ck_worst ho.len)
  clear h ho
  go_enter Try.func79, Try.ntmps79
  go_wp2_with fail
  go_ret
  exact ⟨rfl, rfl⟩
set_option maxRecDepth 100000 in
set_option maxHeartbeats 2000000 in
theorem number_ok (k id : Int) (w : World) : Calls Try.prog 126 #[.int .i64 k, .int .i64 id] w fun e w' => ∃ n, e = .returned (.tuple #[.int .i64 n, .bool (decide (mayT k id))]) ∧ (mayT k id → n = nm k id) ∧ w = w' := by
  by_cases h1 : 0 ≤ k
  · by_cases h2 : k < 8
    · by_cases h3 : 0 ≤ id
      · by_cases h4 : id < 64
        · have hm : mayT k id := ⟨h1, h2, h3, h4⟩
          have z1 : IntKind.i64.wrap (k * 64) = k * 64 := IntWalk.i64_in _ (by omega)
          have z2 : IntKind.i64.wrap (k * 64 + id) = k * 64 + id := IntWalk.i64_in _ (by omega)
          rw [decide_eq_true hm]
          clear hm
          go_enter Try.func126, Try.ntmps126
          go_wp2_with fail
          go_ret2
          exact ⟨_, rfl, fun _ => rfl, rfl⟩
        · have hm : ¬ mayT k id := fun h => h4 h.2.2.2
          rw [decide_eq_false hm]
          go_enter Try.func126, Try.ntmps126
          go_wp2_with fail
          go_ret2
          first | exact ⟨_, rfl⟩ | exact ⟨⟨_, rfl⟩, rfl⟩
      · have hm : ¬ mayT k id := fun h => h3 h.2.2.1
        rw [decide_eq_false hm]
        go_enter Try.func126, Try.ntmps126
        go_wp2_with fail
        go_ret2
        first | exact ⟨_, rfl⟩ | exact ⟨⟨_, rfl⟩, rfl⟩
    · have hm : ¬ mayT k id := fun h => h2 h.2.1
      rw [decide_eq_false hm]
      go_enter Try.func126, Try.ntmps126
      go_wp2_with fail
      go_ret2
      first | exact ⟨_, rfl⟩ | exact ⟨⟨_, rfl⟩, rfl⟩
  · have hm : ¬ mayT k id := fun h => h1 h.1
    rw [decide_eq_false hm]
    go_enter Try.func126, Try.ntmps126
    go_wp2_with fail
    go_ret2
    first | exact ⟨_, rfl⟩ | exact ⟨⟨_, rfl⟩, rfl⟩
set_option maxRecDepth 100000 in
set_option maxHeartbeats 2000000 in
theorem after_ok (t b : Int) (w : World) : Calls Try.prog 127 #[.int .i64 t, .int .i64 b] w fun e w' => e = .returned (.tuple #[.int .i64 (if afterE t b = 0 then t + b else 0), .int .i64 (afterE t b)]) ∧ w = w' := by
  have HT := Lib.hid (time_any t w)
  by_cases ht : timeE t = 0
  · have h1 := timeE_iff.1 ht
    rw [ht] at HT
    by_cases h2 : b < 0
    · have e : afterE t b = 10 := by unfold afterE; rw [if_pos ht, if_pos h2]
      rw [e, if_neg (by decide)]
      clear e ht
      go_enter Try.func127, Try.ntmps127
      go_wp2_with fail
      refine HT.out.mono ?_
      rintro e w1 ⟨rfl, rfl⟩
      go_wp2_with fail
      go_ret2
      exact ⟨rfl, rfl⟩
    · by_cases h3 : 1099511627776 - t ≤ b
      · have e : afterE t b = 21 := by unfold afterE; rw [if_pos ht, if_neg h2, if_pos h3]
        rw [e, if_neg (by decide)]
        clear e ht
        go_enter Try.func127, Try.ntmps127
        go_wp2_with fail
        refine HT.out.mono ?_
        rintro e w1 ⟨rfl, rfl⟩
        go_wp2_with fail
        go_ret2
        exact ⟨rfl, rfl⟩
      · have e : afterE t b = 0 := by unfold afterE; rw [if_pos ht, if_neg h2, if_neg h3]
        have z : IntKind.i64.wrap (t + b) = t + b := IntWalk.i64_in _ (by omega)
        rw [e, if_pos rfl]
        clear e ht
        go_enter Try.func127, Try.ntmps127
        go_wp2_with fail
        refine HT.out.mono ?_
        rintro e w1 ⟨rfl, rfl⟩
        go_wp2_with fail
        go_ret2
        exact ⟨rfl, rfl⟩
  · have e : afterE t b = timeE t := by unfold afterE; rw [if_neg ht]
    rw [e, if_neg ht]
    obtain ⟨E, hE⟩ : ∃ x, timeE t = x := ⟨_, rfl⟩
    rw [hE] at HT ht ⊢
    have z : (E != 0) = true := by simpa using ht
    clear e hE
    go_enter Try.func127, Try.ntmps127
    go_wp2_with fail
    refine HT.out.mono ?_
    rintro e w1 ⟨rfl, rfl⟩
    go_wp2_with fail
    go_ret2
    exact ⟨rfl, rfl⟩
end
end Go.Proofs.Ytkjpkhpiojahkaa
