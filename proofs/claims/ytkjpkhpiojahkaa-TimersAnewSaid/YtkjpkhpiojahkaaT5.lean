/-
  The document's answer for timers: its queues as pieces of memory. Walks: New, Arm.
-/
import Derived.Test.YtkjpkhpiojahkaaTA
namespace Go.Proofs.Ytkjpkhpiojahkaa
set_option linter.unusedVariables false
open Go.RowKit Hp
attribute [local go_sem] Oper.semAt_some

def rqA (rb : Nat) (most : Int) (S : List (It Int)) (now worst : Int) : Ast := exA fun hb : Nat => sep (boxA rb 154 #[.int .i64 most, .pointer (some ⟨hb, 0, none⟩), .int .i64 now, .int .i64 worst]) (refA hb S)
theorem Plain.rq (rb : Nat) (most : Int) (S : List (It Int)) (now worst : Int) : Plain (rqA rb most S now worst) := Plain.ex fun _ => (Plain.box _ _ _).sep (Plain.ref _ _)
theorem reads_keysAt {w : World} {a : Option Addr} {c u : Nat} {T : List (It Int)} (h : Ke.KeysAt w a (kv T)) (hu : T.length = u) (ha : a = none → c = 0) : Reads w (.slice a u c) 2 u (T.flatMap keyC) := by
  have hl : (T.flatMap keyC).length = u * 2 := by rw [← hu]; exact flat_length keyC 2 keyC_len T
  rcases h with h | ⟨b, off, rfl, hb, h⟩
  · have hT : T = [] := by
      have : T.length = 0 := by simpa [kv] using h
      exact List.length_eq_zero_iff.1 this
    subst hT
    simp only [List.length_nil] at hu
    subst hu
    cases a with
    | none => rw [ha rfl]; exact .inl ⟨rfl, rfl, rfl⟩
    | some ad => exact .inr ⟨ad, c, rfl, rfl, fun j x hx => by simp at hx⟩
  · refine .inr ⟨_, c, rfl, hl, fun j x hx => ?_⟩
    have hj : j < u * 2 := by rw [← hl]; exact (List.getElem?_eq_some_iff.1 hx).1
    have hk : j / 2 < T.length := by omega
    have hi : T[j / 2]? = some T[j / 2] := List.getElem?_eq_getElem hk
    obtain ⟨g0, g1⟩ := h (j / 2) (by simpa [kv] using hk)
    have hkv : (kv T)[j / 2]?.getD (0, 0) = (T[j / 2].2, T[j / 2].1) := by simp [kv, List.getElem?_map, hi]
    rw [hkv] at g0 g1
    rw [add_zero']
    have hm : j % 2 < 2 := Nat.mod_lt _ (by omega)
    have hx' := flat_at keyC 2 keyC_len T (j / 2) (j % 2) _ hi hm
    rw [show j / 2 * 2 + j % 2 = j by omega, hx] at hx'
    rcases (show j % 2 = 0 ∨ j % 2 = 1 by omega) with h0 | h0
    · rw [h0] at hx'
      have : x = .int .i64 T[j / 2].2 := by simpa [keyC] using hx'
      rw [this, show off + j = off + j / 2 * 2 by omega]
      exact g0
    · rw [h0] at hx'
      have : x = .int .i64 T[j / 2].1 := by simpa [keyC] using hx'
      rw [this, show off + j = off + j / 2 * 2 + 1 by omega]
      exact g1
section
variable {w0 w : World} {rb : Nat} {S : List (It Int)} {R : Ast} {most now worst : Int}
theorem On.rq_open (h : On w0 w (sep (rqA rb most S now worst) R)) : ∃ hb, On w0 w (sep (boxA rb 154 #[.int .i64 most, .pointer (some ⟨hb, 0, none⟩), .int .i64 now, .int .i64 worst]) (sep (refA hb S) R)) := by
  obtain ⟨hb, h⟩ := h.ex_open
  exact ⟨hb, h.assoc⟩
theorem On.rq_shut {hb : Nat} (h : On w0 w (sep (boxA rb 154 #[.int .i64 most, .pointer (some ⟨hb, 0, none⟩), .int .i64 now, .int .i64 worst]) (sep (refA hb S) R))) : On w0 w (sep (rqA rb most S now worst) R) :=
  On.ex_shut (f := fun hb : Nat => sep (boxA rb 154 #[.int .i64 most, .pointer (some ⟨hb, 0, none⟩), .int .i64 now, .int .i64 worst]) (refA hb S)) hb h.assoc'

set_option maxRecDepth 100000 in
set_option maxHeartbeats 2000000 in
theorem RT_new (h : On w0 w R) (most : Int) : Calls Try.prog 51 #[.int .i64 most] w fun e w' => ∃ rb, e = .returned (.pointer (some ⟨rb, 0, none⟩)) ∧ On w0 w' (sep (rqA rb most [] 0 0) R) := by
  obtain ⟨hb, hhb⟩ : ∃ b, w.heap.size = b := ⟨_, rfl⟩
  have h1 := h.add ((Below.refl _ w).alloc (Nat.le_refl _) _) (refA_new w) (fun j hj => by omega)
  rw [hhb] at h1
  have h2 := h1.new1 154 #[.int .i64 most, .pointer (some ⟨hb, 0, none⟩), .int .i64 0, .int .i64 0]
  simp only [World.size_alloc, hhb] at h2
  have H2 := Lib.hid h2.rq_shut
  clear h h1 h2
  go_enter Try.func51, Try.ntmps51
  go_wp2_with fail
  go_ret
  exact ⟨_, rfl, H2.out⟩
set_option maxRecDepth 100000 in
set_option maxHeartbeats 4000000 in
theorem RT_arm (h : On w0 w (sep (rqA rb most S now worst) R)) (hd : S.Pairwise fun a b => a.1 ≠ b.1) (hl : S.length < 700000) (id at' : Int) (hw : (Lit.int .i64 id).wf = true) :
    Calls Try.prog 106 #[.pointer (some ⟨rb, 0, none⟩), .int .i64 id, .int .i64 at'] w fun e w' => e = .returned (.int .i64 (armE S most id at')) ∧ On w0 w' (sep (rqA rb most (armS S most id at') now worst) R) := by
  obtain ⟨ae, hae⟩ : ∃ e, armE S most id at' = e := ⟨_, rfl⟩
  obtain ⟨aS, haS⟩ : ∃ T, armS S most id at' = T := ⟨_, rfl⟩
  rw [hae, haS]
  have HAe := Lib.hid hae
  have HAs := Lib.hid haS
  have H := Lib.hid h
  clear hae haS
  by_cases h0 : id < 0
  · have e1 : armE S most id at' = 1 := by unfold armE; rw [if_pos h0]
    have e2 : armS S most id at' = S := by unfold armS; rw [if_neg (by rw [e1]; decide)]
    obtain rfl := HAe.out.symm.trans e1
    obtain rfl := HAs.out.symm.trans e2
    clear h e1 e2
    go_enter Try.func106, Try.ntmps106
    go_wp2_with fail
    go_ret
    exact ⟨rfl, H.out⟩
  have g0 : decide (id < 0) = false := by simp; omega
  obtain ⟨tt, htt⟩ : ∃ tt, timeE at' = tt := ⟨_, rfl⟩
  have ht := rtime_any at' w
  rw [htt] at ht
  have HT := Lib.hid ht
  have HTt := Lib.hid htt
  by_cases h2 : tt = 0
  · subst h2
    obtain ⟨hb, h3⟩ := h.rq_open
    have c1 : w.cell? ⟨rb, 1, none⟩ = some (.pointer (some ⟨hb, 0, none⟩)) := (h3.box1 1).1
    have c0 : w.cell? ⟨rb, 0, none⟩ = some (.int .i64 most) := (h3.box1 0).1
    obtain ⟨F, ⟨v, hr, _⟩, _⟩ := h3.sw0.get1
    obtain ⟨k, hk⟩ : ∃ k, S.length = k := ⟨_, rfl⟩
    obtain ⟨va, vc, rfl⟩ := hr.slice
    rw [hk] at hr
    have c2 : w.cell? ⟨hb, 0, none⟩ = some (.slice va k vc) := hr.c0
    have hat : ∀ A, A = w.drew → Calls Try.prog 95 #[.pointer (some ⟨hb, 0, none⟩), .int .i64 id] A fun e w' => e = .returned (.int .i64 (if has S id then (idx S id : Int) else -1)) ∧ w' = w.drew := fun A hA => by
      subst hA
      exact (R_at (h3.below (Below.refl _ w).drew).sw0 (by omega) id).mono fun e w' ⟨x1, x2⟩ => ⟨x1, x2.symm⟩
    have c1' : w.drew.cell? ⟨rb, 1, none⟩ = some (.pointer (some ⟨hb, 0, none⟩)) := c1
    have c0' : w.drew.cell? ⟨rb, 0, none⟩ = some (.int .i64 most) := c0
    have c2' : w.drew.cell? ⟨hb, 0, none⟩ = some (.slice va k vc) := c2
    have HAt := Lib.hid hat
    have HDr := Lib.hid (R_drop (h3.below (Below.refl _ w).drew).sw0 hd (by omega) id)
    have hpe : putE (without S id) id = 0 := by unfold putE; rw [if_neg h0, has_none.2 without_gone]; rfl
    have hps : putS ltI (without S id) id at' = ins ltI (id, at') (without S id) := by unfold putS; rw [if_neg h0, has_none.2 without_gone]; rfl
    have HPe := Lib.hid hpe
    have HPs := Lib.hid hps
    clear hpe hps
    have H3 := Lib.hid h3
    have HK := Lib.hid hk
    have HD := Lib.hid hd
    clear h ht htt hat h3 hr hk hd
    have e0 : armE S most id at' = if has S id = false ∧ most ≤ (k : Int) then 13 else 0 := by unfold armE; rw [if_neg h0, HTt.out, if_pos rfl, HK.out]
    cases hh : has S id with
    | false =>
      rw [hh] at e0
      have HAt2 := HAt.out
      rw [hh, if_neg (by simp)] at HAt2
      have HA2 := Lib.hid HAt2
      clear HAt2
      by_cases hm : most ≤ (k : Int)
      · have e1 : armE S most id at' = 13 := e0.trans (if_pos ⟨rfl, hm⟩)
        have e2 : armS S most id at' = S := by unfold armS; rw [if_neg (by rw [e1]; decide)]
        obtain rfl := HAe.out.symm.trans e1
        obtain rfl := HAs.out.symm.trans e2
        clear e1 e2 e0
        have HHh := Lib.hid hh
        clear hh
        go_enter Try.func106, Try.ntmps106
        go_wp2_with fail
        refine HT.out.mono ?_
        rintro e w1 ⟨rfl, rfl⟩
        go_wp2_with fail
        refine wp_region_loose (fun A => A = w.drew) (by kernel_rfl) (by kernel_rfl) rfl ?_
        iterate 22 (first
          | (refine loose_skip (by rfl) ?_; simp only [Act.put, List.setIfInBounds_toArray, List.set_cons_zero, List.set_cons_succ])
          | (refine loose_val (v := ?_) (by rfl) ?_ ?_; rotate_left; (focus (intro A' hA'; subst hA'; go_simp; first | done | with_reducible rfl)); simp only [Act.put, List.setIfInBounds_toArray, List.set_cons_zero, List.set_cons_succ])
          | (refine loose_call HA2.out (by rfl) ?_ ?_; (focus (intro A' hA'; go_simp; done)); simp only [Act.put, List.setIfInBounds_toArray, List.set_cons_zero, List.set_cons_succ]))
        refine loose_nil ?_
        intro A3 hA3
        subst hA3
        go_wp2_with fail
        go_ret
        exact ⟨rfl, H.out.below (Below.refl _ w).drew⟩
      · have e1 : armE S most id at' = 0 := e0.trans (if_neg (fun hc => hm hc.2))
        have e2 : armS S most id at' = ins ltI (id, at') (without S id) := by unfold armS; rw [if_pos e1]
        obtain rfl := HAe.out.symm.trans e1
        obtain rfl := HAs.out.symm.trans e2
        clear e1 e2 e0
        have HHh := Lib.hid hh
        clear hh
        go_enter Try.func106, Try.ntmps106
        go_wp2_with fail
        refine HT.out.mono ?_
        rintro e w1 ⟨rfl, rfl⟩
        go_wp2_with fail
        refine wp_region_loose (fun A => A = w.drew) (by kernel_rfl) (by kernel_rfl) rfl ?_
        iterate 22 (first
          | (refine loose_skip (by rfl) ?_; simp only [Act.put, List.setIfInBounds_toArray, List.set_cons_zero, List.set_cons_succ])
          | (refine loose_val (v := ?_) (by rfl) ?_ ?_; rotate_left; (focus (intro A' hA'; subst hA'; go_simp; first | done | with_reducible rfl)); simp only [Act.put, List.setIfInBounds_toArray, List.set_cons_zero, List.set_cons_succ])
          | (refine loose_call HA2.out (by rfl) ?_ ?_; (focus (intro A' hA'; go_simp; done)); simp only [Act.put, List.setIfInBounds_toArray, List.set_cons_zero, List.set_cons_succ]))
        refine loose_nil ?_
        intro A3 hA3
        subst hA3
        go_wp2_with fail
        refine HDr.out.mono ?_
        rintro e w3 ⟨rfl, h5⟩
        have s1 : w3.cell? ⟨rb, 1, none⟩ = some (.pointer (some ⟨hb, 0, none⟩)) := (h5.sw0.box1 1).1
        have hput := R_put h5 (by have := without_length_le (S := S) (id := id); omega) id at'
        rw [HPe.out, HPs.out] at hput
        have HPut := Lib.hid hput
        clear h5 hput
        go_wp2_with fail
        refine HPut.out.mono ?_
        rintro e w4 ⟨rfl, h6⟩
        have H6 := Lib.hid h6.sw0.rq_shut
        clear h6
        go_wp2_with fail
        go_ret
        exact ⟨rfl, H6.out⟩
    | true =>
      rw [hh] at e0
      have HAt2 := HAt.out
      rw [hh, if_pos rfl] at HAt2
      have HA2 := Lib.hid HAt2
      clear HAt2
      have e1 : armE S most id at' = 0 := e0.trans (if_neg (fun hc => by simp at hc))
      have e2 : armS S most id at' = ins ltI (id, at') (without S id) := by unfold armS; rw [if_pos e1]
      obtain rfl := HAe.out.symm.trans e1
      obtain rfl := HAs.out.symm.trans e2
      clear e1 e2 e0
      have HHh := Lib.hid hh
      clear hh
      go_enter Try.func106, Try.ntmps106
      go_wp2_with fail
      refine HT.out.mono ?_
      rintro e w1 ⟨rfl, rfl⟩
      go_wp2_with fail
      refine wp_region_loose (fun A => A = w.drew) (by kernel_rfl) (by kernel_rfl) rfl ?_
      iterate 22 (first
        | (refine loose_skip (by rfl) ?_; simp only [Act.put, List.setIfInBounds_toArray, List.set_cons_zero, List.set_cons_succ])
        | (refine loose_val (v := ?_) (by rfl) ?_ ?_; rotate_left; (focus (intro A' hA'; subst hA'; go_simp; first | done | with_reducible rfl)); simp only [Act.put, List.setIfInBounds_toArray, List.set_cons_zero, List.set_cons_succ])
        | (refine loose_call HA2.out (by rfl) ?_ ?_; (focus (intro A' hA'; go_simp; done)); simp only [Act.put, List.setIfInBounds_toArray, List.set_cons_zero, List.set_cons_succ]))
      refine loose_nil ?_
      intro A3 hA3
      subst hA3
      go_wp2_with fail
      refine HDr.out.mono ?_
      rintro e w3 ⟨rfl, h5⟩
      have s1 : w3.cell? ⟨rb, 1, none⟩ = some (.pointer (some ⟨hb, 0, none⟩)) := (h5.sw0.box1 1).1
      have hput := R_put h5 (by have := without_length_le (S := S) (id := id); omega) id at'
      rw [HPe.out, HPs.out] at hput
      have HPut := Lib.hid hput
      clear h5 hput
      go_wp2_with fail
      refine HPut.out.mono ?_
      rintro e w4 ⟨rfl, h6⟩
      have H6 := Lib.hid h6.sw0.rq_shut
      clear h6
      go_wp2_with fail
      go_ret
      exact ⟨rfl, H6.out⟩
  · have e1 : armE S most id at' = tt := by unfold armE; rw [if_neg h0, htt, if_neg h2]
    have e2 : armS S most id at' = S := by unfold armS; rw [if_neg (by rw [e1]; exact h2)]
    have g2 : (tt != 0) = true := by simp [h2]
    obtain rfl := HAe.out.symm.trans e1
    obtain rfl := HAs.out.symm.trans e2
    clear h e1 e2 ht htt
    go_enter Try.func106, Try.ntmps106
    go_wp2_with fail
    refine HT.out.mono ?_
    rintro e w1 ⟨rfl, rfl⟩
    go_wp2_with fail
    go_ret
    exact ⟨rfl, H.out⟩

set_option maxRecDepth 100000 in
set_option maxHeartbeats 4000000 in
theorem RT_due_not (h : On w0 w (sep (rqA rb most S now worst) R)) (t : Int) (hd : dueE now t ≠ 0) :
    Calls Try.prog 107 #[.pointer (some ⟨rb, 0, none⟩), .int .i64 t] w fun e w' => e = .returned (.tuple #[.slice none 0 0, .int .i64 (dueE now t)]) ∧ On w0 w' (sep (rqA rb most S now worst) R) := by
  obtain ⟨hb, h1⟩ := h.rq_open
  have c2 : w.cell? ⟨rb, 2, none⟩ = some (.int .i64 now) := (h1.box1 2).1
  obtain ⟨tt, htt⟩ : ∃ tt, timeE t = tt := ⟨_, rfl⟩
  have ht := rtime_any t w
  rw [htt] at ht
  have HT := Lib.hid ht
  have H := Lib.hid h
  by_cases h0 : tt = 0
  · subst h0
    have htn : t < now := by
      unfold dueE at hd
      rw [if_pos htt] at hd
      split at hd
      · assumption
      · exact absurd rfl hd
    have e1 : dueE now t = 10 := by unfold dueE; rw [if_pos htt, if_pos htn]
    rw [e1]
    clear h h1 ht hd e1 htt
    go_enter Try.func107, Try.ntmps107
    go_wp2_with fail
    refine HT.out.mono ?_
    rintro e w1 ⟨rfl, rfl⟩
    go_wp2_with fail
    go_ret2
    exact ⟨rfl, H.out⟩
  · have e1 : dueE now t = tt := by unfold dueE; rw [htt, if_neg h0]
    rw [e1]
    clear h h1 ht hd e1 htt
    have g2 : (tt != 0) = true := by simp [h0]
    go_enter Try.func107, Try.ntmps107
    go_wp2_with fail
    refine HT.out.mono ?_
    rintro e w1 ⟨rfl, rfl⟩
    go_wp2_with fail
    go_ret2
    exact ⟨rfl, H.out⟩

set_option maxRecDepth 100000 in
set_option maxHeartbeats 4000000 in
theorem RT_due (h : On w0 w (sep (rqA rb most S now worst) R)) (hdi : S.Pairwise fun a b => a.1 ≠ b.1) (hT : Timed S) (hl : S.length < 700000) (t : Int) (hd : dueE now t = 0) :
    Calls Try.prog 107 #[.pointer (some ⟨rb, 0, none⟩), .int .i64 t] w fun e w' => ∃ v, e = .returned (.tuple #[v, .int .i64 0]) ∧ On w0 w' (sep (keysA v (upto S t)) (sep (rqA rb most (late S t) t (worstS worst t (upto S t))) R)) := by
  obtain ⟨hb, h1⟩ := h.rq_open
  have ht0 : timeE t = 0 := by
    unfold dueE at hd
    split at hd
    · assumption
    · exact hd
  have htn : ¬ t < now := by
    unfold dueE at hd
    rw [if_pos ht0] at hd
    split at hd
    · exact absurd hd (by decide)
    · assumption
  have htn' : now ≤ t := by omega
  have ht := rtime_any t w
  rw [ht0] at ht
  have HT := Lib.hid ht
  have c2 : w.cell? ⟨rb, 2, none⟩ = some (.int .i64 now) := (h1.box1 2).1
  have f2 : w.frozen? ⟨rb, 2, none⟩ = false := (h1.box1 2).2
  have h2 := h1.box_set 2 (.int .i64 t)
  have c1s : (w.setCell ⟨rb, 2, none⟩ (.int .i64 t)).cell? ⟨rb, 1, none⟩ = some (.pointer (some ⟨hb, 0, none⟩)) := (h2.box1 1).1
  have HU := Lib.hid (RL_until h2.sw0 (by omega) t)
  have H2 := Lib.hid h2
  clear h h1 ht hd h2
  go_enter Try.func107, Try.ntmps107
  go_wp2_with fail
  refine HT.out.mono ?_
  rintro e w1 ⟨rfl, rfl⟩
  go_wp2_with fail
  refine HU.out.mono ?_
  rintro e w1 ⟨a, c, rfl, hb1, hka, hno⟩
  obtain ⟨u, hu⟩ : ∃ u, (upto S t).length = u := ⟨_, rfl⟩
  rw [hu]
  have hul : u ≤ S.length := by rw [← hu]; exact (upto_pre S t).length_le
  have HReads := Lib.hid (reads_keysAt hka hu hno)
  have h3 := H2.out.below hb1
  have H3 := Lib.hid h3
  have hkey := keyC_one (upto S t)
  have hmx : 0 + u ≤ maxLen := by unfold maxLen; omega
  have hby : (0 + u) * 16 ≤ 140737488355328 := by omega
  clear hb1 hka hno h3
  go_wp2_with (at_builtin; go_loud (refine wpList_append_any (by rfl) _ _ 30 (by rfl) 24 2 16 keySlice (.slice none 0 0) 0 [] (by rfl) (World.ownsRow_nil _ _ _ _) (.slice a u c) u ((upto S t).flatMap keyC) (by rfl) HReads.out hkey hmx hby ?_; intro v' w2 hown hgrow hat; obtain ⟨qq, qn, qcc, rfl⟩ := own_form hown; have hby1 := below_grown hgrow (by intro j hj; simp [Value.ownBlock] at hj) (Nat.le_refl _); have h4 := H3.out.add hby1 (keysA_of (T := upto S t) hown (by omega) (by simp)) (own_new hat (by simp [Value.ownBlock]) (Nat.le_refl _)); have H4 := Lib.hid h4; clear hown hgrow hat hby1 h4))
  obtain rfl : u = qn := by have := H4.out.keys1; obtain ⟨_, _, he, _⟩ := this; cases he; exact hu.symm
  have HDi := Lib.hid hdi
  have hTi := hT
  have HU2 := Lib.hid hu
  clear hdi hu hkey hmx hby c1s HU H2 H3 HReads
  go_loopg [8] u (fun gh s8 wr => ∃ i : Nat, i + gh = u ∧ s8 = .int .i64 (i : Int) ∧ On w0 wr (sep (keysA (.slice qq u qcc) (upto S t)) (sep (boxA rb 154 #[.int .i64 most, .pointer (some ⟨hb, 0, none⟩), .int .i64 t, .int .i64 (worstS worst t ((upto S t).take i))]) (sep (refA hb (S.drop i)) R))))
  case atStart => exact ⟨0, by omega, rfl, H4.out⟩
  case round =>
    obtain ⟨i, hi, rfl, hon⟩ := hrel
    by_cases hlt : i < u
    · have hltI : (i : Int) < (u : Int) := by omega
      have hi0 : (0 : Int) ≤ (i : Int) := by omega
      have hond := hon.below (Below.refl _ wr).drew
      obtain ⟨_, _, he, hka⟩ := hond.keys1
      injection he with he1 he2 he3
      subst he1 he3
      have hlen : (kv (upto S t)).length = u := by rw [kv, List.length_map, HU2.out]
      obtain ⟨b, off, rfl, _, hc⟩ := keysAt_get hka (n := u) (by omega) hlen
      obtain ⟨x, hx⟩ : ∃ x, (upto S t)[i]? = some x := ⟨_, List.getElem?_eq_getElem (by rw [HU2.out]; exact hlt)⟩
      have hSi : S[i]? = some x := by
        obtain ⟨T', hT⟩ := upto_pre S t
        have e := congrArg (fun l => l[i]?) hT
        rw [← e, List.getElem?_append_left (by rw [HU2.out]; exact hlt), hx]
      have hdr : S.drop i = x :: S.drop (i + 1) := by
        rw [List.drop_eq_getElem_cons (List.getElem?_eq_some_iff.1 hSi).1, (List.getElem?_eq_some_iff.1 hSi).2]
      have hw : worstS worst t ((upto S t).take (i + 1)) = max (worstS worst t ((upto S t).take i)) (t - x.2) := by
        rw [List.take_add_one, hx, Option.toList_some, worstS_snoc]
      obtain ⟨r0, r1⟩ := hc i hlt
      rw [kv, List.getElem?_map, hx] at r0 r1
      simp only [Option.map_some, Option.getD_some] at r0 r1
      have k1 : wr.drew.cell? ⟨rb, 1, none⟩ = some (.pointer (some ⟨hb, 0, none⟩)) := (hond.sw0.box1 1).1
      have hdrop := R_drop (hond.sw1.sw0) (HDi.out.sublist (List.drop_sublist _ _)) (by rw [List.length_drop]; omega) x.1
      have hwo : without (S.drop i) x.1 = S.drop (i + 1) := by
        have := HDi.out.sublist (List.drop_sublist i S)
        rw [hdr] at this ⊢
        exact without_head this
      rw [hwo] at hdrop
      have HDr := Lib.hid hdrop
      have HW := Lib.hid hw
      have HX := Lib.hid hx
      have HLen := Lib.hid hlen
      clear hon hond hka hc hx hSi hdr hw hdrop hwo hlen he2
      go_wp2_with fail
      refine wp_region_last (os := ?_) (s := ?_) (fun A' => A' = wr.drew) (by simp only [List.dropLast]; rfl) (by rfl) (by kernel_rfl) (by kernel_rfl) (by kernel_rfl) rfl ?_
      iterate 9 (first
        | (refine loose_skip (by rfl) ?_; simp only [Act.put, List.setIfInBounds_toArray, List.set_cons_zero, List.set_cons_succ])
        | (refine loose_val (v := ?_) (by rfl) ?_ ?_; rotate_left; (focus (intro A' hA'; subst hA'; go_simp; first | done | with_reducible rfl)); simp only [Act.put, List.setIfInBounds_toArray, List.set_cons_zero, List.set_cons_succ])
        | (refine loose_call HDr.out (by rfl) ?_ ?_; (focus (intro A' hA'; go_simp; done)); simp only [Act.put, List.setIfInBounds_toArray, List.set_cons_zero, List.set_cons_succ]))
      refine loose_nil ?_
      intro A3 hA3
      subst hA3
      go_wp2_with fail
      refine HDr.out.mono ?_
      rintro e w3 ⟨rfl, h5⟩
      have k1 : w3.cell? ⟨rb, 3, none⟩ = some (.int .i64 (worstS worst t ((upto S t).take i))) := ((h5.sw1.sw0).box1 3).1
      have k2 : w3.frozen? ⟨rb, 3, none⟩ = false := ((h5.sw1.sw0).box1 3).2
      obtain ⟨_, _, he, hka⟩ := h5.sw0.keys1
      injection he with he1 he2 he3
      subst he1 he3
      obtain ⟨b', off', he4, _, hc⟩ := keysAt_get hka (n := u) (by omega) HLen.out
      cases he4
      obtain ⟨q0, q1⟩ := hc i hlt
      rw [kv, List.getElem?_map, HX.out] at q0 q1
      simp only [Option.map_some, Option.getD_some] at q0 q1
      have H6 := Lib.hid ((h5.sw1.sw0).box_set 3 (.int .i64 (max (worstS worst t ((upto S t).take i)) (t - x.2))))
      obtain ⟨mm, hmm⟩ : ∃ mm, max (worstS worst t ((upto S t).take i)) (t - x.2) = mm := ⟨_, rfl⟩
      have hmm2 : max (worstS worst t ((upto S t).take i)) (t - x.2) = mm := hmm
      obtain ⟨ww, hww⟩ : ∃ ww, worstS worst t ((upto S t).take i) = ww := ⟨_, rfl⟩
      rw [hww] at k1 hmm
      rw [hmm2] at H6
      have k1' : w3.drew.cell? ⟨rb, 3, none⟩ = some (.int .i64 ww) := k1
      have k2' : w3.drew.frozen? ⟨rb, 3, none⟩ = false := k2
      have q0' : w3.drew.cell? ⟨b, off + i * 2, none⟩ = some (.int .i64 x.2) := q0
      have hmem : x ∈ upto S t := List.mem_of_getElem? HX.out
      have hxS : x ∈ S := (upto_pre S t).subset hmem
      have htx := timeE_ok (hTi x hxS)
      have hle := upto_le hmem
      have HMw := Lib.hid (HW.out.trans hmm2)
      have hmw' : (if ww < t - x.2 then t - x.2 else ww) = mm := by rw [← hmm]; omega
      have HWr := Lib.hid (show wrap64 (t - x.2) = t - x.2 by have := timeE_ok ht0; unfold wrap64; omega)
      clear h5 hka hc he2 k1 k2 q0 hmm2 hww hmem hxS hmm
      go_wp2_with fail
      refine wp_region_last (os := ?_) (s := ?_) (fun A' => A' = w3.drew) (by simp only [List.dropLast]; rfl) (by rfl) (by kernel_rfl) (by kernel_rfl) (by kernel_rfl) rfl ?_
      iterate 15 (first
        | (refine loose_skip (by rfl) ?_; simp only [Act.put, List.setIfInBounds_toArray, List.set_cons_zero, List.set_cons_succ])
        | (refine loose_val (v := ?_) (by rfl) ?_ ?_; rotate_left; (focus (intro A' hA'; subst hA'; go_simp; first | done | with_reducible rfl)); simp only [Act.put, List.setIfInBounds_toArray, List.set_cons_zero, List.set_cons_succ])
        | (refine loose_call HDr.out (by rfl) ?_ ?_; (focus (intro A' hA'; go_simp; done)); simp only [Act.put, List.setIfInBounds_toArray, List.set_cons_zero, List.set_cons_succ]))
      refine loose_nil ?_
      intro A3 hA3
      subst hA3
      go_wp2_with fail
      all_goals
        have h8 := H6.out.below (Below.refl _ _).drew
        have hw9 := HMw.out
        have H8 := Lib.hid (h8.sw1.sw0)
        clear h8
        go_roundg (u - (i + 1))
        case measure => omega
        case rel => exact ⟨i + 1, by omega, by go_num, by
          have hwr := HWr.out
          rw [hw9]
          first
            | (have hm3 : wrap64 (t - x.2) = mm := hwr.trans ((if_pos (by omega)).symm.trans hmw'); rw [hm3]; exact H8.out)
            | (have hm3 : ww = mm := (if_neg (by omega)).symm.trans hmw'; rw [hm3]; exact H8.out)⟩
    · have him : i = u := by omega
      subst him
      have e1 : S.drop i = late S t := by unfold late; rw [HU2.out]
      have e2 : (upto S t).take i = upto S t := List.take_of_length_le (by rw [HU2.out]; exact Nat.le_refl _)
      rw [e1, e2] at hon
      have H5 := Lib.hid (hon.sw0.sw1).rq_shut.sw0
      clear hon e1 e2
      go_wp2_with fail
      go_ret2
      exact ⟨_, rfl, H5.out⟩

set_option maxRecDepth 100000 in
set_option maxHeartbeats 2000000 in
theorem RT_new0 (h : On w0 w R) (most : Int) : Calls Try.prog 51 #[.int .i64 most] w fun e w' => ∃ rb hb, e = .returned (.pointer (some ⟨rb, 0, none⟩)) ∧ On w0 w' (sep (boxA rb 154 #[.int .i64 most, .pointer (some ⟨hb, 0, none⟩), .int .i64 0, .int .i64 0]) (sep (refA hb []) R)) ∧ w'.cell? ⟨hb, 0, none⟩ = some (.slice none 0 0) := by
  obtain ⟨hb, hhb⟩ : ∃ b, w.heap.size = b := ⟨_, rfl⟩
  have h1 := h.add ((Below.refl _ w).alloc (Nat.le_refl _) _) (refA_new w) (fun j hj => by omega)
  have e1 : (w.alloc (.cells #[.slice none 0 0] 32)).cell? ⟨hb, 0, none⟩ = some (.slice none 0 0) := by rw [← hhb, World.cell?_alloc_at _ _ _ _ rfl]; rfl
  have e2 := zatB e1 ((Below.refl _ (w.alloc (.cells #[.slice none 0 0] 32))).alloc (Nat.le_refl _) (.cells #[.int .i64 most, .pointer (some ⟨hb, 0, none⟩), .int .i64 0, .int .i64 0] 154))
  rw [hhb] at h1
  have h2 := h1.new1 154 #[.int .i64 most, .pointer (some ⟨hb, 0, none⟩), .int .i64 0, .int .i64 0]
  simp only [World.size_alloc, hhb] at h2
  have H2 := Lib.hid h2
  have HE := Lib.hid e2
  clear h h1 h2 e1 e2
  go_enter Try.func51, Try.ntmps51
  go_wp2_with fail
  go_ret
  exact ⟨_, _, rfl, H2.out, HE.out⟩
set_option maxRecDepth 100000 in
set_option maxHeartbeats 4000000 in
theorem RT_copy (h : On w0 w (sep (rqA rb most S now worst) R)) (hl : S.length < 700000) :
    Calls Try.prog 55 #[.pointer (some ⟨rb, 0, none⟩)] w fun e w' => ∃ cb, e = .returned (.pointer (some ⟨cb, 0, none⟩)) ∧ On w0 w' (sep (rqA cb most S now worst) (sep (rqA rb most S now worst) R)) := by
  obtain ⟨hb, h1⟩ := h.rq_open
  have c0 : w.cell? ⟨rb, 0, none⟩ = some (.int .i64 most) := (h1.box1 0).1
  have HN := Lib.hid (RT_new0 h most)
  clear h h1
  go_enter Try.func55, Try.ntmps55
  go_wp2_with fail
  refine HN.out.mono ?_
  rintro e w1 ⟨cb, hc, rfl, h3, hce⟩
  obtain ⟨hb, h4⟩ := (h3.sw1.sw0).rq_open
  have h4d := h4.below (Below.refl _ w1).drew
  obtain ⟨F1, ⟨v1, hr1, _⟩, _⟩ := h4d.sw0.get1
  obtain ⟨F2, ⟨v2, hr2, _⟩, _⟩ := (h4d.sw2.sw1.sw0).get1
  obtain ⟨la, lcap, rfl⟩ := hr1.slice
  have hv2 : v2 = .slice none 0 0 := by
    have h1 := hr2.c0
    exact (Option.some.inj (hce.symm.trans h1)).symm
  subst hv2
  have HReads := Lib.hid (Reads.of_own hr1.2)
  have HT : Hid (w1.drew.cell? ⟨rb, 1, none⟩ = some (.pointer (some ⟨hb, 0, none⟩)) ∧ w1.drew.cell? ⟨cb, 1, none⟩ = some (.pointer (some ⟨hc, 0, none⟩)) ∧ w1.drew.cell? ⟨hb, 0, none⟩ = some (.slice la S.length lcap) ∧ w1.drew.cell? ⟨hc, 0, none⟩ = some (.slice none 0 0) ∧ w1.drew.frozen? ⟨hc, 0, none⟩ = false ∧ hc < w1.drew.heap.size) :=
    Lib.hid ⟨(h4d.box1 1).1, ((h4d.sw1.sw0).box1 1).1, hr1.c0, hr2.c0, hr2.f0, lt_of_some hr2.1⟩
  obtain ⟨t1, t2, t3, t4, t5, t6⟩ := HT.out
  have H4 := Lib.hid h4d
  have hkey := keyC_one S
  have hmx : 0 + S.length ≤ maxLen := by unfold maxLen; omega
  have hby : (0 + S.length) * 16 ≤ 140737488355328 := by omega
  clear h3 h4 h4d hr1 hr2 hce
  go_wp2_with fail
  refine wp_region_noPanic ?_
  go_region_law (first
    | (refine step_append_any (by rfl) _ _ 30 (by rfl) 24 2 16 keySlice (.slice none 0 0) 0 [] (by rfl) (World.ownsRow_nil _ _ _ _) (.slice la S.length lcap) S.length (S.flatMap keyC) (by rfl) HReads.out hkey hmx hby ?_; intro v' y1 hown hgrow hat; obtain ⟨q, nn, cc, rfl⟩ := own_form hown; have hby1 := below_grown hgrow (by intro j hj; simp [Value.ownBlock] at hj) (Nat.le_refl _); have s1 := zatB HT.out.1 hby1; have s2 := zatB HT.out.2.1 hby1; have s3 := zatB HT.out.2.2.1 hby1; have s4 := zatB HT.out.2.2.2.1 hby1; have s5 := (hby1.frozen (p := ⟨hc, 0, none⟩) HT.out.2.2.2.2.2).trans HT.out.2.2.2.2.1; have HOwn := Lib.hid hown; have HY1 := Lib.hid hby1; have HAt := Lib.hid hat; clear hown hgrow hat hby1))
  all_goals
    refine NoPanic.normal ?_
    have h5 : On w0 (y1.setCell ⟨hc, 0, none⟩ (.slice q nn cc)) (sep (refA hc S) (sep (boxA rb 154 #[.int .i64 most, .pointer (some ⟨hb, 0, none⟩), .int .i64 now, .int .i64 worst]) (sep (refA hb S) (sep (boxA cb 154 #[.int .i64 most, .pointer (some ⟨hc, 0, none⟩), .int .i64 0, .int .i64 0]) R)))) :=
      (H4.out.sw2.sw1.sw0).step1 fun F hF => ref_set hF HY1.out HOwn.out (by omega) (by simp) (own_new (B := w1.drew.heap.size) HAt.out (by simp [Value.ownBlock]) (Nat.le_refl _))
    have u1 := ((h5.sw0).box1 2).1
    have u2 := ((h5.sw0).box1 3).1
    have u3 := ((h5.sw2.sw1.sw0).box1 2).2
    have u7 := ((h5.sw2.sw1.sw0).box1 2).1
    have h6 := (h5.sw2.sw1.sw0).box_set 2 (.int .i64 now)
    have u5 := ((h6.sw1.sw0).box1 3).1
    have u6 := (h6.box1 3).2
    have u8 := (h6.box1 3).1
    have h7 := h6.box_set 3 (.int .i64 worst)
    have H7 := Lib.hid (On.sw0 (h7.sw1.sw0.sw2.sw1).rq_shut)
    clear h5 h6 h7 t1 t2 t3 t4 t5 s1 s2 s3 s4 s5
    go_wp2_with fail
    go_ret
    exact ⟨_, rfl, (H7.out.sw1).rq_shut⟩
end
end Go.Proofs.Ytkjpkhpiojahkaa
