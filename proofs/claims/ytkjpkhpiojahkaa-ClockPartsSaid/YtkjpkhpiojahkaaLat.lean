/-
  Numbers in a slice of the call's own that may begin within its block, and append onto it.
-/
import Derived.Test.YtkjpkhpiojahkaaTA
namespace Go.Proofs.Ytkjpkhpiojahkaa
set_option linter.unusedVariables false
open Go.RowKit Hp

def intL (zs : List Int) : List Value := zs.map fun x => Value.int .i64 x
theorem infoI : (Try.prog.info? 3).map (fun i => (i.zero, i.size, i.bytes)) = some (some (.int .i64 0), 1, 8) := by kernel_rfl
theorem intSl : SliceOf Try.prog 54 3 1 8 := by
  obtain ⟨i, hi, h⟩ := Option.map_eq_some_iff.1 infoI
  simp only [Prod.mk.injEq] at h
  exact ⟨Try.underlying54, ⟨i, .int .i64 0, hi, h.1, h.2.1, h.2.2, by simp [Value.cells]⟩, by decide⟩
theorem reads_i1 {A : World} {b : Nat} {v : Value} (h : A.cell? ⟨b, 0, none⟩ = some v) : Reads A (.slice (some ⟨b, 0, none⟩) 1 1) 1 1 [v] :=
  .inr ⟨_, _, rfl, rfl, fun j u hu => by
    match j, hu with
    | 0, hu => cases hu; exact h⟩
theorem ints_oneL (zs : List Int) : ∀ u ∈ intL zs, u.oneCell' = true := fun u hu => by
  obtain ⟨x, _, rfl⟩ := List.mem_map.1 hu
  rfl
theorem ints_get {zs : List Int} {i : Nat} {x : Int} (h : zs[i]? = some x) : (intL zs)[i]? = some (.int .i64 x) := by unfold intL; rw [List.getElem?_map, h]; rfl
def latA (v : Value) (zs : List Int) : Ast where
  holds w F := (v = .slice none 0 0 ∧ zs = [] ∧ ∀ j, ¬ F j) ∨ ∃ g off cap cur, v = .slice (some ⟨g, off, none⟩) zs.length cap ∧ w.heap[g]? = some (.cells cur 3 (0, 0)) ∧ zs.length ≤ cap ∧ cap ≤ maxLen ∧ off + cap ≤ cur.size ∧ (∀ j x, zs[j]? = some x → cur[off + j]? = some (.int .i64 x)) ∧ ∀ j, F j ↔ j = g
  stable := by
    rintro w w' F S (⟨h1, h2, h3⟩ | ⟨g, off, cap, cur, h1, h2, h3, h4, h5, h6, h7⟩) hm hS
    · exact .inl ⟨h1, h2, h3⟩
    · exact .inr ⟨g, off, cap, cur, h1, hm.obj h2 (hS g ((h7 g).2 rfl)), h3, h4, h5, h6, h7⟩
  lt := by
    rintro w F j (⟨_, _, h3⟩ | ⟨g, off, cap, cur, h1, h2, h3, h4, h5, h6, h7⟩) hj
    · exact absurd hj (h3 j)
    · rw [(h7 j).1 hj]
      exact lt_of_some h2
theorem Plain.lat (v : Value) (zs : List Int) : Plain (latA v zs) := ⟨by
  rintro w w' F S B (⟨h1, h2, h3⟩ | ⟨g, off, cap, cur, h1, h2, h3, h4, h5, h6, h7⟩) hm hS
  · exact .inl ⟨h1, h2, h3⟩
  · exact .inr ⟨g, off, cap, cur, h1, hm.obj h2 rfl (hS g ((h7 g).2 rfl)), h3, h4, h5, h6, h7⟩⟩
section
variable {P : Program} (w : World)
theorem run_append_roomO (t ty e : TypeId) (i : TypeInfo) (ht : P.underlying t = some (.slice e)) (hi : P.info? e = some i)
    (g off sLen sCap : Nat) (cur : Array Value) (hg : w.heap[g]? = some (.cells cur e (0, 0)))
    (a : Addr) (m c : Nat) (news : List Value) (hl : news.length = m * i.size) (hnews : ∀ j u, news[j]? = some u → w.cell? (a.add j) = some u) (h1 : ∀ u ∈ news, u.oneCell' = true)
    (hroom : sLen + m ≤ sCap) (hfit : off + sLen * i.size + news.length ≤ cur.size) :
    (Builtin.append_ #[t, t] ty #[.slice (some ⟨g, off, none⟩) sLen sCap, .slice (some a) m c]).run P w =
      .ok (.slice (some ⟨g, off, none⟩) (sLen + m) sCap) (w.setRow g (cur.toList.take (off + sLen * i.size) ++ news ++ cur.toList.drop (off + sLen * i.size + news.length)).toArray) := by
  have hf := run_firstCells_some (P := P) w i.size m a m c news hl hnews
  have hst := run_storeCells_at P g (off + sLen * i.size) e news 0 cur w hg (by simpa using hfit) h1
  simp only [Nat.add_zero] at hst
  simp [Builtin.append_, run_underlying ht, sizeOf, typeInfo, hi, Builtin.lenOf, hroom, hf, Addr.add_lit, hst]
end
section
variable {w0 w : World} {R : Ast} {v : Value} {zs : List Int} {F : Nat → Prop}
theorem On.lat_nil (h : On w0 w R) : On w0 w (sep (latA (.slice none 0 0) []) R) :=
  h.add (Below.refl _ w) (F := fun _ => False) (.inl ⟨rfl, rfl, fun _ h => h⟩) (fun _ h => h.elim)
theorem lat_form (h : (latA v zs).holds w F) : ∃ a c, v = .slice a zs.length c ∧ IntsAt w a zs := by
  rcases h with ⟨h1, h2, _⟩ | ⟨g, off, cap, cur, h1, h2, h3, h4, h5, h6, _⟩
  · subst h2
    exact ⟨_, _, h1, fun k hk => by simp at hk⟩
  · refine ⟨_, _, h1, fun k hk => ⟨g, off, rfl, lt_of_some h2, ?_⟩⟩
    have := h6 k _ (List.getElem?_eq_getElem hk)
    simp only [World.cell?, h2]
    rw [List.getElem?_eq_getElem hk]
    exact this
theorem On.lat_read (h : On w0 w (sep (latA v zs) R)) : ∃ a c, v = .slice a zs.length c ∧ IntsAt w a zs := by
  obtain ⟨F, hF, _⟩ := h.get1
  exact lat_form hF
/-- the rest of it, at its own place -/
theorem On.lat_tail {g off n c : Nat} {x : Int} (h : On w0 w (sep (latA (.slice (some ⟨g, off, none⟩) (n + 1) c) (x :: zs)) R)) : On w0 w (sep (latA (.slice (some ⟨g, off + 1, none⟩) n (c - 1)) zs) R) := h.mono1 fun F hF => by
  rcases hF with ⟨h1, _⟩ | ⟨g', off', cap, cur, h1, h2, h3, h4, h5, h6, h7⟩
  · cases h1
  · cases h1
    simp only [List.length_cons] at h3
    refine .inr ⟨g, off + 1, c - 1, cur, rfl, h2, by omega, by omega, by omega, fun j y hy => ?_, h7⟩
    have := h6 (j + 1) y (by simpa using hy)
    rwa [show off + 1 + j = off + (j + 1) by omega]
theorem On.lat_empty {g off n c : Nat} (h : On w0 w (sep (latA (.slice (some ⟨g, off, none⟩) n c) zs) R)) : On w0 w (sep (latA (.slice (some ⟨g, off, none⟩) 0 0) []) R) := h.mono1 fun F hF => by
  rcases hF with ⟨h1, _⟩ | ⟨g', off', cap, cur, h1, h2, h3, h4, h5, h6, h7⟩
  · cases h1
  · cases h1
    exact .inr ⟨g, off, 0, cur, rfl, h2, Nat.le_refl _, Nat.zero_le _, by omega, fun j y hy => by simp at hy, h7⟩
theorem setRow_mod {g : Nat} {cur new : Array Value} {e : TypeId} (hg : w.heap[g]? = some (.cells cur e (0, 0))) (hF : F g) : Mod F w (w.setRow g new) :=
  ⟨rfl, rfl, rfl, by simp, fun k o ho hc => by
    by_cases hk : k = g
    · subst hk
      rw [hg] at ho
      cases ho
      rcases hc with hc | hc
      · cases hc
      · exact absurd hF hc
    · rw [setRow_other w g k new hk]
      exact ho⟩
theorem drewAlloc_mod {o : Obj} : Mod F w (w.drew.alloc o) :=
  ⟨rfl, rfl, rfl, by simp, fun k o' ho _ => by rw [heap_alloc_old w.drew o k (lt_of_some ho)]; exact ho⟩
theorem intL_getO {zs : List Int} {j : Nat} {u : Value} (h : (intL zs)[j]? = some u) : ∃ x, zs[j]? = some x ∧ u = .int .i64 x := by
  unfold intL at h
  rw [List.getElem?_map] at h
  obtain ⟨x, hx, e⟩ := Option.map_eq_some_iff.1 h
  exact ⟨x, hx, e.symm⟩
/-- a slice value that reads as these numbers -/
def ReadsI (w : World) (x : Value) (m : Nat) (ms : List Int) : Prop := (∃ c, x = .slice none 0 c ∧ m = 0 ∧ ms = []) ∨ ∃ ad c, x = .slice (some ad) m c ∧ ms.length = m ∧ ∀ (j : Nat) (y : Int), ms[j]? = some y → w.cell? (ad.add j) = some (.int .i64 y)
theorem reads_intsAt {a : Option Addr} {n c : Nat} (h : IntsAt w a zs) (hn : zs.length = n) : ReadsI w (.slice a n c) n zs := by
  cases a with
  | none =>
    have h0 : zs.length = 0 := by
      refine Decidable.byContradiction fun h0 => ?_
      obtain ⟨_, _, he, _⟩ := h 0 (by omega)
      cases he
    have : zs = [] := List.eq_nil_of_length_eq_zero h0
    subst this
    subst hn
    exact .inl ⟨c, rfl, rfl, rfl⟩
  | some ad =>
    refine .inr ⟨ad, c, rfl, hn, fun j y hy => ?_⟩
    have hj := (List.getElem?_eq_some_iff.1 hy).1
    obtain ⟨b, off, he, _, hc⟩ := h j hj
    cases he
    rw [Addr.add_lit, hc, hy]
    rfl
theorem ReadsI.below {B : Nat} {w' : World} {x : Value} {m : Nat} {ms : List Int} (h : ReadsI w x m ms) (hB : w.heap.size ≤ B) (hb : Below B w w') : ReadsI w' x m ms := by
  rcases h with h | ⟨ad, c, h1, h2, h3⟩
  · exact .inl h
  · refine .inr ⟨ad, c, h1, h2, fun j u hu => ?_⟩
    have := h3 j u hu
    have hlt := World.block_lt_of_cell? w _ this
    exact (hb.cell (by omega)).trans this
theorem lat_append (ty : TypeId) (h : (latA v zs).holds w F) {x : Value} {m : Nat} {ms : List Int} (hx : ReadsI w x m ms) (h63 : zs.length + m ≤ maxLen) (hby : (zs.length + m) * 8 ≤ 140737488355328) :
    ∃ v' w', (Builtin.append_ #[54, 54] ty #[v, x]).run Try.prog w = .ok v' w' ∧ Step F w w' (latA v' (zs ++ ms)) ∧ Step F w w' (latA v zs) := by
  obtain ⟨i, z, hi, hz, hz1, hz2, hz3⟩ := intSl.info
  have ht := intSl.under
  rcases hx with ⟨c0, rfl, rfl, hms2⟩ | ⟨ad, c, rfl, hml, hn0⟩
  · subst hms2
    refine ⟨v, w, ?_, by rw [List.append_nil]; exact Step.refl h, Step.refl h⟩
    rcases h with ⟨h1, h2, _⟩ | ⟨g, off, cap, cur, h1, h2, h3, h4, h5, h6, h7⟩
    · subst h1
      simp [Builtin.append_, run_underlying ht, sizeOf, typeInfo, hi, Builtin.lenOf, Builtin.firstCells]
    · subst h1
      simp [Builtin.append_, run_underlying ht, sizeOf, typeInfo, hi, Builtin.lenOf, Builtin.firstCells, h3, storeCells]
  · have hl : (intL ms).length = m * 1 := by simp [intL, hml]
    have hn : ∀ j u, (intL ms)[j]? = some u → w.cell? (ad.add j) = some u := fun j u hu => by
      obtain ⟨y, hy, rfl⟩ := intL_getO hu
      exact hn0 j y hy
    have hl' : (intL ms).length = m * i.size := by rw [hz1]; exact hl
    have hone := ints_oneL ms
    have hmx : ((zs.length + m : Nat) : Int) ≤ 9223372036854775807 := by simp only [maxLen] at h63; omega
    rcases h with ⟨h1, h2, h3⟩ | ⟨g, off, cap, cur, h1, h2, h3, h4, h5, h6, h7⟩
    · subst h1
      subst h2
      by_cases hm0 : m = 0
      · subst hm0
        have hms2 : ms = [] := List.eq_nil_of_length_eq_zero hml
        subst hms2
        refine ⟨.slice none 0 0, w, ?_, Step.refl (.inl ⟨rfl, rfl, h3⟩), Step.refl (.inl ⟨rfl, rfl, h3⟩)⟩
        simp [Builtin.append_, run_underlying ht, sizeOf, typeInfo, hi, Builtin.lenOf, Builtin.firstCells, loadCells, loadCellsFrom]
      · have hr := run_append_nil (P := Try.prog) w 54 ty 3 i z ht hi hz ad m c (intL ms) hl' hn (by omega) (by simpa using hmx) (by rw [hz2]; simp only [List.length_nil, Nat.zero_add] at hby; omega)
        refine ⟨_, _, hr, ⟨fun j => j = w.heap.size, .inr ⟨w.heap.size, 0, _, _, by rw [List.nil_append, hml], heap_alloc_new w.drew _, ?_, ?_, ?_, fun j y hy => ?_, fun _ => Iff.rfl⟩, drewAlloc_mod, fun j hj => .inr (by show w.heap.size ≤ j; omega)⟩, ⟨F, .inl ⟨rfl, rfl, h3⟩, drewAlloc_mod, fun j hj => .inl hj⟩⟩
        · rw [List.nil_append, hml]
          exact grownCap_ge w m 0 3
        · exact grownCap_le_maxLen w m 0 3 (by simpa using h63)
        · have := grownCap_ge w m 0 3
          simp only [Array.size_append, List.size_toArray, size_zeroCells, hz3, hl]
          omega
        · rw [List.nil_append] at hy
          have hj := (List.getElem?_eq_some_iff.1 hy).1
          rw [Nat.zero_add, Array.getElem?_append_left (by simp [intL]; omega), List.getElem?_toArray]
          exact ints_get hy
    · subst h1
      have hcl : cur.toList.length = cur.size := Array.length_toList
      by_cases hroom : zs.length + m ≤ cap
      · have hfit : off + zs.length * i.size + (intL ms).length ≤ cur.size := by rw [hz1, hl]; omega
        have hr := run_append_roomO (P := Try.prog) w 54 ty 3 i ht hi g off zs.length cap cur h2 ad m c (intL ms) hl' hn hone hroom hfit
        rw [hz1, Nat.mul_one, hl, Nat.mul_one] at hr
        have hnew := setRow_heap w g cur (cur.toList.take (off + zs.length) ++ intL ms ++ cur.toList.drop (off + zs.length + m)).toArray 3 _ h2
        have hsz : (cur.toList.take (off + zs.length) ++ intL ms ++ cur.toList.drop (off + zs.length + m)).toArray.size = cur.size := by
          simp only [List.size_toArray, List.length_append, List.length_take, List.length_drop, hcl, hl]
          omega
        have hold : ∀ j y, zs[j]? = some y → (cur.toList.take (off + zs.length) ++ intL ms ++ cur.toList.drop (off + zs.length + m)).toArray[off + j]? = some (.int .i64 y) := fun j y hy => by
          have hj := (List.getElem?_eq_some_iff.1 hy).1
          rw [List.getElem?_toArray, List.append_assoc, List.getElem?_append_left (by rw [List.length_take, hcl]; omega), List.getElem?_take, if_pos (by omega), Array.getElem?_toList]
          exact h6 j y hy
        refine ⟨_, _, hr, ⟨F, .inr ⟨g, off, cap, _, by rw [List.length_append, hml], hnew, by rw [List.length_append, hml]; exact hroom, h4, by rw [hsz]; exact h5, fun j y hy => ?_, h7⟩, setRow_mod h2 ((h7 g).2 rfl), fun j hj => .inl hj⟩, ⟨F, .inr ⟨g, off, cap, _, rfl, hnew, h3, h4, by rw [hsz]; exact h5, hold, h7⟩, setRow_mod h2 ((h7 g).2 rfl), fun j hj => .inl hj⟩⟩
        by_cases hj : j < zs.length
        · rw [List.getElem?_append_left hj] at hy
          exact hold j y hy
        · rw [List.getElem?_append_right (by omega)] at hy
          have hj2 := (List.getElem?_eq_some_iff.1 hy).1
          rw [List.getElem?_toArray, List.append_assoc, List.getElem?_append_right (by rw [List.length_take, hcl]; omega), List.length_take, hcl, Nat.min_eq_left (by omega), List.getElem?_append_left (by simp [intL]; omega), show off + j - (off + zs.length) = j - zs.length by omega]
          exact ints_get hy
      · have holds : ∀ j u, (intL zs)[j]? = some u → w.cell? ((⟨g, off, none⟩ : Addr).add j) = some u := fun j u hu => by
          obtain ⟨y, hy, rfl⟩ := intL_getO hu
          rw [Addr.add_lit]
          simp only [World.cell?, h2]
          exact h6 j y hy
        have hr := run_append_grow (P := Try.prog) w 54 ty 3 i z ht hi hz ⟨g, off, none⟩ zs.length cap (intL zs) (by rw [hz1]; simp [intL]) holds ad m c (intL ms) hl' hn (by omega) hmx (growslice_fits (by omega) (by rw [hz2]; exact hby))
        refine ⟨_, _, hr, ⟨fun j => j = w.heap.size, .inr ⟨w.heap.size, 0, _, _, by rw [List.length_append, hml], heap_alloc_new w.drew _, ?_, ?_, ?_, fun j y hy => ?_, fun _ => Iff.rfl⟩, drewAlloc_mod, fun j hj => .inr (by show w.heap.size ≤ j; omega)⟩, ⟨F, .inr ⟨g, off, cap, cur, rfl, (drewAlloc_mod (F := fun _ => False)).block g _ h2 (.inr (fun h => h)), h3, h4, h5, h6, h7⟩, drewAlloc_mod, fun j hj => .inl hj⟩⟩
        · rw [List.length_append, hml]
          exact grownCap_ge w (zs.length + m) cap 3
        · exact grownCap_le_maxLen w (zs.length + m) cap 3 h63
        · have := grownCap_ge w (zs.length + m) cap 3
          have hil : (intL zs).length = zs.length := by simp [intL]
          simp only [Array.size_append, List.size_toArray, size_zeroCells, hz3, hl, hil]
          omega
        · have hj := (List.getElem?_eq_some_iff.1 hy).1
          rw [List.length_append] at hj
          have hil : (intL zs).length = zs.length := by simp [intL]
          rw [Nat.zero_add, Array.getElem?_append_left (by simp only [Array.size_append, List.size_toArray, hil, hl]; omega)]
          have e : (intL zs).toArray ++ (intL ms).toArray = (intL zs ++ intL ms).toArray := by simp
          rw [e, List.getElem?_toArray, show intL zs ++ intL ms = intL (zs ++ ms) from by unfold intL; rw [List.map_append]]
          exact ints_get hy
theorem On.lat_app (ty : TypeId) (h : On w0 w (sep (latA v zs) R)) {x : Value} {m : Nat} {ms : List Int} (hx : ReadsI w x m ms) (h63 : zs.length + m ≤ maxLen) (hby : (zs.length + m) * 8 ≤ 140737488355328) :
    ∃ v' w', (Builtin.append_ #[54, 54] ty #[v, x]).run Try.prog w = .ok v' w' ∧ On w0 w' (sep (latA v' (zs ++ ms)) R) ∧ On w0 w' (sep (latA v zs) R) := by
  obtain ⟨F, hF, _⟩ := h.get1
  obtain ⟨v', w', hr, _, _⟩ := lat_append ty hF hx h63 hby
  refine ⟨v', w', hr, h.step1 fun F' hF' => ?_, h.step1 fun F' hF' => ?_⟩
  · obtain ⟨v2, w2, hr2, s1, _⟩ := lat_append ty hF' hx h63 hby
    rw [hr] at hr2
    cases hr2
    exact s1
  · obtain ⟨v2, w2, hr2, _, s2⟩ := lat_append ty hF' hx h63 hby
    rw [hr] at hr2
    cases hr2
    exact s2
theorem wpList_append_lat {ops : Array Oper} {rest : List Oper} {o : Oper} {a : Act} {Q : Exit → Act → World → Prop} (hgd : o.guard = none) (s x : Operand)
    (ho : o.op = .call { callee := .builtin .append, args := #[s, x], argTypes := #[54, 54] }) (hs : a.eval s = v) (h : On w0 w (sep (latA v zs) R))
    {y : Value} {m : Nat} {ms : List Int} (hx : a.eval x = y) (hy : ReadsI w y m ms) (h63 : zs.length + m ≤ maxLen) (hby : (zs.length + m) * 8 ≤ 140737488355328)
    (k : ∀ v' w', On w0 w' (sep (latA v' (zs ++ ms)) R) → On w0 w' (sep (latA v zs) R) → wpList Try.prog ops Q rest (a.put o.dst v') w') : wpList Try.prog ops Q (o :: rest) a w := by
  refine wpList_plain hgd fun K hK => ?_
  obtain ⟨v', w', hr, h1, h2⟩ := h.lat_app o.type hy h63 hby
  unfold Oper.wp execOp
  simp only [ho, resolve, invoke, builtin, Sem.run_bind, Sem.run_pure, Result.andThen_ok, List.map_toArray, List.map_cons, List.map_nil, hs, hx, hr]
  exact hK _ _ (k v' w' h1 h2)
end
end Go.Proofs.Ytkjpkhpiojahkaa
