/-
  Place: plain facts on one more server. No program in sight.
-/
import Derived.Test.YtkjpkhpiojahkaaPl4
namespace Go.Proofs.Ytkjpkhpiojahkaa
set_option linter.unusedVariables false
open Go.RowKit Hp

theorem lastH_append {P Q : List (It Int)} (h : Q ≠ []) : lastH (P ++ Q) = lastH Q := by
  unfold lastH
  rw [List.getLast?_append]
  cases hq : Q.getLast? with
  | none => exact absurd (List.getLast?_eq_none_iff.1 hq) h
  | some x => rfl
theorem mem_set_other {l : List Int} {v : Nat} {x y z : Int} (hx : x ∈ l) (hz : l[v]?.getD 0 = z) (hne : x ≠ z) : x ∈ l.set v y := by
  obtain ⟨i, hi, e⟩ := List.mem_iff_getElem.1 hx
  have hiv : v ≠ i := fun h => by
    subst h
    rw [List.getElem?_eq_getElem hi, Option.getD_some, e] at hz
    exact hne hz
  refine List.mem_of_getElem? (i := i) ?_
  rw [List.getElem?_set, if_neg hiv, List.getElem?_eq_getElem hi, e]
theorem atI_set {l : List Int} {p : Nat} {id : Int} (hp : p < l.length) (hid : id ∉ l) : atI (l.set p id) id = (p : Int) := by
  refine atI_found (by rw [List.getElem?_set, if_pos rfl, if_pos hp]) fun j hj e => ?_
  rw [List.getElem?_set, if_neg (by omega)] at e
  exact hid (List.mem_of_getElem? e)
theorem Laid.mono {B B' a : List Int} (h : Laid B a) (hs : ∀ x ∈ B, x ∈ B') : Laid B' a :=
  ⟨h.once, fun x hx => (h.mem x hx).imp id (hs x)⟩
section
variable {r a : List Int} {S : List (It Int)} {ks : List (Int × Int)} {t id : Int}
theorem not_in {n : Nat} (h : Placed r a (bestI S n)) (hg : Good ks S) (h0 : 0 ≤ id) (hid : id ∉ ks.map (·.2)) : id ∉ a := fun hm =>
  hid (hg.id.1 (bestI_sub ((h.laid.mem _ hm).resolve_left (by omega))))
theorem beatsB_eq (h : Placed r a (bestI S r.length)) (hg : Good ks S) : beatsB a S t id = (decide (min r.length S.length < r.length) || bef (t, id) ((lastH (S.take r.length)).2, (lastH (S.take r.length)).1)) := by
  unfold beatsB
  rw [hitS_placed h hg, List.length_take, h.len]
/-- a server that does not beat turns nothing -/
theorem place_less (h : Placed r a (bestI S r.length)) (hg : Good ks S) (hid : id ∉ ks.map (·.2)) (h1 : 1 ≤ r.length) (hb : beatsB a S t id = false) : placeL a (ins ltI (id, t) S) = a := by
  rw [beatsB_eq h hg, Bool.or_eq_false_iff] at hb
  obtain ⟨hb1, hb2⟩ := hb
  have hn : r.length ≤ S.length := by have := of_decide_eq_false hb1; omega
  obtain ⟨P, Q, e1, e2, _, hQ⟩ := ins_split (y := (id, t)) hg.sorted fun z hz e => hid (List.mem_map.2 ⟨_, hg.mem.1 hz, e⟩)
  have hPn : r.length ≤ P.length := by
    refine Decidable.byContradiction fun hlt => ?_
    have ht : S.take r.length = P ++ Q.take (r.length - P.length) := by rw [e1, List.take_append, List.take_of_length_le (by omega)]
    have hql : Q.take (r.length - P.length) ≠ [] := fun e => by
      have := congrArg List.length e
      rw [List.length_take, List.length_nil] at this
      have : S.length = P.length + Q.length := by rw [e1, List.length_append]
      omega
    have hl : lastH (S.take r.length) ∈ Q := by
      rw [ht, lastH_append hql]
      exact List.mem_of_mem_take (lastH_mem fun e => hql (List.length_eq_zero_iff.1 e))
    have := hQ _ hl
    rw [aheadI] at this
    rw [hb2] at this
    cases this
  have hB : bestI (ins ltI (id, t) S) a.length = bestI S a.length := by
    unfold bestI
    rw [e2, e1, h.len, List.take_append_of_le_length hPn, List.take_append_of_le_length hPn]
  have : placeL a (ins ltI (id, t) S) = placeL a S := by unfold placeL; rw [hB]
  rw [this]
  exact place_again h
/-- one that beats runs then, at the first idle worker or at that of the last one to be wanted -/
theorem place_more (h : Placed r a (bestI S r.length)) (hg : Good ks S) (hid : id ∉ ks.map (·.2)) (h0 : 0 ≤ id) (h1 : 1 ≤ r.length) (hw : workE a = 0) (hb : beatsB a S t id = true) :
    ∃ p, p < a.length ∧ placeL a (ins ltI (id, t) S) = a.set p id ∧ id ≠ a[p]?.getD 0 ∧ atI (a.set p id) id = (p : Int) ∧ ((-1 ∈ a ∧ atI a (-1) = (p : Int)) ∨ (-1 ∉ a ∧ atI a (-1) = -1 ∧ victW a S = (p : Int))) := by
  rw [beatsB_eq h hg] at hb
  have hida := not_in h hg h0 hid
  have hne : ∀ p, p < a.length → id ≠ a[p]?.getD 0 := fun p hp e => hida (by rw [List.getElem?_eq_getElem hp, Option.getD_some] at e; exact e ▸ List.getElem_mem hp)
  obtain ⟨P, Q, e1, e2, hP, _⟩ := ins_split (y := (id, t)) hg.sorted fun z hz e => hid (List.mem_map.2 ⟨_, hg.mem.1 hz, e⟩)
  have hSl : S.length = P.length + Q.length := by rw [e1, List.length_append]
  by_cases hn : S.length < r.length
  · have hB : bestI S r.length = S.map (·.1) := by unfold bestI; rw [List.take_of_length_le (by omega)]
    have hB' : bestI (ins ltI (id, t) S) a.length = P.map (·.1) ++ id :: Q.map (·.1) := by
      unfold bestI
      rw [List.take_of_length_le (by rw [ins_length, h.len]; omega), e2, List.map_append]
      rfl
    have hsub : ∀ x ∈ P.map (·.1) ++ Q.map (·.1), x ∈ a := fun x hx => h.all x (by rw [hB, e1, List.map_append]; exact hx)
    have hLd : Laid (P.map (·.1) ++ id :: Q.map (·.1)) a := h.laid.mono fun x hx => by
      rw [hB, e1, List.map_append] at hx
      rcases List.mem_append.1 hx with h2 | h2
      · exact List.mem_append_left _ h2
      · exact List.mem_append_right _ (List.mem_cons_of_mem _ h2)
    have hidl : -1 ∈ a := hLd.idle (id := id) (List.mem_append_right _ (List.mem_cons_self ..)) (by simp only [List.length_append, List.length_cons, List.length_map]; rw [h.len]; omega) hida
    have hp := List.idxOf_lt_length_iff.2 hidl
    refine ⟨a.idxOf (-1), hp, ?_, hne _ hp, atI_set hp hida, .inl ⟨hidl, by unfold atI; rw [if_pos hidl]⟩⟩
    have hz : a[a.idxOf (-1)]?.getD 0 = -1 := by rw [List.getElem?_eq_getElem hp, Option.getD_some]; exact List.getElem_idxOf hp
    unfold placeL
    rw [hB', outB_same hLd, fillB_append, fillB_same fun x hx => hsub x (List.mem_append_left _ hx)]
    show fillB (putB a id) (Q.map (·.1)) = _
    have hpb : putB a id = a.set (a.idxOf (-1)) id := by unfold putB; rw [if_neg hida]
    rw [hpb]
    refine fillB_same fun x hx => mem_set_other (hsub x (List.mem_append_right _ hx)) hz fun e => ?_
    obtain ⟨y, hy, rfl⟩ := List.mem_map.1 hx
    have := hg.pos y (by rw [e1]; exact List.mem_append_right _ hy)
    omega
  · have hbz : bef (t, id) ((lastH (S.take r.length)).2, (lastH (S.take r.length)).1) = true := by
      rw [decide_eq_false (by omega), Bool.false_or] at hb
      exact hb
    have hPn : P.length < r.length := by
      refine Decidable.byContradiction fun hge => ?_
      have ht : S.take r.length = P.take r.length := by rw [e1, List.take_append_of_le_length (by omega)]
      have hz : lastH (S.take r.length) ∈ P := by
        have : lastH (S.take r.length) ∈ S.take r.length := lastH_mem (by rw [List.length_take]; omega)
        rw [ht] at this ⊢
        exact List.mem_of_mem_take this
      have h2 := ahead_asymm ltI_swo (hP _ hz)
      rw [aheadI, hbz] at h2
      cases h2
    obtain ⟨m, hm⟩ : ∃ m, r.length - P.length = m + 1 := ⟨r.length - P.length - 1, by omega⟩
    obtain ⟨z, hz⟩ : ∃ z, Q[m]? = some z := ⟨_, List.getElem?_eq_getElem (by omega)⟩
    have ht : S.take r.length = P ++ (Q.take m ++ [z]) := by
      rw [e1, List.take_append, List.take_of_length_le (by omega), hm, List.take_add_one, hz]
      rfl
    have hlz : lastH (S.take r.length) = z := by rw [ht, ← List.append_assoc, lastH_snoc]
    have hB : bestI S r.length = P.map (·.1) ++ (Q.take m).map (·.1) ++ [z.1] := by
      unfold bestI
      rw [ht, List.map_append, List.map_append, ← List.append_assoc]
      rfl
    have hB' : bestI (ins ltI (id, t) S) a.length = P.map (·.1) ++ id :: (Q.take m).map (·.1) := by
      unfold bestI
      rw [e2, h.len, List.take_append, List.take_of_length_le (by omega), hm, List.take_succ_cons, List.map_append]
      rfl
    obtain ⟨U, hU⟩ : ∃ U, P.map (·.1) = U := ⟨_, rfl⟩
    obtain ⟨V, hV⟩ : ∃ V, (Q.take m).map (·.1) = V := ⟨_, rfl⟩
    rw [hU, hV] at hB hB'
    have hnd := hg.best_nodup (n := r.length)
    have hpos := hg.best_pos (n := r.length)
    have hful := h.full hnd hpos (by rw [bestI_length]; omega)
    rw [hB] at hnd hpos
    have hUV : ∀ x ∈ U ++ V, x ≠ z.1 := fun x hx e => by
      rw [List.nodup_append] at hnd
      exact hnd.2.2 x hx _ (List.mem_singleton.2 rfl) e
    have hza : z.1 ∈ a := h.all _ (by rw [hB]; exact List.mem_append_right _ (List.mem_singleton.2 rfl))
    have hUVa : ∀ x ∈ U ++ V, x ∈ a := fun x hx => h.all _ (by rw [hB]; exact List.mem_append_left _ hx)
    obtain ⟨v, hv⟩ : ∃ v, a.idxOf z.1 = v := ⟨_, rfl⟩
    have hvl : v < a.length := by rw [← hv]; exact List.idxOf_lt_length_iff.2 hza
    have hvz : a[v]?.getD 0 = z.1 := by
      subst hv
      rw [List.getElem?_eq_getElem hvl, Option.getD_some]
      exact List.getElem_idxOf hvl
    have hz0 : 0 ≤ z.1 := hpos z.1 (List.mem_append_right _ (List.mem_singleton.2 rfl))
    have hO : outB (U ++ id :: V) a = a.set v (-1) := by
      refine List.ext_getElem (by rw [outB_length, List.length_set]) fun i hi1 hi2 => ?_
      have hi : i < a.length := by rw [outB_length] at hi1; exact hi1
      have hg1 := outB_get (B := U ++ id :: V) hi
      rw [List.getElem?_eq_getElem hi1, Option.getD_some] at hg1
      rw [hg1, List.getElem_set]
      by_cases hvi : v = i
      · subst hvi
        rw [if_pos rfl, hvz, if_neg]
        intro hm
        rcases List.mem_append.1 hm with h2 | h2
        · exact hUV _ (List.mem_append_left _ h2) rfl
        · rcases List.mem_cons.1 h2 with h2 | h2
          · exact hida (h2 ▸ hza)
          · exact hUV _ (List.mem_append_right _ h2) rfl
      · rw [if_neg hvi]
        have hia : a[i]?.getD 0 = a[i] := by rw [List.getElem?_eq_getElem hi]; rfl
        rw [hia, if_pos]
        have hmem : a[i] ∈ a := List.getElem_mem hi
        have hm1 : a[i] ≠ -1 := fun e => hful (e ▸ hmem)
        have hm2 := (h.laid.mem _ hmem).resolve_left hm1
        rw [hB] at hm2
        rcases List.mem_append.1 hm2 with h2 | h2
        · rcases List.mem_append.1 h2 with h3 | h3
          · exact List.mem_append_left _ h3
          · exact List.mem_append_right _ (List.mem_cons_of_mem _ h3)
        · exfalso
          have h3 := List.mem_singleton.1 h2
          have := h.laid.once v i hvl hi (by rw [hvz, hia, h3]) (by rw [hvz]; omega)
          exact hvi this
    refine ⟨v, hvl, ?_, hne _ hvl, atI_set hvl hida, .inr ⟨hful, by unfold atI; rw [if_neg hful], ?_⟩⟩
    · unfold placeL
      rw [hB', hO, fillB_append, fillB_same fun x hx => mem_set_other (hUVa x (List.mem_append_left _ hx)) hvz (hUV x (List.mem_append_left _ hx))]
      show fillB (putB (a.set v (-1)) id) V = _
      have hix : (a.set v (-1)).idxOf (-1) = v := idxOf_found (by rw [List.getElem?_set, if_pos rfl, if_pos hvl]) fun j hj e => by
        rw [List.getElem?_set, if_neg (by omega)] at e
        exact hful (List.mem_of_getElem? e)
      have hnm : id ∉ a.set v (-1) := fun hm => by
        rcases List.mem_or_eq_of_mem_set hm with h2 | h2
        · exact hida h2
        · omega
      have hpb : putB (a.set v (-1)) id = a.set v id := by unfold putB; rw [if_neg hnm, hix, List.set_set]
      rw [hpb]
      exact fillB_same fun x hx => mem_set_other (hUVa x (List.mem_append_right _ hx)) hvz (hUV x (List.mem_append_right _ hx))
    · unfold victW
      rw [hitS_placed h hg, if_neg (by rw [List.length_take]; omega), hlz]
      unfold atI
      rw [if_pos hza, hv]
end
end Go.Proofs.Ytkjpkhpiojahkaa
