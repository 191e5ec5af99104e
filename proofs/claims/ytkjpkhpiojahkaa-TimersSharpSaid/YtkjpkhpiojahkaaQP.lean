/-
  Plain: which keys may be put into a queue.
  Walks: any keys are put; slices of keys; a list of keys grows.
-/
import Derived.Test.YtkjpkhpiojahkaaRq5
import Derived.Test.YtkjpkhpiojahkaaQK
import Derived.Test.YtkjpkhpiojahkaaLK
/-! ### Plain: which keys may be put into a queue. -/
namespace Go.Proofs.Ytkjpkhpiojahkaa.Hp
set_option linter.unusedVariables false
open Go.RowKit

theorem first_bad (p : Nat → Prop) [DecidablePred p] : ∀ n, ∃ i, i ≤ n ∧ (∀ j, j < i → p j) ∧ (i < n → ¬ p i)
  | 0 => ⟨0, Nat.le_refl _, fun j h => by omega, fun h => by omega⟩
  | n + 1 => by
    obtain ⟨i, h1, h2, h3⟩ := first_bad p n
    by_cases hi : i = n
    · subst hi
      by_cases hp : p i
      · refine ⟨i + 1, Nat.le_refl _, fun j hj => ?_, fun h => by omega⟩
        by_cases hji : j = i
        · rw [hji]; exact hp
        · exact h2 j (by omega)
      · exact ⟨i, by omega, h2, fun _ => hp⟩
    · exact ⟨i, by omega, h2, fun _ => h3 (by omega)⟩

def kj (ks : List (Int × Int)) (j : Nat) : Int × Int := ks[j]?.getD (0, 0)
def okAt (S : List (It Int)) (ks : List (Int × Int)) (j : Nat) : Prop := checkE (addN S ks j) (kj ks j).1 (kj ks j).2 = 0
instance (S : List (It Int)) (ks : List (Int × Int)) : DecidablePred (okAt S ks) := fun j => by unfold okAt; infer_instance
def okAll (S : List (It Int)) (ks : List (Int × Int)) : Prop := ∀ j, j < ks.length → okAt S ks j
def itk (ks : List (Int × Int)) : List (It Int) := ks.map fun k => (k.2, k.1)
def Puts (S : List (It Int)) (ks : List (Int × Int)) : Prop := (∀ k ∈ ks, 0 ≤ k.2 ∧ timeE k.1 = 0 ∧ has S k.2 = false) ∧ (ks.map (·.2)).Nodup

section
variable {S : List (It Int)} {ks : List (Int × Int)}
theorem itk_length : (itk ks).length = ks.length := List.length_map ..
theorem kj_get {j : Nat} (hj : j < ks.length) : kj ks j = ks[j] := by simp [kj, List.getElem?_eq_getElem hj]
theorem putS_perm {t id : Int} (h0 : 0 ≤ id) (h1 : has S id = false) : (putS ltI S id t).Perm ((id, t) :: S) := by
  unfold putS
  rw [if_neg (by omega), h1, if_neg (by simp)]
  exact ins_perm _ _
theorem addN_perm : ∀ i, i ≤ ks.length → (∀ j, j < i → okAt S ks j) → (addN S ks i).Perm (S ++ itk (ks.take i))
  | 0, _, _ => by simp [addN, itk]
  | i + 1, hi, h => by
    have ih := addN_perm i (by omega) fun j hj => h j (by omega)
    obtain ⟨h0, _, h1⟩ := checkE_ok (h i (by omega))
    refine (putS_perm h0 h1).trans ?_
    rw [List.take_succ_eq_append_getElem (by omega), itk, List.map_append]
    have hk := kj_get (ks := ks) (j := i) (by omega)
    unfold kj at hk
    unfold kj
    rw [hk]
    refine ((List.Perm.cons _ ih).trans ?_)
    rw [← List.append_assoc]
    unfold itk
    simpa using List.perm_append_comm (l₁ := [((ks[i]'(by omega)).2, (ks[i]'(by omega)).1)]) (l₂ := S ++ (ks.take i).map fun k => (k.2, k.1))
theorem has_perm {T : List (It Int)} (h : S.Perm T) (id : Int) : has S id = has T id := by
  rw [Bool.eq_iff_iff]
  constructor
  · intro h1
    obtain ⟨k, hk⟩ := has_some h1
    exact has_mem (h.subset hk)
  · intro h1
    obtain ⟨k, hk⟩ := has_some h1
    exact has_mem (h.symm.subset hk)
theorem has_append {T : List (It Int)} (id : Int) : has (S ++ T) id = (has S id || has T id) := by simp [has]
theorem has_itk (id : Int) : has (itk ks) id = true ↔ id ∈ ks.map (·.2) := by
  simp [has, itk, List.any_map]
theorem okAll_puts (h : okAll S ks) : Puts S ks := by
  have key : ∀ j (hj : j < ks.length), 0 ≤ (ks[j]).2 ∧ timeE (ks[j]).1 = 0 ∧ has S (ks[j]).2 = false ∧ ∀ m (hm : m < j), (ks[m]'(by omega)).2 ≠ (ks[j]).2 := fun j hj => by
    obtain ⟨h0, h1, h2⟩ := checkE_ok (h j hj)
    rw [kj_get hj] at h0 h1 h2
    rw [has_perm (addN_perm j (by omega) fun m hm => h m (by omega)), has_append, Bool.or_eq_false_iff] at h2
    refine ⟨h0, h1, h2.1, fun m hm e => ?_⟩
    have h3 : has (itk (ks.take j)) (ks[j]).2 = true := (has_itk _).2 (List.mem_map.2 ⟨ks[m], List.mem_take_iff_getElem.2 ⟨m, by omega, rfl⟩, e⟩)
    rw [h3] at h2
    exact absurd h2.2 (by simp)
  refine ⟨fun k hk => ?_, ?_⟩
  · obtain ⟨j, hj, e⟩ := List.mem_iff_getElem.1 hk
    obtain ⟨h0, h1, h2, _⟩ := key j hj
    rw [e] at h0 h1 h2
    exact ⟨h0, h1, h2⟩
  · rw [List.nodup_iff_pairwise_ne, List.pairwise_iff_getElem]
    intro m j hm hj hmj
    simp only [List.getElem_map]
    exact (key j (by simpa using hj)).2.2.2 m hmj
theorem puts_okAll (h : Puts S ks) : okAll S ks := by
  have key : ∀ i, i ≤ ks.length → ∀ j, j < i → okAt S ks j := by
    intro i
    induction i with
    | zero => intro _ j hj; omega
    | succ i ih =>
      intro hi j hj
      have ih := ih (by omega)
      by_cases hji : j = i
      · subst hji
        have hj' : j < ks.length := by omega
        obtain ⟨h0, h1, h2⟩ := h.1 _ (List.getElem_mem hj')
        have h3 : has (itk (ks.take j)) (ks[j]).2 = false := by
          rw [Bool.eq_false_iff]
          intro hh
          obtain ⟨k, hk, e⟩ := List.mem_map.1 ((has_itk _).1 hh)
          obtain ⟨m, hm, e2⟩ := List.mem_take_iff_getElem.1 hk
          have hp := List.pairwise_iff_getElem.1 (List.nodup_iff_pairwise_ne.1 h.2) m j (by simp; omega) (by simpa using hj') (by omega)
          simp only [List.getElem_map] at hp
          exact hp (by rw [e2]; exact e)
        unfold okAt
        rw [kj_get hj']
        unfold checkE
        rw [if_neg (by omega), if_pos h1, has_perm (addN_perm j (by omega) ih), has_append, h2, h3]
        rfl
      · exact ih j (by omega)
  exact fun j hj => key ks.length (Nat.le_refl _) j hj
/-- all of the keys are in -/
def putAll (S : List (It Int)) (ks : List (Int × Int)) : List (It Int) := addN S ks ks.length
theorem putAll_perm (h : Puts S ks) : (putAll S ks).Perm (S ++ itk ks) := by
  have := addN_perm ks.length (Nat.le_refl _) (puts_okAll h)
  rwa [List.take_length] at this
theorem putAll_sorted (hs : Sorted ltI S) : Sorted ltI (putAll S ks) := addN_sorted hs _
theorem Puts.perm {ms : List (Int × Int)} (h : Puts S ks) (hp : ks.Perm ms) : Puts S ms :=
  ⟨fun k hk => h.1 k (hp.symm.subset hk), (hp.map _).nodup_iff.1 h.2⟩
theorem Puts.reverse_iff : Puts S ks.reverse ↔ Puts S ks := ⟨fun h => h.perm (List.reverse_perm ks), fun h => h.perm (List.reverse_perm ks).symm⟩
theorem Puts.take (h : Puts S ks) (n : Nat) : Puts S (ks.take n) :=
  ⟨fun k hk => h.1 k (List.mem_of_mem_take hk), by rw [List.map_take]; exact h.2.sublist (List.take_sublist _ _)⟩
theorem Puts.drop (h : Puts S ks) (n : Nat) : Puts (putAll S (ks.take n)) (ks.drop n) := by
  refine ⟨fun k hk => ?_, by rw [List.map_drop]; exact h.2.sublist (List.drop_sublist _ _)⟩
  obtain ⟨h0, h1, h2⟩ := h.1 k (List.mem_of_mem_drop hk)
  refine ⟨h0, h1, ?_⟩
  rw [has_perm (putAll_perm (h.take n)), has_append, h2, Bool.false_or, Bool.eq_false_iff]
  intro hh
  obtain ⟨m, hm, e⟩ := List.mem_map.1 ((has_itk _).1 hh)
  have h4 := h.2
  rw [← List.take_append_drop n ks, List.map_append, List.nodup_append] at h4
  exact h4.2.2 _ (List.mem_map.2 ⟨m, hm, rfl⟩) _ (List.mem_map.2 ⟨k, hk, rfl⟩) e
theorem putAll_parts (h : Puts S ks) (hs : Sorted ltI S) (n : Nat) : putAll (putAll S (ks.take n)) (ks.drop n) = putAll S ks := by
  refine Sorted.eq_of_perm ltI_swo (putAll_sorted (putAll_sorted hs)) (putAll_sorted hs) ?_
  refine (putAll_perm (h.drop n)).trans ?_
  refine ((putAll_perm (h.take n)).append_right _).trans (List.Perm.trans ?_ (putAll_perm h).symm)
  rw [List.append_assoc, itk, itk, ← List.map_append, List.take_append_drop]
  exact List.Perm.refl _
theorem putAll_rev (h : Puts S ks) (hs : Sorted ltI S) : putAll S ks.reverse = putAll S ks := by
  refine Sorted.eq_of_perm ltI_swo (putAll_sorted hs) (putAll_sorted hs) ?_
  refine (putAll_perm (Puts.reverse_iff.2 h)).trans (List.Perm.trans ?_ (putAll_perm h).symm)
  exact ((List.reverse_perm ks).map _).append_left S
theorem putAll_length (h : Puts S ks) : (putAll S ks).length = S.length + ks.length := by
  rw [(putAll_perm h).length_eq, List.length_append, itk_length]
end
end Go.Proofs.Ytkjpkhpiojahkaa.Hp

/-! ### Walks: any keys are put; slices of keys; a list of keys grows. -/
namespace Go.Proofs.Ytkjpkhpiojahkaa
set_option linter.unusedVariables false
open Go.RowKit Hp Go.WideShapes

section
variable {w0 w : World} {qb : Nat} {S : List (It Int)} {R : Ast}
theorem Q_puts (h : On w0 w (sep (quA qb S) R)) (a : Option Addr) (cap : Nat) (ks : List (Int × Int)) (hk : ∀ A T, On w0 A (sep (quA qb T) R) → Ke.KeysAt A a ks) (hwf : ∀ k ∈ ks, (Lit.int .i64 k.2).wf = true) (hcap : ks.length ≤ cap) (hcm : cap ≤ 9223372036854775807)
    (hl : S.length + ks.length < 800000) :
    Calls Try.prog 92 #[.pointer (some ⟨qb, 0, none⟩), .slice a ks.length cap] w fun e w' => ∃ te S', e = .returned (.int .i64 te) ∧ On w0 w' (sep (quA qb S') R) ∧ ((te = 0 ∧ Puts S ks ∧ S' = putAll S ks) ∨ (te ≠ 0 ∧ ¬ Puts S ks ∧ S' = S)) := by
  obtain ⟨i, h1, h2, h3⟩ := first_bad (okAt S ks) ks.length
  refine (Q_put h a cap ks hk hwf hcap hcm hl i h1 h2 _ rfl (fun hi => ?_)).mono fun e w' ⟨he, hw⟩ => ⟨_, _, he, hw, ?_⟩
  · rw [if_pos hi]; exact h3 hi
  · unfold putT
    by_cases hi : i < ks.length
    · rw [if_pos hi, if_pos hi]
      exact .inr ⟨h3 hi, fun hg => h3 hi (puts_okAll hg i hi), rfl⟩
    · rw [if_neg hi, if_neg hi]
      exact .inl ⟨rfl, okAll_puts fun j hj => h2 j (by omega), rfl⟩
end

theorem leastS_all {T : List (It Int)} {k : Int} (h : (T.length : Int) ≤ k) : leastS T k = T := by
  unfold leastS
  split
  · exact (List.eq_nil_of_length_eq_zero (by omega)).symm
  · exact List.take_of_length_le (by omega)
theorem Q_least_all {w0 w : World} {qb : Nat} {T : List (It Int)} {R : Ast} (h : On w0 w (sep (quA qb T) R)) (hs : Sorted ltI T) (hl : T.length < 900000) (k : Int) (hk : (T.length : Int) ≤ k) :
    Calls Try.prog 29 #[.pointer (some ⟨qb, 0, none⟩), .int .i64 k] w fun e w' => ∃ v, e = .returned v ∧ On w0 w' (sep (keysA v T) (sep (quA qb T) R)) := by
  have := Q_least h hs hl k
  rwa [leastS_all hk] at this
theorem add_zero' (b off k : Nat) : (⟨b, off, none⟩ : Addr).add k = ⟨b, off + k, none⟩ := by unfold Addr.add; split <;> simp_all
/-- the first keys of a slice -/
theorem slice_keys_to (a : Option Addr) (n cap i : Nat) (ks : List (Int × Int)) (hk : ks.length = n) (hi : i ≤ n) (hc : n ≤ cap) :
    ∃ a', (∀ w, (Instr.slice 30 (.slice a n cap) none (some (.int .i64 (i : Int))) none).run Try.prog w = .ok (.slice a' i cap) w) ∧ ∀ w, Ke.KeysAt w a ks → Ke.KeysAt w a' (ks.take i) := by
  refine ⟨if cap = 0 then a else a.map (·.add 0), fun w => ?_, fun w h => ?_⟩
  · rw [run_slice_h w 30 a n cap elem38 .i64 (i : Int) (by omega) (by omega), size38]
    simp [Result.andThen, sliced]
  · rcases h with h | ⟨b, off, rfl, hb, h⟩
    · exact .inl (by rw [List.length_take]; omega)
    · by_cases h0 : cap = 0
      · exact .inl (by rw [List.length_take]; omega)
      · rw [if_neg h0]
        refine .inr ⟨b, off, by rw [Option.map_some, add_zero']; rfl, hb, fun k hk' => ?_⟩
        rw [List.length_take] at hk'
        rw [List.getElem?_take_of_lt (by omega)]
        exact h k (by omega)
/-- the others -/
theorem slice_keys_from (a : Option Addr) (n cap i : Nat) (ks : List (Int × Int)) (hk : ks.length = n) (hi : i ≤ n) (hc : n ≤ cap) :
    ∃ a', (∀ w, (Instr.slice 30 (.slice a n cap) (some (.int .i64 (i : Int))) none none).run Try.prog w = .ok (.slice a' (n - i) (cap - i)) w) ∧ ∀ w, Ke.KeysAt w a ks → Ke.KeysAt w a' (ks.drop i) := by
  refine ⟨if cap = i then a else a.map (·.add (i * 2)), fun w => ?_, fun w h => ?_⟩
  · rw [run_slice_l w 30 a n cap elem38 .i64 (i : Int) (by omega) (by omega), size38]
    simp [Result.andThen, sliced]
  · rcases h with h | ⟨b, off, rfl, hb, h⟩
    · exact .inl (by rw [List.length_drop]; omega)
    · by_cases h0 : cap = i
      · exact .inl (by rw [List.length_drop]; omega)
      · rw [if_neg h0]
        refine .inr ⟨b, off + i * 2, by rw [Option.map_some, add_zero'], hb, fun k hk' => ?_⟩
        rw [List.length_drop] at hk'
        rw [List.getElem?_drop]
        have := h (i + k) (by omega)
        rw [Nat.add_mul, ← Nat.add_assoc] at this
        exact this

/-- a list of the call's own takes a key more -/
theorem On.keys_push {w0 w w1 w' : World} {v v' : Value} {T : List (It Int)} {x : It Int} {R : Ast} (h : On w0 w (sep (keysA v T) R)) (hb : Below w.heap.size w w1) (hg : w1.grownBy w' v.ownBlock)
    (hown : w'.ownsRow 0 24 2 v' (T.length + 1) (T.flatMap keyC ++ keyC x)) (hat : v'.ownBlock = v.ownBlock ∨ v'.ownBlock = some w1.heap.size) : On w0 w' (sep (keysA v' (T ++ [x])) R) := by
  refine h.step1 fun F hF => ?_
  have hg' : Mod (fun j => v.ownBlock = some j) w1 w' := (Mod.refl _ w1).grown hg fun k hk _ => ⟨hk, fun o ho' => by
    rcases own_parts hF.1 with ⟨h1, _⟩ | ⟨g, cap, cur, h1, _, h3, _⟩
    · rw [h1] at hk; simp [Value.ownBlock] at hk
    · rw [h1] at hk; simp [Value.ownBlock] at hk
      subst hk
      have h4 := (Mod.of_below (S := none') hb).obj h3 (fun h => h)
      rw [h4] at ho'
      cases ho'
      rfl⟩
  have hs := hb.size
  refine ⟨fun j => v'.ownBlock = some j, ⟨by rw [List.length_append, List.flatMap_append]; simpa using hown, fun j => Iff.rfl⟩, ((Mod.of_below hb).trans' hg').mono fun j hj _ => (hF.2 j).2 hj, fun j hj => ?_⟩
  rcases hat with h1 | h1
  · rw [h1] at hj; exact .inl ((hF.2 j).2 hj)
  · rw [h1] at hj; cases hj; exact .inr (by omega)
theorem keys_reads (w : World) (p q : Int) : Reads (w.alloc (.cells #[.int .i64 p, .int .i64 q] 24)) (.slice (some ⟨w.heap.size, 0, none⟩) 1 1) 2 1 (keyC (q, p)) := by
  refine .inr ⟨_, _, rfl, rfl, fun j u hu => ?_⟩
  have hjl : j < 2 := by have := (List.getElem?_eq_some_iff.1 hu).1; simpa [keyC] using this
  match j, hjl with
  | 0, _ => cases hu; rw [add_zero', World.cell?_alloc_at _ _ _ _ rfl]; rfl
  | 1, _ => cases hu; rw [add_zero', World.cell?_alloc_at _ _ _ _ rfl]; rfl
theorem keyC_cells (x : It Int) : ∀ u ∈ keyC x, u.oneCell' = true := by
  intro u hu
  simp [keyC] at hu
  rcases hu with rfl | rfl <;> rfl
theorem open_keys_cap {Hd : Type} {enc : TypeId × Value → Hd} {w : World} {base : Nat} {spare : Nat → Bool} {held : Bool} {fuel : Nat} {a : Option Addr} {len cap : Nat} {x : DataW Hd × List MemPlace}
    (h : DataW.trod enc Try.prog w base spare held fuel 30 [.slice a len cap] = some x) : len ≤ cap ∧ cap ≤ 9223372036854775807 := by
  rcases Go.Deep.open_slice Try.underlying30 h with ⟨h0, _⟩ | ⟨a', len', cap', m, n, D, Pl, hcs, _, hl, hm, _⟩
  · injection h0 with h0
    injection h0 with _ h0 h1
    omega
  · injection hcs with hcs
    injection hcs with h1 h2 h3
    unfold maxLen at hm
    omega
theorem kv_itk (ks : List (Int × Int)) : kv (itk ks) = ks := by
  unfold kv itk
  rw [List.map_map]
  exact (List.map_congr_left fun _ _ => rfl).trans (List.map_id ks)
theorem itk_kv (S : List (It Int)) : itk (kv S) = S := by
  unfold kv itk
  rw [List.map_map]
  exact (List.map_congr_left fun _ _ => rfl).trans (List.map_id S)
theorem kv_inj {S T : List (It Int)} : kv S = kv T ↔ S = T :=
  ⟨fun h => by rw [← itk_kv S, h, itk_kv], fun h => by rw [h]⟩
theorem keysAt_below {w A : World} {a : Option Addr} {ks : List (Int × Int)} (h : Ke.KeysAt w a ks) (hb : Below w.heap.size w A) : Ke.KeysAt A a ks := by
  rcases h with h | ⟨b, off, ha, hlt, h⟩
  · exact .inl h
  · exact .inr ⟨b, off, ha, Nat.lt_of_lt_of_le hlt hb.size, fun k hk => ⟨(hb.cell (by exact hlt)).trans (h k hk).1, (hb.cell (by exact hlt)).trans (h k hk).2⟩⟩
theorem On.keys_cap {w0 w : World} {v : Value} {T : List (It Int)} {R : Ast} {ks : List (Int × Int)} {n : Nat} (h : On w0 w (sep (keysA v T) R)) (hT : kv T = ks) (hn : ks.length = n) :
    ∃ a c, v = .slice a n c ∧ n ≤ c ∧ c ≤ 9223372036854775807 ∧ ∀ (w1 A : World) (R' : Ast), On w1 A (sep (keysA (.slice a n c) T) R') → Ke.KeysAt A a ks := by
  have hl : T.length = n := by rw [← hn, ← hT]; simp [kv]
  obtain ⟨F, hF, _⟩ := h.get1
  have fin : ∀ a c, ∀ (w1 A : World) (R' : Ast), On w1 A (sep (keysA (.slice a n c) T) R') → Ke.KeysAt A a ks := fun a c w1 A R' hA => by
    obtain ⟨a', c', he, hk⟩ := hA.keys1
    cases he
    rwa [hT] at hk
  rcases own_parts hF.1 with ⟨h1, h2⟩ | ⟨g, cap, cur, h1, _, _, h3, h4, _⟩
  · rw [hl] at h2
    subst h2
    exact ⟨none, 0, h1, Nat.le_refl _, by omega, fin _ _⟩
  · rw [hl] at h1 h3
    unfold maxLen at h4
    exact ⟨_, _, h1, h3, h4, fin _ _⟩
/-- two lists of the call's own, compared -/
theorem On.keys2 {w0 w : World} {v v' : Value} {T T' : List (It Int)} {R : Ast} (h : On w0 w (sep (keysA v T) (sep (keysA v' T') R))) (hl : T.length < 10000000) (hl' : T'.length < 10000000) :
    Calls Try.prog 32 #[v, v'] w fun e w' => e = .returned (.bool (decide (T = T'))) ∧ Below w.heap.size w w' := by
  obtain ⟨a, c, rfl, h1⟩ := h.keys1
  obtain ⟨a', c', rfl, h2⟩ := h.left.keys1
  have := keys_ok a a' c c' (kv T) (kv T') w h1 h2 (by simpa [kv] using hl) (by simpa [kv] using hl')
  simpa only [kv, List.length_map, show ((T.map fun x => (x.2, x.1)) = T'.map fun x => (x.2, x.1)) ↔ T = T' from kv_inj] using this
theorem On.keys2_same {w0 w : World} {v v' : Value} {T : List (It Int)} {R : Ast} (h : On w0 w (sep (keysA v T) (sep (keysA v' T) R))) (hl : T.length < 10000000) :
    Calls Try.prog 32 #[v, v'] w fun e w' => e = .returned (.bool true) ∧ Below w.heap.size w w' := by
  have := h.keys2 hl hl
  rwa [decide_eq_true rfl] at this
end Go.Proofs.Ytkjpkhpiojahkaa
