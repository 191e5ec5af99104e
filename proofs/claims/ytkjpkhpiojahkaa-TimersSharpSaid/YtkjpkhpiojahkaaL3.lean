/-
  Walk: the law HeapDrops.
-/
import Derived.Test.YtkjpkhpiojahkaaCA
import Derived.Test.YtkjpkhpiojahkaaL1
namespace Go.Proofs.Ytkjpkhpiojahkaa
set_option linter.unusedVariables false
open Go.RowKit Hp
attribute [local go_sem] Oper.semAt_some

/-- what is left when the first i, going round from f on, were dropped -/
def Rest (zs : List Int) (f : Nat) : Nat → List (It Int)
  | 0 => Srt zs
  | i + 1 => (Rest zs f i).erase (itm zs ((f + i) % zs.length))
theorem Rest_sub (zs : List Int) (f : Nat) : ∀ i, (Rest zs f i).Sublist (Srt zs)
  | 0 => List.Sublist.refl _
  | i + 1 => List.erase_sublist.trans (Rest_sub zs f i)
theorem Rest_sorted (zs : List Int) (f i : Nat) : Sorted ltI (Rest zs f i) := (Srt_sorted zs).sublist (Rest_sub zs f i)
theorem Srt_distinct (zs : List Int) : (Srt zs).Pairwise fun a b => a.1 ≠ b.1 := distinct_perm (Srt_perm zs).symm (La_distinct _)
theorem Rest_distinct (zs : List Int) (f i : Nat) : (Rest zs f i).Pairwise fun a b => a.1 ≠ b.1 := (Srt_distinct zs).sublist (Rest_sub zs f i)
theorem mem_Srt {zs : List Int} {x : It Int} (h : x ∈ Srt zs) : ∃ j, j < zs.length ∧ x = itm zs j := mem_La.1 ((Srt_perm zs).mem_iff.1 h)
theorem itm_mem {zs : List Int} {j : Nat} (h : j < zs.length) : itm zs j ∈ Srt zs := (Srt_perm zs).mem_iff.2 (mem_La.2 ⟨j, h, rfl⟩)
theorem Rest_mem {zs : List Int} {f : Nat} : ∀ {i k : Nat}, i ≤ k → k < zs.length → itm zs ((f + k) % zs.length) ∈ Rest zs f i
  | 0, k, _, hk => itm_mem (Nat.mod_lt _ (by omega))
  | i + 1, k, hik, hk => by
    rw [Rest]
    refine (List.mem_erase_of_ne fun e => ?_).2 (Rest_mem (by omega) hk)
    have := mod_inj (f := f) (j := k) (k := i) hk (by omega) (Int.ofNat.inj (congrArg Prod.fst e))
    omega
theorem Rest_len {zs : List Int} {f : Nat} : ∀ {i : Nat}, i ≤ zs.length → (Rest zs f i).length = zs.length - i
  | 0, _ => Srt_length zs
  | i + 1, h => by
    rw [Rest, List.length_erase_of_mem (Rest_mem (Nat.le_refl _) h), Rest_len (by omega)]
    omega
theorem erase_gone {l : List (It Int)} (hd : l.Pairwise fun a b => a.1 ≠ b.1) {y : It Int} (hy : y ∈ l) : ∀ x ∈ l.erase y, x.1 ≠ y.1 := by
  have hp := List.perm_cons_erase hy
  have := distinct_perm hp hd
  intro x hx
  exact Ne.symm ((List.pairwise_cons.1 this).1 x hx)
theorem Rest_at {zs : List Int} {f i k : Nat} {x : It Int} (h : (Rest zs f i)[k]? = some x) : ∃ j, j < zs.length ∧ x = itm zs j := by
  obtain ⟨hk, he⟩ := List.getElem?_eq_some_iff.1 h
  exact mem_Srt ((Rest_sub zs f i).subset (by rw [← he]; exact List.getElem_mem hk))

theorem pick_shape {S : (Nat → Value) → Act} {a : Act} {R : Prop} (h : a = S (fun k => a.tmps.toList.getD k undef)) (hr : R) : ∃ g, a = S g ∧ R := ⟨_, h, hr⟩

/-- the key of the one that was gone through last -/
def lastP (l : List (It Int)) : Array Value := match l.getLast? with
  | none => #[.int .i64 0, .int .i64 0]
  | some x => #[.int .i64 x.2, .int .i64 x.1]
theorem lastP_snoc (l : List (It Int)) (x : It Int) : lastP (l ++ [x]) = #[.int .i64 x.2, .int .i64 x.1] := by simp [lastP]

theorem heap_setCell_at {w : World} {b k : Nat} {cs : Array Value} {t : Nat} {fr : Nat × Nat} {v : Value} (h : w.heap[b]? = some (.cells cs t fr)) : (w.setCell ⟨b, k, none⟩ v).heap[b]? = some (.cells (cs.setIfInBounds k v) t fr) := by
  simp [World.setCell, Array.getElem?_modify, h]
theorem heap_setCell_other' {w : World} {p : Addr} {k : Nat} {o : Obj} {v : Value} (h : w.heap[k]? = some o) (hk : k ≠ p.block) : (w.setCell p v).heap[k]? = some o := by
  rw [Below.heap_setCell _ _ _ _ hk]; exact h

/-- blocks of book-keeping that wait -/
def markA (B : Nat) (Ds : List Nat) : Ast where
  holds w F := (∀ D ∈ Ds, w.heap[D]? = some (.deferred (some [])) ∧ B ≤ D) ∧ Ds.Nodup ∧ ∀ j, ¬ F j
  stable := fun ⟨h1, h2, h3⟩ hm _ => ⟨fun D hD => ⟨hm.block D _ (h1 D hD).1 (.inl rfl), (h1 D hD).2⟩, h2, h3⟩
  lt := fun ⟨_, _, h⟩ hj => (h _ hj).elim
theorem On.emp' {w0 w : World} {A : Ast} (B : Nat) (h : On w0 w A) : On w0 w (sep A (markA B [])) := by
  obtain ⟨F, h1, h2, h3⟩ := h
  exact ⟨F, ⟨F, fun _ => False, h1, ⟨by simp, by simp, fun _ h => h⟩, fun _ _ h => h, fun j => by simp⟩, h2, h3⟩

def mk (D : Nat) : Deferred := { target := .collected D, args := #[] }
theorem leaves_marks {F : Fence} {n : Nat} {P : Program} {fn : Func} {tmps : Array Value} {R : Ending → World → Prop} (B : Nat) : ∀ (Ds : List Nat) (W : World), Ds.Nodup →
    (∀ D ∈ Ds, W.heap[D]? = some (.deferred (some [])) ∧ B ≤ D) →
    (∀ W', Mv none' B W W' → ∃ v, (results fn tmps).run P W' = .ok v W' ∧ R (.returned v) W') → LeavesInM F n P fn tmps R (Ds.map mk) .returning W := by
  intro Ds
  induction Ds with
  | nil =>
    intro W _ _ h
    exact h W ((Mod.refl none' W).mv B)
  | cons D Ds ih =>
    intro W hnd hD h
    rw [List.nodup_cons] at hnd
    obtain ⟨hD1, hD2⟩ := hD D (by simp)
    refine ⟨by simp, .inl ⟨D, _, rfl, run_takeDeferred hD1, ?_⟩⟩
    have hmv : Mv none' B W (W.putObj D (.deferred none)) := Mv.putObj W D _ _ hD1 rfl hD2
    refine ih _ hnd.2 (fun E hE => ?_) (fun W' hW' => h W' (hmv.trans hW'))
    have := hD E (by simp [hE])
    refine ⟨?_, this.2⟩
    rw [World.putObj_heap_other (fun e => hnd.1 (by rw [← e]; exact hE))]
    exact this.1

theorem world_setCell_same {w : World} {p : Addr} {u : Value} (h : w.cell? p = some u) (v : Value) : (w.setCell p v).cell? p = some v := World.cell?_setCell_same' _ _ _ (by rw [h]; rfl)

theorem H_drop {w0 w : World} {hb : Nat} {M : List (It Int)} {R : Ast} (h : On w0 w (sep (H hb M) R)) {id k : Int} (hm : (id, k) ∈ M) (hM : M.length < 1000000) :
    Calls Try.prog 155 #[.pointer (some ⟨hb, 0, none⟩), .int .i64 id] w fun e w' => e = .returned (.tuple #[.int .i64 k, .int .i64 0]) ∧ On w0 w' (sep (H hb (M.erase (id, k))) R) :=
  h.call1 (B := H hb (M.erase (id, k))) fun _ hF => Drop_some lessI hF hm hM

end Go.Proofs.Ytkjpkhpiojahkaa
