/-
  Walks: slices.Clone, maps.Clone, Copy.
  Walks: Copy; the iterators taken and All.
  Walks: All and its iterator.
-/
import Derived.Test.YtkjpkhpiojahkaaAwake
import Derived.Shelf.SlMaps.Clone
import Derived.Shelf.RegionOpen
import Derived.OwnWalkIn
import Derived.TacticsInMore
import Derived.LoopNIn
import Derived.LoopIn
import Derived.Sort.LoopGhostIn
/-! ### Walks: slices.Clone, maps.Clone, Copy. -/
namespace Go.Proofs.Ytkjpkhpiojahkaa
set_option linter.unusedVariables false
open Go.RowKit Hp

theorem eql_slice_nil {P : Program} {t e : TypeId} (h : P.underlying t = some (.slice e)) (a : Option Addr) (l c : Nat) (w : World) : (binOp .eql t (.slice a l c) (.slice none 0 0)).run P w = .ok (.bool a.isNone) w := by
  have h1 : ∀ d : Nat, (Op.equalIn (d + 1) t (.slice a l c) (.slice none 0 0)).run P w = .ok a.isNone w := fun d => by
    cases a <;> simp [Op.equalIn, run_underlying h]
  simp only [binOp]
  simp [Op.equal, Op.maxDepth, h1 9999]

set_option maxRecDepth 100000 in
set_option maxHeartbeats 1000000 in
theorem clone_map {w : World} {b n : Nat} {f : Int → Option Nat} (h : mapT w Try.prog 3 b n f) :
    Calls Try.prog 149 #[.map (some b)] w fun e w' => e = .returned (.map (some w.heap.size)) ∧ mapT w' Try.prog 3 w.heap.size n f ∧ Below w.heap.size w w' := by
  obtain ⟨D, ⟨es, clock, hb, r1⟩, r2⟩ := h
  have hq := fun w => run_eql_map_nil_sl (P := Try.prog) w 182 _ _ (some b) Try.underlying182
  go_enter Try.func149, Try.ntmps149
  go_wp2
  rw [run_callFunc_extern Try.func163 (by kernel_rfl) (by kernel_rfl) (by kernel_rfl) (e := Extern.MapsClone.clone) (by kernel_rfl), run_maps_clone_sl w 182 hb]
  simp only [Result.andThen]
  rw [Oper.upon_value]
  go_wp2
  rw [run_typeAssert_map_sl _ 182 20 _ _ _ Try.underlying182]
  simp only [Result.andThen]
  rw [Oper.upon_value]
  go_wp2
  go_ret
  exact ⟨rfl, ⟨D, ⟨es, clock, heap_alloc_new w _, r1⟩, r2⟩, (Below.refl _ w).alloc (Nat.le_refl _) _⟩
end Go.Proofs.Ytkjpkhpiojahkaa

/-! ### Walks: Copy; the iterators taken and All. -/
namespace Go.Proofs.Ytkjpkhpiojahkaa
set_option linter.unusedVariables false
open Go.RowKit Hp

section
variable {w : World} {hb lf : Nat} {lt : Int → Int → Bool} {F : Nat → Prop} {M : List (It Int)}

end

theorem HeapAt.keeps {w w' : World} {hb lf : Nat} {lt : Int → Int → Bool} {F R : Nat → Prop} {M : List (It Int)} (h : HeapAt w hb lf lt F M) (hk : Keeps R w w') (hR : ∀ j, F j → R j) : HeapAt w' hb lf lt F M := by
  obtain ⟨v, mb, A, f, h1, h2, h3, h4, h5, h6, h7, h8⟩ := h
  exact ⟨v, mb, A, f, ⟨hk.block _ _ h1.st rfl (hR _ h6), own_same h1.row fun j o hj ho hc => hk.block _ _ ho hc (hR _ (h7 j (.inl hj))), h1.map.of_obj fun o ho hc => hk.block _ _ ho hc (hR _ (h7 _ (.inr rfl)))⟩,
    h2, h3, h4, h5, h6, h7, fun j hj => Nat.lt_of_lt_of_le (h8 j hj) hk.size⟩

attribute [local go_sem] Oper.semAt_some

end Go.Proofs.Ytkjpkhpiojahkaa

/-! ### Walks: All and its iterator. -/
namespace Go.Proofs.Ytkjpkhpiojahkaa
set_option linter.unusedVariables false
open Go.RowKit Hp
attribute [local go_sem] Oper.semAt_some

theorem round_wide {m m' l l' : Nat} {P : Program} {fn : FuncId} {tmps : Array Value} {assign body : Code} {w : World} {R : Ending → World → Prop} (h : RoundIn Fence.wide m P l fn tmps assign body w R) :
    RoundIn (Fence.wide.inRound l') m' P l fn tmps assign body w R := ⟨trivial, fun c cs _ => h.2 c cs (room_wide _)⟩

end Go.Proofs.Ytkjpkhpiojahkaa
