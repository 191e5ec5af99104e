/-
  Walks: slices.Clone, maps.Clone, Copy.
-/
import Derived.Test.YtecfenoidcolfaaAwake
import Derived.Shelf.SlMaps.Clone
namespace Go.Proofs.Ytecfenoidcolfaa
set_option linter.unusedVariables false
open Go.RowKit Hp

theorem eql_slice_nil {P : Program} {t e : TypeId} (h : P.underlying t = some (.slice e)) (a : Option Addr) (l c : Nat) (w : World) : (binOp .eql t (.slice a l c) (.slice none 0 0)).run P w = .ok (.bool a.isNone) w := by
  have h1 : ∀ d : Nat, (Op.equalIn (d + 1) t (.slice a l c) (.slice none 0 0)).run P w = .ok a.isNone w := fun d => by
    cases a <;> simp [Op.equalIn, run_underlying h]
  simp only [binOp]
  simp [Op.equal, Op.maxDepth, h1 9999]

set_option maxRecDepth 100000 in
set_option maxHeartbeats 1000000 in
theorem clone_items {w : World} {v : Value} {A : List (It Int)} (h : w.ownsRow 0 119 2 v A.length (A.flatMap itC)) (hA : A.length < 1000000) :
    Calls Try.prog 87 #[v] w fun e w' => ∃ q nn cc, e = .returned (.slice q nn cc) ∧ w'.ownsRow 0 119 2 (.slice q nn cc) A.length (A.flatMap itC) ∧ Below w.heap.size w w' ∧ ∀ j, (Value.slice q nn cc).ownBlock = some j → w.heap.size ≤ j := by
  obtain ⟨i0, hi0, hz0, hz1, hz2⟩ := info_parts2 Try.info119
  have hq1 := eql_slice_nil (P := Try.prog) (t := 115) Try.underlying115 none 0 0
  rcases own_parts h with ⟨rfl, h0⟩ | ⟨g, cap, cur, rfl, _, hg, hlc, hcm, _, _⟩
  · have H0 := Lib.hid h
    clear h
    go_enter Try.func87, Try.ntmps87
    go_wp2
    go_ret
    exact ⟨_, _, _, rfl, H0.out, Below.refl _ _, fun j hj => by simp [Value.ownBlock] at hj⟩
  · have H0 := Lib.hid h
    have hq := eql_slice_nil (P := Try.prog) (t := 115) Try.underlying115 (some ⟨g, 0, none⟩) A.length cap
    clear hq1
    have hone : ∀ u ∈ A.flatMap itC, u.oneCell' = true := by
      intro u hu
      obtain ⟨x, _, hx⟩ := List.mem_flatMap.1 hu
      simp [itC] at hx
      rcases hx with rfl | rfl <;> rfl
    have hnl := flat_length itC 2 itC_len A
    have hbW : ∀ o, Below w.heap.size w (w.alloc o) := fun o => (Below.refl _ w).alloc (Nat.le_refl _) _
    have hnews : ∀ (o : Obj) (j : Nat) (u : Value), (A.flatMap itC)[j]? = some u → (w.alloc o).cell? ((⟨g, 0, none⟩ : Addr).add j) = some u := fun o j u hu => by
      have ha : (⟨g, 0, none⟩ : Addr).add j = ⟨g, 0 + j, none⟩ := by unfold Addr.add; split <;> simp_all
      rw [ha, Nat.zero_add]
      exact zatB (own_cellG h hu) (hbW o)
    have HNews := Lib.hid hnews
    have HB := Lib.hid hbW
    have hmx : 0 + A.length ≤ maxLen := by unfold maxLen; omega
    have hby : (0 + A.length) * 16 ≤ 140737488355328 := by omega
    clear h hnews hbW hg
    go_enter Try.func87, Try.ntmps87
    have hown0 : (w.alloc (.cells #[] 119)).ownsRow 0 119 2 (.slice (some ⟨w.heap.size, 0, none⟩) 0 0) 0 [] :=
      ⟨by simp, .inr ⟨w.heap.size, 0, #[], rfl, Nat.zero_le _, heap_alloc_new w _, Nat.le_refl _, Nat.zero_le _, by simp, by simp⟩⟩
    have HO0 := Lib.hid hown0
    clear hown0
    go_wp2_with (at_builtin; refine wpList_append_own_at _ rfl _ _ 115 rfl 0 119 i0 (.agg #[.int .i64 0, .int .i64 0]) 2 16 Try.underlying115 hi0 hz0 hz1 hz2 rfl (by decide) (.slice (some ⟨w.heap.size, 0, none⟩) 0 0) 0 [] rfl HO0.out ⟨g, 0, none⟩ A.length cap (A.flatMap itC) rfl hnl (HNews.out _) hone hmx hby (Nat.zero_le _) ?_; intro v' w1 hown hgrow _ hat; rw [Nat.zero_add, List.nil_append] at hown; have HOwn := Lib.hid hown; have HGrow := Lib.hid hgrow; have HAt := Lib.hid hat; clear hown hgrow hat)
    go_ret
    have hb1 : Below w.heap.size w w1 := by
      have hg := HGrow.out
      have h0 := HB.out (.cells #[] 119)
      refine ⟨by rw [hg.os, h0.os], by rw [hg.tape, h0.tape], by rw [hg.output, h0.output], Nat.le_trans h0.size hg.size, fun k hk => ?_⟩
      rw [hg.block k (Nat.lt_of_lt_of_le hk h0.size) (by simp [Value.ownBlock]; omega), h0.block k hk]
    obtain ⟨q, nn, cc, rfl⟩ : ∃ q nn cc, v' = .slice q nn cc := by
      rcases own_parts HOwn.out with ⟨h1, _⟩ | ⟨_, _, _, h1, _⟩ <;> exact ⟨_, _, _, h1⟩
    refine ⟨q, nn, cc, rfl, HOwn.out, hb1, fun j hj => ?_⟩
    rcases HAt.out with h1 | h1 <;> rw [h1] at hj <;> simp [Value.ownBlock] at hj <;> omega

set_option maxRecDepth 100000 in
set_option maxHeartbeats 1000000 in
theorem clone_map {w : World} {b n : Nat} {f : Int → Option Nat} (h : mapT w Try.prog 3 b n f) :
    Calls Try.prog 88 #[.map (some b)] w fun e w' => e = .returned (.map (some w.heap.size)) ∧ mapT w' Try.prog 3 w.heap.size n f ∧ Below w.heap.size w w' := by
  obtain ⟨D, ⟨es, clock, hb, r1⟩, r2⟩ := h
  have hq := fun w => run_eql_map_nil_sl (P := Try.prog) w 114 _ _ (some b) Try.underlying114
  go_enter Try.func88, Try.ntmps88
  go_wp2
  rw [run_callFunc_extern Try.func109 (by kernel_rfl) (by kernel_rfl) (by kernel_rfl) (e := Extern.MapsClone.clone) (by kernel_rfl), run_maps_clone_sl w 114 hb]
  simp only [Result.andThen]
  rw [Oper.upon_value]
  go_wp2
  rw [run_typeAssert_map_sl _ 114 20 _ _ _ Try.underlying114]
  simp only [Result.andThen]
  rw [Oper.upon_value]
  go_wp2
  go_ret
  exact ⟨rfl, ⟨D, ⟨es, clock, heap_alloc_new w _, r1⟩, r2⟩, (Below.refl _ w).alloc (Nat.le_refl _) _⟩
end Go.Proofs.Ytecfenoidcolfaa
