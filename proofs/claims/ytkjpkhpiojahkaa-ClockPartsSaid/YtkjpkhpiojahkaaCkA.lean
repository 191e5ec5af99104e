/-
  Clock: what is told of each timer, in a list; and such a list in memory.
-/
import Derived.Test.YtkjpkhpiojahkaaCk9
namespace Go.Proofs.Ytkjpkhpiojahkaa
set_option linter.unusedVariables false
open Go.RowKit Hp
/-- l: for when timers are set; F: what is told of each; kf: of which kind timer j is -/
structure FOk (kf : Nat → Int) (val : Int → Int → Int) (l : List Int) (S : List (It Int)) (atf : Int → Int) (F : List Int) (i : Nat) : Prop where
  len : F.length = l.length
  mem : ∀ x ∈ S, ∃ j : Nat, j < i ∧ j < l.length ∧ x.1 = nm (kf j) (j : Int) ∧ F[j]? = some (val (l[j]?.getD 0) x.2) ∧ atf x.1 = l[j]?.getD 0 ∧ l[j]?.getD 0 ≤ x.2
  arm : ∀ j : Nat, j < i → ∀ f, F[j]? = some f → 0 ≤ f → ∃ x ∈ S, x.1 = nm (kf j) (j : Int)
section
variable {kf : Nat → Int} {val : Int → Int → Int} {l F : List Int} {S T : List (It Int)} {atf atg : Int → Int} {i j : Nat} {x : It Int}
theorem nm_kf (hk : ∀ j : Nat, j < 64 → 0 ≤ kf j ∧ kf j < 8) (hi : i < 64) (hj : j < 64) (e : nm (kf i) (i : Int) = nm (kf j) (j : Int)) : i = j := by
  have h1 := hk i hi
  have h2 := hk j hj
  have := (nm_inj (k := kf i) (id := (i : Int)) (k' := kf j) (id' := (j : Int)) ⟨h1.1, h1.2, by omega, by omega⟩ ⟨h2.1, h2.2, by omega, by omega⟩ e).2
  omega
theorem FOk.start (h : F.length = l.length) : FOk kf val l [] atf F 0 := ⟨h, (fun x hx => by cases hx), fun j hj => by omega⟩
theorem FOk.skip (h : FOk kf val l S atf F i) {v : Int} (hv : v < 0) : FOk kf val l S atf (F.set i v) (i + 1) := by
  refine ⟨by rw [List.length_set]; exact h.len, fun x hx => ?_, fun j hj f hf h0 => ?_⟩
  · obtain ⟨j, h1, h2, h3, h4, h5⟩ := h.mem x hx
    exact ⟨j, by omega, h2, h3, by rw [List.getElem?_set_ne (by omega)]; exact h4, h5⟩
  · by_cases hij : j = i
    · subst hij
      rw [List.getElem?_set] at hf
      rw [if_pos rfl] at hf
      split at hf
      · cases hf
        omega
      · cases hf
    · rw [List.getElem?_set_ne (Ne.symm hij)] at hf
      exact h.arm j (by omega) f hf h0
theorem FOk.put (h : FOk kf val l S atf F i) (hk : ∀ j : Nat, j < 64 → 0 ≤ kf j ∧ kf j < 8) (hi : i < l.length) (h64 : l.length ≤ 64) {f : Int} (hf : l[i]?.getD 0 ≤ f)
    (h1 : atg (nm (kf i) (i : Int)) = l[i]?.getD 0) (h2 : ∀ n, 0 ≤ n → n ≠ nm (kf i) (i : Int) → atg n = atf n) :
    FOk kf val l (ins ltI (nm (kf i) (i : Int), f) S) atg (F.set i (val (l[i]?.getD 0) f)) (i + 1) := by
  refine ⟨by rw [List.length_set]; exact h.len, fun x hx => ?_, fun j hj g hg h0 => ?_⟩
  · rcases ins_mem.1 hx with rfl | hx
    · exact ⟨i, by omega, hi, rfl, by rw [List.getElem?_set, if_pos rfl, if_pos (by rw [h.len]; exact hi)], h1, hf⟩
    · obtain ⟨j, g1, g2, g3, g4, g5, g6⟩ := h.mem x hx
      refine ⟨j, by omega, g2, g3, by rw [List.getElem?_set_ne (by omega)]; exact g4, ?_, g6⟩
      rw [h2 x.1 (by rw [g3]; have := hk j (by omega); unfold nm; omega) (by rw [g3]; intro e; have := nm_kf hk (by omega) (by omega) e; omega)]
      exact g5
  · by_cases hij : j = i
    · subst hij
      exact ⟨_, ins_mem.2 (.inl rfl), rfl⟩
    · rw [List.getElem?_set_ne (Ne.symm hij)] at hg
      obtain ⟨x, hx, e⟩ := h.arm j (by omega) g hg h0
      exact ⟨x, ins_mem.2 (.inr hx), e⟩
theorem FOk.fire (h : FOk kf val l (x :: T) atf F i) (hk : ∀ j : Nat, j < 64 → 0 ≤ kf j ∧ kf j < 8) (h64 : l.length ≤ 64) (hd : (x :: T).Pairwise fun a b => a.1 ≠ b.1) (hj : x.1 = nm (kf j) (j : Int)) (hjl : j < l.length) : FOk kf val l T atf (F.set j (-1)) i := by
  refine ⟨by rw [List.length_set]; exact h.len, fun y hy => ?_, fun k hki g hg h0 => ?_⟩
  · obtain ⟨k, g1, g2, g3, g4, g5⟩ := h.mem y (List.mem_cons_of_mem _ hy)
    have hne := (List.pairwise_cons.1 hd).1 y hy
    have hkj : j ≠ k := fun e => hne (by rw [hj, g3, e])
    exact ⟨k, g1, g2, g3, by rw [List.getElem?_set_ne hkj]; exact g4, g5⟩
  · by_cases hkj : j = k
    · subst hkj
      rw [List.getElem?_set, if_pos rfl] at hg
      split at hg
      · cases hg
        omega
      · cases hg
    · rw [List.getElem?_set_ne hkj] at hg
      obtain ⟨y, hy, e⟩ := h.arm k hki g hg h0
      rcases List.mem_cons.1 hy with rfl | hy
      · have hkl : k < l.length := by
          have := (List.getElem?_eq_some_iff.1 hg).1
          rw [h.len] at this
          exact this
        exact absurd (nm_kf hk (by omega) (by omega) (hj.symm.trans e)) hkj
      · exact ⟨y, hy, e⟩
/-- who fires: which timer it is -/
theorem FOk.who (h : FOk kf val l (x :: T) atf F i) (hk : ∀ j : Nat, j < 64 → 0 ≤ kf j ∧ kf j < 8) (h64 : l.length ≤ 64) :
    ∃ j : Nat, j < l.length ∧ x.1 = nm (kf j) (j : Int) ∧ x.1 / 64 = kf j ∧ x.1 % 64 = (j : Int) ∧ F[j]? = some (val (l[j]?.getD 0) x.2) ∧ atf x.1 = l[j]?.getD 0 ∧ l[j]?.getD 0 ≤ x.2 := by
  obtain ⟨j, g1, g2, g3, g4, g5, g6⟩ := h.mem x (List.mem_cons_self ..)
  have h1 := hk j (by omega)
  have := nm_div (k := kf j) (id := (j : Int)) ⟨h1.1, h1.2, by omega, by omega⟩
  exact ⟨j, g2, g3, by rw [g3]; exact this.1, by rw [g3]; exact this.2, g4, g5, g6⟩
end
/-! ### how late the latest one is -/
def MxOk (S : List (It Int)) (atf : Int → Int) (m : Int) : Prop := 0 ≤ m ∧ (∀ x ∈ S, x.2 - atf x.1 ≤ m) ∧ (m = 0 ∨ ∃ x ∈ S, x.2 - atf x.1 = m)
theorem MxOk.uniq {S : List (It Int)} {atf : Int → Int} {m m' : Int} (h : MxOk S atf m) (h' : MxOk S atf m') : m = m' := by
  obtain ⟨h0, h1, h2⟩ := h
  obtain ⟨g0, g1, g2⟩ := h'
  have a : m ≤ m' := by
    rcases h2 with h2 | ⟨x, hx, h2⟩
    · omega
    · have := g1 x hx; omega
  have b : m' ≤ m := by
    rcases g2 with g2 | ⟨x, hx, g2⟩
    · omega
    · have := h1 x hx; omega
  omega
theorem worstOf_mx (c : Ck) : ∀ (T : List (It Int)) (m : Int), m ≤ worstOf c T m ∧ (∀ x ∈ T, x.2 - c.at x.1 ≤ worstOf c T m) ∧ (worstOf c T m = m ∨ ∃ x ∈ T, x.2 - c.at x.1 = worstOf c T m)
  | [], m => ⟨Int.le_refl _, (fun x hx => by cases hx), .inl rfl⟩
  | x :: T, m => by
    obtain ⟨h1, h2, h3⟩ := worstOf_mx c T (max m (x.2 - c.at x.1))
    have e : worstOf c (x :: T) m = worstOf c T (max m (x.2 - c.at x.1)) := rfl
    rw [e]
    refine ⟨by omega, fun y hy => ?_, ?_⟩
    · rcases List.mem_cons.1 hy with rfl | hy
      · omega
      · exact h2 y hy
    · rcases h3 with h3 | ⟨y, hy, h3⟩
      · by_cases hm : m ≤ x.2 - c.at x.1
        · exact .inr ⟨x, List.mem_cons_self .., by omega⟩
        · exact .inl (by omega)
      · exact .inr ⟨y, List.mem_cons_of_mem _ hy, h3⟩
theorem MxOk.put {S : List (It Int)} {atf atg : Int → Int} {m f n : Int} (h : MxOk S atf m) (h1 : ∀ x ∈ S, atg x.1 = atf x.1) (hf : 0 ≤ f - atg n) : MxOk (ins ltI (n, f) S) atg (max m (f - atg n)) := by
  obtain ⟨h0, h2, h3⟩ := h
  refine ⟨by omega, fun x hx => ?_, ?_⟩
  · rcases ins_mem.1 hx with rfl | hx
    · show f - atg n ≤ _; omega
    · have := h2 x hx
      rw [h1 x hx]
      omega
  · by_cases hm : m ≤ f - atg n
    · exact .inr ⟨_, ins_mem.2 (.inl rfl), by show f - atg n = _; omega⟩
    · rcases h3 with h3 | ⟨x, hx, h3⟩
      · omega
      · exact .inr ⟨x, ins_mem.2 (.inr hx), by rw [h1 x hx]; omega⟩
/-! ### numbers that were made -/
def numA (g n : Nat) (A : List Int) : Ast := rowA (.slice (some ⟨g, 0, none⟩) n n) 3 1 n (intL A)
theorem Plain.num (g n : Nat) (A : List Int) : Plain (numA g n A) := Plain.row _ _ _ _ _
section
variable {w0 w : World} {R : Ast} {g n i : Nat} {A : List Int} {b : Int}
theorem On.num (h : On w0 w (sep (numA g n A) R)) (hi : A[i]? = some b) : w.cell? ⟨g, i, none⟩ = some (.int .i64 b) ∧ w.frozen? ⟨g, i, none⟩ = false := by
  obtain ⟨F, hF, _⟩ := h.get1
  exact ⟨own_cellG hF.1 (ints_get hi), own_freeG hF.1 i⟩
theorem On.num_set (h : On w0 w (sep (numA g n A) R)) (i : Nat) (b : Int) : On w0 (w.setCell ⟨g, i, none⟩ (.int .i64 b)) (sep (numA g n (A.set i b)) R) := by
  have := h.step1 fun F hF => rowA_set (i := i) (y := .int .i64 b) hF
  unfold numA intL
  rw [List.map_set]
  exact this
theorem made_nums (n : Nat) : (madeCells (Value.int .i64 0).cells (n * 1)).toList = intL (List.replicate n 0) := by
  unfold intL
  rw [List.map_replicate, List.eq_replicate_iff]
  refine ⟨by simp [madeCells], fun b hb => ?_⟩
  simp [madeCells, Value.cells] at hb
  obtain ⟨x, _, rfl⟩ := hb
  simp [Nat.mod_one]
end
end Go.Proofs.Ytkjpkhpiojahkaa
