/-
  Plain: what workers do.
-/
import Derived.Test.YtmbdolmkldbjcaaW8
namespace Go.Proofs.Ytmbdolmkldbjcaa
open Go.RowKit

theorem endOf_last (zs : List Int) (i : Int) : endOf zs i = lastOf (chain zs i) := by
  unfold endOf lastOf
  rw [List.getLastD_eq_getLast?, List.getLast?_eq_getElem?, List.getD]

/-- the cells of an act -/
def actC (k x y : Int) (b : Bool) : List Value := [.int .i64 k, .int .i64 x, .int .i64 y, .bool b]
def actV (k x y : Int) (b : Bool) : Value := .agg #[.int .i64 k, .int .i64 x, .int .i64 y, .bool b]

/-- an act without its spin: worker, server, thread -/
abbrev Act0 := Int × Int × Int

/-- the acts of the first n workers -/
def acts0 (zs cs : List Int) : Nat → List Act0
  | 0 => []
  | n + 1 => if cs.getD n 0 = -1 then acts0 zs cs n else acts0 zs cs n ++ [((n : Int), cs.getD n 0, endOf zs (cs.getD n 0))]

/-- who runs an end -/
def byF (zs cs : List Int) : Nat → Int → Option Act0
  | 0 => fun _ => none
  | n + 1 => if cs.getD n 0 = -1 then byF zs cs n
    else if (byF zs cs n (endOf zs (cs.getD n 0))).isSome = false ∨ cs.getD n 0 = endOf zs (cs.getD n 0)
      then fun y => if y = endOf zs (cs.getD n 0) then some ((n : Int), cs.getD n 0, endOf zs (cs.getD n 0)) else byF zs cs n y
      else byF zs cs n

def act0V (a : Act0) : Value := actV a.1 a.2.1 a.2.2 false
def byV (zs cs : List Int) (n : Nat) : Int → Option Value := fun y => (byF zs cs n y).map act0V
/-- does it spin? -/
def spins (zs cs : List Int) (a : Act0) : Bool := decide (byF zs cs cs.length a.2.2 ≠ some a)
def spn (zs cs : List Int) (m : Nat) (a : Act0) : Bool := if 0 < m then spins zs cs a else false
/-- the cells of the first m acts with their spins, of the others without -/
def cellsOf (zs cs : List Int) : Nat → List Act0 → List Value
  | _, [] => []
  | m, a :: l => actC a.1 a.2.1 a.2.2 (spn zs cs m a) ++ cellsOf zs cs (m - 1) l

theorem acts0_length (zs cs : List Int) (n : Nat) : (acts0 zs cs n).length ≤ n := by
  induction n with
  | zero => simp [acts0]
  | succ n ih =>
    simp only [acts0]
    split
    · omega
    · simp; omega
theorem cellsOf_length (zs cs : List Int) (m : Nat) (l : List Act0) : (cellsOf zs cs m l).length = l.length * 4 := by
  induction l generalizing m with
  | nil => simp [cellsOf]
  | cons a l ih => simp [cellsOf, ih, actC]; omega
theorem cellsOf_zero_snoc (zs cs : List Int) (l : List Act0) (a : Act0) : cellsOf zs cs 0 (l ++ [a]) = cellsOf zs cs 0 l ++ actC a.1 a.2.1 a.2.2 false := by
  induction l with
  | nil => simp [cellsOf, spn]
  | cons b l ih => simp only [List.cons_append, cellsOf, Nat.zero_sub, ih, List.append_assoc]
theorem cellsOf_at (zs cs : List Int) (m : Nat) (l : List Act0) (n : Nat) (a : Act0) (h : l[n]? = some a) (j : Nat) (hj : j < 4) :
    (cellsOf zs cs m l)[n * 4 + j]? = (actC a.1 a.2.1 a.2.2 (if n < m then spins zs cs a else false))[j]? := by
  induction l generalizing m n with
  | nil => simp at h
  | cons b l ih =>
    cases n with
    | zero =>
      simp at h
      subst h
      rw [cellsOf, List.getElem?_append_left (by simp [actC]; omega), Nat.zero_mul, Nat.zero_add]
      rfl
    | succ n =>
      simp at h
      rw [cellsOf, List.getElem?_append_right (by simp [actC]; omega)]
      have : (n + 1) * 4 + j - (actC b.1 b.2.1 b.2.2 (spn zs cs m b)).length = n * 4 + j := by simp [actC]; omega
      rw [this, ih (m - 1) n h]
      have : n < m - 1 ↔ n + 1 < m := by omega
      simp only [this]
theorem cellsOf_set (zs cs : List Int) (l : List Act0) (n : Nat) (a : Act0) (h : l[n]? = some a) :
    (cellsOf zs cs n l).set (n * 4 + 3) (.bool (spins zs cs a)) = cellsOf zs cs (n + 1) l := by
  induction l generalizing n with
  | nil => simp at h
  | cons b l ih =>
    cases n with
    | zero =>
      simp at h
      subst h
      simp [cellsOf, actC, spn]
    | succ n =>
      simp at h
      simp only [cellsOf, Nat.add_sub_cancel]
      rw [List.set_append_right _ _ (by simp [actC]; omega)]
      have : (n + 1) * 4 + 3 - (actC b.1 b.2.1 b.2.2 (spn zs cs (n + 1) b)).length = n * 4 + 3 := by simp [actC]; omega
      rw [this, ih n h]
      simp [spn]

theorem byF_keeps (zs cs : List Int) (n : Nat) (y : Int) (h : (byF zs cs n y).isSome) : (byF zs cs (n + 1) y).isSome := by
  rw [byF]
  split
  · exact h
  · split
    · show (if y = _ then _ else _ : Option Act0).isSome = true
      split
      · rfl
      · exact h
    · exact h
theorem byF_some (zs cs : List Int) (n : Nat) : ∀ a ∈ acts0 zs cs n, (byF zs cs n a.2.2).isSome := by
  induction n with
  | zero => simp [acts0]
  | succ n ih =>
    intro a ha
    rw [acts0] at ha
    split at ha
    · exact byF_keeps _ _ _ _ (ih a ha)
    · rename_i hne
      rcases List.mem_append.1 ha with ha | ha
      · exact byF_keeps _ _ _ _ (ih a ha)
      · rw [List.mem_singleton] at ha
        subst ha
        rw [byF, if_neg hne]
        split
        · simp
        · rename_i h
          simp only [not_or, Bool.not_eq_false] at h
          exact h.1
theorem acts0_wf (zs cs : List Int) (n : Nat) : ∀ a ∈ acts0 zs cs n, ∃ j, j < n ∧ cs.getD j 0 ≠ -1 ∧ a = ((j : Int), cs.getD j 0, endOf zs (cs.getD j 0)) := by
  induction n with
  | zero => simp [acts0]
  | succ n ih =>
    intro a ha
    rw [acts0] at ha
    split at ha
    · obtain ⟨j, h1, h2⟩ := ih a ha
      exact ⟨j, by omega, h2⟩
    · rename_i hne
      rcases List.mem_append.1 ha with ha | ha
      · obtain ⟨j, h1, h2⟩ := ih a ha
        exact ⟨j, by omega, h2⟩
      · rw [List.mem_singleton] at ha
        exact ⟨n, by omega, hne, ha⟩

theorem cellsOf_all (zs cs : List Int) (l : List Act0) (m m' : Nat) (h : l.length ≤ m) (h' : l.length ≤ m') : cellsOf zs cs m l = cellsOf zs cs m' l := by
  induction l generalizing m m' with
  | nil => simp [cellsOf]
  | cons a l ih =>
    simp only [List.length_cons] at h h'
    rw [cellsOf, cellsOf, ih (m - 1) (m' - 1) (by omega) (by omega)]
    simp only [spn, if_pos (show 0 < m by omega), if_pos (show 0 < m' by omega)]
end Go.Proofs.Ytmbdolmkldbjcaa
