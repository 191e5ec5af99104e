/-
  Walk: the law HeapKinds.
  A slice of keys that came in, as the walks want it.
  A slice of calls that came in, as the walks want it.
  Walk: the law HeapCopies.
  Walk: the law HeapTurns.
  A key that came in by value.
-/
import Derived.Test.YtkjpkhpiojahkaaKWH
import Derived.Test.YtkjpkhpiojahkaaLow
import Derived.Deep.Slices
import Derived.Deep.Fields
import Derived.ChangeArms
import Derived.OpenShut
import Derived.Test.YtkjpkhpiojahkaaCRU
import Derived.Test.YtkjpkhpiojahkaaBase0
import Derived.Deep.RegionLaw
import Derived.WideShapes
/-! ### Walk: the law HeapKinds.
  A slice of keys that came in, as the walks want it. -/
/-! ### Walk: the law HeapKinds. -/
namespace Go.Proofs.Ytkjpkhpiojahkaa.Ke
set_option linter.unusedVariables false
open Go.RowKit Hp

/-- a heap of keys that are structures, as a piece of memory -/
def heapA (hb lf : Nat) (lt : (Int × Int) → (Int × Int) → Bool) (M : List (It (Int × Int))) : Ast where
  holds w F := HeapAt w hb lf lt F M
  stable := fun h hm hS => h.mod hm hS
  lt := fun h hj => h.lt_F hj
abbrev H (hb : Nat) (M : List (It (Int × Int))) : Ast := heapA hb 31 bef M

section
variable {w0 w : World} {hb : Nat} {M : List (It (Int × Int))} {R : Ast}
theorem H_perm {M' : List (It (Int × Int))} (hp : M.Perm M') (F : Nat → Prop) (h : (H hb M).holds w F) : (H hb M').holds w F := HeapAt.perm h hp
theorem H_put (h : On w0 w (sep (H hb M) R)) (id : Int) (k : Int × Int) (h0 : 0 ≤ id) (hw : (Lit.int .i64 id).wf = true) (hn : ∀ x ∈ M, x.1 ≠ id) (hM : M.length < 1000000) :
    Calls Try.prog 139 #[.pointer (some ⟨hb, 0, none⟩), .int .i64 id, .agg #[.int .i64 k.1, .int .i64 k.2]] w fun e w' => e = .returned (.int .i64 0) ∧ On w0 w' (sep (H hb ((id, k) :: M)) R) :=
  h.call1 (B := H hb ((id, k) :: M)) fun _ hF => Put_ok lessB hF id k h0 hw hn hM
theorem H_take {x1 : Int} {x2 : Int × Int} (h : On w0 w (sep (H hb ((x1, x2) :: M)) R)) (hs : Sorted bef ((x1, x2) :: M)) (hM : M.length < 999999) :
    Calls Try.prog 161 #[.pointer (some ⟨hb, 0, none⟩)] w fun e w' => e = .returned (.tuple #[.int .i64 x1, .agg #[.int .i64 x2.1, .int .i64 x2.2], .int .i64 0]) ∧ On w0 w' (sep (H hb M) R) :=
  h.call1 (B := H hb M) fun _ hF => Take_some lessB hF hs hM
theorem H_len (h : On w0 w (sep (H hb M) R)) :
    Calls Try.prog 99 #[.pointer (some ⟨hb, 0, none⟩)] w fun e w' => e = .returned (.int .i64 (M.length : Int)) ∧ w = w' := by
  obtain ⟨F, hF, _⟩ := h.get1
  exact Len_ok hF
end
theorem H_new {w0 w : World} {R : Ast} (h : On w0 w R) : Calls Try.prog 90 #[.func (.func 31) #[] #[]] w fun e w' => ∃ hb, e = .returned (.tuple #[.pointer (some ⟨hb, 0, none⟩), .int .i64 0]) ∧ On w0 w' (sep (H hb []) R) :=
  (New_ok bef w).mono fun _ _ ⟨hb, F, he, h1, h2, h3⟩ => ⟨hb, he, h.add (B := H hb []) h2 h1 h3⟩

/-- the keys of a slice that came in -/
def KeysAt (w : World) (a : Option Addr) (ks : List (Int × Int)) : Prop :=
  ks.length = 0 ∨ ∃ b off, a = some ⟨b, off, none⟩ ∧ b < w.heap.size ∧ ∀ k, k < ks.length → w.cell? ⟨b, off + k * 2, none⟩ = some (.int .i64 (ks[k]?.getD (0, 0)).1) ∧ w.cell? ⟨b, off + k * 2 + 1, none⟩ = some (.int .i64 (ks[k]?.getD (0, 0)).2)

def itm (ks : List (Int × Int)) (j : Nat) : It (Int × Int) := ((j : Int), ks[j]?.getD (0, 0))
def La (ks : List (Int × Int)) : Nat → List (It (Int × Int))
  | 0 => []
  | i + 1 => itm ks i :: La ks i
theorem mem_La {ks : List (Int × Int)} {x : It (Int × Int)} : ∀ {i : Nat}, x ∈ La ks i ↔ ∃ j, j < i ∧ x = itm ks j
  | 0 => by simp [La]
  | i + 1 => by
    rw [La, List.mem_cons, mem_La]
    constructor
    · rintro (h | ⟨j, h1, h2⟩)
      · exact ⟨i, by omega, h⟩
      · exact ⟨j, by omega, h2⟩
    · rintro ⟨j, h1, h2⟩
      by_cases e : j = i
      · subst e; exact .inl h2
      · exact .inr ⟨j, by omega, h2⟩
theorem La_length (ks : List (Int × Int)) : ∀ i, (La ks i).length = i
  | 0 => rfl
  | i + 1 => by rw [La, List.length_cons, La_length]
theorem La_new {ks : List (Int × Int)} {i : Nat} : ∀ x ∈ La ks i, x.1 ≠ (i : Int) := fun x hx => by
  obtain ⟨j, h1, rfl⟩ := mem_La.1 hx
  simp [itm]; omega
theorem La_distinct {ks : List (Int × Int)} : ∀ i, (La ks i).Pairwise fun a b => a.1 ≠ b.1
  | 0 => List.Pairwise.nil
  | i + 1 => List.pairwise_cons.2 ⟨fun x hx => Ne.symm (La_new x hx), La_distinct i⟩
/-- all, in order -/
def Srt (ks : List (Int × Int)) : List (It (Int × Int)) := srt bef (La ks ks.length)
theorem Srt_perm (ks : List (Int × Int)) : (Srt ks).Perm (La ks ks.length) := srt_perm _
theorem Srt_length (ks : List (Int × Int)) : (Srt ks).length = ks.length := by rw [(Srt_perm ks).length_eq, La_length]
theorem Srt_sorted (ks : List (Int × Int)) : Sorted bef (Srt ks) := srt_sorted bef_swo (La_distinct _)
theorem Srt_at {ks : List (Int × Int)} {i : Nat} (hi : i < ks.length) : ∃ j, j < ks.length ∧ (Srt ks)[i]? = some (itm ks j) := by
  have hl : i < (Srt ks).length := by rw [Srt_length]; exact hi
  obtain ⟨j, h1, h2⟩ := mem_La.1 ((Srt_perm ks).mem_iff.1 (List.getElem_mem hl))
  exact ⟨j, h1, by rw [List.getElem?_eq_getElem hl, h2]⟩
/-- the last one that was taken -/
def lastC (l : List (It (Int × Int))) (i : Nat) : Array Value := if i = 0 then #[.int .i64 0, .int .i64 0] else #[.int .i64 (l.getD (i - 1) (0, 0, 0)).2.1, .int .i64 (l.getD (i - 1) (0, 0, 0)).2.2]
def lastN (l : List (It (Int × Int))) (i : Nat) : Int := if i = 0 then -1 else (l.getD (i - 1) (0, 0, 0)).1

end Go.Proofs.Ytkjpkhpiojahkaa.Ke

/-! ### A slice of keys that came in, as the walks want it. -/
namespace Go.Proofs.Ytkjpkhpiojahkaa.Ke
set_option linter.unusedVariables false
open Go.RowKit Go.ChangeShapes Go.WideShapes Go.Deep

theorem exists_list {β : Type} (d : β) (Q : Nat → β → Prop) : ∀ n, (∀ i, i < n → ∃ x, Q i x) → ∃ l : List β, l.length = n ∧ ∀ i, i < n → Q i (l[i]?.getD d)
  | 0, _ => ⟨[], rfl, by omega⟩
  | n + 1, h => by
    obtain ⟨l, h1, h2⟩ := exists_list d Q n fun i hi => h i (by omega)
    obtain ⟨x, hx⟩ := h n (by omega)
    refine ⟨l ++ [x], by simp [h1], fun i hi => ?_⟩
    by_cases hin : i = n
    · subst hin
      rw [List.getElem?_append_right (by omega)]
      simpa [h1] using hx
    · rw [List.getElem?_append_left (by omega)]
      exact h2 i (by omega)

theorem spot_none {w : World} {x : Addr} {v : Value} (h : w.cell? x = some v) : x.spot = none := by
  unfold World.cell? at h
  split at h
  · split at h
    · cases h
    · rename_i hs; simpa using hs
  · cases h

theorem Try.fields24 : ∃ f0 f1 : Field, Try.prog.underlying 24 = some (.struct #[f0, f1]) ∧ f0.type = 3 ∧ f1.type = 3 ∧ f0.offset = 0 ∧ f1.offset = 1 :=
  ⟨_, _, Try.underlying24, rfl, rfl, rfl, rfl⟩
theorem cells38 : Try.prog.cellsOf 24 = 2 := by kernel_rfl
theorem cells3 : Try.prog.cellsOf 3 = 1 := by kernel_rfl

variable {Hd : Type} {enc : TypeId × Value → Hd} {w : World} {base : Nat} {spare : Nat → Bool} {held : Bool}
set_option maxRecDepth 100000 in
/-- two cells that are a key -/
theorem open_key {fuel : Nat} {cs : List Value} {x : DataW Hd × List MemPlace} (h : DataW.trod enc Try.prog w base spare held fuel 24 cs = some x) :
    ∃ p q : Int, cs = [.int .i64 p, .int .i64 q] ∧ (Lit.int .i64 p).wf = true ∧ (Lit.int .i64 q).wf = true := by
  obtain ⟨f0, f1, hs, t0, t1, o0, o1⟩ := Try.fields24
  obtain ⟨xs, n, _, _, hl, hxl, hf⟩ := DataW.trod_struct hs h
  rw [cells38] at hl
  match cs, hl, xs, hxl with
  | [c0, c1], _, [y0, y1], _ =>
    have h0 := hf 0 f0 rfl
    have h1 := hf 1 f1 rfl
    rw [t0, o0, cells3] at h0
    rw [t1, o1, cells3] at h1
    obtain ⟨p, hp, _, hp2⟩ := DataW.trod_int Try.underlying3 h0
    obtain ⟨q, hq, _, hq2⟩ := DataW.trod_int Try.underlying3 h1
    simp at hp hq
    exact ⟨p, q, by rw [hp, hq], hp2, hq2⟩

theorem open_keys {fuel : Nat} {a : Option Addr} {len cap : Nat} {x : DataW Hd × List MemPlace} (h : DataW.trod enc Try.prog w base spare held fuel 30 [.slice a len cap] = some x) :
    ∃ ks : List (Int × Int), ks.length = len ∧ KeysAt w a ks ∧ ∀ k ∈ ks, (Lit.int .i64 k.1).wf = true ∧ (Lit.int .i64 k.2).wf = true := by
  rcases open_slice Try.underlying30 h with ⟨h0, _⟩ | ⟨a', len', cap', m, n, D, Pl, hcs, _, hl, _, hm, _, hi⟩
  · injection h0 with h0
    injection h0 with _ h0 _
    exact ⟨[], by rw [h0]; rfl, .inl rfl, by simp⟩
  · injection hcs with hcs
    injection hcs with h1 h2 h3
    subst h1
    subst h2
    subst h3
    have hlm : len ≤ m := by rw [hm]; split <;> omega
    rw [cells38] at hi
    have hq : ∀ i, i < len → ∃ k : Int × Int, (w.cell? (a'.add (i * 2)) = some (.int .i64 k.1) ∧ w.cell? (a'.add (i * 2 + 1)) = some (.int .i64 k.2)) ∧ (Lit.int .i64 k.1).wf = true ∧ (Lit.int .i64 k.2).wf = true := fun i hil => by
      obtain ⟨cs', hc, ht⟩ := hi i (by omega)
      obtain ⟨p, q, rfl, hp, hq⟩ := open_key ht
      obtain ⟨_, _, hat⟩ := World.cells?_some hc
      have e0 := hat 0 (by omega)
      have e1 := hat 1 (by omega)
      rw [Go.Deep.add_add] at e0 e1
      exact ⟨(p, q), ⟨by simpa using e0, by simpa using e1⟩, hp, hq⟩
    obtain ⟨ks, hk1, hk2⟩ := exists_list (0, 0) _ len hq
    refine ⟨ks, hk1, ?_, fun k hk => ?_⟩
    · rcases Nat.eq_zero_or_pos len with h0 | h0
      · exact .inl (by rw [hk1]; exact h0)
      · have hs : (a'.add (0 * 2)).spot = none := spot_none (hk2 0 h0).1.1
        obtain ⟨b, off, spot⟩ := a'
        have hs' : spot = none := by
          unfold Addr.add at hs
          split at hs <;> simp_all
        subst hs'
        have ha : ∀ j, (⟨b, off, none⟩ : Addr).add j = ⟨b, off + j, none⟩ := fun j => by unfold Addr.add; split <;> simp_all
        refine .inr ⟨b, off, rfl, ?_, fun k hk => ?_⟩
        · have := (hk2 0 h0).1.1
          rw [ha] at this
          exact World.block_lt_of_cell? w _ this
        · have := (hk2 k (by omega)).1
          rw [ha, ha] at this
          exact ⟨this.1, by rw [Nat.add_assoc]; exact this.2⟩
    · obtain ⟨i, hi, e⟩ := List.mem_iff_getElem.1 hk
      have := (hk2 i (by omega)).2
      rwa [List.getElem?_eq_getElem hi, Option.getD_some, e] at this
end Go.Proofs.Ytkjpkhpiojahkaa.Ke

/-! ### A slice of calls that came in, as the walks want it. -/
namespace Go.Proofs.Ytkjpkhpiojahkaa
set_option linter.unusedVariables false
open Go.RowKit Go.ChangeShapes Go.WideShapes Go.Deep

variable {Hd : Type} {enc : TypeId × Value → Hd} {w : World} {base : Nat} {spare : Nat → Bool} {held : Bool}
end Go.Proofs.Ytkjpkhpiojahkaa

/-! ### Walk: the law HeapCopies. -/
namespace Go.Proofs.Ytkjpkhpiojahkaa
set_option linter.unusedVariables false
open Go.RowKit Hp
attribute [local go_sem] Oper.semAt_some

/-- what All hands back holds -/
def seqA (B : Nat) (S : List (It Int)) : Ast where
  holds w F := ∃ hb F', w.cell? ⟨B, 0, none⟩ = some (.pointer (some ⟨hb, 0, none⟩)) ∧ HeapAt w hb 113 ltI F' S ∧ ∀ j, F j ↔ F' j ∨ j = B
  stable := fun ⟨hb, F', h1, h2, h3⟩ hm hS => ⟨hb, F', hm.cell h1 (hS B ((h3 B).2 (.inr rfl))), h2.mod hm fun j hj => hS j ((h3 j).2 (.inl hj)), h3⟩
  lt := fun ⟨hb, F', h1, h2, h3⟩ hj => by
    rcases (h3 _).1 hj with h | h
    · exact h2.lt_F h
    · rw [h]; exact World.block_lt_of_cell? _ _ h1

section
variable {w0 w : World} {hb : Nat} {S : List (It Int)} {R : Ast}
end
theorem keySlice : SliceOf Try.prog 30 24 2 16 := by
  obtain ⟨i0, hi0, hz0, hz1, hz2⟩ := info_parts2 Try.info24
  exact ⟨Try.underlying30, ⟨i0, _, hi0, hz0, hz1, hz2, rfl⟩, by omega⟩

theorem ops_at {w A : World} {a : Option Addr} {os : List (Int × Int × Int)} (h : OpsAt w a os) (hb : Below w.heap.size w A) {k : Nat} (hk : k < os.length) :
    ∃ b off ask at' id, a = some ⟨b, off, none⟩ ∧ A.cell? ⟨b, off + k * 3, none⟩ = some (.int .i64 ask) ∧ A.cell? ⟨b, off + k * 3 + 1, none⟩ = some (.int .i64 at') ∧ A.cell? ⟨b, off + k * 3 + 2, none⟩ = some (.int .i64 id) ∧ (Lit.int .i64 id).wf = true := by
  obtain ⟨hc, hwf⟩ := h
  obtain ⟨b, off, ha, _, hcells⟩ := hc.resolve_left (by omega)
  obtain ⟨p0, p1, p2⟩ := hcells k hk
  refine ⟨b, off, _, _, _, ha, zatB p0 hb, zatB p1 hb, zatB p2 hb, hwf _ ?_⟩
  rw [List.getElem?_eq_getElem hk, Option.getD_some]
  exact List.getElem_mem _

section
variable {w0 w : World} {A B C D E R : Ast} {bn t : Nat} {cs : Array Value} {S : List (It Int)}
theorem On.fifth {G : Ast} (h : On w0 w (sep A (sep B (sep C (sep D (sep E G)))))) : On w0 w (sep E (sep A (sep B (sep C (sep D G))))) := h.mono fun _ h => sep_left (sep_monoR h fun _ h => sep_left (sep_monoR h fun _ h => sep_left (sep_monoR h fun _ => sep_left)))
theorem On.second3 (h : On w0 w (sep A (sep B (sep C R)))) : On w0 w (sep A (sep C (sep B R))) := h.mono fun _ h => sep_monoR h fun _ => sep_left
/-- the iterator's own blocks are not the box -/
theorem On.seq_dis {b : Nat} (h : On w0 w (sep (boxA bn t cs) (sep (seqA b S) R))) : ∃ hb F', w.cell? ⟨b, 0, none⟩ = some (.pointer (some ⟨hb, 0, none⟩)) ∧ HeapAt w hb 113 ltI F' S ∧ ∀ q, F' q ∨ q = b → q ≠ bn := by
  obtain ⟨F, ⟨Fa, Fb, ha, ⟨Fc, Fd, ⟨hb, F', h1, h2, h3⟩, _, _, hFb⟩, hdis, _⟩, _⟩ := h
  refine ⟨hb, F', h1, h2, fun q hq e => ?_⟩
  subst e
  exact hdis q ((ha.2 q).2 rfl) ((hFb q).2 (.inl ((h3 q).2 hq)))
end

end Go.Proofs.Ytkjpkhpiojahkaa

/-! ### Walk: the law HeapTurns. -/
namespace Go.Proofs.Ytkjpkhpiojahkaa
set_option linter.unusedVariables false
open Go.RowKit Hp
attribute [local go_sem] Oper.semAt_some

theorem HeapAt.mem_at {S : List (It Int)} {pre : List (It Int)} {x : It Int} (hpre : pre ++ [x] <+: S) : pre.length < S.length ∧ S[pre.length]? = some x ∧ x ∈ S ∧ (pre = [] → S.headD (0, 0) = x) := by
  obtain ⟨t, ht⟩ := hpre
  refine ⟨?_, ?_, ?_, ?_⟩
  · rw [← ht]; simp
  · rw [← ht, List.append_assoc, List.getElem?_append_right (Nat.le_refl _)]; simp
  · rw [← ht]; simp
  · rintro rfl; rw [← ht]; rfl

theorem Peek_head {w : World} {hb : Nat} {F : Nat → Prop} {S : List (It Int)} (h : HeapAt w hb 113 ltI F S) (hs : Sorted ltI S) :
    Calls Try.prog 154 #[.pointer (some ⟨hb, 0, none⟩)] w fun e w' => e = .returned (.tuple #[.int .i64 (S.headD (0, 0)).1, .int .i64 (S.headD (0, 0)).2, .int .i64 (headE S)]) ∧ Below w.heap.size w w' := by
  cases S with
  | nil => exact Peek_none h
  | cons x S => exact Peek_some lessI h hs

namespace Hp
section
variable {α : Type} {lt : α → α → Bool} {S T : List (It α)} {id : Int} {k k0 : α}
theorem without_ins (x : It α) : ∀ l : List (It α), without (ins lt x l) x.1 = without l x.1
  | [] => by simp [ins, without]
  | y :: l => by
    have ih := without_ins x l
    unfold without at ih ⊢
    rw [ins]
    split
    · rw [List.filter_cons, List.filter_cons, ih]
    · rw [List.filter_cons_of_neg (by simp)]
theorem without_idem (h : ∀ x ∈ T, x.1 ≠ id) : without T id = T := without_none (has_none.2 h)
theorem has_ins : has (ins lt (id, k) T) id = true := has_mem (ins_mem.2 (.inl rfl))
theorem ins_back [BEq α] [LawfulBEq α] (ho : Swo lt) (hs : Sorted lt S) (hd : S.Pairwise fun a b => a.1 ≠ b.1) (h : (id, k0) ∈ S) : ins lt (id, k0) (without S id) = S := by
  refine Sorted.eq_of_perm ho (ins_sorted ho (without_sorted hs) without_gone) hs ?_
  rw [without_erase hd h]
  exact (ins_perm _ _).trans (List.perm_cons_erase h).symm
theorem chS_back [BEq α] [LawfulBEq α] (ho : Swo lt) (hs : Sorted lt S) (hd : S.Pairwise fun a b => a.1 ≠ b.1) (h : (id, k0) ∈ S) : chS lt (chS lt S id k) id k0 = S := by
  have h1 : chS lt S id k = ins lt (id, k) (without S id) := by unfold chS; rw [if_pos (has_mem h)]
  rw [h1]
  unfold chS
  rw [if_pos has_ins, without_ins (id, k), without_idem without_gone, ins_back ho hs hd h]
end
end Hp

end Go.Proofs.Ytkjpkhpiojahkaa

/-! ### A key that came in by value. -/
namespace Go.Proofs.Ytkjpkhpiojahkaa
set_option linter.unusedVariables false
open Go.RowKit Go.ChangeShapes Go.WideShapes Go.Deep

set_option maxRecDepth 100000 in
theorem open_key2 {Hd : Type} {enc : TypeId × Value → Hd} {w w' : World} {base b0 : Nat} {spare : Nat → Bool} {held : Bool} {r : Reach} {v : Value} {d : DataW Hd} {ps : List MemPlace}
    (hval : Value.okWide Try.prog w' r b0 24 v) (h : DataW.Trod enc Try.prog w base spare held 24 v d ps) :
    ∃ p q : Int, v = .agg #[.int .i64 p, .int .i64 q] ∧ (Lit.int .i64 p).wf = true ∧ (Lit.int .i64 q).wf = true := by
  obtain ⟨fuel, hf⟩ := h
  obtain ⟨f0, f1, hs, _⟩ := Ke.Try.fields24
  obtain ⟨cs, rfl, _⟩ := okWide_struct hs hval
  obtain ⟨p, q, hcs, hp, hq⟩ := Ke.open_key hf
  refine ⟨p, q, ?_, hp, hq⟩
  have : cs.toList = [.int .i64 p, .int .i64 q] := by simpa [Value.cells] using hcs
  rw [← Array.toArray_toList (xs := cs), this]
theorem open_intsR {Hd : Type} {enc : TypeId × Value → Hd} {W : World} {base : Nat} {held : Bool} {fuel : Nat} {a : Option Addr} {len cap : Nat} {x : DataW Hd × List MemPlace}
    (h : DataW.trod enc Try.prog W base (fun _ => true) held fuel 54 [.slice a len cap] = some x) :
    ∃ ks : List Int, ks.length = len ∧ (IntsAt W a ks ∧ len ≤ cap ∧ cap ≤ 9223372036854775807 ∧ ∀ x ∈ ks, (Lit.int .i64 x).wf = true) := by
  rcases open_ints Try.underlying54 Try.underlying3 (by kernel_rfl) h with ⟨hcs, _⟩ | ⟨x, l, c, zs, hcs, _, hl, hm, hz, _, hcell, hwz⟩
  · simp at hcs
    obtain ⟨rfl, rfl, rfl⟩ := hcs
    exact ⟨[], rfl, fun k hk => by simp at hk, Nat.le_refl _, by omega, by simp⟩
  · simp at hcs
    obtain ⟨rfl, rfl, rfl⟩ := hcs
    obtain ⟨xs, h1, h2, h3, h4⟩ := IsRow.ints (.inr ⟨_, rfl, hl, hm, by simpa using hz, hcell, hwz⟩)
    unfold maxLen at hm
    exact ⟨xs, h1, h2, h3, by omega, h4⟩
theorem two_under : Try.prog.underlying 50 = some (.array 2 3) := by kernel_rfl
theorem two_cells : Try.prog.cellsOf 50 = 2 := by kernel_rfl
set_option maxRecDepth 100000 in
theorem open_two {Hd : Type} {enc : TypeId × Value → Hd} {w w' : World} {base b0 : Nat} {spare : Nat → Bool} {held : Bool} {r : Reach} {v : Value} {d : DataW Hd} {ps : List MemPlace}
    (hval : Value.okWide Try.prog w' r b0 50 v) (h : DataW.Trod enc Try.prog w base spare held 50 v d ps) :
    ∃ p q : Int, v = .agg #[.int .i64 p, .int .i64 q] ∧ (Lit.int .i64 p).wf = true ∧ (Lit.int .i64 q).wf = true := by
  obtain ⟨fuel, hf⟩ := h
  simp only [Value.okWide, two_under] at hval
  obtain ⟨cs, rfl, _⟩ := hval
  obtain ⟨xs, n, _, _, hl, hxl, hi⟩ := DataW.trod_array two_under hf
  rw [two_cells] at hl
  have h0 := hi 0 (by omega)
  have h1 := hi 1 (by omega)
  rw [Ke.cells3] at h0 h1
  obtain ⟨l⟩ := cs
  simp only [Value.cells] at hl h0 h1
  match l, hl, xs, hxl with
  | [c0, c1], _, [y0, y1], _ =>
    obtain ⟨p, hp, _, hp2⟩ := DataW.trod_int Try.underlying3 h0
    obtain ⟨q, hq, _, hq2⟩ := DataW.trod_int Try.underlying3 h1
    simp at hp hq
    exact ⟨p, q, by rw [hp, hq], hp2, hq2⟩
theorem open_slice_cap {Hd : Type} {enc : TypeId × Value → Hd} {w : World} {base : Nat} {spare : Nat → Bool} {held : Bool} {fuel : Nat} {a : Option Addr} {len cap : Nat} {x : DataW Hd × List MemPlace} {t e : TypeId}
    (hu : Try.prog.underlying t = some (.slice e)) (h : DataW.trod enc Try.prog w base spare held fuel t [.slice a len cap] = some x) : len ≤ cap ∧ cap ≤ 9223372036854775807 := by
  rcases Go.Deep.open_slice hu h with ⟨h0, _⟩ | ⟨a', len', cap', m, n, D, Pl, hcs, _, hl, hm, _⟩
  · injection h0 with h0
    injection h0 with _ h0 h1
    omega
  · injection hcs with hcs
    injection hcs with h1 h2 h3
    unfold maxLen at hm
    omega
end Go.Proofs.Ytkjpkhpiojahkaa
