/-
  Walk: the law HeapCopies.
-/
import Derived.Test.YtkjpkhpiojahkaaOps
import Derived.Test.YtkjpkhpiojahkaaBase
import Derived.Deep.RegionLaw
namespace Go.Proofs.Ytkjpkhpiojahkaa
set_option linter.unusedVariables false
open Go.RowKit Hp
attribute [local go_sem] Oper.semAt_some

/-- what All hands back holds -/
def seqA (B : Nat) (S : List (It Int)) : Ast where
  holds w F := ∃ hb F', w.cell? ⟨B, 0, none⟩ = some (.pointer (some ⟨hb, 0, none⟩)) ∧ HeapAt w hb 113 ltI F' S ∧ ∀ j, F j ↔ F' j ∨ j = B
  stable := fun ⟨hb, F', h1, h2, h3⟩ hm hS => ⟨hb, F', hm.cell h1 (hS B ((h3 B).2 (.inr rfl))), h2.mod hm fun j hj => hS j ((h3 j).2 (.inl hj)), h3⟩
  lt := fun ⟨hb, F', h1, h2, h3⟩ hj => by
    rcases (h3 _).1 hj with h | h
    · exact h2.lt_F h
    · rw [h]; exact World.block_lt_of_cell? _ _ h1

section
variable {w0 w : World} {hb : Nat} {S : List (It Int)} {R : Ast}
end
theorem keySlice : SliceOf Try.prog 30 24 2 16 := by
  obtain ⟨i0, hi0, hz0, hz1, hz2⟩ := info_parts2 Try.info24
  exact ⟨Try.underlying30, ⟨i0, _, hi0, hz0, hz1, hz2, rfl⟩, by omega⟩

theorem ops_at {w A : World} {a : Option Addr} {os : List (Int × Int × Int)} (h : OpsAt w a os) (hb : Below w.heap.size w A) {k : Nat} (hk : k < os.length) :
    ∃ b off ask at' id, a = some ⟨b, off, none⟩ ∧ A.cell? ⟨b, off + k * 3, none⟩ = some (.int .i64 ask) ∧ A.cell? ⟨b, off + k * 3 + 1, none⟩ = some (.int .i64 at') ∧ A.cell? ⟨b, off + k * 3 + 2, none⟩ = some (.int .i64 id) ∧ (Lit.int .i64 id).wf = true := by
  obtain ⟨hc, hwf⟩ := h
  obtain ⟨b, off, ha, _, hcells⟩ := hc.resolve_left (by omega)
  obtain ⟨p0, p1, p2⟩ := hcells k hk
  refine ⟨b, off, _, _, _, ha, zatB p0 hb, zatB p1 hb, zatB p2 hb, hwf _ ?_⟩
  rw [List.getElem?_eq_getElem hk, Option.getD_some]
  exact List.getElem_mem _

section
variable {w0 w : World} {A B C D E R : Ast} {bn t : Nat} {cs : Array Value} {S : List (It Int)}
theorem On.fifth {G : Ast} (h : On w0 w (sep A (sep B (sep C (sep D (sep E G)))))) : On w0 w (sep E (sep A (sep B (sep C (sep D G))))) := h.mono fun _ h => sep_left (sep_monoR h fun _ h => sep_left (sep_monoR h fun _ h => sep_left (sep_monoR h fun _ => sep_left)))
theorem On.second3 (h : On w0 w (sep A (sep B (sep C R)))) : On w0 w (sep A (sep C (sep B R))) := h.mono fun _ h => sep_monoR h fun _ => sep_left
/-- the iterator's own blocks are not the box -/
theorem On.seq_dis {b : Nat} (h : On w0 w (sep (boxA bn t cs) (sep (seqA b S) R))) : ∃ hb F', w.cell? ⟨b, 0, none⟩ = some (.pointer (some ⟨hb, 0, none⟩)) ∧ HeapAt w hb 113 ltI F' S ∧ ∀ q, F' q ∨ q = b → q ≠ bn := by
  obtain ⟨F, ⟨Fa, Fb, ha, ⟨Fc, Fd, ⟨hb, F', h1, h2, h3⟩, _, _, hFb⟩, hdis, _⟩, _⟩ := h
  refine ⟨hb, F', h1, h2, fun q hq e => ?_⟩
  subst e
  exact hdis q ((ha.2 q).2 rfl) ((hFb q).2 (.inl ((h3 q).2 hq)))
end

end Go.Proofs.Ytkjpkhpiojahkaa
