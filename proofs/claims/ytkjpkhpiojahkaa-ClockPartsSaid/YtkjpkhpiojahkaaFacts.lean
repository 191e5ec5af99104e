/-
  Closed facts of this seat's whole program.
-/
import Derived.Test.YtkjpkhpiojahkaaRows
import Derived.ProofKit
import Derived.WalkKit
import Derived.Below
namespace Go.Proofs.Ytkjpkhpiojahkaa
set_option linter.unusedVariables false
open Go.ChangeShapes Go.WideShapes Go.ChangeAt Go.RowKit

/-- the signs of the translation's head, by their numbers -/
def headNs : List Nat := [104, 97, 114, 110, 101, 115, 115, 32, 54, 101, 55, 102, 56, 100, 55, 48, 54, 53, 102, 101, 57, 102, 101, 52, 57, 52, 52, 51, 56, 55, 57, 101, 52, 51, 97, 98, 55, 49, 99, 51, 50, 99, 100, 99, 99, 49, 53, 100, 97, 98, 57, 52, 55, 49, 57, 98, 48, 48, 51, 49, 50, 99, 101, 100, 49, 56, 98, 48, 53, 101, 101, 51, 32, 99, 117, 116, 32, 97, 116, 32, 109, 101, 116, 114, 111, 110, 111, 109, 101, 47, 109, 101, 116, 114, 111, 110, 111, 109, 101, 108, 97, 119, 48, 52, 46, 82, 101, 97, 100, 121, 79, 114, 100, 101, 114, 32, 109, 101, 116, 114, 111, 110, 111, 109, 101, 47, 109, 101, 116, 114, 111, 110, 111, 109, 101, 108, 97, 119, 48, 52, 46, 82, 101, 97, 100, 121, 85, 110, 116, 105, 108, 32, 109, 101, 116, 114, 111, 110, 111, 109, 101, 47, 109, 101, 116, 114, 111, 110, 111, 109, 101, 108, 97, 119, 48, 52, 46, 82, 101, 97, 100, 121, 80, 97, 114, 116, 115, 32, 109, 101, 116, 114, 111, 110, 111, 109, 101, 47, 109, 101, 116, 114, 111, 110, 111, 109, 101, 108, 97, 119, 48, 53, 46, 84, 105, 109, 101, 114, 115, 79, 110, 99, 101, 32, 109, 101, 116, 114, 111, 110, 111, 109, 101, 47, 109, 101, 116, 114, 111, 110, 111, 109, 101, 108, 97, 119, 48, 53, 46, 84, 105, 109, 101, 114, 115, 65, 110, 101, 119, 32, 109, 101, 116, 114, 111, 110, 111, 109, 101, 47, 109, 101, 116, 114, 111, 110, 111, 109, 101, 108, 97, 119, 48, 53, 46, 84, 105, 109, 101, 114, 115, 83, 104, 97, 114, 112, 32, 109, 101, 116, 114, 111, 110, 111, 109, 101, 47, 109, 101, 116, 114, 111, 110, 111, 109, 101, 108, 97, 119, 48, 53, 46, 84, 105, 109, 101, 114, 115, 80, 108, 97, 121, 115, 32, 109, 101, 116, 114, 111, 110, 111, 109, 101, 47, 109, 101, 116, 114, 111, 110, 111, 109, 101, 108, 97, 119, 48, 53, 46, 84, 105, 109, 101, 114, 115, 67, 111, 112, 105, 101, 115, 32, 109, 101, 116, 114, 111, 110, 111, 109, 101, 47, 109, 101, 116, 114, 111, 110, 111, 109, 101, 108, 97, 119, 48, 53, 46, 84, 105, 109, 101, 114, 115, 78, 101, 120, 116, 32, 109, 101, 116, 114, 111, 110, 111, 109, 101, 47, 109, 101, 116, 114, 111, 110, 111, 109, 101, 108, 97, 119, 49, 49, 46, 80, 108, 97, 99, 101, 66, 101, 115, 116, 32, 109, 101, 116, 114, 111, 110, 111, 109, 101, 47, 109, 101, 116, 114, 111, 110, 111, 109, 101, 108, 97, 119, 49, 49, 46, 80, 108, 97, 99, 101, 77, 111, 118, 101, 115, 32, 109, 101, 116, 114, 111, 110, 111, 109, 101, 47, 109, 101, 116, 114, 111, 110, 111, 109, 101, 108, 97, 119, 49, 49, 46, 80, 108, 97, 99, 101, 79, 114, 100, 101, 114, 32, 109, 101, 116, 114, 111, 110, 111, 109, 101, 47, 109, 101, 116, 114, 111, 110, 111, 109, 101, 108, 97, 119, 49, 49, 46, 80, 108, 97, 99, 101, 87, 97, 110, 116, 115, 32, 109, 101, 116, 114, 111, 110, 111, 109, 101, 47, 109, 101, 116, 114, 111, 110, 111, 109, 101, 108, 97, 119, 49, 49, 46, 80, 108, 97, 99, 101, 71, 114, 111, 119, 115, 32, 109, 101, 116, 114, 111, 110, 111, 109, 101, 47, 109, 101, 116, 114, 111, 110, 111, 109, 101, 108, 97, 119, 49, 49, 46, 80, 108, 97, 99, 101, 66, 101, 97, 116, 115, 32, 109, 101, 116, 114, 111, 110, 111, 109, 101, 47, 109, 101, 116, 114, 111, 110, 111, 109, 101, 108, 97, 119, 49, 57, 46, 67, 108, 111, 99, 107, 79, 114, 100, 101, 114, 32, 109, 101, 116, 114, 111, 110, 111, 109, 101, 47, 109, 101, 116, 114, 111, 110, 111, 109, 101, 108, 97, 119, 49, 57, 46, 67, 108, 111, 99, 107, 83, 104, 97, 114, 112, 32, 109, 101, 116, 114, 111, 110, 111, 109, 101, 47, 109, 101, 116, 114, 111, 110, 111, 109, 101, 108, 97, 119, 49, 57, 46, 67, 108, 111, 99, 107, 76, 97, 116, 101, 32, 109, 101, 116, 114, 111, 110, 111, 109, 101, 47, 109, 101, 116, 114, 111, 110, 111, 109, 101, 108, 97, 119, 49, 57, 46, 67, 108, 111, 99, 107, 80, 108, 97, 121, 115, 32, 109, 101, 116, 114, 111, 110, 111, 109, 101, 47, 109, 101, 116, 114, 111, 110, 111, 109, 101, 108, 97, 119, 49, 57, 46, 67, 108, 111, 99, 107, 80, 97, 114, 116, 115, 32, 109, 101, 116, 114, 111, 110, 111, 109, 101, 47, 109, 101, 116, 114, 111, 110, 111, 109, 101, 108, 97, 119, 49, 57, 46, 67, 108, 111, 99, 107, 82, 117, 110, 115, 32, 109, 101, 116, 114, 111, 110, 111, 109, 101, 47, 109, 101, 116, 114, 111, 110, 111, 109, 101, 108, 97, 119, 49, 57, 46, 67, 108, 111, 99, 107, 78, 105, 108]
set_option maxRecDepth 100000 in
theorem head_eq : Try.prog.initOrder = String.ofList (headNs.map Char.ofNat) := by kernel_rfl
theorem head_list : Try.prog.initOrder.toList = headNs.map Char.ofNat := by rw [head_eq, String.toList_ofList]
theorem fact_own : ownKnob Try.prog.godebug = none := by kernel_rfl
theorem fact_laid : laidOutB Try.prog = true := by kernel_rfl
theorem fact_maps : mapsRowed Try.prog = true := by kernel_rfl
theorem fact_heard : Try.prog.stopsHeard = true := by kernel_rfl
theorem head_cut : (behindMainWord (wordsSigns Try.prog.initOrder.toList)).head? = some "cut".toList := by rw [head_list]; kernel_rfl
theorem head_words : ∃ rest, behindMainWord (wordsSigns Try.prog.initOrder.toList) = "cut".toList :: rest := by
  have h := head_cut
  cases hl : behindMainWord (wordsSigns Try.prog.initOrder.toList) with
  | nil => rw [hl] at h; cases h
  | cons c rest => rw [hl] at h; cases h; exact ⟨rest, rfl⟩
section
variable {P : Program} {rest : List (List Char)}
theorem make_of (h : behindMainWord (wordsSigns P.initOrder.toList) = "cut".toList :: rest) : P.make = some .cut := by
  unfold Program.make
  rw [h]
  kernel_rfl
theorem strip_of : stripLifts liftWords ("cut".toList :: rest) = ([], "cut".toList :: rest) := by kernel_rfl
theorem lifts_of (h : behindMainWord (wordsSigns P.initOrder.toList) = "cut".toList :: rest) : P.headLifts = [] := by
  unfold Program.headLifts
  rw [h, strip_of]
  kernel_rfl
theorem lifted_of (h : behindMainWord (wordsSigns P.initOrder.toList) = "cut".toList :: rest) : P.liftsFinal = false := by
  unfold Program.liftsFinal
  rw [lifts_of h, h]
  kernel_rfl
theorem may_of (h : behindMainWord (wordsSigns P.initOrder.toList) = "cut".toList :: rest) (h1 : P.laysLater = false) (h2 : P.bearsReflect = false) (h3 : P.doorFits [] = true) : P.mayEnter = true := by
  unfold Program.mayEnter
  rw [h]
  dsimp only
  rw [strip_of, h1, h2, h3]
  kernel_rfl
end
theorem fact_later : Try.prog.laysLater = false := by kernel_rfl
theorem fact_refl : Try.prog.bearsReflect = false := by kernel_rfl
theorem fact_door : Try.prog.doorFits [] = true := by kernel_rfl
theorem fact_may : Try.prog.mayEnter = true := head_words.elim fun _ h => may_of h fact_later fact_refl fact_door
theorem fact_lifted : Try.prog.liftsFinal = false := head_words.elim fun _ h => lifted_of h
theorem fact_make : Try.prog.make = some .cut := head_words.elim fun _ h => make_of h
theorem fact_keys : Try.prog.plainKeys = true := by kernel_rfl
theorem and_mk {a b : Bool} (h1 : a = true) (h2 : b = true) : (a && b) = true := by rw [h1, h2]; rfl
theorem closed_gen (P : Program) (b2 : laidOutB P = true) (b3 : mapsRowed P = true) (b23 : P.stopsHeard = true) (b24 : P.mayEnter = true) (bl : P.liftsFinal = false) (bm : P.make = some .cut) (bk : P.plainKeys = true) (f : FuncId) (fn : Func) (s : ChangeSpec) (c : OpenClaim) (h0 : c.plainKeys = true) (h1 : c.lifted = false) (h2 : c.make = .cut)
    (a1 : c.wf (OpenSpec.ofChange s) = true) (a4 : (fn.params.all (P.readableRec ·)) = true) (a5 : namedTie P c.named s.vars = true) (a6 : (c.stops == []) = true) (a7 : (P.stops == []) = true) (a8 : (c.knobs == []) = true) (a9 : (P.stopKnobs == []) = true)
    (a10 : (c.inPlace == P.inPlace f) = true) (a11 : (c.unfollowed == P.unfollowed f) = true) (a12 : (c.recurses == P.recurses f) = true) (a13 : (c.named == P.varsNamed f) = true)
    (a14 : (c.maps == (fn.params.toList ++ s.plain.varTypes P).any (P.mapsRec ·)) = true) (a15 : (c.ifaces == (fn.params.toList ++ s.plain.varTypes P).any (P.ifacesRec ·)) = true) (a16 : (c.mapsOut == P.mapsAmong fn.resultTypes.toList) = true)
    (a17 : (c.loops == (fn.params.toList ++ s.plain.varTypes P).any (P.loopsFrom ·)) = true) (a17b : (c.wideKeys == (fn.params.toList ++ s.plain.varTypes P ++ fn.resultTypes.toList).any (P.wideKeysFrom ·)) = true)
    (a18 : (s.vars.all (P.varReadable ·)) = true) (a19 : (fn.resultTypes.all (fun t => P.readableRec t && decide (t < P.types.size))) = true) (a20 : (c.ifacesOut == fn.resultTypes.toList.any (P.ifacesRec ·)) = true) (a21 : (c.loopsOut == fn.resultTypes.toList.any (P.loopsFrom ·)) = true)
    (a23 : c.shortTexts.isNone = true) (a25 : (c.kinds == (if c.domain.isEmpty then [] else fn.params.toList.map fun t => match P.underlying t with | some (.int k) => some k | _ => none)) = true) (a26 : (c.pinned == c.pinnedBy) = true)
    (a27 : (c.veiled == (fn.params.toList ++ s.plain.varTypes P ++ fn.resultTypes.toList).any (P.veiledRec ·)) = true) (a28 : (c.veiledFits P fn.params.toList (fn.params.toList ++ s.plain.varTypes P ++ fn.resultTypes.toList)) = true) : joinedFacts P f fn s c = true := by
  have a22 : (c.plainKeys == P.plainKeys) = true := by rw [h0, bk]; rfl
  have a24b : (c.lifted == P.liftsFinal) = true := by rw [h1, bl]; rfl
  have a24c : (P.make == some c.make) = true := by rw [h2, bm]; rfl
  exact and_mk (and_mk (and_mk (and_mk (and_mk (and_mk (and_mk (and_mk (and_mk (and_mk (and_mk (and_mk (and_mk (and_mk (and_mk (and_mk (and_mk (and_mk (and_mk (and_mk (and_mk (and_mk (and_mk (and_mk (and_mk (and_mk (and_mk (and_mk (and_mk (and_mk (and_mk a1 b2) b3) a4) a5) a6) a7) a8) a9) a10) a11) a12) a13) a14) a15) a16) a17) a17b) a18) a19) a20) a21) a22) a23) b23) b24) a24b) a24c) a25) a26) a27) a28
theorem closed_of (f : FuncId) (fn : Func) (s : ChangeSpec) (c : OpenClaim) (h0 : c.plainKeys = true) (h1 : c.lifted = false) (h2 : c.make = .cut)
    (a1 : c.wf (OpenSpec.ofChange s) = true) (a4 : (fn.params.all (Try.prog.readableRec ·)) = true) (a5 : namedTie Try.prog c.named s.vars = true) (a6 : (c.stops == []) = true) (a7 : (Try.prog.stops == []) = true) (a8 : (c.knobs == []) = true) (a9 : (Try.prog.stopKnobs == []) = true)
    (a10 : (c.inPlace == Try.prog.inPlace f) = true) (a11 : (c.unfollowed == Try.prog.unfollowed f) = true) (a12 : (c.recurses == Try.prog.recurses f) = true) (a13 : (c.named == Try.prog.varsNamed f) = true)
    (a14 : (c.maps == (fn.params.toList ++ s.plain.varTypes Try.prog).any (Try.prog.mapsRec ·)) = true) (a15 : (c.ifaces == (fn.params.toList ++ s.plain.varTypes Try.prog).any (Try.prog.ifacesRec ·)) = true) (a16 : (c.mapsOut == Try.prog.mapsAmong fn.resultTypes.toList) = true)
    (a17 : (c.loops == (fn.params.toList ++ s.plain.varTypes Try.prog).any (Try.prog.loopsFrom ·)) = true) (a17b : (c.wideKeys == (fn.params.toList ++ s.plain.varTypes Try.prog ++ fn.resultTypes.toList).any (Try.prog.wideKeysFrom ·)) = true)
    (a18 : (s.vars.all (Try.prog.varReadable ·)) = true) (a19 : (fn.resultTypes.all (fun t => Try.prog.readableRec t && decide (t < Try.prog.types.size))) = true) (a20 : (c.ifacesOut == fn.resultTypes.toList.any (Try.prog.ifacesRec ·)) = true) (a21 : (c.loopsOut == fn.resultTypes.toList.any (Try.prog.loopsFrom ·)) = true)
    (a23 : c.shortTexts.isNone = true) (a25 : (c.kinds == (if c.domain.isEmpty then [] else fn.params.toList.map fun t => match Try.prog.underlying t with | some (.int k) => some k | _ => none)) = true) (a26 : (c.pinned == c.pinnedBy) = true)
    (a27 : (c.veiled == (fn.params.toList ++ s.plain.varTypes Try.prog ++ fn.resultTypes.toList).any (Try.prog.veiledRec ·)) = true) (a28 : (c.veiledFits Try.prog fn.params.toList (fn.params.toList ++ s.plain.varTypes Try.prog ++ fn.resultTypes.toList)) = true) : joinedFacts Try.prog f fn s c = true :=
  closed_gen Try.prog fact_laid fact_maps fact_heard fact_may fact_lifted fact_make fact_keys f fn s c h0 h1 h2 a1 a4 a5 a6 a7 a8 a9 a10 a11 a12 a13 a14 a15 a16 a17 a17b a18 a19 a20 a21 a23 a25 a26 a27 a28
end Go.Proofs.Ytkjpkhpiojahkaa
