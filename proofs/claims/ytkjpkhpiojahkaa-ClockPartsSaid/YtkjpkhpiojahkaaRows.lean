/-
  No cell of these rows narrows 'for every input' (looked for: loops, veiled, ifaces, maps, wideKeys, modest, calm, conditions, laid).
  DERIVED. THE GIVEN ROWS OF THIS SEAT. 22 by the template 'for every input the law returns true; each argument reads behind the call as it read before'; 0 by the template 'total and deterministic' (their statements: YtkjpkhpiojahkaaTotals.lean).
  GIVEN WITH THE SEED: the statements are not yours to turn. If you find one false, say at which input.
  Laid BY PROGRAM, IN A SANDBOX (cutbox-rows.mjs): the forced cells as the released guide's own fill.sh prints them over the translation 5860ecc6a23eb886… (all of the seat's roots in one cut). By AI agents, Wed Nov 11 2026. No macro, syntax, notation, axiom, sorry.
-/
import Derived.Test.YtkjpkhpiojahkaaChecked
import GoSem.Claim
import GoSem.ClaimJoined
import GoSem.ClaimMapViews
import Derived.JoinedTies
import Derived.KernelRfl
namespace Go.Proofs.Ytkjpkhpiojahkaa
/- THE CELL 'sum', in the pinned program and in every row, IS THE sha256 OF THE DUMP (.gsa) THAT YtkjpkhpiojahkaaProg.lean LOADS. Nothing in Lean hashes anything: it is a label: what it is worth is what the hold of that sum in a sandbox is worth. -/
noncomputable def Try.pinned : Pinned := { name := "ytkjpkhpiojahkaa", sum := "5860ecc6a23eb886b6c598e1a656f230104c38edaa188d726cd6fec5436d51e1", checked := Try.checked }
namespace Rows
def none {H : Type} : Left H := { results := [], args := [] }

/-- 'metronomelaw04.ReadyOrder': WHATEVER THE INPUT: true; the input reads as it did. -/
def readyOrderSpec : ChangeSpec := { name := "readyOrder", fn := fun _ => fun
  | [d1, d2, d3] => { results := [.lit (.bool true)], args := [d1, d2, d3] }
  | _ => none }
def readyOrderRow : OpenClaim := { program := "ytkjpkhpiojahkaa", sum := "5860ecc6a23eb886b6c598e1a656f230104c38edaa188d726cd6fec5436d51e1", func := "metronome/metronomelaw04.ReadyOrder", spec := "readyOrder", inPlace := ["maps.clone"], unfollowed := true, recurses := true, apart := false }
def ReadyOrderSaid : Prop := readyOrderRow.holds Try.pinned (OpenSpec.ofChange readyOrderSpec)

/-- ITS FALSE NEIGHBOUR: 'it returns false'. Refute it at one input. -/
def readyOrderWrong : ChangeSpec := { name := "readyOrder", fn := fun _ => fun
  | [d1, d2, d3] => { results := [.lit (.bool false)], args := [d1, d2, d3] }
  | _ => none }
def ReadyOrderWrongFalsely : Prop := readyOrderRow.holds Try.pinned (OpenSpec.ofChange readyOrderWrong)

/-- 'metronomelaw04.ReadyUntil': WHATEVER THE INPUT: true; the input reads as it did. -/
def readyUntilSpec : ChangeSpec := { name := "readyUntil", fn := fun _ => fun
  | [d1, d2] => { results := [.lit (.bool true)], args := [d1, d2] }
  | _ => none }
def readyUntilRow : OpenClaim := { program := "ytkjpkhpiojahkaa", sum := "5860ecc6a23eb886b6c598e1a656f230104c38edaa188d726cd6fec5436d51e1", func := "metronome/metronomelaw04.ReadyUntil", spec := "readyUntil", inPlace := ["maps.clone"], unfollowed := true, recurses := true, apart := false }
def ReadyUntilSaid : Prop := readyUntilRow.holds Try.pinned (OpenSpec.ofChange readyUntilSpec)

/-- ITS FALSE NEIGHBOUR: 'it returns false'. Refute it at one input. -/
def readyUntilWrong : ChangeSpec := { name := "readyUntil", fn := fun _ => fun
  | [d1, d2] => { results := [.lit (.bool false)], args := [d1, d2] }
  | _ => none }
def ReadyUntilWrongFalsely : Prop := readyUntilRow.holds Try.pinned (OpenSpec.ofChange readyUntilWrong)

/-- 'metronomelaw04.ReadyParts': WHATEVER THE INPUT: true; the input reads as it did. -/
def readyPartsSpec : ChangeSpec := { name := "readyParts", fn := fun _ => fun
  | [d1, d2, d3] => { results := [.lit (.bool true)], args := [d1, d2, d3] }
  | _ => none }
def readyPartsRow : OpenClaim := { program := "ytkjpkhpiojahkaa", sum := "5860ecc6a23eb886b6c598e1a656f230104c38edaa188d726cd6fec5436d51e1", func := "metronome/metronomelaw04.ReadyParts", spec := "readyParts", inPlace := ["maps.clone"], unfollowed := true, recurses := true, apart := false }
def ReadyPartsSaid : Prop := readyPartsRow.holds Try.pinned (OpenSpec.ofChange readyPartsSpec)

/-- ITS FALSE NEIGHBOUR: 'it returns false'. Refute it at one input. -/
def readyPartsWrong : ChangeSpec := { name := "readyParts", fn := fun _ => fun
  | [d1, d2, d3] => { results := [.lit (.bool false)], args := [d1, d2, d3] }
  | _ => none }
def ReadyPartsWrongFalsely : Prop := readyPartsRow.holds Try.pinned (OpenSpec.ofChange readyPartsWrong)

/-- 'metronomelaw05.TimersOnce': WHATEVER THE INPUT: true; the input reads as it did. -/
def timersOnceSpec : ChangeSpec := { name := "timersOnce", fn := fun _ => fun
  | [d1, d2] => { results := [.lit (.bool true)], args := [d1, d2] }
  | _ => none }
def timersOnceRow : OpenClaim := { program := "ytkjpkhpiojahkaa", sum := "5860ecc6a23eb886b6c598e1a656f230104c38edaa188d726cd6fec5436d51e1", func := "metronome/metronomelaw05.TimersOnce", spec := "timersOnce", inPlace := ["maps.clone"], unfollowed := true, recurses := true, apart := false }
def TimersOnceSaid : Prop := timersOnceRow.holds Try.pinned (OpenSpec.ofChange timersOnceSpec)

/-- ITS FALSE NEIGHBOUR: 'it returns false'. Refute it at one input. -/
def timersOnceWrong : ChangeSpec := { name := "timersOnce", fn := fun _ => fun
  | [d1, d2] => { results := [.lit (.bool false)], args := [d1, d2] }
  | _ => none }
def TimersOnceWrongFalsely : Prop := timersOnceRow.holds Try.pinned (OpenSpec.ofChange timersOnceWrong)

/-- 'metronomelaw05.TimersAnew': WHATEVER THE INPUT: true; the input reads as it did. -/
def timersAnewSpec : ChangeSpec := { name := "timersAnew", fn := fun _ => fun
  | [d1, d2, d3] => { results := [.lit (.bool true)], args := [d1, d2, d3] }
  | _ => none }
def timersAnewRow : OpenClaim := { program := "ytkjpkhpiojahkaa", sum := "5860ecc6a23eb886b6c598e1a656f230104c38edaa188d726cd6fec5436d51e1", func := "metronome/metronomelaw05.TimersAnew", spec := "timersAnew", inPlace := ["maps.clone"], unfollowed := true, recurses := true, apart := false }
def TimersAnewSaid : Prop := timersAnewRow.holds Try.pinned (OpenSpec.ofChange timersAnewSpec)

/-- ITS FALSE NEIGHBOUR: 'it returns false'. Refute it at one input. -/
def timersAnewWrong : ChangeSpec := { name := "timersAnew", fn := fun _ => fun
  | [d1, d2, d3] => { results := [.lit (.bool false)], args := [d1, d2, d3] }
  | _ => none }
def TimersAnewWrongFalsely : Prop := timersAnewRow.holds Try.pinned (OpenSpec.ofChange timersAnewWrong)

/-- 'metronomelaw05.TimersSharp': WHATEVER THE INPUT: true; the input reads as it did. -/
def timersSharpSpec : ChangeSpec := { name := "timersSharp", fn := fun _ => fun
  | [d] => { results := [.lit (.bool true)], args := [d] }
  | _ => none }
def timersSharpRow : OpenClaim := { program := "ytkjpkhpiojahkaa", sum := "5860ecc6a23eb886b6c598e1a656f230104c38edaa188d726cd6fec5436d51e1", func := "metronome/metronomelaw05.TimersSharp", spec := "timersSharp", inPlace := ["maps.clone"], unfollowed := true, recurses := true, apart := false }
def TimersSharpSaid : Prop := timersSharpRow.holds Try.pinned (OpenSpec.ofChange timersSharpSpec)

/-- ITS FALSE NEIGHBOUR: 'it returns false'. Refute it at one input. -/
def timersSharpWrong : ChangeSpec := { name := "timersSharp", fn := fun _ => fun
  | [d] => { results := [.lit (.bool false)], args := [d] }
  | _ => none }
def TimersSharpWrongFalsely : Prop := timersSharpRow.holds Try.pinned (OpenSpec.ofChange timersSharpWrong)

/-- 'metronomelaw05.TimersPlays': WHATEVER THE INPUT: true; the input reads as it did. -/
def timersPlaysSpec : ChangeSpec := { name := "timersPlays", fn := fun _ => fun
  | [d1, d2] => { results := [.lit (.bool true)], args := [d1, d2] }
  | _ => none }
def timersPlaysRow : OpenClaim := { program := "ytkjpkhpiojahkaa", sum := "5860ecc6a23eb886b6c598e1a656f230104c38edaa188d726cd6fec5436d51e1", func := "metronome/metronomelaw05.TimersPlays", spec := "timersPlays", inPlace := ["maps.clone"], unfollowed := true, recurses := true, apart := false }
def TimersPlaysSaid : Prop := timersPlaysRow.holds Try.pinned (OpenSpec.ofChange timersPlaysSpec)

/-- ITS FALSE NEIGHBOUR: 'it returns false'. Refute it at one input. -/
def timersPlaysWrong : ChangeSpec := { name := "timersPlays", fn := fun _ => fun
  | [d1, d2] => { results := [.lit (.bool false)], args := [d1, d2] }
  | _ => none }
def TimersPlaysWrongFalsely : Prop := timersPlaysRow.holds Try.pinned (OpenSpec.ofChange timersPlaysWrong)

/-- 'metronomelaw05.TimersCopies': WHATEVER THE INPUT: true; the input reads as it did. -/
def timersCopiesSpec : ChangeSpec := { name := "timersCopies", fn := fun _ => fun
  | [d1, d2] => { results := [.lit (.bool true)], args := [d1, d2] }
  | _ => none }
def timersCopiesRow : OpenClaim := { program := "ytkjpkhpiojahkaa", sum := "5860ecc6a23eb886b6c598e1a656f230104c38edaa188d726cd6fec5436d51e1", func := "metronome/metronomelaw05.TimersCopies", spec := "timersCopies", inPlace := ["maps.clone"], unfollowed := true, recurses := true, apart := false }
def TimersCopiesSaid : Prop := timersCopiesRow.holds Try.pinned (OpenSpec.ofChange timersCopiesSpec)

/-- ITS FALSE NEIGHBOUR: 'it returns false'. Refute it at one input. -/
def timersCopiesWrong : ChangeSpec := { name := "timersCopies", fn := fun _ => fun
  | [d1, d2] => { results := [.lit (.bool false)], args := [d1, d2] }
  | _ => none }
def TimersCopiesWrongFalsely : Prop := timersCopiesRow.holds Try.pinned (OpenSpec.ofChange timersCopiesWrong)

/-- 'metronomelaw05.TimersNext': WHATEVER THE INPUT: true; the input reads as it did. -/
def timersNextSpec : ChangeSpec := { name := "timersNext", fn := fun _ => fun
  | [d] => { results := [.lit (.bool true)], args := [d] }
  | _ => none }
def timersNextRow : OpenClaim := { program := "ytkjpkhpiojahkaa", sum := "5860ecc6a23eb886b6c598e1a656f230104c38edaa188d726cd6fec5436d51e1", func := "metronome/metronomelaw05.TimersNext", spec := "timersNext", inPlace := ["maps.clone"], unfollowed := true, recurses := true, apart := false }
def TimersNextSaid : Prop := timersNextRow.holds Try.pinned (OpenSpec.ofChange timersNextSpec)

/-- ITS FALSE NEIGHBOUR: 'it returns false'. Refute it at one input. -/
def timersNextWrong : ChangeSpec := { name := "timersNext", fn := fun _ => fun
  | [d] => { results := [.lit (.bool false)], args := [d] }
  | _ => none }
def TimersNextWrongFalsely : Prop := timersNextRow.holds Try.pinned (OpenSpec.ofChange timersNextWrong)

/-- 'metronomelaw11.PlaceBest': WHATEVER THE INPUT: true; the input reads as it did. -/
def placeBestSpec : ChangeSpec := { name := "placeBest", fn := fun _ => fun
  | [d1, d2] => { results := [.lit (.bool true)], args := [d1, d2] }
  | _ => none }
def placeBestRow : OpenClaim := { program := "ytkjpkhpiojahkaa", sum := "5860ecc6a23eb886b6c598e1a656f230104c38edaa188d726cd6fec5436d51e1", func := "metronome/metronomelaw11.PlaceBest", spec := "placeBest", inPlace := ["maps.clone"], unfollowed := true, recurses := true, apart := false }
def PlaceBestSaid : Prop := placeBestRow.holds Try.pinned (OpenSpec.ofChange placeBestSpec)

/-- ITS FALSE NEIGHBOUR: 'it returns false'. Refute it at one input. -/
def placeBestWrong : ChangeSpec := { name := "placeBest", fn := fun _ => fun
  | [d1, d2] => { results := [.lit (.bool false)], args := [d1, d2] }
  | _ => none }
def PlaceBestWrongFalsely : Prop := placeBestRow.holds Try.pinned (OpenSpec.ofChange placeBestWrong)

/-- 'metronomelaw11.PlaceMoves': WHATEVER THE INPUT: true; the input reads as it did. -/
def placeMovesSpec : ChangeSpec := { name := "placeMoves", fn := fun _ => fun
  | [d1, d2] => { results := [.lit (.bool true)], args := [d1, d2] }
  | _ => none }
def placeMovesRow : OpenClaim := { program := "ytkjpkhpiojahkaa", sum := "5860ecc6a23eb886b6c598e1a656f230104c38edaa188d726cd6fec5436d51e1", func := "metronome/metronomelaw11.PlaceMoves", spec := "placeMoves", inPlace := ["maps.clone"], unfollowed := true, recurses := true, apart := false }
def PlaceMovesSaid : Prop := placeMovesRow.holds Try.pinned (OpenSpec.ofChange placeMovesSpec)

/-- ITS FALSE NEIGHBOUR: 'it returns false'. Refute it at one input. -/
def placeMovesWrong : ChangeSpec := { name := "placeMoves", fn := fun _ => fun
  | [d1, d2] => { results := [.lit (.bool false)], args := [d1, d2] }
  | _ => none }
def PlaceMovesWrongFalsely : Prop := placeMovesRow.holds Try.pinned (OpenSpec.ofChange placeMovesWrong)

/-- 'metronomelaw11.PlaceOrder': WHATEVER THE INPUT: true; the input reads as it did. -/
def placeOrderSpec : ChangeSpec := { name := "placeOrder", fn := fun _ => fun
  | [d1, d2] => { results := [.lit (.bool true)], args := [d1, d2] }
  | _ => none }
def placeOrderRow : OpenClaim := { program := "ytkjpkhpiojahkaa", sum := "5860ecc6a23eb886b6c598e1a656f230104c38edaa188d726cd6fec5436d51e1", func := "metronome/metronomelaw11.PlaceOrder", spec := "placeOrder", inPlace := ["maps.clone"], unfollowed := true, recurses := true, apart := false }
def PlaceOrderSaid : Prop := placeOrderRow.holds Try.pinned (OpenSpec.ofChange placeOrderSpec)

/-- ITS FALSE NEIGHBOUR: 'it returns false'. Refute it at one input. -/
def placeOrderWrong : ChangeSpec := { name := "placeOrder", fn := fun _ => fun
  | [d1, d2] => { results := [.lit (.bool false)], args := [d1, d2] }
  | _ => none }
def PlaceOrderWrongFalsely : Prop := placeOrderRow.holds Try.pinned (OpenSpec.ofChange placeOrderWrong)

/-- 'metronomelaw11.PlaceWants': WHATEVER THE INPUT: true; the input reads as it did. -/
def placeWantsSpec : ChangeSpec := { name := "placeWants", fn := fun _ => fun
  | [d1, d2, d3] => { results := [.lit (.bool true)], args := [d1, d2, d3] }
  | _ => none }
def placeWantsRow : OpenClaim := { program := "ytkjpkhpiojahkaa", sum := "5860ecc6a23eb886b6c598e1a656f230104c38edaa188d726cd6fec5436d51e1", func := "metronome/metronomelaw11.PlaceWants", spec := "placeWants", inPlace := ["maps.clone"], unfollowed := true, recurses := true, apart := false }
def PlaceWantsSaid : Prop := placeWantsRow.holds Try.pinned (OpenSpec.ofChange placeWantsSpec)

/-- ITS FALSE NEIGHBOUR: 'it returns false'. Refute it at one input. -/
def placeWantsWrong : ChangeSpec := { name := "placeWants", fn := fun _ => fun
  | [d1, d2, d3] => { results := [.lit (.bool false)], args := [d1, d2, d3] }
  | _ => none }
def PlaceWantsWrongFalsely : Prop := placeWantsRow.holds Try.pinned (OpenSpec.ofChange placeWantsWrong)

/-- 'metronomelaw11.PlaceGrows': WHATEVER THE INPUT: true; the input reads as it did. -/
def placeGrowsSpec : ChangeSpec := { name := "placeGrows", fn := fun _ => fun
  | [d1, d2] => { results := [.lit (.bool true)], args := [d1, d2] }
  | _ => none }
def placeGrowsRow : OpenClaim := { program := "ytkjpkhpiojahkaa", sum := "5860ecc6a23eb886b6c598e1a656f230104c38edaa188d726cd6fec5436d51e1", func := "metronome/metronomelaw11.PlaceGrows", spec := "placeGrows", inPlace := ["maps.clone"], unfollowed := true, recurses := true, apart := false }
def PlaceGrowsSaid : Prop := placeGrowsRow.holds Try.pinned (OpenSpec.ofChange placeGrowsSpec)

/-- ITS FALSE NEIGHBOUR: 'it returns false'. Refute it at one input. -/
def placeGrowsWrong : ChangeSpec := { name := "placeGrows", fn := fun _ => fun
  | [d1, d2] => { results := [.lit (.bool false)], args := [d1, d2] }
  | _ => none }
def PlaceGrowsWrongFalsely : Prop := placeGrowsRow.holds Try.pinned (OpenSpec.ofChange placeGrowsWrong)

/-- 'metronomelaw11.PlaceBeats': WHATEVER THE INPUT: true; the input reads as it did. -/
def placeBeatsSpec : ChangeSpec := { name := "placeBeats", fn := fun _ => fun
  | [d1, d2, d3] => { results := [.lit (.bool true)], args := [d1, d2, d3] }
  | _ => none }
def placeBeatsRow : OpenClaim := { program := "ytkjpkhpiojahkaa", sum := "5860ecc6a23eb886b6c598e1a656f230104c38edaa188d726cd6fec5436d51e1", func := "metronome/metronomelaw11.PlaceBeats", spec := "placeBeats", inPlace := ["maps.clone"], unfollowed := true, recurses := true, apart := false }
def PlaceBeatsSaid : Prop := placeBeatsRow.holds Try.pinned (OpenSpec.ofChange placeBeatsSpec)

/-- ITS FALSE NEIGHBOUR: 'it returns false'. Refute it at one input. -/
def placeBeatsWrong : ChangeSpec := { name := "placeBeats", fn := fun _ => fun
  | [d1, d2, d3] => { results := [.lit (.bool false)], args := [d1, d2, d3] }
  | _ => none }
def PlaceBeatsWrongFalsely : Prop := placeBeatsRow.holds Try.pinned (OpenSpec.ofChange placeBeatsWrong)

/-- 'metronomelaw19.ClockOrder': WHATEVER THE INPUT: true; the input reads as it did. -/
def clockOrderSpec : ChangeSpec := { name := "clockOrder", fn := fun _ => fun
  | [d1, d2, d3] => { results := [.lit (.bool true)], args := [d1, d2, d3] }
  | _ => none }
def clockOrderRow : OpenClaim := { program := "ytkjpkhpiojahkaa", sum := "5860ecc6a23eb886b6c598e1a656f230104c38edaa188d726cd6fec5436d51e1", func := "metronome/metronomelaw19.ClockOrder", spec := "clockOrder", inPlace := ["maps.clone"], unfollowed := true, recurses := true, apart := false }
def ClockOrderSaid : Prop := clockOrderRow.holds Try.pinned (OpenSpec.ofChange clockOrderSpec)

/-- ITS FALSE NEIGHBOUR: 'it returns false'. Refute it at one input. -/
def clockOrderWrong : ChangeSpec := { name := "clockOrder", fn := fun _ => fun
  | [d1, d2, d3] => { results := [.lit (.bool false)], args := [d1, d2, d3] }
  | _ => none }
def ClockOrderWrongFalsely : Prop := clockOrderRow.holds Try.pinned (OpenSpec.ofChange clockOrderWrong)

/-- 'metronomelaw19.ClockSharp': WHATEVER THE INPUT: true; the input reads as it did. -/
def clockSharpSpec : ChangeSpec := { name := "clockSharp", fn := fun _ => fun
  | [d] => { results := [.lit (.bool true)], args := [d] }
  | _ => none }
def clockSharpRow : OpenClaim := { program := "ytkjpkhpiojahkaa", sum := "5860ecc6a23eb886b6c598e1a656f230104c38edaa188d726cd6fec5436d51e1", func := "metronome/metronomelaw19.ClockSharp", spec := "clockSharp", inPlace := ["maps.clone"], unfollowed := true, recurses := true, apart := false }
def ClockSharpSaid : Prop := clockSharpRow.holds Try.pinned (OpenSpec.ofChange clockSharpSpec)

/-- ITS FALSE NEIGHBOUR: 'it returns false'. Refute it at one input. -/
def clockSharpWrong : ChangeSpec := { name := "clockSharp", fn := fun _ => fun
  | [d] => { results := [.lit (.bool false)], args := [d] }
  | _ => none }
def ClockSharpWrongFalsely : Prop := clockSharpRow.holds Try.pinned (OpenSpec.ofChange clockSharpWrong)

/-- 'metronomelaw19.ClockLate': WHATEVER THE INPUT: true; the input reads as it did. -/
def clockLateSpec : ChangeSpec := { name := "clockLate", fn := fun _ => fun
  | [d1, d2] => { results := [.lit (.bool true)], args := [d1, d2] }
  | _ => none }
def clockLateRow : OpenClaim := { program := "ytkjpkhpiojahkaa", sum := "5860ecc6a23eb886b6c598e1a656f230104c38edaa188d726cd6fec5436d51e1", func := "metronome/metronomelaw19.ClockLate", spec := "clockLate", inPlace := ["maps.clone"], unfollowed := true, recurses := true, apart := false }
def ClockLateSaid : Prop := clockLateRow.holds Try.pinned (OpenSpec.ofChange clockLateSpec)

/-- ITS FALSE NEIGHBOUR: 'it returns false'. Refute it at one input. -/
def clockLateWrong : ChangeSpec := { name := "clockLate", fn := fun _ => fun
  | [d1, d2] => { results := [.lit (.bool false)], args := [d1, d2] }
  | _ => none }
def ClockLateWrongFalsely : Prop := clockLateRow.holds Try.pinned (OpenSpec.ofChange clockLateWrong)

/-- 'metronomelaw19.ClockPlays': WHATEVER THE INPUT: true; the input reads as it did. -/
def clockPlaysSpec : ChangeSpec := { name := "clockPlays", fn := fun _ => fun
  | [d] => { results := [.lit (.bool true)], args := [d] }
  | _ => none }
def clockPlaysRow : OpenClaim := { program := "ytkjpkhpiojahkaa", sum := "5860ecc6a23eb886b6c598e1a656f230104c38edaa188d726cd6fec5436d51e1", func := "metronome/metronomelaw19.ClockPlays", spec := "clockPlays", inPlace := ["maps.clone"], unfollowed := true, recurses := true, apart := false }
def ClockPlaysSaid : Prop := clockPlaysRow.holds Try.pinned (OpenSpec.ofChange clockPlaysSpec)

/-- ITS FALSE NEIGHBOUR: 'it returns false'. Refute it at one input. -/
def clockPlaysWrong : ChangeSpec := { name := "clockPlays", fn := fun _ => fun
  | [d] => { results := [.lit (.bool false)], args := [d] }
  | _ => none }
def ClockPlaysWrongFalsely : Prop := clockPlaysRow.holds Try.pinned (OpenSpec.ofChange clockPlaysWrong)

/-- 'metronomelaw19.ClockParts': WHATEVER THE INPUT: true; the input reads as it did. -/
def clockPartsSpec : ChangeSpec := { name := "clockParts", fn := fun _ => fun
  | [d1, d2, d3] => { results := [.lit (.bool true)], args := [d1, d2, d3] }
  | _ => none }
def clockPartsRow : OpenClaim := { program := "ytkjpkhpiojahkaa", sum := "5860ecc6a23eb886b6c598e1a656f230104c38edaa188d726cd6fec5436d51e1", func := "metronome/metronomelaw19.ClockParts", spec := "clockParts", inPlace := ["maps.clone"], unfollowed := true, recurses := true, apart := false }
def ClockPartsSaid : Prop := clockPartsRow.holds Try.pinned (OpenSpec.ofChange clockPartsSpec)

/-- ITS FALSE NEIGHBOUR: 'it returns false'. Refute it at one input. -/
def clockPartsWrong : ChangeSpec := { name := "clockParts", fn := fun _ => fun
  | [d1, d2, d3] => { results := [.lit (.bool false)], args := [d1, d2, d3] }
  | _ => none }
def ClockPartsWrongFalsely : Prop := clockPartsRow.holds Try.pinned (OpenSpec.ofChange clockPartsWrong)

/-- 'metronomelaw19.ClockRuns': WHATEVER THE INPUT: true; the input reads as it did. -/
def clockRunsSpec : ChangeSpec := { name := "clockRuns", fn := fun _ => fun
  | [d1, d2, d3] => { results := [.lit (.bool true)], args := [d1, d2, d3] }
  | _ => none }
def clockRunsRow : OpenClaim := { program := "ytkjpkhpiojahkaa", sum := "5860ecc6a23eb886b6c598e1a656f230104c38edaa188d726cd6fec5436d51e1", func := "metronome/metronomelaw19.ClockRuns", spec := "clockRuns", inPlace := ["maps.clone"], unfollowed := true, recurses := true, apart := false }
def ClockRunsSaid : Prop := clockRunsRow.holds Try.pinned (OpenSpec.ofChange clockRunsSpec)

/-- ITS FALSE NEIGHBOUR: 'it returns false'. Refute it at one input. -/
def clockRunsWrong : ChangeSpec := { name := "clockRuns", fn := fun _ => fun
  | [d1, d2, d3] => { results := [.lit (.bool false)], args := [d1, d2, d3] }
  | _ => none }
def ClockRunsWrongFalsely : Prop := clockRunsRow.holds Try.pinned (OpenSpec.ofChange clockRunsWrong)

/-- 'metronomelaw19.ClockNil': WHATEVER THE INPUT: true; the input reads as it did. -/
def clockNilSpec : ChangeSpec := { name := "clockNil", fn := fun _ => fun
  | [d] => { results := [.lit (.bool true)], args := [d] }
  | _ => none }
def clockNilRow : OpenClaim := { program := "ytkjpkhpiojahkaa", sum := "5860ecc6a23eb886b6c598e1a656f230104c38edaa188d726cd6fec5436d51e1", func := "metronome/metronomelaw19.ClockNil", spec := "clockNil", inPlace := ["maps.clone"], unfollowed := true, recurses := true, apart := false }
def ClockNilSaid : Prop := clockNilRow.holds Try.pinned (OpenSpec.ofChange clockNilSpec)

/-- ITS FALSE NEIGHBOUR: 'it returns false'. Refute it at one input. -/
def clockNilWrong : ChangeSpec := { name := "clockNil", fn := fun _ => fun
  | [d] => { results := [.lit (.bool false)], args := [d] }
  | _ => none }
def ClockNilWrongFalsely : Prop := clockNilRow.holds Try.pinned (OpenSpec.ofChange clockNilWrong)

/- THE SECOND FORM. 'bulk': how many values and letters a reading holds, each counted each time it is reached (what is shared counts as often as it is met; a slice's spare places count too). A statement '..UptoSaid' is the law's where the arguments, and the package variables that the reading takes, are together of bulk at most 1048576: NARROWER than '..Said'. Prove '..Said' where nothing that the law and all that it calls make is longer than what came in: it says more and counts as full. Else prove '..UptoSaid'. A law counts once. -/
mutual
def uptoBulk {H : Type} : DataW H → Nat
  | .lit (.string bytes) => bytes.length + 1
  | .lit _ => 1
  | .nil => 1
  | .ptr d => uptoBulk d + 1
  | .slice elems spare => uptoBulkAll elems + uptoBulkAll spare + 1
  | .agg parts => uptoBulkAll parts + 1
  | .iface _ d => uptoBulk d + 1
  | .map entries => uptoBulkEntries entries + 1
  | .held _ => 1
def uptoBulkAll {H : Type} : List (DataW H) → Nat
  | [] => 0
  | d :: r => uptoBulk d + uptoBulkAll r
def uptoBulkEntries {H : Type} : List (Lit × DataW H) → Nat
  | [] => 0
  | x :: r => uptoBulkEntry x + uptoBulkEntries r
def uptoBulkEntry {H : Type} : Lit × DataW H → Nat
  | (.string bytes, d) => bytes.length + uptoBulk d + 1
  | (_, d) => uptoBulk d + 1
 end
def uptoSmall : (H : Type) → List (DataW H) → Bool := fun _ ds => decide (uptoBulkAll ds ≤ 1048576)
def OpenSpec.upto (s : _root_.Go.ChangeSpec) : _root_.Go.OpenSpec := { _root_.Go.OpenSpec.ofChange s with cond := some uptoSmall }

/-- 'metronomelaw04.ReadyOrder', WHERE WHAT IT READS IS OF BULK AT MOST 1048576: true; the input reads as it did. -/
def readyOrderUptoRow : OpenClaim := { program := "ytkjpkhpiojahkaa", sum := "5860ecc6a23eb886b6c598e1a656f230104c38edaa188d726cd6fec5436d51e1", func := "metronome/metronomelaw04.ReadyOrder", spec := "readyOrder", inPlace := ["maps.clone"], unfollowed := true, recurses := true, apart := false, narrowed := true }
def ReadyOrderUptoSaid : Prop := readyOrderUptoRow.holds Try.pinned (OpenSpec.upto readyOrderSpec)

/-- 'metronomelaw04.ReadyUntil', WHERE WHAT IT READS IS OF BULK AT MOST 1048576: true; the input reads as it did. -/
def readyUntilUptoRow : OpenClaim := { program := "ytkjpkhpiojahkaa", sum := "5860ecc6a23eb886b6c598e1a656f230104c38edaa188d726cd6fec5436d51e1", func := "metronome/metronomelaw04.ReadyUntil", spec := "readyUntil", inPlace := ["maps.clone"], unfollowed := true, recurses := true, apart := false, narrowed := true }
def ReadyUntilUptoSaid : Prop := readyUntilUptoRow.holds Try.pinned (OpenSpec.upto readyUntilSpec)

/-- 'metronomelaw04.ReadyParts', WHERE WHAT IT READS IS OF BULK AT MOST 1048576: true; the input reads as it did. -/
def readyPartsUptoRow : OpenClaim := { program := "ytkjpkhpiojahkaa", sum := "5860ecc6a23eb886b6c598e1a656f230104c38edaa188d726cd6fec5436d51e1", func := "metronome/metronomelaw04.ReadyParts", spec := "readyParts", inPlace := ["maps.clone"], unfollowed := true, recurses := true, apart := false, narrowed := true }
def ReadyPartsUptoSaid : Prop := readyPartsUptoRow.holds Try.pinned (OpenSpec.upto readyPartsSpec)

/-- 'metronomelaw05.TimersOnce', WHERE WHAT IT READS IS OF BULK AT MOST 1048576: true; the input reads as it did. -/
def timersOnceUptoRow : OpenClaim := { program := "ytkjpkhpiojahkaa", sum := "5860ecc6a23eb886b6c598e1a656f230104c38edaa188d726cd6fec5436d51e1", func := "metronome/metronomelaw05.TimersOnce", spec := "timersOnce", inPlace := ["maps.clone"], unfollowed := true, recurses := true, apart := false, narrowed := true }
def TimersOnceUptoSaid : Prop := timersOnceUptoRow.holds Try.pinned (OpenSpec.upto timersOnceSpec)

/-- 'metronomelaw05.TimersAnew', WHERE WHAT IT READS IS OF BULK AT MOST 1048576: true; the input reads as it did. -/
def timersAnewUptoRow : OpenClaim := { program := "ytkjpkhpiojahkaa", sum := "5860ecc6a23eb886b6c598e1a656f230104c38edaa188d726cd6fec5436d51e1", func := "metronome/metronomelaw05.TimersAnew", spec := "timersAnew", inPlace := ["maps.clone"], unfollowed := true, recurses := true, apart := false, narrowed := true }
def TimersAnewUptoSaid : Prop := timersAnewUptoRow.holds Try.pinned (OpenSpec.upto timersAnewSpec)

/-- 'metronomelaw05.TimersSharp', WHERE WHAT IT READS IS OF BULK AT MOST 1048576: true; the input reads as it did. -/
def timersSharpUptoRow : OpenClaim := { program := "ytkjpkhpiojahkaa", sum := "5860ecc6a23eb886b6c598e1a656f230104c38edaa188d726cd6fec5436d51e1", func := "metronome/metronomelaw05.TimersSharp", spec := "timersSharp", inPlace := ["maps.clone"], unfollowed := true, recurses := true, apart := false, narrowed := true }
def TimersSharpUptoSaid : Prop := timersSharpUptoRow.holds Try.pinned (OpenSpec.upto timersSharpSpec)

/-- 'metronomelaw05.TimersPlays', WHERE WHAT IT READS IS OF BULK AT MOST 1048576: true; the input reads as it did. -/
def timersPlaysUptoRow : OpenClaim := { program := "ytkjpkhpiojahkaa", sum := "5860ecc6a23eb886b6c598e1a656f230104c38edaa188d726cd6fec5436d51e1", func := "metronome/metronomelaw05.TimersPlays", spec := "timersPlays", inPlace := ["maps.clone"], unfollowed := true, recurses := true, apart := false, narrowed := true }
def TimersPlaysUptoSaid : Prop := timersPlaysUptoRow.holds Try.pinned (OpenSpec.upto timersPlaysSpec)

/-- 'metronomelaw05.TimersCopies', WHERE WHAT IT READS IS OF BULK AT MOST 1048576: true; the input reads as it did. -/
def timersCopiesUptoRow : OpenClaim := { program := "ytkjpkhpiojahkaa", sum := "5860ecc6a23eb886b6c598e1a656f230104c38edaa188d726cd6fec5436d51e1", func := "metronome/metronomelaw05.TimersCopies", spec := "timersCopies", inPlace := ["maps.clone"], unfollowed := true, recurses := true, apart := false, narrowed := true }
def TimersCopiesUptoSaid : Prop := timersCopiesUptoRow.holds Try.pinned (OpenSpec.upto timersCopiesSpec)

/-- 'metronomelaw05.TimersNext', WHERE WHAT IT READS IS OF BULK AT MOST 1048576: true; the input reads as it did. -/
def timersNextUptoRow : OpenClaim := { program := "ytkjpkhpiojahkaa", sum := "5860ecc6a23eb886b6c598e1a656f230104c38edaa188d726cd6fec5436d51e1", func := "metronome/metronomelaw05.TimersNext", spec := "timersNext", inPlace := ["maps.clone"], unfollowed := true, recurses := true, apart := false, narrowed := true }
def TimersNextUptoSaid : Prop := timersNextUptoRow.holds Try.pinned (OpenSpec.upto timersNextSpec)

/-- 'metronomelaw11.PlaceBest', WHERE WHAT IT READS IS OF BULK AT MOST 1048576: true; the input reads as it did. -/
def placeBestUptoRow : OpenClaim := { program := "ytkjpkhpiojahkaa", sum := "5860ecc6a23eb886b6c598e1a656f230104c38edaa188d726cd6fec5436d51e1", func := "metronome/metronomelaw11.PlaceBest", spec := "placeBest", inPlace := ["maps.clone"], unfollowed := true, recurses := true, apart := false, narrowed := true }
def PlaceBestUptoSaid : Prop := placeBestUptoRow.holds Try.pinned (OpenSpec.upto placeBestSpec)

/-- 'metronomelaw11.PlaceMoves', WHERE WHAT IT READS IS OF BULK AT MOST 1048576: true; the input reads as it did. -/
def placeMovesUptoRow : OpenClaim := { program := "ytkjpkhpiojahkaa", sum := "5860ecc6a23eb886b6c598e1a656f230104c38edaa188d726cd6fec5436d51e1", func := "metronome/metronomelaw11.PlaceMoves", spec := "placeMoves", inPlace := ["maps.clone"], unfollowed := true, recurses := true, apart := false, narrowed := true }
def PlaceMovesUptoSaid : Prop := placeMovesUptoRow.holds Try.pinned (OpenSpec.upto placeMovesSpec)

/-- 'metronomelaw11.PlaceOrder', WHERE WHAT IT READS IS OF BULK AT MOST 1048576: true; the input reads as it did. -/
def placeOrderUptoRow : OpenClaim := { program := "ytkjpkhpiojahkaa", sum := "5860ecc6a23eb886b6c598e1a656f230104c38edaa188d726cd6fec5436d51e1", func := "metronome/metronomelaw11.PlaceOrder", spec := "placeOrder", inPlace := ["maps.clone"], unfollowed := true, recurses := true, apart := false, narrowed := true }
def PlaceOrderUptoSaid : Prop := placeOrderUptoRow.holds Try.pinned (OpenSpec.upto placeOrderSpec)

/-- 'metronomelaw11.PlaceWants', WHERE WHAT IT READS IS OF BULK AT MOST 1048576: true; the input reads as it did. -/
def placeWantsUptoRow : OpenClaim := { program := "ytkjpkhpiojahkaa", sum := "5860ecc6a23eb886b6c598e1a656f230104c38edaa188d726cd6fec5436d51e1", func := "metronome/metronomelaw11.PlaceWants", spec := "placeWants", inPlace := ["maps.clone"], unfollowed := true, recurses := true, apart := false, narrowed := true }
def PlaceWantsUptoSaid : Prop := placeWantsUptoRow.holds Try.pinned (OpenSpec.upto placeWantsSpec)

/-- 'metronomelaw11.PlaceGrows', WHERE WHAT IT READS IS OF BULK AT MOST 1048576: true; the input reads as it did. -/
def placeGrowsUptoRow : OpenClaim := { program := "ytkjpkhpiojahkaa", sum := "5860ecc6a23eb886b6c598e1a656f230104c38edaa188d726cd6fec5436d51e1", func := "metronome/metronomelaw11.PlaceGrows", spec := "placeGrows", inPlace := ["maps.clone"], unfollowed := true, recurses := true, apart := false, narrowed := true }
def PlaceGrowsUptoSaid : Prop := placeGrowsUptoRow.holds Try.pinned (OpenSpec.upto placeGrowsSpec)

/-- 'metronomelaw11.PlaceBeats', WHERE WHAT IT READS IS OF BULK AT MOST 1048576: true; the input reads as it did. -/
def placeBeatsUptoRow : OpenClaim := { program := "ytkjpkhpiojahkaa", sum := "5860ecc6a23eb886b6c598e1a656f230104c38edaa188d726cd6fec5436d51e1", func := "metronome/metronomelaw11.PlaceBeats", spec := "placeBeats", inPlace := ["maps.clone"], unfollowed := true, recurses := true, apart := false, narrowed := true }
def PlaceBeatsUptoSaid : Prop := placeBeatsUptoRow.holds Try.pinned (OpenSpec.upto placeBeatsSpec)

/-- 'metronomelaw19.ClockOrder', WHERE WHAT IT READS IS OF BULK AT MOST 1048576: true; the input reads as it did. -/
def clockOrderUptoRow : OpenClaim := { program := "ytkjpkhpiojahkaa", sum := "5860ecc6a23eb886b6c598e1a656f230104c38edaa188d726cd6fec5436d51e1", func := "metronome/metronomelaw19.ClockOrder", spec := "clockOrder", inPlace := ["maps.clone"], unfollowed := true, recurses := true, apart := false, narrowed := true }
def ClockOrderUptoSaid : Prop := clockOrderUptoRow.holds Try.pinned (OpenSpec.upto clockOrderSpec)

/-- 'metronomelaw19.ClockSharp', WHERE WHAT IT READS IS OF BULK AT MOST 1048576: true; the input reads as it did. -/
def clockSharpUptoRow : OpenClaim := { program := "ytkjpkhpiojahkaa", sum := "5860ecc6a23eb886b6c598e1a656f230104c38edaa188d726cd6fec5436d51e1", func := "metronome/metronomelaw19.ClockSharp", spec := "clockSharp", inPlace := ["maps.clone"], unfollowed := true, recurses := true, apart := false, narrowed := true }
def ClockSharpUptoSaid : Prop := clockSharpUptoRow.holds Try.pinned (OpenSpec.upto clockSharpSpec)

/-- 'metronomelaw19.ClockLate', WHERE WHAT IT READS IS OF BULK AT MOST 1048576: true; the input reads as it did. -/
def clockLateUptoRow : OpenClaim := { program := "ytkjpkhpiojahkaa", sum := "5860ecc6a23eb886b6c598e1a656f230104c38edaa188d726cd6fec5436d51e1", func := "metronome/metronomelaw19.ClockLate", spec := "clockLate", inPlace := ["maps.clone"], unfollowed := true, recurses := true, apart := false, narrowed := true }
def ClockLateUptoSaid : Prop := clockLateUptoRow.holds Try.pinned (OpenSpec.upto clockLateSpec)

/-- 'metronomelaw19.ClockPlays', WHERE WHAT IT READS IS OF BULK AT MOST 1048576: true; the input reads as it did. -/
def clockPlaysUptoRow : OpenClaim := { program := "ytkjpkhpiojahkaa", sum := "5860ecc6a23eb886b6c598e1a656f230104c38edaa188d726cd6fec5436d51e1", func := "metronome/metronomelaw19.ClockPlays", spec := "clockPlays", inPlace := ["maps.clone"], unfollowed := true, recurses := true, apart := false, narrowed := true }
def ClockPlaysUptoSaid : Prop := clockPlaysUptoRow.holds Try.pinned (OpenSpec.upto clockPlaysSpec)

/-- 'metronomelaw19.ClockParts', WHERE WHAT IT READS IS OF BULK AT MOST 1048576: true; the input reads as it did. -/
def clockPartsUptoRow : OpenClaim := { program := "ytkjpkhpiojahkaa", sum := "5860ecc6a23eb886b6c598e1a656f230104c38edaa188d726cd6fec5436d51e1", func := "metronome/metronomelaw19.ClockParts", spec := "clockParts", inPlace := ["maps.clone"], unfollowed := true, recurses := true, apart := false, narrowed := true }
def ClockPartsUptoSaid : Prop := clockPartsUptoRow.holds Try.pinned (OpenSpec.upto clockPartsSpec)

/-- 'metronomelaw19.ClockRuns', WHERE WHAT IT READS IS OF BULK AT MOST 1048576: true; the input reads as it did. -/
def clockRunsUptoRow : OpenClaim := { program := "ytkjpkhpiojahkaa", sum := "5860ecc6a23eb886b6c598e1a656f230104c38edaa188d726cd6fec5436d51e1", func := "metronome/metronomelaw19.ClockRuns", spec := "clockRuns", inPlace := ["maps.clone"], unfollowed := true, recurses := true, apart := false, narrowed := true }
def ClockRunsUptoSaid : Prop := clockRunsUptoRow.holds Try.pinned (OpenSpec.upto clockRunsSpec)

/-- 'metronomelaw19.ClockNil', WHERE WHAT IT READS IS OF BULK AT MOST 1048576: true; the input reads as it did. -/
def clockNilUptoRow : OpenClaim := { program := "ytkjpkhpiojahkaa", sum := "5860ecc6a23eb886b6c598e1a656f230104c38edaa188d726cd6fec5436d51e1", func := "metronome/metronomelaw19.ClockNil", spec := "clockNil", inPlace := ["maps.clone"], unfollowed := true, recurses := true, apart := false, narrowed := true }
def ClockNilUptoSaid : Prop := clockNilUptoRow.holds Try.pinned (OpenSpec.upto clockNilSpec)

end Rows
end Go.Proofs.Ytkjpkhpiojahkaa
