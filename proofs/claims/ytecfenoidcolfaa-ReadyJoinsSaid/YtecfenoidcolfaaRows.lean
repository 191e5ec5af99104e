/-
  No cell of these rows narrows 'for every input' (looked for: loops, veiled, ifaces, maps, wideKeys, modest, calm, conditions, laid).
  DERIVED. THE GIVEN ROWS OF THIS SEAT. 16 by the template 'for every input the law returns true; each argument reads behind the call as it read before'; 0 by the template 'total and deterministic' (their statements: YtecfenoidcolfaaTotals.lean).
  GIVEN WITH THE SEED: the statements are not yours to turn. If you find one false, say at which input.
  Laid BY PROGRAM, IN A SANDBOX (cutbox-rows.mjs): the forced cells as the released guide's own fill.sh prints them over the translation b8545da046aaae2f… (all of the seat's roots in one cut). By AI agents, Wed Nov 11 2026. No macro, syntax, notation, axiom, sorry.
-/
import Derived.Test.YtecfenoidcolfaaChecked
import GoSem.Claim
import GoSem.ClaimJoined
import GoSem.ClaimMapViews
import Derived.JoinedTies
import Derived.KernelRfl
namespace Go.Proofs.Ytecfenoidcolfaa
/- THE CELL 'sum', in the pinned program and in every row, IS THE sha256 OF THE DUMP (.gsa) THAT YtecfenoidcolfaaProg.lean LOADS. Nothing in Lean hashes anything: it is a label: what it is worth is what the hold of that sum in a sandbox is worth. -/
noncomputable def Try.pinned : Pinned := { name := "ytecfenoidcolfaa", sum := "b8545da046aaae2f911affa782c45394a5d40ee992b5e6f816b82a5d681fd724", checked := Try.checked }
namespace Rows
def none {H : Type} : Left H := { results := [], args := [] }

/-- 'metronomelaw03.HeapTakes': WHATEVER THE INPUT: true; the input reads as it did. -/
def heapTakesSpec : ChangeSpec := { name := "heapTakes", fn := fun _ => fun
  | [d1, d2] => { results := [.lit (.bool true)], args := [d1, d2] }
  | _ => none }
def heapTakesRow : OpenClaim := { program := "ytecfenoidcolfaa", sum := "b8545da046aaae2f911affa782c45394a5d40ee992b5e6f816b82a5d681fd724", func := "metronome/metronomelaw03.HeapTakes", spec := "heapTakes", unfollowed := true, recurses := true, apart := false }
def HeapTakesSaid : Prop := heapTakesRow.holds Try.pinned (OpenSpec.ofChange heapTakesSpec)

/-- ITS FALSE NEIGHBOUR: 'it returns false'. Refute it at one input. -/
def heapTakesWrong : ChangeSpec := { name := "heapTakes", fn := fun _ => fun
  | [d1, d2] => { results := [.lit (.bool false)], args := [d1, d2] }
  | _ => none }
def HeapTakesWrongFalsely : Prop := heapTakesRow.holds Try.pinned (OpenSpec.ofChange heapTakesWrong)

/-- 'metronomelaw03.HeapKinds': WHATEVER THE INPUT: true; the input reads as it did. -/
def heapKindsSpec : ChangeSpec := { name := "heapKinds", fn := fun _ => fun
  | [d] => { results := [.lit (.bool true)], args := [d] }
  | _ => none }
def heapKindsRow : OpenClaim := { program := "ytecfenoidcolfaa", sum := "b8545da046aaae2f911affa782c45394a5d40ee992b5e6f816b82a5d681fd724", func := "metronome/metronomelaw03.HeapKinds", spec := "heapKinds", unfollowed := true, recurses := true, apart := false }
def HeapKindsSaid : Prop := heapKindsRow.holds Try.pinned (OpenSpec.ofChange heapKindsSpec)

/-- ITS FALSE NEIGHBOUR: 'it returns false'. Refute it at one input. -/
def heapKindsWrong : ChangeSpec := { name := "heapKinds", fn := fun _ => fun
  | [d] => { results := [.lit (.bool false)], args := [d] }
  | _ => none }
def HeapKindsWrongFalsely : Prop := heapKindsRow.holds Try.pinned (OpenSpec.ofChange heapKindsWrong)

/-- 'metronomelaw03.HeapDrops': WHATEVER THE INPUT: true; the input reads as it did. -/
def heapDropsSpec : ChangeSpec := { name := "heapDrops", fn := fun _ => fun
  | [d1, d2] => { results := [.lit (.bool true)], args := [d1, d2] }
  | _ => none }
def heapDropsRow : OpenClaim := { program := "ytecfenoidcolfaa", sum := "b8545da046aaae2f911affa782c45394a5d40ee992b5e6f816b82a5d681fd724", func := "metronome/metronomelaw03.HeapDrops", spec := "heapDrops", inPlace := ["maps.clone"], unfollowed := true, recurses := true, apart := false }
def HeapDropsSaid : Prop := heapDropsRow.holds Try.pinned (OpenSpec.ofChange heapDropsSpec)

/-- ITS FALSE NEIGHBOUR: 'it returns false'. Refute it at one input. -/
def heapDropsWrong : ChangeSpec := { name := "heapDrops", fn := fun _ => fun
  | [d1, d2] => { results := [.lit (.bool false)], args := [d1, d2] }
  | _ => none }
def HeapDropsWrongFalsely : Prop := heapDropsRow.holds Try.pinned (OpenSpec.ofChange heapDropsWrong)

/-- 'metronomelaw03.HeapPlays': WHATEVER THE INPUT: true; the input reads as it did. -/
def heapPlaysSpec : ChangeSpec := { name := "heapPlays", fn := fun _ => fun
  | [d] => { results := [.lit (.bool true)], args := [d] }
  | _ => none }
def heapPlaysRow : OpenClaim := { program := "ytecfenoidcolfaa", sum := "b8545da046aaae2f911affa782c45394a5d40ee992b5e6f816b82a5d681fd724", func := "metronome/metronomelaw03.HeapPlays", spec := "heapPlays", inPlace := ["maps.clone"], unfollowed := true, recurses := true, apart := false }
def HeapPlaysSaid : Prop := heapPlaysRow.holds Try.pinned (OpenSpec.ofChange heapPlaysSpec)

/-- ITS FALSE NEIGHBOUR: 'it returns false'. Refute it at one input. -/
def heapPlaysWrong : ChangeSpec := { name := "heapPlays", fn := fun _ => fun
  | [d] => { results := [.lit (.bool false)], args := [d] }
  | _ => none }
def HeapPlaysWrongFalsely : Prop := heapPlaysRow.holds Try.pinned (OpenSpec.ofChange heapPlaysWrong)

/-- 'metronomelaw03.HeapCopies': WHATEVER THE INPUT: true; the input reads as it did. -/
def heapCopiesSpec : ChangeSpec := { name := "heapCopies", fn := fun _ => fun
  | [d1, d2] => { results := [.lit (.bool true)], args := [d1, d2] }
  | _ => none }
def heapCopiesRow : OpenClaim := { program := "ytecfenoidcolfaa", sum := "b8545da046aaae2f911affa782c45394a5d40ee992b5e6f816b82a5d681fd724", func := "metronome/metronomelaw03.HeapCopies", spec := "heapCopies", inPlace := ["maps.clone"], unfollowed := true, recurses := true, apart := false }
def HeapCopiesSaid : Prop := heapCopiesRow.holds Try.pinned (OpenSpec.ofChange heapCopiesSpec)

/-- ITS FALSE NEIGHBOUR: 'it returns false'. Refute it at one input. -/
def heapCopiesWrong : ChangeSpec := { name := "heapCopies", fn := fun _ => fun
  | [d1, d2] => { results := [.lit (.bool false)], args := [d1, d2] }
  | _ => none }
def HeapCopiesWrongFalsely : Prop := heapCopiesRow.holds Try.pinned (OpenSpec.ofChange heapCopiesWrong)

/-- 'metronomelaw03.HeapTurns': WHATEVER THE INPUT: true; the input reads as it did. -/
def heapTurnsSpec : ChangeSpec := { name := "heapTurns", fn := fun _ => fun
  | [d1, d2] => { results := [.lit (.bool true)], args := [d1, d2] }
  | _ => none }
def heapTurnsRow : OpenClaim := { program := "ytecfenoidcolfaa", sum := "b8545da046aaae2f911affa782c45394a5d40ee992b5e6f816b82a5d681fd724", func := "metronome/metronomelaw03.HeapTurns", spec := "heapTurns", inPlace := ["maps.clone"], unfollowed := true, recurses := true, apart := false }
def HeapTurnsSaid : Prop := heapTurnsRow.holds Try.pinned (OpenSpec.ofChange heapTurnsSpec)

/-- ITS FALSE NEIGHBOUR: 'it returns false'. Refute it at one input. -/
def heapTurnsWrong : ChangeSpec := { name := "heapTurns", fn := fun _ => fun
  | [d1, d2] => { results := [.lit (.bool false)], args := [d1, d2] }
  | _ => none }
def HeapTurnsWrongFalsely : Prop := heapTurnsRow.holds Try.pinned (OpenSpec.ofChange heapTurnsWrong)

/-- 'metronomelaw04.ReadyJoins': WHATEVER THE INPUT: true; the input reads as it did. -/
def readyJoinsSpec : ChangeSpec := { name := "readyJoins", fn := fun _ => fun
  | [d1, d2, d3] => { results := [.lit (.bool true)], args := [d1, d2, d3] }
  | _ => none }
def readyJoinsRow : OpenClaim := { program := "ytecfenoidcolfaa", sum := "b8545da046aaae2f911affa782c45394a5d40ee992b5e6f816b82a5d681fd724", func := "metronome/metronomelaw04.ReadyJoins", spec := "readyJoins", inPlace := ["maps.clone"], unfollowed := true, recurses := true, apart := false }
def ReadyJoinsSaid : Prop := readyJoinsRow.holds Try.pinned (OpenSpec.ofChange readyJoinsSpec)

/-- ITS FALSE NEIGHBOUR: 'it returns false'. Refute it at one input. -/
def readyJoinsWrong : ChangeSpec := { name := "readyJoins", fn := fun _ => fun
  | [d1, d2, d3] => { results := [.lit (.bool false)], args := [d1, d2, d3] }
  | _ => none }
def ReadyJoinsWrongFalsely : Prop := readyJoinsRow.holds Try.pinned (OpenSpec.ofChange readyJoinsWrong)

/-- 'metronomelaw04.ReadyOrder': WHATEVER THE INPUT: true; the input reads as it did. -/
def readyOrderSpec : ChangeSpec := { name := "readyOrder", fn := fun _ => fun
  | [d1, d2, d3] => { results := [.lit (.bool true)], args := [d1, d2, d3] }
  | _ => none }
def readyOrderRow : OpenClaim := { program := "ytecfenoidcolfaa", sum := "b8545da046aaae2f911affa782c45394a5d40ee992b5e6f816b82a5d681fd724", func := "metronome/metronomelaw04.ReadyOrder", spec := "readyOrder", inPlace := ["maps.clone"], unfollowed := true, recurses := true, apart := false }
def ReadyOrderSaid : Prop := readyOrderRow.holds Try.pinned (OpenSpec.ofChange readyOrderSpec)

/-- ITS FALSE NEIGHBOUR: 'it returns false'. Refute it at one input. -/
def readyOrderWrong : ChangeSpec := { name := "readyOrder", fn := fun _ => fun
  | [d1, d2, d3] => { results := [.lit (.bool false)], args := [d1, d2, d3] }
  | _ => none }
def ReadyOrderWrongFalsely : Prop := readyOrderRow.holds Try.pinned (OpenSpec.ofChange readyOrderWrong)

/-- 'metronomelaw04.ReadyUntil': WHATEVER THE INPUT: true; the input reads as it did. -/
def readyUntilSpec : ChangeSpec := { name := "readyUntil", fn := fun _ => fun
  | [d1, d2] => { results := [.lit (.bool true)], args := [d1, d2] }
  | _ => none }
def readyUntilRow : OpenClaim := { program := "ytecfenoidcolfaa", sum := "b8545da046aaae2f911affa782c45394a5d40ee992b5e6f816b82a5d681fd724", func := "metronome/metronomelaw04.ReadyUntil", spec := "readyUntil", inPlace := ["maps.clone"], unfollowed := true, recurses := true, apart := false }
def ReadyUntilSaid : Prop := readyUntilRow.holds Try.pinned (OpenSpec.ofChange readyUntilSpec)

/-- ITS FALSE NEIGHBOUR: 'it returns false'. Refute it at one input. -/
def readyUntilWrong : ChangeSpec := { name := "readyUntil", fn := fun _ => fun
  | [d1, d2] => { results := [.lit (.bool false)], args := [d1, d2] }
  | _ => none }
def ReadyUntilWrongFalsely : Prop := readyUntilRow.holds Try.pinned (OpenSpec.ofChange readyUntilWrong)

/-- 'metronomelaw04.ReadyParts': WHATEVER THE INPUT: true; the input reads as it did. -/
def readyPartsSpec : ChangeSpec := { name := "readyParts", fn := fun _ => fun
  | [d1, d2, d3] => { results := [.lit (.bool true)], args := [d1, d2, d3] }
  | _ => none }
def readyPartsRow : OpenClaim := { program := "ytecfenoidcolfaa", sum := "b8545da046aaae2f911affa782c45394a5d40ee992b5e6f816b82a5d681fd724", func := "metronome/metronomelaw04.ReadyParts", spec := "readyParts", inPlace := ["maps.clone"], unfollowed := true, recurses := true, apart := false }
def ReadyPartsSaid : Prop := readyPartsRow.holds Try.pinned (OpenSpec.ofChange readyPartsSpec)

/-- ITS FALSE NEIGHBOUR: 'it returns false'. Refute it at one input. -/
def readyPartsWrong : ChangeSpec := { name := "readyParts", fn := fun _ => fun
  | [d1, d2, d3] => { results := [.lit (.bool false)], args := [d1, d2, d3] }
  | _ => none }
def ReadyPartsWrongFalsely : Prop := readyPartsRow.holds Try.pinned (OpenSpec.ofChange readyPartsWrong)

/-- 'metronomelaw05.TimersOnce': WHATEVER THE INPUT: true; the input reads as it did. -/
def timersOnceSpec : ChangeSpec := { name := "timersOnce", fn := fun _ => fun
  | [d1, d2] => { results := [.lit (.bool true)], args := [d1, d2] }
  | _ => none }
def timersOnceRow : OpenClaim := { program := "ytecfenoidcolfaa", sum := "b8545da046aaae2f911affa782c45394a5d40ee992b5e6f816b82a5d681fd724", func := "metronome/metronomelaw05.TimersOnce", spec := "timersOnce", inPlace := ["maps.clone"], unfollowed := true, recurses := true, apart := false }
def TimersOnceSaid : Prop := timersOnceRow.holds Try.pinned (OpenSpec.ofChange timersOnceSpec)

/-- ITS FALSE NEIGHBOUR: 'it returns false'. Refute it at one input. -/
def timersOnceWrong : ChangeSpec := { name := "timersOnce", fn := fun _ => fun
  | [d1, d2] => { results := [.lit (.bool false)], args := [d1, d2] }
  | _ => none }
def TimersOnceWrongFalsely : Prop := timersOnceRow.holds Try.pinned (OpenSpec.ofChange timersOnceWrong)

/-- 'metronomelaw05.TimersAnew': WHATEVER THE INPUT: true; the input reads as it did. -/
def timersAnewSpec : ChangeSpec := { name := "timersAnew", fn := fun _ => fun
  | [d1, d2, d3] => { results := [.lit (.bool true)], args := [d1, d2, d3] }
  | _ => none }
def timersAnewRow : OpenClaim := { program := "ytecfenoidcolfaa", sum := "b8545da046aaae2f911affa782c45394a5d40ee992b5e6f816b82a5d681fd724", func := "metronome/metronomelaw05.TimersAnew", spec := "timersAnew", inPlace := ["maps.clone"], unfollowed := true, recurses := true, apart := false }
def TimersAnewSaid : Prop := timersAnewRow.holds Try.pinned (OpenSpec.ofChange timersAnewSpec)

/-- ITS FALSE NEIGHBOUR: 'it returns false'. Refute it at one input. -/
def timersAnewWrong : ChangeSpec := { name := "timersAnew", fn := fun _ => fun
  | [d1, d2, d3] => { results := [.lit (.bool false)], args := [d1, d2, d3] }
  | _ => none }
def TimersAnewWrongFalsely : Prop := timersAnewRow.holds Try.pinned (OpenSpec.ofChange timersAnewWrong)

/-- 'metronomelaw05.TimersSharp': WHATEVER THE INPUT: true; the input reads as it did. -/
def timersSharpSpec : ChangeSpec := { name := "timersSharp", fn := fun _ => fun
  | [d] => { results := [.lit (.bool true)], args := [d] }
  | _ => none }
def timersSharpRow : OpenClaim := { program := "ytecfenoidcolfaa", sum := "b8545da046aaae2f911affa782c45394a5d40ee992b5e6f816b82a5d681fd724", func := "metronome/metronomelaw05.TimersSharp", spec := "timersSharp", inPlace := ["maps.clone"], unfollowed := true, recurses := true, apart := false }
def TimersSharpSaid : Prop := timersSharpRow.holds Try.pinned (OpenSpec.ofChange timersSharpSpec)

/-- ITS FALSE NEIGHBOUR: 'it returns false'. Refute it at one input. -/
def timersSharpWrong : ChangeSpec := { name := "timersSharp", fn := fun _ => fun
  | [d] => { results := [.lit (.bool false)], args := [d] }
  | _ => none }
def TimersSharpWrongFalsely : Prop := timersSharpRow.holds Try.pinned (OpenSpec.ofChange timersSharpWrong)

/-- 'metronomelaw05.TimersPlays': WHATEVER THE INPUT: true; the input reads as it did. -/
def timersPlaysSpec : ChangeSpec := { name := "timersPlays", fn := fun _ => fun
  | [d1, d2] => { results := [.lit (.bool true)], args := [d1, d2] }
  | _ => none }
def timersPlaysRow : OpenClaim := { program := "ytecfenoidcolfaa", sum := "b8545da046aaae2f911affa782c45394a5d40ee992b5e6f816b82a5d681fd724", func := "metronome/metronomelaw05.TimersPlays", spec := "timersPlays", inPlace := ["maps.clone"], unfollowed := true, recurses := true, apart := false }
def TimersPlaysSaid : Prop := timersPlaysRow.holds Try.pinned (OpenSpec.ofChange timersPlaysSpec)

/-- ITS FALSE NEIGHBOUR: 'it returns false'. Refute it at one input. -/
def timersPlaysWrong : ChangeSpec := { name := "timersPlays", fn := fun _ => fun
  | [d1, d2] => { results := [.lit (.bool false)], args := [d1, d2] }
  | _ => none }
def TimersPlaysWrongFalsely : Prop := timersPlaysRow.holds Try.pinned (OpenSpec.ofChange timersPlaysWrong)

/-- 'metronomelaw05.TimersCopies': WHATEVER THE INPUT: true; the input reads as it did. -/
def timersCopiesSpec : ChangeSpec := { name := "timersCopies", fn := fun _ => fun
  | [d1, d2] => { results := [.lit (.bool true)], args := [d1, d2] }
  | _ => none }
def timersCopiesRow : OpenClaim := { program := "ytecfenoidcolfaa", sum := "b8545da046aaae2f911affa782c45394a5d40ee992b5e6f816b82a5d681fd724", func := "metronome/metronomelaw05.TimersCopies", spec := "timersCopies", inPlace := ["maps.clone"], unfollowed := true, recurses := true, apart := false }
def TimersCopiesSaid : Prop := timersCopiesRow.holds Try.pinned (OpenSpec.ofChange timersCopiesSpec)

/-- ITS FALSE NEIGHBOUR: 'it returns false'. Refute it at one input. -/
def timersCopiesWrong : ChangeSpec := { name := "timersCopies", fn := fun _ => fun
  | [d1, d2] => { results := [.lit (.bool false)], args := [d1, d2] }
  | _ => none }
def TimersCopiesWrongFalsely : Prop := timersCopiesRow.holds Try.pinned (OpenSpec.ofChange timersCopiesWrong)

/-- 'metronomelaw05.TimersNext': WHATEVER THE INPUT: true; the input reads as it did. -/
def timersNextSpec : ChangeSpec := { name := "timersNext", fn := fun _ => fun
  | [d] => { results := [.lit (.bool true)], args := [d] }
  | _ => none }
def timersNextRow : OpenClaim := { program := "ytecfenoidcolfaa", sum := "b8545da046aaae2f911affa782c45394a5d40ee992b5e6f816b82a5d681fd724", func := "metronome/metronomelaw05.TimersNext", spec := "timersNext", inPlace := ["maps.clone"], unfollowed := true, recurses := true, apart := false }
def TimersNextSaid : Prop := timersNextRow.holds Try.pinned (OpenSpec.ofChange timersNextSpec)

/-- ITS FALSE NEIGHBOUR: 'it returns false'. Refute it at one input. -/
def timersNextWrong : ChangeSpec := { name := "timersNext", fn := fun _ => fun
  | [d] => { results := [.lit (.bool false)], args := [d] }
  | _ => none }
def TimersNextWrongFalsely : Prop := timersNextRow.holds Try.pinned (OpenSpec.ofChange timersNextWrong)

/- THE SECOND FORM. 'bulk': how many values and letters a reading holds, each counted each time it is reached (what is shared counts as often as it is met; a slice's spare places count too). A statement '..UptoSaid' is the law's where the arguments, and the package variables that the reading takes, are together of bulk at most 1048576: NARROWER than '..Said'. Prove '..Said' where nothing that the law and all that it calls make is longer than what came in: it says more and counts as full. Else prove '..UptoSaid'. A law counts once. -/
mutual
def uptoBulk {H : Type} : DataW H → Nat
  | .lit (.string bytes) => bytes.length + 1
  | .lit _ => 1
  | .nil => 1
  | .ptr d => uptoBulk d + 1
  | .slice elems spare => uptoBulkAll elems + uptoBulkAll spare + 1
  | .agg parts => uptoBulkAll parts + 1
  | .iface _ d => uptoBulk d + 1
  | .map entries => uptoBulkEntries entries + 1
  | .held _ => 1
def uptoBulkAll {H : Type} : List (DataW H) → Nat
  | [] => 0
  | d :: r => uptoBulk d + uptoBulkAll r
def uptoBulkEntries {H : Type} : List (Lit × DataW H) → Nat
  | [] => 0
  | x :: r => uptoBulkEntry x + uptoBulkEntries r
def uptoBulkEntry {H : Type} : Lit × DataW H → Nat
  | (.string bytes, d) => bytes.length + uptoBulk d + 1
  | (_, d) => uptoBulk d + 1
 end
def uptoSmall : (H : Type) → List (DataW H) → Bool := fun _ ds => decide (uptoBulkAll ds ≤ 1048576)
def OpenSpec.upto (s : _root_.Go.ChangeSpec) : _root_.Go.OpenSpec := { _root_.Go.OpenSpec.ofChange s with cond := some uptoSmall }

/-- 'metronomelaw03.HeapTakes', WHERE WHAT IT READS IS OF BULK AT MOST 1048576: true; the input reads as it did. -/
def heapTakesUptoRow : OpenClaim := { program := "ytecfenoidcolfaa", sum := "b8545da046aaae2f911affa782c45394a5d40ee992b5e6f816b82a5d681fd724", func := "metronome/metronomelaw03.HeapTakes", spec := "heapTakes", unfollowed := true, recurses := true, apart := false, narrowed := true }
def HeapTakesUptoSaid : Prop := heapTakesUptoRow.holds Try.pinned (OpenSpec.upto heapTakesSpec)

/-- 'metronomelaw03.HeapKinds', WHERE WHAT IT READS IS OF BULK AT MOST 1048576: true; the input reads as it did. -/
def heapKindsUptoRow : OpenClaim := { program := "ytecfenoidcolfaa", sum := "b8545da046aaae2f911affa782c45394a5d40ee992b5e6f816b82a5d681fd724", func := "metronome/metronomelaw03.HeapKinds", spec := "heapKinds", unfollowed := true, recurses := true, apart := false, narrowed := true }
def HeapKindsUptoSaid : Prop := heapKindsUptoRow.holds Try.pinned (OpenSpec.upto heapKindsSpec)

/-- 'metronomelaw03.HeapDrops', WHERE WHAT IT READS IS OF BULK AT MOST 1048576: true; the input reads as it did. -/
def heapDropsUptoRow : OpenClaim := { program := "ytecfenoidcolfaa", sum := "b8545da046aaae2f911affa782c45394a5d40ee992b5e6f816b82a5d681fd724", func := "metronome/metronomelaw03.HeapDrops", spec := "heapDrops", inPlace := ["maps.clone"], unfollowed := true, recurses := true, apart := false, narrowed := true }
def HeapDropsUptoSaid : Prop := heapDropsUptoRow.holds Try.pinned (OpenSpec.upto heapDropsSpec)

/-- 'metronomelaw03.HeapPlays', WHERE WHAT IT READS IS OF BULK AT MOST 1048576: true; the input reads as it did. -/
def heapPlaysUptoRow : OpenClaim := { program := "ytecfenoidcolfaa", sum := "b8545da046aaae2f911affa782c45394a5d40ee992b5e6f816b82a5d681fd724", func := "metronome/metronomelaw03.HeapPlays", spec := "heapPlays", inPlace := ["maps.clone"], unfollowed := true, recurses := true, apart := false, narrowed := true }
def HeapPlaysUptoSaid : Prop := heapPlaysUptoRow.holds Try.pinned (OpenSpec.upto heapPlaysSpec)

/-- 'metronomelaw03.HeapCopies', WHERE WHAT IT READS IS OF BULK AT MOST 1048576: true; the input reads as it did. -/
def heapCopiesUptoRow : OpenClaim := { program := "ytecfenoidcolfaa", sum := "b8545da046aaae2f911affa782c45394a5d40ee992b5e6f816b82a5d681fd724", func := "metronome/metronomelaw03.HeapCopies", spec := "heapCopies", inPlace := ["maps.clone"], unfollowed := true, recurses := true, apart := false, narrowed := true }
def HeapCopiesUptoSaid : Prop := heapCopiesUptoRow.holds Try.pinned (OpenSpec.upto heapCopiesSpec)

/-- 'metronomelaw03.HeapTurns', WHERE WHAT IT READS IS OF BULK AT MOST 1048576: true; the input reads as it did. -/
def heapTurnsUptoRow : OpenClaim := { program := "ytecfenoidcolfaa", sum := "b8545da046aaae2f911affa782c45394a5d40ee992b5e6f816b82a5d681fd724", func := "metronome/metronomelaw03.HeapTurns", spec := "heapTurns", inPlace := ["maps.clone"], unfollowed := true, recurses := true, apart := false, narrowed := true }
def HeapTurnsUptoSaid : Prop := heapTurnsUptoRow.holds Try.pinned (OpenSpec.upto heapTurnsSpec)

/-- 'metronomelaw04.ReadyJoins', WHERE WHAT IT READS IS OF BULK AT MOST 1048576: true; the input reads as it did. -/
def readyJoinsUptoRow : OpenClaim := { program := "ytecfenoidcolfaa", sum := "b8545da046aaae2f911affa782c45394a5d40ee992b5e6f816b82a5d681fd724", func := "metronome/metronomelaw04.ReadyJoins", spec := "readyJoins", inPlace := ["maps.clone"], unfollowed := true, recurses := true, apart := false, narrowed := true }
def ReadyJoinsUptoSaid : Prop := readyJoinsUptoRow.holds Try.pinned (OpenSpec.upto readyJoinsSpec)

/-- 'metronomelaw04.ReadyOrder', WHERE WHAT IT READS IS OF BULK AT MOST 1048576: true; the input reads as it did. -/
def readyOrderUptoRow : OpenClaim := { program := "ytecfenoidcolfaa", sum := "b8545da046aaae2f911affa782c45394a5d40ee992b5e6f816b82a5d681fd724", func := "metronome/metronomelaw04.ReadyOrder", spec := "readyOrder", inPlace := ["maps.clone"], unfollowed := true, recurses := true, apart := false, narrowed := true }
def ReadyOrderUptoSaid : Prop := readyOrderUptoRow.holds Try.pinned (OpenSpec.upto readyOrderSpec)

/-- 'metronomelaw04.ReadyUntil', WHERE WHAT IT READS IS OF BULK AT MOST 1048576: true; the input reads as it did. -/
def readyUntilUptoRow : OpenClaim := { program := "ytecfenoidcolfaa", sum := "b8545da046aaae2f911affa782c45394a5d40ee992b5e6f816b82a5d681fd724", func := "metronome/metronomelaw04.ReadyUntil", spec := "readyUntil", inPlace := ["maps.clone"], unfollowed := true, recurses := true, apart := false, narrowed := true }
def ReadyUntilUptoSaid : Prop := readyUntilUptoRow.holds Try.pinned (OpenSpec.upto readyUntilSpec)

/-- 'metronomelaw04.ReadyParts', WHERE WHAT IT READS IS OF BULK AT MOST 1048576: true; the input reads as it did. -/
def readyPartsUptoRow : OpenClaim := { program := "ytecfenoidcolfaa", sum := "b8545da046aaae2f911affa782c45394a5d40ee992b5e6f816b82a5d681fd724", func := "metronome/metronomelaw04.ReadyParts", spec := "readyParts", inPlace := ["maps.clone"], unfollowed := true, recurses := true, apart := false, narrowed := true }
def ReadyPartsUptoSaid : Prop := readyPartsUptoRow.holds Try.pinned (OpenSpec.upto readyPartsSpec)

/-- 'metronomelaw05.TimersOnce', WHERE WHAT IT READS IS OF BULK AT MOST 1048576: true; the input reads as it did. -/
def timersOnceUptoRow : OpenClaim := { program := "ytecfenoidcolfaa", sum := "b8545da046aaae2f911affa782c45394a5d40ee992b5e6f816b82a5d681fd724", func := "metronome/metronomelaw05.TimersOnce", spec := "timersOnce", inPlace := ["maps.clone"], unfollowed := true, recurses := true, apart := false, narrowed := true }
def TimersOnceUptoSaid : Prop := timersOnceUptoRow.holds Try.pinned (OpenSpec.upto timersOnceSpec)

/-- 'metronomelaw05.TimersAnew', WHERE WHAT IT READS IS OF BULK AT MOST 1048576: true; the input reads as it did. -/
def timersAnewUptoRow : OpenClaim := { program := "ytecfenoidcolfaa", sum := "b8545da046aaae2f911affa782c45394a5d40ee992b5e6f816b82a5d681fd724", func := "metronome/metronomelaw05.TimersAnew", spec := "timersAnew", inPlace := ["maps.clone"], unfollowed := true, recurses := true, apart := false, narrowed := true }
def TimersAnewUptoSaid : Prop := timersAnewUptoRow.holds Try.pinned (OpenSpec.upto timersAnewSpec)

/-- 'metronomelaw05.TimersSharp', WHERE WHAT IT READS IS OF BULK AT MOST 1048576: true; the input reads as it did. -/
def timersSharpUptoRow : OpenClaim := { program := "ytecfenoidcolfaa", sum := "b8545da046aaae2f911affa782c45394a5d40ee992b5e6f816b82a5d681fd724", func := "metronome/metronomelaw05.TimersSharp", spec := "timersSharp", inPlace := ["maps.clone"], unfollowed := true, recurses := true, apart := false, narrowed := true }
def TimersSharpUptoSaid : Prop := timersSharpUptoRow.holds Try.pinned (OpenSpec.upto timersSharpSpec)

/-- 'metronomelaw05.TimersPlays', WHERE WHAT IT READS IS OF BULK AT MOST 1048576: true; the input reads as it did. -/
def timersPlaysUptoRow : OpenClaim := { program := "ytecfenoidcolfaa", sum := "b8545da046aaae2f911affa782c45394a5d40ee992b5e6f816b82a5d681fd724", func := "metronome/metronomelaw05.TimersPlays", spec := "timersPlays", inPlace := ["maps.clone"], unfollowed := true, recurses := true, apart := false, narrowed := true }
def TimersPlaysUptoSaid : Prop := timersPlaysUptoRow.holds Try.pinned (OpenSpec.upto timersPlaysSpec)

/-- 'metronomelaw05.TimersCopies', WHERE WHAT IT READS IS OF BULK AT MOST 1048576: true; the input reads as it did. -/
def timersCopiesUptoRow : OpenClaim := { program := "ytecfenoidcolfaa", sum := "b8545da046aaae2f911affa782c45394a5d40ee992b5e6f816b82a5d681fd724", func := "metronome/metronomelaw05.TimersCopies", spec := "timersCopies", inPlace := ["maps.clone"], unfollowed := true, recurses := true, apart := false, narrowed := true }
def TimersCopiesUptoSaid : Prop := timersCopiesUptoRow.holds Try.pinned (OpenSpec.upto timersCopiesSpec)

/-- 'metronomelaw05.TimersNext', WHERE WHAT IT READS IS OF BULK AT MOST 1048576: true; the input reads as it did. -/
def timersNextUptoRow : OpenClaim := { program := "ytecfenoidcolfaa", sum := "b8545da046aaae2f911affa782c45394a5d40ee992b5e6f816b82a5d681fd724", func := "metronome/metronomelaw05.TimersNext", spec := "timersNext", inPlace := ["maps.clone"], unfollowed := true, recurses := true, apart := false, narrowed := true }
def TimersNextUptoSaid : Prop := timersNextUptoRow.holds Try.pinned (OpenSpec.upto timersNextSpec)

end Rows
end Go.Proofs.Ytecfenoidcolfaa
