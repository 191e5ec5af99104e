/-
  No cell of these rows narrows 'for every input' (looked for: loops, veiled, ifaces, maps, wideKeys, modest, calm, conditions, laid).
  DERIVED. THE GIVEN ROWS OF THIS SEAT. 5 by the template 'for every input the law returns true; each argument reads behind the call as it read before'; 0 by the template 'total and deterministic' (their statements: YtmbdolmkldbjcaaTotals.lean).
  GIVEN WITH THE SEED: the statements are not yours to turn. If you find one false, say at which input.
  Laid BY PROGRAM, IN A SANDBOX (cutbox-rows.mjs): the forced cells as the released guide's own fill.sh prints them over the translation d68d33c212278389… (all of the seat's roots in one cut). By AI agents, Wed Nov 11 2026. No macro, syntax, notation, axiom, sorry.
-/
import Derived.Test.YtmbdolmkldbjcaaChecked
import GoSem.Claim
import GoSem.ClaimJoined
import GoSem.ClaimMapViews
import Derived.JoinedTies
import Derived.KernelRfl
namespace Go.Proofs.Ytmbdolmkldbjcaa
/- THE CELL 'sum', in the pinned program and in every row, IS THE sha256 OF THE DUMP (.gsa) THAT YtmbdolmkldbjcaaProg.lean LOADS. Nothing in Lean hashes anything: it is a label: what it is worth is what the hold of that sum in a sandbox is worth. -/
noncomputable def Try.pinned : Pinned := { name := "ytmbdolmkldbjcaa", sum := "d68d33c212278389ff0ff3a1a767fe3171e295bcbc7495c146c2f7299fd3722a", checked := Try.checked }
namespace Rows
def none {H : Type} : Left H := { results := [], args := [] }

/-- 'metronomelaw15.ChainAssigns': WHATEVER THE INPUT: true; the input reads as it did. -/
def chainAssignsSpec : ChangeSpec := { name := "chainAssigns", fn := fun _ => fun
  | [d1, d2] => { results := [.lit (.bool true)], args := [d1, d2] }
  | _ => none }
def chainAssignsRow : OpenClaim := { program := "ytmbdolmkldbjcaa", sum := "d68d33c212278389ff0ff3a1a767fe3171e295bcbc7495c146c2f7299fd3722a", func := "metronome/metronomelaw15.ChainAssigns", spec := "chainAssigns", unfollowed := true, recurses := true, apart := false }
def ChainAssignsSaid : Prop := chainAssignsRow.holds Try.pinned (OpenSpec.ofChange chainAssignsSpec)

/-- ITS FALSE NEIGHBOUR: 'it returns false'. Refute it at one input. -/
def chainAssignsWrong : ChangeSpec := { name := "chainAssigns", fn := fun _ => fun
  | [d1, d2] => { results := [.lit (.bool false)], args := [d1, d2] }
  | _ => none }
def ChainAssignsWrongFalsely : Prop := chainAssignsRow.holds Try.pinned (OpenSpec.ofChange chainAssignsWrong)

/-- 'metronomelaw15.ChainOnce': WHATEVER THE INPUT: true; the input reads as it did. -/
def chainOnceSpec : ChangeSpec := { name := "chainOnce", fn := fun _ => fun
  | [d1, d2] => { results := [.lit (.bool true)], args := [d1, d2] }
  | _ => none }
def chainOnceRow : OpenClaim := { program := "ytmbdolmkldbjcaa", sum := "d68d33c212278389ff0ff3a1a767fe3171e295bcbc7495c146c2f7299fd3722a", func := "metronome/metronomelaw15.ChainOnce", spec := "chainOnce", unfollowed := true, recurses := true, apart := false }
def ChainOnceSaid : Prop := chainOnceRow.holds Try.pinned (OpenSpec.ofChange chainOnceSpec)

/-- ITS FALSE NEIGHBOUR: 'it returns false'. Refute it at one input. -/
def chainOnceWrong : ChangeSpec := { name := "chainOnce", fn := fun _ => fun
  | [d1, d2] => { results := [.lit (.bool false)], args := [d1, d2] }
  | _ => none }
def ChainOnceWrongFalsely : Prop := chainOnceRow.holds Try.pinned (OpenSpec.ofChange chainOnceWrong)

/-- 'metronomelaw15.ChainChecks': WHATEVER THE INPUT: true; the input reads as it did. -/
def chainChecksSpec : ChangeSpec := { name := "chainChecks", fn := fun _ => fun
  | [d1, d2, d3] => { results := [.lit (.bool true)], args := [d1, d2, d3] }
  | _ => none }
def chainChecksRow : OpenClaim := { program := "ytmbdolmkldbjcaa", sum := "d68d33c212278389ff0ff3a1a767fe3171e295bcbc7495c146c2f7299fd3722a", func := "metronome/metronomelaw15.ChainChecks", spec := "chainChecks", unfollowed := true, recurses := true, apart := false }
def ChainChecksSaid : Prop := chainChecksRow.holds Try.pinned (OpenSpec.ofChange chainChecksSpec)

/-- ITS FALSE NEIGHBOUR: 'it returns false'. Refute it at one input. -/
def chainChecksWrong : ChangeSpec := { name := "chainChecks", fn := fun _ => fun
  | [d1, d2, d3] => { results := [.lit (.bool false)], args := [d1, d2, d3] }
  | _ => none }
def ChainChecksWrongFalsely : Prop := chainChecksRow.holds Try.pinned (OpenSpec.ofChange chainChecksWrong)

/-- 'metronomelaw15.ChainCloses': WHATEVER THE INPUT: true; the input reads as it did. -/
def chainClosesSpec : ChangeSpec := { name := "chainCloses", fn := fun _ => fun
  | [d1, d2, d3] => { results := [.lit (.bool true)], args := [d1, d2, d3] }
  | _ => none }
def chainClosesRow : OpenClaim := { program := "ytmbdolmkldbjcaa", sum := "d68d33c212278389ff0ff3a1a767fe3171e295bcbc7495c146c2f7299fd3722a", func := "metronome/metronomelaw15.ChainCloses", spec := "chainCloses", unfollowed := true, recurses := true, apart := false }
def ChainClosesSaid : Prop := chainClosesRow.holds Try.pinned (OpenSpec.ofChange chainClosesSpec)

/-- ITS FALSE NEIGHBOUR: 'it returns false'. Refute it at one input. -/
def chainClosesWrong : ChangeSpec := { name := "chainCloses", fn := fun _ => fun
  | [d1, d2, d3] => { results := [.lit (.bool false)], args := [d1, d2, d3] }
  | _ => none }
def ChainClosesWrongFalsely : Prop := chainClosesRow.holds Try.pinned (OpenSpec.ofChange chainClosesWrong)

/-- 'metronomelaw15.ChainParts': WHATEVER THE INPUT: true; the input reads as it did. -/
def chainPartsSpec : ChangeSpec := { name := "chainParts", fn := fun _ => fun
  | [d] => { results := [.lit (.bool true)], args := [d] }
  | _ => none }
def chainPartsRow : OpenClaim := { program := "ytmbdolmkldbjcaa", sum := "d68d33c212278389ff0ff3a1a767fe3171e295bcbc7495c146c2f7299fd3722a", func := "metronome/metronomelaw15.ChainParts", spec := "chainParts", unfollowed := true, recurses := true, apart := false }
def ChainPartsSaid : Prop := chainPartsRow.holds Try.pinned (OpenSpec.ofChange chainPartsSpec)

/-- ITS FALSE NEIGHBOUR: 'it returns false'. Refute it at one input. -/
def chainPartsWrong : ChangeSpec := { name := "chainParts", fn := fun _ => fun
  | [d] => { results := [.lit (.bool false)], args := [d] }
  | _ => none }
def ChainPartsWrongFalsely : Prop := chainPartsRow.holds Try.pinned (OpenSpec.ofChange chainPartsWrong)

/- THE SECOND FORM. 'bulk': how many values and letters a reading holds, each counted each time it is reached (what is shared counts as often as it is met; a slice's spare places count too). A statement '..UptoSaid' is the law's where the arguments, and the package variables that the reading takes, are together of bulk at most 1048576: NARROWER than '..Said'. Prove '..Said' where nothing that the law and all that it calls make is longer than what came in: it says more and counts as full. Else prove '..UptoSaid'. A law counts once. -/
mutual
def uptoBulk {H : Type} : DataW H → Nat
  | .lit (.string bytes) => bytes.length + 1
  | .lit _ => 1
  | .nil => 1
  | .ptr d => uptoBulk d + 1
  | .slice elems spare => uptoBulkAll elems + uptoBulkAll spare + 1
  | .agg parts => uptoBulkAll parts + 1
  | .iface _ d => uptoBulk d + 1
  | .map entries => uptoBulkEntries entries + 1
  | .held _ => 1
def uptoBulkAll {H : Type} : List (DataW H) → Nat
  | [] => 0
  | d :: r => uptoBulk d + uptoBulkAll r
def uptoBulkEntries {H : Type} : List (Lit × DataW H) → Nat
  | [] => 0
  | x :: r => uptoBulkEntry x + uptoBulkEntries r
def uptoBulkEntry {H : Type} : Lit × DataW H → Nat
  | (.string bytes, d) => bytes.length + uptoBulk d + 1
  | (_, d) => uptoBulk d + 1
 end
def uptoSmall : (H : Type) → List (DataW H) → Bool := fun _ ds => decide (uptoBulkAll ds ≤ 1048576)
def OpenSpec.upto (s : _root_.Go.ChangeSpec) : _root_.Go.OpenSpec := { _root_.Go.OpenSpec.ofChange s with cond := some uptoSmall }

/-- 'metronomelaw15.ChainAssigns', WHERE WHAT IT READS IS OF BULK AT MOST 1048576: true; the input reads as it did. -/
def chainAssignsUptoRow : OpenClaim := { program := "ytmbdolmkldbjcaa", sum := "d68d33c212278389ff0ff3a1a767fe3171e295bcbc7495c146c2f7299fd3722a", func := "metronome/metronomelaw15.ChainAssigns", spec := "chainAssigns", unfollowed := true, recurses := true, apart := false, narrowed := true }
def ChainAssignsUptoSaid : Prop := chainAssignsUptoRow.holds Try.pinned (OpenSpec.upto chainAssignsSpec)

/-- 'metronomelaw15.ChainOnce', WHERE WHAT IT READS IS OF BULK AT MOST 1048576: true; the input reads as it did. -/
def chainOnceUptoRow : OpenClaim := { program := "ytmbdolmkldbjcaa", sum := "d68d33c212278389ff0ff3a1a767fe3171e295bcbc7495c146c2f7299fd3722a", func := "metronome/metronomelaw15.ChainOnce", spec := "chainOnce", unfollowed := true, recurses := true, apart := false, narrowed := true }
def ChainOnceUptoSaid : Prop := chainOnceUptoRow.holds Try.pinned (OpenSpec.upto chainOnceSpec)

/-- 'metronomelaw15.ChainChecks', WHERE WHAT IT READS IS OF BULK AT MOST 1048576: true; the input reads as it did. -/
def chainChecksUptoRow : OpenClaim := { program := "ytmbdolmkldbjcaa", sum := "d68d33c212278389ff0ff3a1a767fe3171e295bcbc7495c146c2f7299fd3722a", func := "metronome/metronomelaw15.ChainChecks", spec := "chainChecks", unfollowed := true, recurses := true, apart := false, narrowed := true }
def ChainChecksUptoSaid : Prop := chainChecksUptoRow.holds Try.pinned (OpenSpec.upto chainChecksSpec)

/-- 'metronomelaw15.ChainCloses', WHERE WHAT IT READS IS OF BULK AT MOST 1048576: true; the input reads as it did. -/
def chainClosesUptoRow : OpenClaim := { program := "ytmbdolmkldbjcaa", sum := "d68d33c212278389ff0ff3a1a767fe3171e295bcbc7495c146c2f7299fd3722a", func := "metronome/metronomelaw15.ChainCloses", spec := "chainCloses", unfollowed := true, recurses := true, apart := false, narrowed := true }
def ChainClosesUptoSaid : Prop := chainClosesUptoRow.holds Try.pinned (OpenSpec.upto chainClosesSpec)

/-- 'metronomelaw15.ChainParts', WHERE WHAT IT READS IS OF BULK AT MOST 1048576: true; the input reads as it did. -/
def chainPartsUptoRow : OpenClaim := { program := "ytmbdolmkldbjcaa", sum := "d68d33c212278389ff0ff3a1a767fe3171e295bcbc7495c146c2f7299fd3722a", func := "metronome/metronomelaw15.ChainParts", spec := "chainParts", unfollowed := true, recurses := true, apart := false, narrowed := true }
def ChainPartsUptoSaid : Prop := chainPartsUptoRow.holds Try.pinned (OpenSpec.upto chainPartsSpec)

end Rows
end Go.Proofs.Ytmbdolmkldbjcaa
