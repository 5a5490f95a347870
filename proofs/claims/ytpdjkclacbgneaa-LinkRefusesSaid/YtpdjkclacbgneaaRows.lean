/-
  No cell of these rows narrows 'for every input' (looked for: loops, veiled, ifaces, maps, wideKeys, modest, calm, conditions, laid).
  DERIVED. THE GIVEN ROWS OF THIS SEAT. 10 by the template 'for every input the law returns true; each argument reads behind the call as it read before'; 0 by the template 'total and deterministic' (their statements: YtpdjkclacbgneaaTotals.lean).
  GIVEN WITH THE SEED: the statements are not yours to turn. If you find one false, say at which input.
  Laid BY PROGRAM, IN A SANDBOX (cutbox-rows.mjs): the forced cells as the released guide's own fill.sh prints them over the translation a172e81c02b61a65… (all of the seat's roots in one cut). By AI agents, Wed Nov 11 2026. No macro, syntax, notation, axiom, sorry.
-/
import Derived.Test.YtpdjkclacbgneaaChecked
import GoSem.Claim
import GoSem.ClaimJoined
import GoSem.ClaimMapViews
import Derived.JoinedTies
import Derived.KernelRfl
namespace Go.Proofs.Ytpdjkclacbgneaa
/- THE CELL 'sum', in the pinned program and in every row, IS THE sha256 OF THE DUMP (.gsa) THAT YtpdjkclacbgneaaProg.lean LOADS. Nothing in Lean hashes anything: it is a label: what it is worth is what the hold of that sum in a sandbox is worth. -/
noncomputable def Try.pinned : Pinned := { name := "ytpdjkclacbgneaa", sum := "a172e81c02b61a65d7cf9afd5b78a8c0dc32cf3e3d5269aab09686588340446d", checked := Try.checked }
namespace Rows
def none {H : Type} : Left H := { results := [], args := [] }

/-- 'loomlaw8.VerifyHeights': WHATEVER THE INPUT: true; the input reads as it did. -/
def verifyHeightsSpec : ChangeSpec := { name := "verifyHeights", fn := fun _ => fun
  | [d] => { results := [.lit (.bool true)], args := [d] }
  | _ => none }
def verifyHeightsRow : OpenClaim := { program := "ytpdjkclacbgneaa", sum := "a172e81c02b61a65d7cf9afd5b78a8c0dc32cf3e3d5269aab09686588340446d", func := "loom/loomlaw8.VerifyHeights", spec := "verifyHeights", inPlace := ["math.Float64bits"], unfollowed := true, recurses := true, apart := false }
def VerifyHeightsSaid : Prop := verifyHeightsRow.holds Try.pinned (OpenSpec.ofChange verifyHeightsSpec)

/-- ITS FALSE NEIGHBOUR: 'it returns false'. Refute it at one input. -/
def verifyHeightsWrong : ChangeSpec := { name := "verifyHeights", fn := fun _ => fun
  | [d] => { results := [.lit (.bool false)], args := [d] }
  | _ => none }
def VerifyHeightsWrongFalsely : Prop := verifyHeightsRow.holds Try.pinned (OpenSpec.ofChange verifyHeightsWrong)

/-- 'loomlaw8.VerifyMixes': WHATEVER THE INPUT: true; the input reads as it did. -/
def verifyMixesSpec : ChangeSpec := { name := "verifyMixes", fn := fun _ => fun
  | [d1, d2, d3] => { results := [.lit (.bool true)], args := [d1, d2, d3] }
  | _ => none }
def verifyMixesRow : OpenClaim := { program := "ytpdjkclacbgneaa", sum := "a172e81c02b61a65d7cf9afd5b78a8c0dc32cf3e3d5269aab09686588340446d", func := "loom/loomlaw8.VerifyMixes", spec := "verifyMixes", inPlace := ["math.Float64bits"], unfollowed := true, recurses := true, apart := false }
def VerifyMixesSaid : Prop := verifyMixesRow.holds Try.pinned (OpenSpec.ofChange verifyMixesSpec)

/-- ITS FALSE NEIGHBOUR: 'it returns false'. Refute it at one input. -/
def verifyMixesWrong : ChangeSpec := { name := "verifyMixes", fn := fun _ => fun
  | [d1, d2, d3] => { results := [.lit (.bool false)], args := [d1, d2, d3] }
  | _ => none }
def VerifyMixesWrongFalsely : Prop := verifyMixesRow.holds Try.pinned (OpenSpec.ofChange verifyMixesWrong)

/-- 'loomlaw8.VerifyUnset': WHATEVER THE INPUT: true; the input reads as it did. -/
def verifyUnsetSpec : ChangeSpec := { name := "verifyUnset", fn := fun _ => fun
  | [d1, d2, d3] => { results := [.lit (.bool true)], args := [d1, d2, d3] }
  | _ => none }
def verifyUnsetRow : OpenClaim := { program := "ytpdjkclacbgneaa", sum := "a172e81c02b61a65d7cf9afd5b78a8c0dc32cf3e3d5269aab09686588340446d", func := "loom/loomlaw8.VerifyUnset", spec := "verifyUnset", inPlace := ["math.Float64bits"], unfollowed := true, recurses := true, apart := false }
def VerifyUnsetSaid : Prop := verifyUnsetRow.holds Try.pinned (OpenSpec.ofChange verifyUnsetSpec)

/-- ITS FALSE NEIGHBOUR: 'it returns false'. Refute it at one input. -/
def verifyUnsetWrong : ChangeSpec := { name := "verifyUnset", fn := fun _ => fun
  | [d1, d2, d3] => { results := [.lit (.bool false)], args := [d1, d2, d3] }
  | _ => none }
def VerifyUnsetWrongFalsely : Prop := verifyUnsetRow.holds Try.pinned (OpenSpec.ofChange verifyUnsetWrong)

/-- 'loomlaw8.VerifyLoops': WHATEVER THE INPUT: true; the input reads as it did. -/
def verifyLoopsSpec : ChangeSpec := { name := "verifyLoops", fn := fun _ => fun
  | [d1, d2] => { results := [.lit (.bool true)], args := [d1, d2] }
  | _ => none }
def verifyLoopsRow : OpenClaim := { program := "ytpdjkclacbgneaa", sum := "a172e81c02b61a65d7cf9afd5b78a8c0dc32cf3e3d5269aab09686588340446d", func := "loom/loomlaw8.VerifyLoops", spec := "verifyLoops", inPlace := ["math.Float64bits"], unfollowed := true, recurses := true, apart := false }
def VerifyLoopsSaid : Prop := verifyLoopsRow.holds Try.pinned (OpenSpec.ofChange verifyLoopsSpec)

/-- ITS FALSE NEIGHBOUR: 'it returns false'. Refute it at one input. -/
def verifyLoopsWrong : ChangeSpec := { name := "verifyLoops", fn := fun _ => fun
  | [d1, d2] => { results := [.lit (.bool false)], args := [d1, d2] }
  | _ => none }
def VerifyLoopsWrongFalsely : Prop := verifyLoopsRow.holds Try.pinned (OpenSpec.ofChange verifyLoopsWrong)

/-- 'loomlaw7.LinkSlots': WHATEVER THE INPUT: true; the input reads as it did. -/
def linkSlotsSpec : ChangeSpec := { name := "linkSlots", fn := fun _ => fun
  | [d] => { results := [.lit (.bool true)], args := [d] }
  | _ => none }
def linkSlotsRow : OpenClaim := { program := "ytpdjkclacbgneaa", sum := "a172e81c02b61a65d7cf9afd5b78a8c0dc32cf3e3d5269aab09686588340446d", func := "loom/loomlaw7.LinkSlots", spec := "linkSlots", inPlace := ["math.Float64bits"], unfollowed := true, recurses := true, apart := false }
def LinkSlotsSaid : Prop := linkSlotsRow.holds Try.pinned (OpenSpec.ofChange linkSlotsSpec)

/-- ITS FALSE NEIGHBOUR: 'it returns false'. Refute it at one input. -/
def linkSlotsWrong : ChangeSpec := { name := "linkSlots", fn := fun _ => fun
  | [d] => { results := [.lit (.bool false)], args := [d] }
  | _ => none }
def LinkSlotsWrongFalsely : Prop := linkSlotsRow.holds Try.pinned (OpenSpec.ofChange linkSlotsWrong)

/-- 'loomlaw7.LinkCalls': WHATEVER THE INPUT: true; the input reads as it did. -/
def linkCallsSpec : ChangeSpec := { name := "linkCalls", fn := fun _ => fun
  | [d] => { results := [.lit (.bool true)], args := [d] }
  | _ => none }
def linkCallsRow : OpenClaim := { program := "ytpdjkclacbgneaa", sum := "a172e81c02b61a65d7cf9afd5b78a8c0dc32cf3e3d5269aab09686588340446d", func := "loom/loomlaw7.LinkCalls", spec := "linkCalls", inPlace := ["math.Float64bits"], unfollowed := true, recurses := true, apart := false }
def LinkCallsSaid : Prop := linkCallsRow.holds Try.pinned (OpenSpec.ofChange linkCallsSpec)

/-- ITS FALSE NEIGHBOUR: 'it returns false'. Refute it at one input. -/
def linkCallsWrong : ChangeSpec := { name := "linkCalls", fn := fun _ => fun
  | [d] => { results := [.lit (.bool false)], args := [d] }
  | _ => none }
def LinkCallsWrongFalsely : Prop := linkCallsRow.holds Try.pinned (OpenSpec.ofChange linkCallsWrong)

/-- 'loomlaw7.LinkRefuses': WHATEVER THE INPUT: true; the input reads as it did. -/
def linkRefusesSpec : ChangeSpec := { name := "linkRefuses", fn := fun _ => fun
  | [d] => { results := [.lit (.bool true)], args := [d] }
  | _ => none }
def linkRefusesRow : OpenClaim := { program := "ytpdjkclacbgneaa", sum := "a172e81c02b61a65d7cf9afd5b78a8c0dc32cf3e3d5269aab09686588340446d", func := "loom/loomlaw7.LinkRefuses", spec := "linkRefuses", inPlace := ["math.Float64bits"], unfollowed := true, recurses := true, apart := false }
def LinkRefusesSaid : Prop := linkRefusesRow.holds Try.pinned (OpenSpec.ofChange linkRefusesSpec)

/-- ITS FALSE NEIGHBOUR: 'it returns false'. Refute it at one input. -/
def linkRefusesWrong : ChangeSpec := { name := "linkRefuses", fn := fun _ => fun
  | [d] => { results := [.lit (.bool false)], args := [d] }
  | _ => none }
def LinkRefusesWrongFalsely : Prop := linkRefusesRow.holds Try.pinned (OpenSpec.ofChange linkRefusesWrong)

/-- 'loomlaw9.LocksStack': WHATEVER THE INPUT: true; the input reads as it did. -/
def locksStackSpec : ChangeSpec := { name := "locksStack", fn := fun _ => fun
  | [d] => { results := [.lit (.bool true)], args := [d] }
  | _ => none }
def locksStackRow : OpenClaim := { program := "ytpdjkclacbgneaa", sum := "a172e81c02b61a65d7cf9afd5b78a8c0dc32cf3e3d5269aab09686588340446d", func := "loom/loomlaw9.LocksStack", spec := "locksStack", inPlace := ["math.Float64bits"], unfollowed := true, recurses := true, apart := false }
def LocksStackSaid : Prop := locksStackRow.holds Try.pinned (OpenSpec.ofChange locksStackSpec)

/-- ITS FALSE NEIGHBOUR: 'it returns false'. Refute it at one input. -/
def locksStackWrong : ChangeSpec := { name := "locksStack", fn := fun _ => fun
  | [d] => { results := [.lit (.bool false)], args := [d] }
  | _ => none }
def LocksStackWrongFalsely : Prop := locksStackRow.holds Try.pinned (OpenSpec.ofChange locksStackWrong)

/-- 'loomlaw9.LocksStored': WHATEVER THE INPUT: true; the input reads as it did. -/
def locksStoredSpec : ChangeSpec := { name := "locksStored", fn := fun _ => fun
  | [d1, d2] => { results := [.lit (.bool true)], args := [d1, d2] }
  | _ => none }
def locksStoredRow : OpenClaim := { program := "ytpdjkclacbgneaa", sum := "a172e81c02b61a65d7cf9afd5b78a8c0dc32cf3e3d5269aab09686588340446d", func := "loom/loomlaw9.LocksStored", spec := "locksStored", inPlace := ["math.Float64bits"], unfollowed := true, recurses := true, apart := false }
def LocksStoredSaid : Prop := locksStoredRow.holds Try.pinned (OpenSpec.ofChange locksStoredSpec)

/-- ITS FALSE NEIGHBOUR: 'it returns false'. Refute it at one input. -/
def locksStoredWrong : ChangeSpec := { name := "locksStored", fn := fun _ => fun
  | [d1, d2] => { results := [.lit (.bool false)], args := [d1, d2] }
  | _ => none }
def LocksStoredWrongFalsely : Prop := locksStoredRow.holds Try.pinned (OpenSpec.ofChange locksStoredWrong)

/-- 'loomlaw9.LocksWays': WHATEVER THE INPUT: true; the input reads as it did. -/
def locksWaysSpec : ChangeSpec := { name := "locksWays", fn := fun _ => fun
  | [d1, d2, d3, d4] => { results := [.lit (.bool true)], args := [d1, d2, d3, d4] }
  | _ => none }
def locksWaysRow : OpenClaim := { program := "ytpdjkclacbgneaa", sum := "a172e81c02b61a65d7cf9afd5b78a8c0dc32cf3e3d5269aab09686588340446d", func := "loom/loomlaw9.LocksWays", spec := "locksWays", inPlace := ["math.Float64bits"], unfollowed := true, recurses := true, apart := false }
def LocksWaysSaid : Prop := locksWaysRow.holds Try.pinned (OpenSpec.ofChange locksWaysSpec)

/-- ITS FALSE NEIGHBOUR: 'it returns false'. Refute it at one input. -/
def locksWaysWrong : ChangeSpec := { name := "locksWays", fn := fun _ => fun
  | [d1, d2, d3, d4] => { results := [.lit (.bool false)], args := [d1, d2, d3, d4] }
  | _ => none }
def LocksWaysWrongFalsely : Prop := locksWaysRow.holds Try.pinned (OpenSpec.ofChange locksWaysWrong)

/- THE SECOND FORM. 'bulk': how many values and letters a reading holds, each counted each time it is reached (what is shared counts as often as it is met; a slice's spare places count too). A statement '..UptoSaid' is the law's where the arguments, and the package variables that the reading takes, are together of bulk at most 1048576: NARROWER than '..Said'. Prove '..Said' where nothing that the law and all that it calls make is longer than what came in: it says more and counts as full. Else prove '..UptoSaid'. A law counts once. -/
mutual
def uptoBulk {H : Type} : DataW H → Nat
  | .lit (.string bytes) => bytes.length + 1
  | .lit _ => 1
  | .nil => 1
  | .ptr d => uptoBulk d + 1
  | .slice elems spare => uptoBulkAll elems + uptoBulkAll spare + 1
  | .agg parts => uptoBulkAll parts + 1
  | .iface _ d => uptoBulk d + 1
  | .map entries => uptoBulkEntries entries + 1
  | .held _ => 1
def uptoBulkAll {H : Type} : List (DataW H) → Nat
  | [] => 0
  | d :: r => uptoBulk d + uptoBulkAll r
def uptoBulkEntries {H : Type} : List (Lit × DataW H) → Nat
  | [] => 0
  | x :: r => uptoBulkEntry x + uptoBulkEntries r
def uptoBulkEntry {H : Type} : Lit × DataW H → Nat
  | (.string bytes, d) => bytes.length + uptoBulk d + 1
  | (_, d) => uptoBulk d + 1
 end
def uptoSmall : (H : Type) → List (DataW H) → Bool := fun _ ds => decide (uptoBulkAll ds ≤ 1048576)
def OpenSpec.upto (s : _root_.Go.ChangeSpec) : _root_.Go.OpenSpec := { _root_.Go.OpenSpec.ofChange s with cond := some uptoSmall }

/-- 'loomlaw8.VerifyHeights', WHERE WHAT IT READS IS OF BULK AT MOST 1048576: true; the input reads as it did. -/
def verifyHeightsUptoRow : OpenClaim := { program := "ytpdjkclacbgneaa", sum := "a172e81c02b61a65d7cf9afd5b78a8c0dc32cf3e3d5269aab09686588340446d", func := "loom/loomlaw8.VerifyHeights", spec := "verifyHeights", inPlace := ["math.Float64bits"], unfollowed := true, recurses := true, apart := false, narrowed := true }
def VerifyHeightsUptoSaid : Prop := verifyHeightsUptoRow.holds Try.pinned (OpenSpec.upto verifyHeightsSpec)

/-- 'loomlaw8.VerifyMixes', WHERE WHAT IT READS IS OF BULK AT MOST 1048576: true; the input reads as it did. -/
def verifyMixesUptoRow : OpenClaim := { program := "ytpdjkclacbgneaa", sum := "a172e81c02b61a65d7cf9afd5b78a8c0dc32cf3e3d5269aab09686588340446d", func := "loom/loomlaw8.VerifyMixes", spec := "verifyMixes", inPlace := ["math.Float64bits"], unfollowed := true, recurses := true, apart := false, narrowed := true }
def VerifyMixesUptoSaid : Prop := verifyMixesUptoRow.holds Try.pinned (OpenSpec.upto verifyMixesSpec)

/-- 'loomlaw8.VerifyUnset', WHERE WHAT IT READS IS OF BULK AT MOST 1048576: true; the input reads as it did. -/
def verifyUnsetUptoRow : OpenClaim := { program := "ytpdjkclacbgneaa", sum := "a172e81c02b61a65d7cf9afd5b78a8c0dc32cf3e3d5269aab09686588340446d", func := "loom/loomlaw8.VerifyUnset", spec := "verifyUnset", inPlace := ["math.Float64bits"], unfollowed := true, recurses := true, apart := false, narrowed := true }
def VerifyUnsetUptoSaid : Prop := verifyUnsetUptoRow.holds Try.pinned (OpenSpec.upto verifyUnsetSpec)

/-- 'loomlaw8.VerifyLoops', WHERE WHAT IT READS IS OF BULK AT MOST 1048576: true; the input reads as it did. -/
def verifyLoopsUptoRow : OpenClaim := { program := "ytpdjkclacbgneaa", sum := "a172e81c02b61a65d7cf9afd5b78a8c0dc32cf3e3d5269aab09686588340446d", func := "loom/loomlaw8.VerifyLoops", spec := "verifyLoops", inPlace := ["math.Float64bits"], unfollowed := true, recurses := true, apart := false, narrowed := true }
def VerifyLoopsUptoSaid : Prop := verifyLoopsUptoRow.holds Try.pinned (OpenSpec.upto verifyLoopsSpec)

/-- 'loomlaw7.LinkSlots', WHERE WHAT IT READS IS OF BULK AT MOST 1048576: true; the input reads as it did. -/
def linkSlotsUptoRow : OpenClaim := { program := "ytpdjkclacbgneaa", sum := "a172e81c02b61a65d7cf9afd5b78a8c0dc32cf3e3d5269aab09686588340446d", func := "loom/loomlaw7.LinkSlots", spec := "linkSlots", inPlace := ["math.Float64bits"], unfollowed := true, recurses := true, apart := false, narrowed := true }
def LinkSlotsUptoSaid : Prop := linkSlotsUptoRow.holds Try.pinned (OpenSpec.upto linkSlotsSpec)

/-- 'loomlaw7.LinkCalls', WHERE WHAT IT READS IS OF BULK AT MOST 1048576: true; the input reads as it did. -/
def linkCallsUptoRow : OpenClaim := { program := "ytpdjkclacbgneaa", sum := "a172e81c02b61a65d7cf9afd5b78a8c0dc32cf3e3d5269aab09686588340446d", func := "loom/loomlaw7.LinkCalls", spec := "linkCalls", inPlace := ["math.Float64bits"], unfollowed := true, recurses := true, apart := false, narrowed := true }
def LinkCallsUptoSaid : Prop := linkCallsUptoRow.holds Try.pinned (OpenSpec.upto linkCallsSpec)

/-- 'loomlaw7.LinkRefuses', WHERE WHAT IT READS IS OF BULK AT MOST 1048576: true; the input reads as it did. -/
def linkRefusesUptoRow : OpenClaim := { program := "ytpdjkclacbgneaa", sum := "a172e81c02b61a65d7cf9afd5b78a8c0dc32cf3e3d5269aab09686588340446d", func := "loom/loomlaw7.LinkRefuses", spec := "linkRefuses", inPlace := ["math.Float64bits"], unfollowed := true, recurses := true, apart := false, narrowed := true }
def LinkRefusesUptoSaid : Prop := linkRefusesUptoRow.holds Try.pinned (OpenSpec.upto linkRefusesSpec)

/-- 'loomlaw9.LocksStack', WHERE WHAT IT READS IS OF BULK AT MOST 1048576: true; the input reads as it did. -/
def locksStackUptoRow : OpenClaim := { program := "ytpdjkclacbgneaa", sum := "a172e81c02b61a65d7cf9afd5b78a8c0dc32cf3e3d5269aab09686588340446d", func := "loom/loomlaw9.LocksStack", spec := "locksStack", inPlace := ["math.Float64bits"], unfollowed := true, recurses := true, apart := false, narrowed := true }
def LocksStackUptoSaid : Prop := locksStackUptoRow.holds Try.pinned (OpenSpec.upto locksStackSpec)

/-- 'loomlaw9.LocksStored', WHERE WHAT IT READS IS OF BULK AT MOST 1048576: true; the input reads as it did. -/
def locksStoredUptoRow : OpenClaim := { program := "ytpdjkclacbgneaa", sum := "a172e81c02b61a65d7cf9afd5b78a8c0dc32cf3e3d5269aab09686588340446d", func := "loom/loomlaw9.LocksStored", spec := "locksStored", inPlace := ["math.Float64bits"], unfollowed := true, recurses := true, apart := false, narrowed := true }
def LocksStoredUptoSaid : Prop := locksStoredUptoRow.holds Try.pinned (OpenSpec.upto locksStoredSpec)

/-- 'loomlaw9.LocksWays', WHERE WHAT IT READS IS OF BULK AT MOST 1048576: true; the input reads as it did. -/
def locksWaysUptoRow : OpenClaim := { program := "ytpdjkclacbgneaa", sum := "a172e81c02b61a65d7cf9afd5b78a8c0dc32cf3e3d5269aab09686588340446d", func := "loom/loomlaw9.LocksWays", spec := "locksWays", inPlace := ["math.Float64bits"], unfollowed := true, recurses := true, apart := false, narrowed := true }
def LocksWaysUptoSaid : Prop := locksWaysUptoRow.holds Try.pinned (OpenSpec.upto locksWaysSpec)

end Rows
end Go.Proofs.Ytpdjkclacbgneaa
