/-
  No cell of these rows narrows 'for every input' (looked for: loops, veiled, ifaces, maps, wideKeys, modest, calm, conditions, laid).
  DERIVED. THE GIVEN ROWS OF THIS SEAT. 12 by the template 'for every input the law returns true; each argument reads behind the call as it read before'; 0 by the template 'total and deterministic' (their statements: YtmbdkaodaaffmaaTotals.lean).
  GIVEN WITH THE SEED: the statements are not yours to turn. If you find one false, say at which input.
  Laid BY PROGRAM, IN A SANDBOX (cutbox-rows.mjs): the forced cells as the released guide's own fill.sh prints them over the translation 3cbad14050652b2a… (all of the seat's roots in one cut). By AI agents, Wed Nov 11 2026. No macro, syntax, notation, axiom, sorry.
-/
import Derived.Test.YtmbdkaodaaffmaaChecked
import GoSem.Claim
import GoSem.ClaimJoined
import GoSem.ClaimMapViews
import Derived.JoinedTies
import Derived.KernelRfl
namespace Go.Proofs.Ytmbdkaodaaffmaa
/- THE CELL 'sum', in the pinned program and in every row, IS THE sha256 OF THE DUMP (.gsa) THAT YtmbdkaodaaffmaaProg.lean LOADS. Nothing in Lean hashes anything: it is a label: what it is worth is what the hold of that sum in a sandbox is worth. -/
noncomputable def Try.pinned : Pinned := { name := "ytmbdkaodaaffmaa", sum := "3cbad14050652b2a0d29b869279a978a0ff0b8d27f8b559531afe8ef56e0f120", checked := Try.checked }
namespace Rows
def none {H : Type} : Left H := { results := [], args := [] }

/-- 'planchetlaw09.LtreeMakes': WHATEVER THE INPUT: true; the input reads as it did. -/
def ltreeMakesSpec : ChangeSpec := { name := "ltreeMakes", fn := fun _ => fun
  | [d1, d2, d3] => { results := [.lit (.bool true)], args := [d1, d2, d3] }
  | _ => none }
def ltreeMakesRow : OpenClaim := { program := "ytmbdkaodaaffmaa", sum := "3cbad14050652b2a0d29b869279a978a0ff0b8d27f8b559531afe8ef56e0f120", func := "planchet/planchetlaw09.LtreeMakes", spec := "ltreeMakes", recurses := true, apart := false }
def LtreeMakesSaid : Prop := ltreeMakesRow.holds Try.pinned (OpenSpec.ofChange ltreeMakesSpec)

/-- ITS FALSE NEIGHBOUR: 'it returns false'. Refute it at one input. -/
def ltreeMakesWrong : ChangeSpec := { name := "ltreeMakes", fn := fun _ => fun
  | [d1, d2, d3] => { results := [.lit (.bool false)], args := [d1, d2, d3] }
  | _ => none }
def LtreeMakesWrongFalsely : Prop := ltreeMakesRow.holds Try.pinned (OpenSpec.ofChange ltreeMakesWrong)

/-- 'planchetlaw09.LtreeFew': WHATEVER THE INPUT: true; the input reads as it did. -/
def ltreeFewSpec : ChangeSpec := { name := "ltreeFew", fn := fun _ => fun
  | [d1, d2, d3, d4, d5] => { results := [.lit (.bool true)], args := [d1, d2, d3, d4, d5] }
  | _ => none }
def ltreeFewRow : OpenClaim := { program := "ytmbdkaodaaffmaa", sum := "3cbad14050652b2a0d29b869279a978a0ff0b8d27f8b559531afe8ef56e0f120", func := "planchet/planchetlaw09.LtreeFew", spec := "ltreeFew", recurses := true, apart := false }
def LtreeFewSaid : Prop := ltreeFewRow.holds Try.pinned (OpenSpec.ofChange ltreeFewSpec)

/-- ITS FALSE NEIGHBOUR: 'it returns false'. Refute it at one input. -/
def ltreeFewWrong : ChangeSpec := { name := "ltreeFew", fn := fun _ => fun
  | [d1, d2, d3, d4, d5] => { results := [.lit (.bool false)], args := [d1, d2, d3, d4, d5] }
  | _ => none }
def LtreeFewWrongFalsely : Prop := ltreeFewRow.holds Try.pinned (OpenSpec.ofChange ltreeFewWrong)

/-- 'planchetlaw16.CommitIndices': WHATEVER THE INPUT: true; the input reads as it did. -/
def commitIndicesSpec : ChangeSpec := { name := "commitIndices", fn := fun _ => fun
  | [d1, d2, d3, d4, d5] => { results := [.lit (.bool true)], args := [d1, d2, d3, d4, d5] }
  | _ => none }
def commitIndicesRow : OpenClaim := { program := "ytmbdkaodaaffmaa", sum := "3cbad14050652b2a0d29b869279a978a0ff0b8d27f8b559531afe8ef56e0f120", func := "planchet/planchetlaw16.CommitIndices", spec := "commitIndices", unfollowed := true, recurses := true, apart := false }
def CommitIndicesSaid : Prop := commitIndicesRow.holds Try.pinned (OpenSpec.ofChange commitIndicesSpec)

/-- ITS FALSE NEIGHBOUR: 'it returns false'. Refute it at one input. -/
def commitIndicesWrong : ChangeSpec := { name := "commitIndices", fn := fun _ => fun
  | [d1, d2, d3, d4, d5] => { results := [.lit (.bool false)], args := [d1, d2, d3, d4, d5] }
  | _ => none }
def CommitIndicesWrongFalsely : Prop := commitIndicesRow.holds Try.pinned (OpenSpec.ofChange commitIndicesWrong)

/-- 'planchetlaw16.CommitValues': WHATEVER THE INPUT: true; the input reads as it did. -/
def commitValuesSpec : ChangeSpec := { name := "commitValues", fn := fun _ => fun
  | [d1, d2, d3, d4] => { results := [.lit (.bool true)], args := [d1, d2, d3, d4] }
  | _ => none }
def commitValuesRow : OpenClaim := { program := "ytmbdkaodaaffmaa", sum := "3cbad14050652b2a0d29b869279a978a0ff0b8d27f8b559531afe8ef56e0f120", func := "planchet/planchetlaw16.CommitValues", spec := "commitValues", unfollowed := true, recurses := true, apart := false }
def CommitValuesSaid : Prop := commitValuesRow.holds Try.pinned (OpenSpec.ofChange commitValuesSpec)

/-- ITS FALSE NEIGHBOUR: 'it returns false'. Refute it at one input. -/
def commitValuesWrong : ChangeSpec := { name := "commitValues", fn := fun _ => fun
  | [d1, d2, d3, d4] => { results := [.lit (.bool false)], args := [d1, d2, d3, d4] }
  | _ => none }
def CommitValuesWrongFalsely : Prop := commitValuesRow.holds Try.pinned (OpenSpec.ofChange commitValuesWrong)

/-- 'planchetlaw08.WotsSigns': WHATEVER THE INPUT: true; the input reads as it did. -/
def wotsSignsSpec : ChangeSpec := { name := "wotsSigns", fn := fun _ => fun
  | [d1, d2, d3, d4] => { results := [.lit (.bool true)], args := [d1, d2, d3, d4] }
  | _ => none }
def wotsSignsRow : OpenClaim := { program := "ytmbdkaodaaffmaa", sum := "3cbad14050652b2a0d29b869279a978a0ff0b8d27f8b559531afe8ef56e0f120", func := "planchet/planchetlaw08.WotsSigns", spec := "wotsSigns", unfollowed := true, recurses := true, apart := false }
def WotsSignsSaid : Prop := wotsSignsRow.holds Try.pinned (OpenSpec.ofChange wotsSignsSpec)

/-- ITS FALSE NEIGHBOUR: 'it returns false'. Refute it at one input. -/
def wotsSignsWrong : ChangeSpec := { name := "wotsSigns", fn := fun _ => fun
  | [d1, d2, d3, d4] => { results := [.lit (.bool false)], args := [d1, d2, d3, d4] }
  | _ => none }
def WotsSignsWrongFalsely : Prop := wotsSignsRow.holds Try.pinned (OpenSpec.ofChange wotsSignsWrong)

/-- 'planchetlaw08.WotsLeads': WHATEVER THE INPUT: true; the input reads as it did. -/
def wotsLeadsSpec : ChangeSpec := { name := "wotsLeads", fn := fun _ => fun
  | [d1, d2, d3, d4] => { results := [.lit (.bool true)], args := [d1, d2, d3, d4] }
  | _ => none }
def wotsLeadsRow : OpenClaim := { program := "ytmbdkaodaaffmaa", sum := "3cbad14050652b2a0d29b869279a978a0ff0b8d27f8b559531afe8ef56e0f120", func := "planchet/planchetlaw08.WotsLeads", spec := "wotsLeads", unfollowed := true, recurses := true, apart := false }
def WotsLeadsSaid : Prop := wotsLeadsRow.holds Try.pinned (OpenSpec.ofChange wotsLeadsSpec)

/-- ITS FALSE NEIGHBOUR: 'it returns false'. Refute it at one input. -/
def wotsLeadsWrong : ChangeSpec := { name := "wotsLeads", fn := fun _ => fun
  | [d1, d2, d3, d4] => { results := [.lit (.bool false)], args := [d1, d2, d3, d4] }
  | _ => none }
def WotsLeadsWrongFalsely : Prop := wotsLeadsRow.holds Try.pinned (OpenSpec.ofChange wotsLeadsWrong)

/-- 'planchetlaw08.WotsKeys': WHATEVER THE INPUT: true; the input reads as it did. -/
def wotsKeysSpec : ChangeSpec := { name := "wotsKeys", fn := fun _ => fun
  | [d1, d2, d3] => { results := [.lit (.bool true)], args := [d1, d2, d3] }
  | _ => none }
def wotsKeysRow : OpenClaim := { program := "ytmbdkaodaaffmaa", sum := "3cbad14050652b2a0d29b869279a978a0ff0b8d27f8b559531afe8ef56e0f120", func := "planchet/planchetlaw08.WotsKeys", spec := "wotsKeys", unfollowed := true, recurses := true, apart := false }
def WotsKeysSaid : Prop := wotsKeysRow.holds Try.pinned (OpenSpec.ofChange wotsKeysSpec)

/-- ITS FALSE NEIGHBOUR: 'it returns false'. Refute it at one input. -/
def wotsKeysWrong : ChangeSpec := { name := "wotsKeys", fn := fun _ => fun
  | [d1, d2, d3] => { results := [.lit (.bool false)], args := [d1, d2, d3] }
  | _ => none }
def WotsKeysWrongFalsely : Prop := wotsKeysRow.holds Try.pinned (OpenSpec.ofChange wotsKeysWrong)

/-- 'planchetlaw08.WotsMeets': WHATEVER THE INPUT: true; the input reads as it did. -/
def wotsMeetsSpec : ChangeSpec := { name := "wotsMeets", fn := fun _ => fun
  | [d1, d2, d3, d4] => { results := [.lit (.bool true)], args := [d1, d2, d3, d4] }
  | _ => none }
def wotsMeetsRow : OpenClaim := { program := "ytmbdkaodaaffmaa", sum := "3cbad14050652b2a0d29b869279a978a0ff0b8d27f8b559531afe8ef56e0f120", func := "planchet/planchetlaw08.WotsMeets", spec := "wotsMeets", unfollowed := true, recurses := true, apart := false }
def WotsMeetsSaid : Prop := wotsMeetsRow.holds Try.pinned (OpenSpec.ofChange wotsMeetsSpec)

/-- ITS FALSE NEIGHBOUR: 'it returns false'. Refute it at one input. -/
def wotsMeetsWrong : ChangeSpec := { name := "wotsMeets", fn := fun _ => fun
  | [d1, d2, d3, d4] => { results := [.lit (.bool false)], args := [d1, d2, d3, d4] }
  | _ => none }
def WotsMeetsWrongFalsely : Prop := wotsMeetsRow.holds Try.pinned (OpenSpec.ofChange wotsMeetsWrong)

/-- 'planchetlaw10.TreeBuilds': WHATEVER THE INPUT: true; the input reads as it did. -/
def treeBuildsSpec : ChangeSpec := { name := "treeBuilds", fn := fun _ => fun
  | [d1, d2, d3, d4, d5] => { results := [.lit (.bool true)], args := [d1, d2, d3, d4, d5] }
  | _ => none }
def treeBuildsRow : OpenClaim := { program := "ytmbdkaodaaffmaa", sum := "3cbad14050652b2a0d29b869279a978a0ff0b8d27f8b559531afe8ef56e0f120", func := "planchet/planchetlaw10.TreeBuilds", spec := "treeBuilds", unfollowed := true, recurses := true, apart := false }
def TreeBuildsSaid : Prop := treeBuildsRow.holds Try.pinned (OpenSpec.ofChange treeBuildsSpec)

/-- ITS FALSE NEIGHBOUR: 'it returns false'. Refute it at one input. -/
def treeBuildsWrong : ChangeSpec := { name := "treeBuilds", fn := fun _ => fun
  | [d1, d2, d3, d4, d5] => { results := [.lit (.bool false)], args := [d1, d2, d3, d4, d5] }
  | _ => none }
def TreeBuildsWrongFalsely : Prop := treeBuildsRow.holds Try.pinned (OpenSpec.ofChange treeBuildsWrong)

/-- 'planchetlaw10.TreeClimbs': WHATEVER THE INPUT: true; the input reads as it did. -/
def treeClimbsSpec : ChangeSpec := { name := "treeClimbs", fn := fun _ => fun
  | [d1, d2, d3, d4, d5, d6] => { results := [.lit (.bool true)], args := [d1, d2, d3, d4, d5, d6] }
  | _ => none }
def treeClimbsRow : OpenClaim := { program := "ytmbdkaodaaffmaa", sum := "3cbad14050652b2a0d29b869279a978a0ff0b8d27f8b559531afe8ef56e0f120", func := "planchet/planchetlaw10.TreeClimbs", spec := "treeClimbs", unfollowed := true, recurses := true, apart := false }
def TreeClimbsSaid : Prop := treeClimbsRow.holds Try.pinned (OpenSpec.ofChange treeClimbsSpec)

/-- ITS FALSE NEIGHBOUR: 'it returns false'. Refute it at one input. -/
def treeClimbsWrong : ChangeSpec := { name := "treeClimbs", fn := fun _ => fun
  | [d1, d2, d3, d4, d5, d6] => { results := [.lit (.bool false)], args := [d1, d2, d3, d4, d5, d6] }
  | _ => none }
def TreeClimbsWrongFalsely : Prop := treeClimbsRow.holds Try.pinned (OpenSpec.ofChange treeClimbsWrong)

/-- 'planchetlaw10.TreeMeets': WHATEVER THE INPUT: true; the input reads as it did. -/
def treeMeetsSpec : ChangeSpec := { name := "treeMeets", fn := fun _ => fun
  | [d1, d2, d3, d4, d5, d6] => { results := [.lit (.bool true)], args := [d1, d2, d3, d4, d5, d6] }
  | _ => none }
def treeMeetsRow : OpenClaim := { program := "ytmbdkaodaaffmaa", sum := "3cbad14050652b2a0d29b869279a978a0ff0b8d27f8b559531afe8ef56e0f120", func := "planchet/planchetlaw10.TreeMeets", spec := "treeMeets", unfollowed := true, recurses := true, apart := false }
def TreeMeetsSaid : Prop := treeMeetsRow.holds Try.pinned (OpenSpec.ofChange treeMeetsSpec)

/-- ITS FALSE NEIGHBOUR: 'it returns false'. Refute it at one input. -/
def treeMeetsWrong : ChangeSpec := { name := "treeMeets", fn := fun _ => fun
  | [d1, d2, d3, d4, d5, d6] => { results := [.lit (.bool false)], args := [d1, d2, d3, d4, d5, d6] }
  | _ => none }
def TreeMeetsWrongFalsely : Prop := treeMeetsRow.holds Try.pinned (OpenSpec.ofChange treeMeetsWrong)

/-- 'planchetlaw11.HyperKeys': WHATEVER THE INPUT: true; the input reads as it did. -/
def hyperKeysSpec : ChangeSpec := { name := "hyperKeys", fn := fun _ => fun
  | [d1, d2] => { results := [.lit (.bool true)], args := [d1, d2] }
  | _ => none }
def hyperKeysRow : OpenClaim := { program := "ytmbdkaodaaffmaa", sum := "3cbad14050652b2a0d29b869279a978a0ff0b8d27f8b559531afe8ef56e0f120", func := "planchet/planchetlaw11.HyperKeys", spec := "hyperKeys", unfollowed := true, recurses := true, apart := false }
def HyperKeysSaid : Prop := hyperKeysRow.holds Try.pinned (OpenSpec.ofChange hyperKeysSpec)

/-- ITS FALSE NEIGHBOUR: 'it returns false'. Refute it at one input. -/
def hyperKeysWrong : ChangeSpec := { name := "hyperKeys", fn := fun _ => fun
  | [d1, d2] => { results := [.lit (.bool false)], args := [d1, d2] }
  | _ => none }
def HyperKeysWrongFalsely : Prop := hyperKeysRow.holds Try.pinned (OpenSpec.ofChange hyperKeysWrong)

/- THE SECOND FORM. 'bulk': how many values and letters a reading holds, each counted each time it is reached (what is shared counts as often as it is met; a slice's spare places count too). A statement '..UptoSaid' is the law's where the arguments, and the package variables that the reading takes, are together of bulk at most 1048576: NARROWER than '..Said'. Prove '..Said' where nothing that the law and all that it calls make is longer than what came in: it says more and counts as full. Else prove '..UptoSaid'. A law counts once. -/
mutual
def uptoBulk {H : Type} : DataW H → Nat
  | .lit (.string bytes) => bytes.length + 1
  | .lit _ => 1
  | .nil => 1
  | .ptr d => uptoBulk d + 1
  | .slice elems spare => uptoBulkAll elems + uptoBulkAll spare + 1
  | .agg parts => uptoBulkAll parts + 1
  | .iface _ d => uptoBulk d + 1
  | .map entries => uptoBulkEntries entries + 1
  | .held _ => 1
def uptoBulkAll {H : Type} : List (DataW H) → Nat
  | [] => 0
  | d :: r => uptoBulk d + uptoBulkAll r
def uptoBulkEntries {H : Type} : List (Lit × DataW H) → Nat
  | [] => 0
  | x :: r => uptoBulkEntry x + uptoBulkEntries r
def uptoBulkEntry {H : Type} : Lit × DataW H → Nat
  | (.string bytes, d) => bytes.length + uptoBulk d + 1
  | (_, d) => uptoBulk d + 1
 end
def uptoSmall : (H : Type) → List (DataW H) → Bool := fun _ ds => decide (uptoBulkAll ds ≤ 1048576)
def OpenSpec.upto (s : _root_.Go.ChangeSpec) : _root_.Go.OpenSpec := { _root_.Go.OpenSpec.ofChange s with cond := some uptoSmall }

/-- 'planchetlaw09.LtreeMakes', WHERE WHAT IT READS IS OF BULK AT MOST 1048576: true; the input reads as it did. -/
def ltreeMakesUptoRow : OpenClaim := { program := "ytmbdkaodaaffmaa", sum := "3cbad14050652b2a0d29b869279a978a0ff0b8d27f8b559531afe8ef56e0f120", func := "planchet/planchetlaw09.LtreeMakes", spec := "ltreeMakes", recurses := true, apart := false, narrowed := true }
def LtreeMakesUptoSaid : Prop := ltreeMakesUptoRow.holds Try.pinned (OpenSpec.upto ltreeMakesSpec)

/-- 'planchetlaw09.LtreeFew', WHERE WHAT IT READS IS OF BULK AT MOST 1048576: true; the input reads as it did. -/
def ltreeFewUptoRow : OpenClaim := { program := "ytmbdkaodaaffmaa", sum := "3cbad14050652b2a0d29b869279a978a0ff0b8d27f8b559531afe8ef56e0f120", func := "planchet/planchetlaw09.LtreeFew", spec := "ltreeFew", recurses := true, apart := false, narrowed := true }
def LtreeFewUptoSaid : Prop := ltreeFewUptoRow.holds Try.pinned (OpenSpec.upto ltreeFewSpec)

/-- 'planchetlaw16.CommitIndices', WHERE WHAT IT READS IS OF BULK AT MOST 1048576: true; the input reads as it did. -/
def commitIndicesUptoRow : OpenClaim := { program := "ytmbdkaodaaffmaa", sum := "3cbad14050652b2a0d29b869279a978a0ff0b8d27f8b559531afe8ef56e0f120", func := "planchet/planchetlaw16.CommitIndices", spec := "commitIndices", unfollowed := true, recurses := true, apart := false, narrowed := true }
def CommitIndicesUptoSaid : Prop := commitIndicesUptoRow.holds Try.pinned (OpenSpec.upto commitIndicesSpec)

/-- 'planchetlaw16.CommitValues', WHERE WHAT IT READS IS OF BULK AT MOST 1048576: true; the input reads as it did. -/
def commitValuesUptoRow : OpenClaim := { program := "ytmbdkaodaaffmaa", sum := "3cbad14050652b2a0d29b869279a978a0ff0b8d27f8b559531afe8ef56e0f120", func := "planchet/planchetlaw16.CommitValues", spec := "commitValues", unfollowed := true, recurses := true, apart := false, narrowed := true }
def CommitValuesUptoSaid : Prop := commitValuesUptoRow.holds Try.pinned (OpenSpec.upto commitValuesSpec)

/-- 'planchetlaw08.WotsSigns', WHERE WHAT IT READS IS OF BULK AT MOST 1048576: true; the input reads as it did. -/
def wotsSignsUptoRow : OpenClaim := { program := "ytmbdkaodaaffmaa", sum := "3cbad14050652b2a0d29b869279a978a0ff0b8d27f8b559531afe8ef56e0f120", func := "planchet/planchetlaw08.WotsSigns", spec := "wotsSigns", unfollowed := true, recurses := true, apart := false, narrowed := true }
def WotsSignsUptoSaid : Prop := wotsSignsUptoRow.holds Try.pinned (OpenSpec.upto wotsSignsSpec)

/-- 'planchetlaw08.WotsLeads', WHERE WHAT IT READS IS OF BULK AT MOST 1048576: true; the input reads as it did. -/
def wotsLeadsUptoRow : OpenClaim := { program := "ytmbdkaodaaffmaa", sum := "3cbad14050652b2a0d29b869279a978a0ff0b8d27f8b559531afe8ef56e0f120", func := "planchet/planchetlaw08.WotsLeads", spec := "wotsLeads", unfollowed := true, recurses := true, apart := false, narrowed := true }
def WotsLeadsUptoSaid : Prop := wotsLeadsUptoRow.holds Try.pinned (OpenSpec.upto wotsLeadsSpec)

/-- 'planchetlaw08.WotsKeys', WHERE WHAT IT READS IS OF BULK AT MOST 1048576: true; the input reads as it did. -/
def wotsKeysUptoRow : OpenClaim := { program := "ytmbdkaodaaffmaa", sum := "3cbad14050652b2a0d29b869279a978a0ff0b8d27f8b559531afe8ef56e0f120", func := "planchet/planchetlaw08.WotsKeys", spec := "wotsKeys", unfollowed := true, recurses := true, apart := false, narrowed := true }
def WotsKeysUptoSaid : Prop := wotsKeysUptoRow.holds Try.pinned (OpenSpec.upto wotsKeysSpec)

/-- 'planchetlaw08.WotsMeets', WHERE WHAT IT READS IS OF BULK AT MOST 1048576: true; the input reads as it did. -/
def wotsMeetsUptoRow : OpenClaim := { program := "ytmbdkaodaaffmaa", sum := "3cbad14050652b2a0d29b869279a978a0ff0b8d27f8b559531afe8ef56e0f120", func := "planchet/planchetlaw08.WotsMeets", spec := "wotsMeets", unfollowed := true, recurses := true, apart := false, narrowed := true }
def WotsMeetsUptoSaid : Prop := wotsMeetsUptoRow.holds Try.pinned (OpenSpec.upto wotsMeetsSpec)

/-- 'planchetlaw10.TreeBuilds', WHERE WHAT IT READS IS OF BULK AT MOST 1048576: true; the input reads as it did. -/
def treeBuildsUptoRow : OpenClaim := { program := "ytmbdkaodaaffmaa", sum := "3cbad14050652b2a0d29b869279a978a0ff0b8d27f8b559531afe8ef56e0f120", func := "planchet/planchetlaw10.TreeBuilds", spec := "treeBuilds", unfollowed := true, recurses := true, apart := false, narrowed := true }
def TreeBuildsUptoSaid : Prop := treeBuildsUptoRow.holds Try.pinned (OpenSpec.upto treeBuildsSpec)

/-- 'planchetlaw10.TreeClimbs', WHERE WHAT IT READS IS OF BULK AT MOST 1048576: true; the input reads as it did. -/
def treeClimbsUptoRow : OpenClaim := { program := "ytmbdkaodaaffmaa", sum := "3cbad14050652b2a0d29b869279a978a0ff0b8d27f8b559531afe8ef56e0f120", func := "planchet/planchetlaw10.TreeClimbs", spec := "treeClimbs", unfollowed := true, recurses := true, apart := false, narrowed := true }
def TreeClimbsUptoSaid : Prop := treeClimbsUptoRow.holds Try.pinned (OpenSpec.upto treeClimbsSpec)

/-- 'planchetlaw10.TreeMeets', WHERE WHAT IT READS IS OF BULK AT MOST 1048576: true; the input reads as it did. -/
def treeMeetsUptoRow : OpenClaim := { program := "ytmbdkaodaaffmaa", sum := "3cbad14050652b2a0d29b869279a978a0ff0b8d27f8b559531afe8ef56e0f120", func := "planchet/planchetlaw10.TreeMeets", spec := "treeMeets", unfollowed := true, recurses := true, apart := false, narrowed := true }
def TreeMeetsUptoSaid : Prop := treeMeetsUptoRow.holds Try.pinned (OpenSpec.upto treeMeetsSpec)

/-- 'planchetlaw11.HyperKeys', WHERE WHAT IT READS IS OF BULK AT MOST 1048576: true; the input reads as it did. -/
def hyperKeysUptoRow : OpenClaim := { program := "ytmbdkaodaaffmaa", sum := "3cbad14050652b2a0d29b869279a978a0ff0b8d27f8b559531afe8ef56e0f120", func := "planchet/planchetlaw11.HyperKeys", spec := "hyperKeys", unfollowed := true, recurses := true, apart := false, narrowed := true }
def HyperKeysUptoSaid : Prop := hyperKeysUptoRow.holds Try.pinned (OpenSpec.upto hyperKeysSpec)

end Rows
end Go.Proofs.Ytmbdkaodaaffmaa
