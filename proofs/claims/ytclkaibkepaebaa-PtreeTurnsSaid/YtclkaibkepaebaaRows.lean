/-
  No cell of these rows narrows 'for every input' (looked for: loops, veiled, ifaces, maps, wideKeys, modest, calm, conditions, laid).
  DERIVED. THE GIVEN ROWS OF THIS SEAT. 12 by the template 'for every input the law returns true; each argument reads behind the call as it read before'; 0 by the template 'total and deterministic' (their statements: YtclkaibkepaebaaTotals.lean).
  GIVEN WITH THE SEED: the statements are not yours to turn. If you find one false, say at which input.
  Laid BY PROGRAM, IN A SANDBOX (cutbox-rows.mjs): the forced cells as the released guide's own fill.sh prints them over the translation 956f87d6b45f71d2… (all of the seat's roots in one cut). By AI agents, Wed Nov 11 2026. No macro, syntax, notation, axiom, sorry.
-/
import Derived.Test.YtclkaibkepaebaaChecked
import GoSem.Claim
import GoSem.ClaimJoined
import GoSem.ClaimMapViews
import Derived.JoinedTies
import Derived.KernelRfl
namespace Go.Proofs.Ytclkaibkepaebaa
/- THE CELL 'sum', in the pinned program and in every row, IS THE sha256 OF THE DUMP (.gsa) THAT YtclkaibkepaebaaProg.lean LOADS. Nothing in Lean hashes anything: it is a label: what it is worth is what the hold of that sum in a sandbox is worth. -/
noncomputable def Try.pinned : Pinned := { name := "ytclkaibkepaebaa", sum := "956f87d6b45f71d2c56e36ceee44be317b87f2bd2765efc84f318c2d9f8baf79", checked := Try.checked }
namespace Rows
def none {H : Type} : Left H := { results := [], args := [] }

/-- 'planchetlaw11.HyperSigns': WHATEVER THE INPUT: true; the input reads as it did. -/
def hyperSignsSpec : ChangeSpec := { name := "hyperSigns", fn := fun _ => fun
  | [d1, d2, d3, d4] => { results := [.lit (.bool true)], args := [d1, d2, d3, d4] }
  | _ => none }
def hyperSignsRow : OpenClaim := { program := "ytclkaibkepaebaa", sum := "956f87d6b45f71d2c56e36ceee44be317b87f2bd2765efc84f318c2d9f8baf79", func := "planchet/planchetlaw11.HyperSigns", spec := "hyperSigns", unfollowed := true, recurses := true, plainKeys := false, apart := false }
def HyperSignsSaid : Prop := hyperSignsRow.holds Try.pinned (OpenSpec.ofChange hyperSignsSpec)

/-- ITS FALSE NEIGHBOUR: 'it returns false'. Refute it at one input. -/
def hyperSignsWrong : ChangeSpec := { name := "hyperSigns", fn := fun _ => fun
  | [d1, d2, d3, d4] => { results := [.lit (.bool false)], args := [d1, d2, d3, d4] }
  | _ => none }
def HyperSignsWrongFalsely : Prop := hyperSignsRow.holds Try.pinned (OpenSpec.ofChange hyperSignsWrong)

/-- 'planchetlaw11.HyperVerifies': WHATEVER THE INPUT: true; the input reads as it did. -/
def hyperVerifiesSpec : ChangeSpec := { name := "hyperVerifies", fn := fun _ => fun
  | [d1, d2, d3] => { results := [.lit (.bool true)], args := [d1, d2, d3] }
  | _ => none }
def hyperVerifiesRow : OpenClaim := { program := "ytclkaibkepaebaa", sum := "956f87d6b45f71d2c56e36ceee44be317b87f2bd2765efc84f318c2d9f8baf79", func := "planchet/planchetlaw11.HyperVerifies", spec := "hyperVerifies", unfollowed := true, recurses := true, plainKeys := false, apart := false }
def HyperVerifiesSaid : Prop := hyperVerifiesRow.holds Try.pinned (OpenSpec.ofChange hyperVerifiesSpec)

/-- ITS FALSE NEIGHBOUR: 'it returns false'. Refute it at one input. -/
def hyperVerifiesWrong : ChangeSpec := { name := "hyperVerifies", fn := fun _ => fun
  | [d1, d2, d3] => { results := [.lit (.bool false)], args := [d1, d2, d3] }
  | _ => none }
def HyperVerifiesWrongFalsely : Prop := hyperVerifiesRow.holds Try.pinned (OpenSpec.ofChange hyperVerifiesWrong)

/-- 'planchetlaw11.HyperMeets': WHATEVER THE INPUT: true; the input reads as it did. -/
def hyperMeetsSpec : ChangeSpec := { name := "hyperMeets", fn := fun _ => fun
  | [d1, d2, d3, d4] => { results := [.lit (.bool true)], args := [d1, d2, d3, d4] }
  | _ => none }
def hyperMeetsRow : OpenClaim := { program := "ytclkaibkepaebaa", sum := "956f87d6b45f71d2c56e36ceee44be317b87f2bd2765efc84f318c2d9f8baf79", func := "planchet/planchetlaw11.HyperMeets", spec := "hyperMeets", unfollowed := true, recurses := true, plainKeys := false, apart := false }
def HyperMeetsSaid : Prop := hyperMeetsRow.holds Try.pinned (OpenSpec.ofChange hyperMeetsSpec)

/-- ITS FALSE NEIGHBOUR: 'it returns false'. Refute it at one input. -/
def hyperMeetsWrong : ChangeSpec := { name := "hyperMeets", fn := fun _ => fun
  | [d1, d2, d3, d4] => { results := [.lit (.bool false)], args := [d1, d2, d3, d4] }
  | _ => none }
def HyperMeetsWrongFalsely : Prop := hyperMeetsRow.holds Try.pinned (OpenSpec.ofChange hyperMeetsWrong)

/-- 'planchetlaw19.LogRoots': WHATEVER THE INPUT: true; the input reads as it did. -/
def logRootsSpec : ChangeSpec := { name := "logRoots", fn := fun _ => fun
  | [d1, d2, d3] => { results := [.lit (.bool true)], args := [d1, d2, d3] }
  | _ => none }
def logRootsRow : OpenClaim := { program := "ytclkaibkepaebaa", sum := "956f87d6b45f71d2c56e36ceee44be317b87f2bd2765efc84f318c2d9f8baf79", func := "planchet/planchetlaw19.LogRoots", spec := "logRoots", recurses := true, plainKeys := false, apart := false }
def LogRootsSaid : Prop := logRootsRow.holds Try.pinned (OpenSpec.ofChange logRootsSpec)

/-- ITS FALSE NEIGHBOUR: 'it returns false'. Refute it at one input. -/
def logRootsWrong : ChangeSpec := { name := "logRoots", fn := fun _ => fun
  | [d1, d2, d3] => { results := [.lit (.bool false)], args := [d1, d2, d3] }
  | _ => none }
def LogRootsWrongFalsely : Prop := logRootsRow.holds Try.pinned (OpenSpec.ofChange logRootsWrong)

/-- 'planchetlaw19.LogChecks': WHATEVER THE INPUT: true; the input reads as it did. -/
def logChecksSpec : ChangeSpec := { name := "logChecks", fn := fun _ => fun
  | [d1, d2, d3, d4, d5, d6] => { results := [.lit (.bool true)], args := [d1, d2, d3, d4, d5, d6] }
  | _ => none }
def logChecksRow : OpenClaim := { program := "ytclkaibkepaebaa", sum := "956f87d6b45f71d2c56e36ceee44be317b87f2bd2765efc84f318c2d9f8baf79", func := "planchet/planchetlaw19.LogChecks", spec := "logChecks", unfollowed := true, recurses := true, plainKeys := false, apart := false }
def LogChecksSaid : Prop := logChecksRow.holds Try.pinned (OpenSpec.ofChange logChecksSpec)

/-- ITS FALSE NEIGHBOUR: 'it returns false'. Refute it at one input. -/
def logChecksWrong : ChangeSpec := { name := "logChecks", fn := fun _ => fun
  | [d1, d2, d3, d4, d5, d6] => { results := [.lit (.bool false)], args := [d1, d2, d3, d4, d5, d6] }
  | _ => none }
def LogChecksWrongFalsely : Prop := logChecksRow.holds Try.pinned (OpenSpec.ofChange logChecksWrong)

/-- 'planchetlaw19.LogShows': WHATEVER THE INPUT: true; the input reads as it did. -/
def logShowsSpec : ChangeSpec := { name := "logShows", fn := fun _ => fun
  | [d1, d2, d3] => { results := [.lit (.bool true)], args := [d1, d2, d3] }
  | _ => none }
def logShowsRow : OpenClaim := { program := "ytclkaibkepaebaa", sum := "956f87d6b45f71d2c56e36ceee44be317b87f2bd2765efc84f318c2d9f8baf79", func := "planchet/planchetlaw19.LogShows", spec := "logShows", unfollowed := true, recurses := true, plainKeys := false, apart := false }
def LogShowsSaid : Prop := logShowsRow.holds Try.pinned (OpenSpec.ofChange logShowsSpec)

/-- ITS FALSE NEIGHBOUR: 'it returns false'. Refute it at one input. -/
def logShowsWrong : ChangeSpec := { name := "logShows", fn := fun _ => fun
  | [d1, d2, d3] => { results := [.lit (.bool false)], args := [d1, d2, d3] }
  | _ => none }
def LogShowsWrongFalsely : Prop := logShowsRow.holds Try.pinned (OpenSpec.ofChange logShowsWrong)

/-- 'planchetlaw17.PtreeNodes': WHATEVER THE INPUT: true; the input reads as it did. -/
def ptreeNodesSpec : ChangeSpec := { name := "ptreeNodes", fn := fun _ => fun
  | [d1, d2] => { results := [.lit (.bool true)], args := [d1, d2] }
  | _ => none }
def ptreeNodesRow : OpenClaim := { program := "ytclkaibkepaebaa", sum := "956f87d6b45f71d2c56e36ceee44be317b87f2bd2765efc84f318c2d9f8baf79", func := "planchet/planchetlaw17.PtreeNodes", spec := "ptreeNodes", inPlace := ["internal/bytealg.Compare"], unfollowed := true, recurses := true, plainKeys := false, apart := false }
def PtreeNodesSaid : Prop := ptreeNodesRow.holds Try.pinned (OpenSpec.ofChange ptreeNodesSpec)

/-- ITS FALSE NEIGHBOUR: 'it returns false'. Refute it at one input. -/
def ptreeNodesWrong : ChangeSpec := { name := "ptreeNodes", fn := fun _ => fun
  | [d1, d2] => { results := [.lit (.bool false)], args := [d1, d2] }
  | _ => none }
def PtreeNodesWrongFalsely : Prop := ptreeNodesRow.holds Try.pinned (OpenSpec.ofChange ptreeNodesWrong)

/-- 'planchetlaw17.PtreeRoots': WHATEVER THE INPUT: true; the input reads as it did. -/
def ptreeRootsSpec : ChangeSpec := { name := "ptreeRoots", fn := fun _ => fun
  | [d] => { results := [.lit (.bool true)], args := [d] }
  | _ => none }
def ptreeRootsRow : OpenClaim := { program := "ytclkaibkepaebaa", sum := "956f87d6b45f71d2c56e36ceee44be317b87f2bd2765efc84f318c2d9f8baf79", func := "planchet/planchetlaw17.PtreeRoots", spec := "ptreeRoots", inPlace := ["internal/bytealg.Compare"], unfollowed := true, recurses := true, plainKeys := false, apart := false }
def PtreeRootsSaid : Prop := ptreeRootsRow.holds Try.pinned (OpenSpec.ofChange ptreeRootsSpec)

/-- ITS FALSE NEIGHBOUR: 'it returns false'. Refute it at one input. -/
def ptreeRootsWrong : ChangeSpec := { name := "ptreeRoots", fn := fun _ => fun
  | [d] => { results := [.lit (.bool false)], args := [d] }
  | _ => none }
def PtreeRootsWrongFalsely : Prop := ptreeRootsRow.holds Try.pinned (OpenSpec.ofChange ptreeRootsWrong)

/-- 'planchetlaw17.PtreeProves': WHATEVER THE INPUT: true; the input reads as it did. -/
def ptreeProvesSpec : ChangeSpec := { name := "ptreeProves", fn := fun _ => fun
  | [d1, d2] => { results := [.lit (.bool true)], args := [d1, d2] }
  | _ => none }
def ptreeProvesRow : OpenClaim := { program := "ytclkaibkepaebaa", sum := "956f87d6b45f71d2c56e36ceee44be317b87f2bd2765efc84f318c2d9f8baf79", func := "planchet/planchetlaw17.PtreeProves", spec := "ptreeProves", inPlace := ["internal/bytealg.Compare"], unfollowed := true, recurses := true, plainKeys := false, apart := false }
def PtreeProvesSaid : Prop := ptreeProvesRow.holds Try.pinned (OpenSpec.ofChange ptreeProvesSpec)

/-- ITS FALSE NEIGHBOUR: 'it returns false'. Refute it at one input. -/
def ptreeProvesWrong : ChangeSpec := { name := "ptreeProves", fn := fun _ => fun
  | [d1, d2] => { results := [.lit (.bool false)], args := [d1, d2] }
  | _ => none }
def PtreeProvesWrongFalsely : Prop := ptreeProvesRow.holds Try.pinned (OpenSpec.ofChange ptreeProvesWrong)

/-- 'planchetlaw17.PtreeTurns': WHATEVER THE INPUT: true; the input reads as it did. -/
def ptreeTurnsSpec : ChangeSpec := { name := "ptreeTurns", fn := fun _ => fun
  | [d1, d2, d3] => { results := [.lit (.bool true)], args := [d1, d2, d3] }
  | _ => none }
def ptreeTurnsRow : OpenClaim := { program := "ytclkaibkepaebaa", sum := "956f87d6b45f71d2c56e36ceee44be317b87f2bd2765efc84f318c2d9f8baf79", func := "planchet/planchetlaw17.PtreeTurns", spec := "ptreeTurns", inPlace := ["internal/bytealg.Compare"], unfollowed := true, recurses := true, plainKeys := false, apart := false }
def PtreeTurnsSaid : Prop := ptreeTurnsRow.holds Try.pinned (OpenSpec.ofChange ptreeTurnsSpec)

/-- ITS FALSE NEIGHBOUR: 'it returns false'. Refute it at one input. -/
def ptreeTurnsWrong : ChangeSpec := { name := "ptreeTurns", fn := fun _ => fun
  | [d1, d2, d3] => { results := [.lit (.bool false)], args := [d1, d2, d3] }
  | _ => none }
def PtreeTurnsWrongFalsely : Prop := ptreeTurnsRow.holds Try.pinned (OpenSpec.ofChange ptreeTurnsWrong)

/-- 'planchetlaw18.ProofClimbs': WHATEVER THE INPUT: true; the input reads as it did. -/
def proofClimbsSpec : ChangeSpec := { name := "proofClimbs", fn := fun _ => fun
  | [d1, d2, d3, d4] => { results := [.lit (.bool true)], args := [d1, d2, d3, d4] }
  | _ => none }
def proofClimbsRow : OpenClaim := { program := "ytclkaibkepaebaa", sum := "956f87d6b45f71d2c56e36ceee44be317b87f2bd2765efc84f318c2d9f8baf79", func := "planchet/planchetlaw18.ProofClimbs", spec := "proofClimbs", inPlace := ["internal/bytealg.Compare"], unfollowed := true, recurses := true, plainKeys := false, apart := false }
def ProofClimbsSaid : Prop := proofClimbsRow.holds Try.pinned (OpenSpec.ofChange proofClimbsSpec)

/-- ITS FALSE NEIGHBOUR: 'it returns false'. Refute it at one input. -/
def proofClimbsWrong : ChangeSpec := { name := "proofClimbs", fn := fun _ => fun
  | [d1, d2, d3, d4] => { results := [.lit (.bool false)], args := [d1, d2, d3, d4] }
  | _ => none }
def ProofClimbsWrongFalsely : Prop := proofClimbsRow.holds Try.pinned (OpenSpec.ofChange proofClimbsWrong)

/-- 'planchetlaw18.ProofShows': WHATEVER THE INPUT: true; the input reads as it did. -/
def proofShowsSpec : ChangeSpec := { name := "proofShows", fn := fun _ => fun
  | [d1, d2] => { results := [.lit (.bool true)], args := [d1, d2] }
  | _ => none }
def proofShowsRow : OpenClaim := { program := "ytclkaibkepaebaa", sum := "956f87d6b45f71d2c56e36ceee44be317b87f2bd2765efc84f318c2d9f8baf79", func := "planchet/planchetlaw18.ProofShows", spec := "proofShows", inPlace := ["internal/bytealg.Compare"], unfollowed := true, recurses := true, plainKeys := false, apart := false }
def ProofShowsSaid : Prop := proofShowsRow.holds Try.pinned (OpenSpec.ofChange proofShowsSpec)

/-- ITS FALSE NEIGHBOUR: 'it returns false'. Refute it at one input. -/
def proofShowsWrong : ChangeSpec := { name := "proofShows", fn := fun _ => fun
  | [d1, d2] => { results := [.lit (.bool false)], args := [d1, d2] }
  | _ => none }
def ProofShowsWrongFalsely : Prop := proofShowsRow.holds Try.pinned (OpenSpec.ofChange proofShowsWrong)

/- THE SECOND FORM. 'bulk': how many values and letters a reading holds, each counted each time it is reached (what is shared counts as often as it is met; a slice's spare places count too). A statement '..UptoSaid' is the law's where the arguments, and the package variables that the reading takes, are together of bulk at most 1048576: NARROWER than '..Said'. Prove '..Said' where nothing that the law and all that it calls make is longer than what came in: it says more and counts as full. Else prove '..UptoSaid'. A law counts once. -/
mutual
def uptoBulk {H : Type} : DataW H → Nat
  | .lit (.string bytes) => bytes.length + 1
  | .lit _ => 1
  | .nil => 1
  | .ptr d => uptoBulk d + 1
  | .slice elems spare => uptoBulkAll elems + uptoBulkAll spare + 1
  | .agg parts => uptoBulkAll parts + 1
  | .iface _ d => uptoBulk d + 1
  | .map entries => uptoBulkEntries entries + 1
  | .held _ => 1
def uptoBulkAll {H : Type} : List (DataW H) → Nat
  | [] => 0
  | d :: r => uptoBulk d + uptoBulkAll r
def uptoBulkEntries {H : Type} : List (Lit × DataW H) → Nat
  | [] => 0
  | x :: r => uptoBulkEntry x + uptoBulkEntries r
def uptoBulkEntry {H : Type} : Lit × DataW H → Nat
  | (.string bytes, d) => bytes.length + uptoBulk d + 1
  | (_, d) => uptoBulk d + 1
 end
def uptoSmall : (H : Type) → List (DataW H) → Bool := fun _ ds => decide (uptoBulkAll ds ≤ 1048576)
def OpenSpec.upto (s : _root_.Go.ChangeSpec) : _root_.Go.OpenSpec := { _root_.Go.OpenSpec.ofChange s with cond := some uptoSmall }

/-- 'planchetlaw11.HyperSigns', WHERE WHAT IT READS IS OF BULK AT MOST 1048576: true; the input reads as it did. -/
def hyperSignsUptoRow : OpenClaim := { program := "ytclkaibkepaebaa", sum := "956f87d6b45f71d2c56e36ceee44be317b87f2bd2765efc84f318c2d9f8baf79", func := "planchet/planchetlaw11.HyperSigns", spec := "hyperSigns", unfollowed := true, recurses := true, plainKeys := false, apart := false, narrowed := true }
def HyperSignsUptoSaid : Prop := hyperSignsUptoRow.holds Try.pinned (OpenSpec.upto hyperSignsSpec)

/-- 'planchetlaw11.HyperVerifies', WHERE WHAT IT READS IS OF BULK AT MOST 1048576: true; the input reads as it did. -/
def hyperVerifiesUptoRow : OpenClaim := { program := "ytclkaibkepaebaa", sum := "956f87d6b45f71d2c56e36ceee44be317b87f2bd2765efc84f318c2d9f8baf79", func := "planchet/planchetlaw11.HyperVerifies", spec := "hyperVerifies", unfollowed := true, recurses := true, plainKeys := false, apart := false, narrowed := true }
def HyperVerifiesUptoSaid : Prop := hyperVerifiesUptoRow.holds Try.pinned (OpenSpec.upto hyperVerifiesSpec)

/-- 'planchetlaw11.HyperMeets', WHERE WHAT IT READS IS OF BULK AT MOST 1048576: true; the input reads as it did. -/
def hyperMeetsUptoRow : OpenClaim := { program := "ytclkaibkepaebaa", sum := "956f87d6b45f71d2c56e36ceee44be317b87f2bd2765efc84f318c2d9f8baf79", func := "planchet/planchetlaw11.HyperMeets", spec := "hyperMeets", unfollowed := true, recurses := true, plainKeys := false, apart := false, narrowed := true }
def HyperMeetsUptoSaid : Prop := hyperMeetsUptoRow.holds Try.pinned (OpenSpec.upto hyperMeetsSpec)

/-- 'planchetlaw19.LogRoots', WHERE WHAT IT READS IS OF BULK AT MOST 1048576: true; the input reads as it did. -/
def logRootsUptoRow : OpenClaim := { program := "ytclkaibkepaebaa", sum := "956f87d6b45f71d2c56e36ceee44be317b87f2bd2765efc84f318c2d9f8baf79", func := "planchet/planchetlaw19.LogRoots", spec := "logRoots", recurses := true, plainKeys := false, apart := false, narrowed := true }
def LogRootsUptoSaid : Prop := logRootsUptoRow.holds Try.pinned (OpenSpec.upto logRootsSpec)

/-- 'planchetlaw19.LogChecks', WHERE WHAT IT READS IS OF BULK AT MOST 1048576: true; the input reads as it did. -/
def logChecksUptoRow : OpenClaim := { program := "ytclkaibkepaebaa", sum := "956f87d6b45f71d2c56e36ceee44be317b87f2bd2765efc84f318c2d9f8baf79", func := "planchet/planchetlaw19.LogChecks", spec := "logChecks", unfollowed := true, recurses := true, plainKeys := false, apart := false, narrowed := true }
def LogChecksUptoSaid : Prop := logChecksUptoRow.holds Try.pinned (OpenSpec.upto logChecksSpec)

/-- 'planchetlaw19.LogShows', WHERE WHAT IT READS IS OF BULK AT MOST 1048576: true; the input reads as it did. -/
def logShowsUptoRow : OpenClaim := { program := "ytclkaibkepaebaa", sum := "956f87d6b45f71d2c56e36ceee44be317b87f2bd2765efc84f318c2d9f8baf79", func := "planchet/planchetlaw19.LogShows", spec := "logShows", unfollowed := true, recurses := true, plainKeys := false, apart := false, narrowed := true }
def LogShowsUptoSaid : Prop := logShowsUptoRow.holds Try.pinned (OpenSpec.upto logShowsSpec)

/-- 'planchetlaw17.PtreeNodes', WHERE WHAT IT READS IS OF BULK AT MOST 1048576: true; the input reads as it did. -/
def ptreeNodesUptoRow : OpenClaim := { program := "ytclkaibkepaebaa", sum := "956f87d6b45f71d2c56e36ceee44be317b87f2bd2765efc84f318c2d9f8baf79", func := "planchet/planchetlaw17.PtreeNodes", spec := "ptreeNodes", inPlace := ["internal/bytealg.Compare"], unfollowed := true, recurses := true, plainKeys := false, apart := false, narrowed := true }
def PtreeNodesUptoSaid : Prop := ptreeNodesUptoRow.holds Try.pinned (OpenSpec.upto ptreeNodesSpec)

/-- 'planchetlaw17.PtreeRoots', WHERE WHAT IT READS IS OF BULK AT MOST 1048576: true; the input reads as it did. -/
def ptreeRootsUptoRow : OpenClaim := { program := "ytclkaibkepaebaa", sum := "956f87d6b45f71d2c56e36ceee44be317b87f2bd2765efc84f318c2d9f8baf79", func := "planchet/planchetlaw17.PtreeRoots", spec := "ptreeRoots", inPlace := ["internal/bytealg.Compare"], unfollowed := true, recurses := true, plainKeys := false, apart := false, narrowed := true }
def PtreeRootsUptoSaid : Prop := ptreeRootsUptoRow.holds Try.pinned (OpenSpec.upto ptreeRootsSpec)

/-- 'planchetlaw17.PtreeProves', WHERE WHAT IT READS IS OF BULK AT MOST 1048576: true; the input reads as it did. -/
def ptreeProvesUptoRow : OpenClaim := { program := "ytclkaibkepaebaa", sum := "956f87d6b45f71d2c56e36ceee44be317b87f2bd2765efc84f318c2d9f8baf79", func := "planchet/planchetlaw17.PtreeProves", spec := "ptreeProves", inPlace := ["internal/bytealg.Compare"], unfollowed := true, recurses := true, plainKeys := false, apart := false, narrowed := true }
def PtreeProvesUptoSaid : Prop := ptreeProvesUptoRow.holds Try.pinned (OpenSpec.upto ptreeProvesSpec)

/-- 'planchetlaw17.PtreeTurns', WHERE WHAT IT READS IS OF BULK AT MOST 1048576: true; the input reads as it did. -/
def ptreeTurnsUptoRow : OpenClaim := { program := "ytclkaibkepaebaa", sum := "956f87d6b45f71d2c56e36ceee44be317b87f2bd2765efc84f318c2d9f8baf79", func := "planchet/planchetlaw17.PtreeTurns", spec := "ptreeTurns", inPlace := ["internal/bytealg.Compare"], unfollowed := true, recurses := true, plainKeys := false, apart := false, narrowed := true }
def PtreeTurnsUptoSaid : Prop := ptreeTurnsUptoRow.holds Try.pinned (OpenSpec.upto ptreeTurnsSpec)

/-- 'planchetlaw18.ProofClimbs', WHERE WHAT IT READS IS OF BULK AT MOST 1048576: true; the input reads as it did. -/
def proofClimbsUptoRow : OpenClaim := { program := "ytclkaibkepaebaa", sum := "956f87d6b45f71d2c56e36ceee44be317b87f2bd2765efc84f318c2d9f8baf79", func := "planchet/planchetlaw18.ProofClimbs", spec := "proofClimbs", inPlace := ["internal/bytealg.Compare"], unfollowed := true, recurses := true, plainKeys := false, apart := false, narrowed := true }
def ProofClimbsUptoSaid : Prop := proofClimbsUptoRow.holds Try.pinned (OpenSpec.upto proofClimbsSpec)

/-- 'planchetlaw18.ProofShows', WHERE WHAT IT READS IS OF BULK AT MOST 1048576: true; the input reads as it did. -/
def proofShowsUptoRow : OpenClaim := { program := "ytclkaibkepaebaa", sum := "956f87d6b45f71d2c56e36ceee44be317b87f2bd2765efc84f318c2d9f8baf79", func := "planchet/planchetlaw18.ProofShows", spec := "proofShows", inPlace := ["internal/bytealg.Compare"], unfollowed := true, recurses := true, plainKeys := false, apart := false, narrowed := true }
def ProofShowsUptoSaid : Prop := proofShowsUptoRow.holds Try.pinned (OpenSpec.upto proofShowsSpec)

end Rows
end Go.Proofs.Ytclkaibkepaebaa
