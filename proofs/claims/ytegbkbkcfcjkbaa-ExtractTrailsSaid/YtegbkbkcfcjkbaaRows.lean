/-
  No cell of these rows narrows 'for every input' (looked for: loops, veiled, ifaces, maps, wideKeys, modest, calm, conditions, laid).
  DERIVED. THE GIVEN ROWS OF THIS SEAT. 9 by the template 'for every input the law returns true; each argument reads behind the call as it read before'; 0 by the template 'total and deterministic' (their statements: YtegbkbkcfcjkbaaTotals.lean).
  GIVEN WITH THE SEED: the statements are not yours to turn. If you find one false, say at which input.
  Laid BY PROGRAM, IN A SANDBOX (cutbox-rows.mjs): the forced cells as the released guide's own fill.sh prints them over the translation c81733ad1e4e5d1d… (all of the seat's roots in one cut). By AI agents, Wed Nov 11 2026. No macro, syntax, notation, axiom, sorry.
-/
import Derived.Test.YtegbkbkcfcjkbaaChecked
import GoSem.Claim
import GoSem.ClaimJoined
import GoSem.ClaimMapViews
import Derived.JoinedTies
import Derived.KernelRfl
namespace Go.Proofs.Ytegbkbkcfcjkbaa
/- THE CELL 'sum', in the pinned program and in every row, IS THE sha256 OF THE DUMP (.gsa) THAT YtegbkbkcfcjkbaaProg.lean LOADS. Nothing in Lean hashes anything: it is a label: what it is worth is what the hold of that sum in a sandbox is worth. -/
noncomputable def Try.pinned : Pinned := { name := "ytegbkbkcfcjkbaa", sum := "c81733ad1e4e5d1df5425b6af339a1c69b459457f779f69b049df01bb98dffb1", checked := Try.checked }
namespace Rows
def none {H : Type} : Left H := { results := [], args := [] }

/-- 'planchetlaw12.DiskKeeps': WHATEVER THE INPUT: true; the input reads as it did. -/
def diskKeepsSpec : ChangeSpec := { name := "diskKeeps", fn := fun _ => fun
  | [d1, d2, d3, d4, d5, d6] => { results := [.lit (.bool true)], args := [d1, d2, d3, d4, d5, d6] }
  | _ => none }
def diskKeepsRow : OpenClaim := { program := "ytegbkbkcfcjkbaa", sum := "c81733ad1e4e5d1df5425b6af339a1c69b459457f779f69b049df01bb98dffb1", func := "planchet/planchetlaw12.DiskKeeps", spec := "diskKeeps", apart := false }
def DiskKeepsSaid : Prop := diskKeepsRow.holds Try.pinned (OpenSpec.ofChange diskKeepsSpec)

/-- ITS FALSE NEIGHBOUR: 'it returns false'. Refute it at one input. -/
def diskKeepsWrong : ChangeSpec := { name := "diskKeeps", fn := fun _ => fun
  | [d1, d2, d3, d4, d5, d6] => { results := [.lit (.bool false)], args := [d1, d2, d3, d4, d5, d6] }
  | _ => none }
def DiskKeepsWrongFalsely : Prop := diskKeepsRow.holds Try.pinned (OpenSpec.ofChange diskKeepsWrong)

/-- 'planchetlaw12.DiskPlays': WHATEVER THE INPUT: true; the input reads as it did. -/
def diskPlaysSpec : ChangeSpec := { name := "diskPlays", fn := fun _ => fun
  | [d1, d2, d3] => { results := [.lit (.bool true)], args := [d1, d2, d3] }
  | _ => none }
def diskPlaysRow : OpenClaim := { program := "ytegbkbkcfcjkbaa", sum := "c81733ad1e4e5d1df5425b6af339a1c69b459457f779f69b049df01bb98dffb1", func := "planchet/planchetlaw12.DiskPlays", spec := "diskPlays", apart := false }
def DiskPlaysSaid : Prop := diskPlaysRow.holds Try.pinned (OpenSpec.ofChange diskPlaysSpec)

/-- ITS FALSE NEIGHBOUR: 'it returns false'. Refute it at one input. -/
def diskPlaysWrong : ChangeSpec := { name := "diskPlays", fn := fun _ => fun
  | [d1, d2, d3] => { results := [.lit (.bool false)], args := [d1, d2, d3] }
  | _ => none }
def DiskPlaysWrongFalsely : Prop := diskPlaysRow.holds Try.pinned (OpenSpec.ofChange diskPlaysWrong)

/-- 'planchetlaw23.ExtractParts': WHATEVER THE INPUT: true; the input reads as it did. -/
def extractPartsSpec : ChangeSpec := { name := "extractParts", fn := fun _ => fun
  | [d1, d2] => { results := [.lit (.bool true)], args := [d1, d2] }
  | _ => none }
def extractPartsRow : OpenClaim := { program := "ytegbkbkcfcjkbaa", sum := "c81733ad1e4e5d1df5425b6af339a1c69b459457f779f69b049df01bb98dffb1", func := "planchet/planchetlaw23.ExtractParts", spec := "extractParts", recurses := true, apart := false }
def ExtractPartsSaid : Prop := extractPartsRow.holds Try.pinned (OpenSpec.ofChange extractPartsSpec)

/-- ITS FALSE NEIGHBOUR: 'it returns false'. Refute it at one input. -/
def extractPartsWrong : ChangeSpec := { name := "extractParts", fn := fun _ => fun
  | [d1, d2] => { results := [.lit (.bool false)], args := [d1, d2] }
  | _ => none }
def ExtractPartsWrongFalsely : Prop := extractPartsRow.holds Try.pinned (OpenSpec.ofChange extractPartsWrong)

/-- 'planchetlaw13.SlotsKeep': WHATEVER THE INPUT: true; the input reads as it did. -/
def slotsKeepSpec : ChangeSpec := { name := "slotsKeep", fn := fun _ => fun
  | [d] => { results := [.lit (.bool true)], args := [d] }
  | _ => none }
def slotsKeepRow : OpenClaim := { program := "ytegbkbkcfcjkbaa", sum := "c81733ad1e4e5d1df5425b6af339a1c69b459457f779f69b049df01bb98dffb1", func := "planchet/planchetlaw13.SlotsKeep", spec := "slotsKeep", unfollowed := true, recurses := true, apart := false }
def SlotsKeepSaid : Prop := slotsKeepRow.holds Try.pinned (OpenSpec.ofChange slotsKeepSpec)

/-- ITS FALSE NEIGHBOUR: 'it returns false'. Refute it at one input. -/
def slotsKeepWrong : ChangeSpec := { name := "slotsKeep", fn := fun _ => fun
  | [d] => { results := [.lit (.bool false)], args := [d] }
  | _ => none }
def SlotsKeepWrongFalsely : Prop := slotsKeepRow.holds Try.pinned (OpenSpec.ofChange slotsKeepWrong)

/-- 'planchetlaw23.ExtractValues': WHATEVER THE INPUT: true; the input reads as it did. -/
def extractValuesSpec : ChangeSpec := { name := "extractValues", fn := fun _ => fun
  | [d1, d2, d3, d4, d5] => { results := [.lit (.bool true)], args := [d1, d2, d3, d4, d5] }
  | _ => none }
def extractValuesRow : OpenClaim := { program := "ytegbkbkcfcjkbaa", sum := "c81733ad1e4e5d1df5425b6af339a1c69b459457f779f69b049df01bb98dffb1", func := "planchet/planchetlaw23.ExtractValues", spec := "extractValues", unfollowed := true, recurses := true, apart := false }
def ExtractValuesSaid : Prop := extractValuesRow.holds Try.pinned (OpenSpec.ofChange extractValuesSpec)

/-- ITS FALSE NEIGHBOUR: 'it returns false'. Refute it at one input. -/
def extractValuesWrong : ChangeSpec := { name := "extractValues", fn := fun _ => fun
  | [d1, d2, d3, d4, d5] => { results := [.lit (.bool false)], args := [d1, d2, d3, d4, d5] }
  | _ => none }
def ExtractValuesWrongFalsely : Prop := extractValuesRow.holds Try.pinned (OpenSpec.ofChange extractValuesWrong)

/-- 'planchetlaw23.ExtractTexts': WHATEVER THE INPUT: true; the input reads as it did. -/
def extractTextsSpec : ChangeSpec := { name := "extractTexts", fn := fun _ => fun
  | [d1, d2, d3, d4, d5, d6, d7] => { results := [.lit (.bool true)], args := [d1, d2, d3, d4, d5, d6, d7] }
  | _ => none }
def extractTextsRow : OpenClaim := { program := "ytegbkbkcfcjkbaa", sum := "c81733ad1e4e5d1df5425b6af339a1c69b459457f779f69b049df01bb98dffb1", func := "planchet/planchetlaw23.ExtractTexts", spec := "extractTexts", unfollowed := true, recurses := true, apart := false }
def ExtractTextsSaid : Prop := extractTextsRow.holds Try.pinned (OpenSpec.ofChange extractTextsSpec)

/-- ITS FALSE NEIGHBOUR: 'it returns false'. Refute it at one input. -/
def extractTextsWrong : ChangeSpec := { name := "extractTexts", fn := fun _ => fun
  | [d1, d2, d3, d4, d5, d6, d7] => { results := [.lit (.bool false)], args := [d1, d2, d3, d4, d5, d6, d7] }
  | _ => none }
def ExtractTextsWrongFalsely : Prop := extractTextsRow.holds Try.pinned (OpenSpec.ofChange extractTextsWrong)

/-- 'planchetlaw23.ExtractLogs': WHATEVER THE INPUT: true; the input reads as it did. -/
def extractLogsSpec : ChangeSpec := { name := "extractLogs", fn := fun _ => fun
  | [d1, d2, d3, d4, d5, d6, d7] => { results := [.lit (.bool true)], args := [d1, d2, d3, d4, d5, d6, d7] }
  | _ => none }
def extractLogsRow : OpenClaim := { program := "ytegbkbkcfcjkbaa", sum := "c81733ad1e4e5d1df5425b6af339a1c69b459457f779f69b049df01bb98dffb1", func := "planchet/planchetlaw23.ExtractLogs", spec := "extractLogs", unfollowed := true, recurses := true, apart := false }
def ExtractLogsSaid : Prop := extractLogsRow.holds Try.pinned (OpenSpec.ofChange extractLogsSpec)

/-- ITS FALSE NEIGHBOUR: 'it returns false'. Refute it at one input. -/
def extractLogsWrong : ChangeSpec := { name := "extractLogs", fn := fun _ => fun
  | [d1, d2, d3, d4, d5, d6, d7] => { results := [.lit (.bool false)], args := [d1, d2, d3, d4, d5, d6, d7] }
  | _ => none }
def ExtractLogsWrongFalsely : Prop := extractLogsRow.holds Try.pinned (OpenSpec.ofChange extractLogsWrong)

/-- 'planchetlaw23.ExtractTrails': WHATEVER THE INPUT: true; the input reads as it did. -/
def extractTrailsSpec : ChangeSpec := { name := "extractTrails", fn := fun _ => fun
  | [d1, d2, d3, d4, d5, d6] => { results := [.lit (.bool true)], args := [d1, d2, d3, d4, d5, d6] }
  | _ => none }
def extractTrailsRow : OpenClaim := { program := "ytegbkbkcfcjkbaa", sum := "c81733ad1e4e5d1df5425b6af339a1c69b459457f779f69b049df01bb98dffb1", func := "planchet/planchetlaw23.ExtractTrails", spec := "extractTrails", unfollowed := true, recurses := true, apart := false }
def ExtractTrailsSaid : Prop := extractTrailsRow.holds Try.pinned (OpenSpec.ofChange extractTrailsSpec)

/-- ITS FALSE NEIGHBOUR: 'it returns false'. Refute it at one input. -/
def extractTrailsWrong : ChangeSpec := { name := "extractTrails", fn := fun _ => fun
  | [d1, d2, d3, d4, d5, d6] => { results := [.lit (.bool false)], args := [d1, d2, d3, d4, d5, d6] }
  | _ => none }
def ExtractTrailsWrongFalsely : Prop := extractTrailsRow.holds Try.pinned (OpenSpec.ofChange extractTrailsWrong)

/-- 'planchetlaw23.ExtractTrees': WHATEVER THE INPUT: true; the input reads as it did. -/
def extractTreesSpec : ChangeSpec := { name := "extractTrees", fn := fun _ => fun
  | [d1, d2, d3, d4] => { results := [.lit (.bool true)], args := [d1, d2, d3, d4] }
  | _ => none }
def extractTreesRow : OpenClaim := { program := "ytegbkbkcfcjkbaa", sum := "c81733ad1e4e5d1df5425b6af339a1c69b459457f779f69b049df01bb98dffb1", func := "planchet/planchetlaw23.ExtractTrees", spec := "extractTrees", unfollowed := true, recurses := true, apart := false }
def ExtractTreesSaid : Prop := extractTreesRow.holds Try.pinned (OpenSpec.ofChange extractTreesSpec)

/-- ITS FALSE NEIGHBOUR: 'it returns false'. Refute it at one input. -/
def extractTreesWrong : ChangeSpec := { name := "extractTrees", fn := fun _ => fun
  | [d1, d2, d3, d4] => { results := [.lit (.bool false)], args := [d1, d2, d3, d4] }
  | _ => none }
def ExtractTreesWrongFalsely : Prop := extractTreesRow.holds Try.pinned (OpenSpec.ofChange extractTreesWrong)

/- THE SECOND FORM. 'bulk': how many values and letters a reading holds, each counted each time it is reached (what is shared counts as often as it is met; a slice's spare places count too). A statement '..UptoSaid' is the law's where the arguments, and the package variables that the reading takes, are together of bulk at most 1048576: NARROWER than '..Said'. Prove '..Said' where nothing that the law and all that it calls make is longer than what came in: it says more and counts as full. Else prove '..UptoSaid'. A law counts once. -/
mutual
def uptoBulk {H : Type} : DataW H → Nat
  | .lit (.string bytes) => bytes.length + 1
  | .lit _ => 1
  | .nil => 1
  | .ptr d => uptoBulk d + 1
  | .slice elems spare => uptoBulkAll elems + uptoBulkAll spare + 1
  | .agg parts => uptoBulkAll parts + 1
  | .iface _ d => uptoBulk d + 1
  | .map entries => uptoBulkEntries entries + 1
  | .held _ => 1
def uptoBulkAll {H : Type} : List (DataW H) → Nat
  | [] => 0
  | d :: r => uptoBulk d + uptoBulkAll r
def uptoBulkEntries {H : Type} : List (Lit × DataW H) → Nat
  | [] => 0
  | x :: r => uptoBulkEntry x + uptoBulkEntries r
def uptoBulkEntry {H : Type} : Lit × DataW H → Nat
  | (.string bytes, d) => bytes.length + uptoBulk d + 1
  | (_, d) => uptoBulk d + 1
 end
def uptoSmall : (H : Type) → List (DataW H) → Bool := fun _ ds => decide (uptoBulkAll ds ≤ 1048576)
def OpenSpec.upto (s : _root_.Go.ChangeSpec) : _root_.Go.OpenSpec := { _root_.Go.OpenSpec.ofChange s with cond := some uptoSmall }

/-- 'planchetlaw12.DiskKeeps', WHERE WHAT IT READS IS OF BULK AT MOST 1048576: true; the input reads as it did. -/
def diskKeepsUptoRow : OpenClaim := { program := "ytegbkbkcfcjkbaa", sum := "c81733ad1e4e5d1df5425b6af339a1c69b459457f779f69b049df01bb98dffb1", func := "planchet/planchetlaw12.DiskKeeps", spec := "diskKeeps", apart := false, narrowed := true }
def DiskKeepsUptoSaid : Prop := diskKeepsUptoRow.holds Try.pinned (OpenSpec.upto diskKeepsSpec)

/-- 'planchetlaw12.DiskPlays', WHERE WHAT IT READS IS OF BULK AT MOST 1048576: true; the input reads as it did. -/
def diskPlaysUptoRow : OpenClaim := { program := "ytegbkbkcfcjkbaa", sum := "c81733ad1e4e5d1df5425b6af339a1c69b459457f779f69b049df01bb98dffb1", func := "planchet/planchetlaw12.DiskPlays", spec := "diskPlays", apart := false, narrowed := true }
def DiskPlaysUptoSaid : Prop := diskPlaysUptoRow.holds Try.pinned (OpenSpec.upto diskPlaysSpec)

/-- 'planchetlaw23.ExtractParts', WHERE WHAT IT READS IS OF BULK AT MOST 1048576: true; the input reads as it did. -/
def extractPartsUptoRow : OpenClaim := { program := "ytegbkbkcfcjkbaa", sum := "c81733ad1e4e5d1df5425b6af339a1c69b459457f779f69b049df01bb98dffb1", func := "planchet/planchetlaw23.ExtractParts", spec := "extractParts", recurses := true, apart := false, narrowed := true }
def ExtractPartsUptoSaid : Prop := extractPartsUptoRow.holds Try.pinned (OpenSpec.upto extractPartsSpec)

/-- 'planchetlaw13.SlotsKeep', WHERE WHAT IT READS IS OF BULK AT MOST 1048576: true; the input reads as it did. -/
def slotsKeepUptoRow : OpenClaim := { program := "ytegbkbkcfcjkbaa", sum := "c81733ad1e4e5d1df5425b6af339a1c69b459457f779f69b049df01bb98dffb1", func := "planchet/planchetlaw13.SlotsKeep", spec := "slotsKeep", unfollowed := true, recurses := true, apart := false, narrowed := true }
def SlotsKeepUptoSaid : Prop := slotsKeepUptoRow.holds Try.pinned (OpenSpec.upto slotsKeepSpec)

/-- 'planchetlaw23.ExtractValues', WHERE WHAT IT READS IS OF BULK AT MOST 1048576: true; the input reads as it did. -/
def extractValuesUptoRow : OpenClaim := { program := "ytegbkbkcfcjkbaa", sum := "c81733ad1e4e5d1df5425b6af339a1c69b459457f779f69b049df01bb98dffb1", func := "planchet/planchetlaw23.ExtractValues", spec := "extractValues", unfollowed := true, recurses := true, apart := false, narrowed := true }
def ExtractValuesUptoSaid : Prop := extractValuesUptoRow.holds Try.pinned (OpenSpec.upto extractValuesSpec)

/-- 'planchetlaw23.ExtractTexts', WHERE WHAT IT READS IS OF BULK AT MOST 1048576: true; the input reads as it did. -/
def extractTextsUptoRow : OpenClaim := { program := "ytegbkbkcfcjkbaa", sum := "c81733ad1e4e5d1df5425b6af339a1c69b459457f779f69b049df01bb98dffb1", func := "planchet/planchetlaw23.ExtractTexts", spec := "extractTexts", unfollowed := true, recurses := true, apart := false, narrowed := true }
def ExtractTextsUptoSaid : Prop := extractTextsUptoRow.holds Try.pinned (OpenSpec.upto extractTextsSpec)

/-- 'planchetlaw23.ExtractLogs', WHERE WHAT IT READS IS OF BULK AT MOST 1048576: true; the input reads as it did. -/
def extractLogsUptoRow : OpenClaim := { program := "ytegbkbkcfcjkbaa", sum := "c81733ad1e4e5d1df5425b6af339a1c69b459457f779f69b049df01bb98dffb1", func := "planchet/planchetlaw23.ExtractLogs", spec := "extractLogs", unfollowed := true, recurses := true, apart := false, narrowed := true }
def ExtractLogsUptoSaid : Prop := extractLogsUptoRow.holds Try.pinned (OpenSpec.upto extractLogsSpec)

/-- 'planchetlaw23.ExtractTrails', WHERE WHAT IT READS IS OF BULK AT MOST 1048576: true; the input reads as it did. -/
def extractTrailsUptoRow : OpenClaim := { program := "ytegbkbkcfcjkbaa", sum := "c81733ad1e4e5d1df5425b6af339a1c69b459457f779f69b049df01bb98dffb1", func := "planchet/planchetlaw23.ExtractTrails", spec := "extractTrails", unfollowed := true, recurses := true, apart := false, narrowed := true }
def ExtractTrailsUptoSaid : Prop := extractTrailsUptoRow.holds Try.pinned (OpenSpec.upto extractTrailsSpec)

/-- 'planchetlaw23.ExtractTrees', WHERE WHAT IT READS IS OF BULK AT MOST 1048576: true; the input reads as it did. -/
def extractTreesUptoRow : OpenClaim := { program := "ytegbkbkcfcjkbaa", sum := "c81733ad1e4e5d1df5425b6af339a1c69b459457f779f69b049df01bb98dffb1", func := "planchet/planchetlaw23.ExtractTrees", spec := "extractTrees", unfollowed := true, recurses := true, apart := false, narrowed := true }
def ExtractTreesUptoSaid : Prop := extractTreesUptoRow.holds Try.pinned (OpenSpec.upto extractTreesSpec)

end Rows
end Go.Proofs.Ytegbkbkcfcjkbaa
