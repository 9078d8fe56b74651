/-
  No cell of these rows narrows 'for every input' (looked for: loops, veiled, ifaces, maps, wideKeys, modest, calm, conditions, laid).
  DERIVED. THE GIVEN ROWS OF THIS SEAT. 12 by the template 'for every input the law returns true; each argument reads behind the call as it read before'; 0 by the template 'total and deterministic' (their statements: YthomlkmbgmkjiaaTotals.lean).
  GIVEN WITH THE SEED: the statements are not yours to turn. If you find one false, say at which input.
  Laid BY PROGRAM, IN A SANDBOX (cutbox-rows.mjs): the forced cells as the released guide's own fill.sh prints them over the translation 60ce6052d189c459… (all of the seat's roots in one cut). By AI agents, Wed Nov 11 2026. No macro, syntax, notation, axiom, sorry.
-/
import Derived.Test.YthomlkmbgmkjiaaChecked
import GoSem.Claim
import GoSem.ClaimJoined
import GoSem.ClaimMapViews
import Derived.JoinedTies
import Derived.KernelRfl
namespace Go.Proofs.Ythomlkmbgmkjiaa
/- THE CELL 'sum', in the pinned program and in every row, IS THE sha256 OF THE DUMP (.gsa) THAT YthomlkmbgmkjiaaProg.lean LOADS. Nothing in Lean hashes anything: it is a label: what it is worth is what the hold of that sum in a sandbox is worth. -/
noncomputable def Try.pinned : Pinned := { name := "ythomlkmbgmkjiaa", sum := "60ce6052d189c459655d2b4e688c49e2219c8166d4c96e8355556534a9b0fe00", checked := Try.checked }
namespace Rows
def none {H : Type} : Left H := { results := [], args := [] }

/-- 'planchetlaw14.FenceLeast': WHATEVER THE INPUT: true; the input reads as it did. -/
def fenceLeastSpec : ChangeSpec := { name := "fenceLeast", fn := fun _ => fun
  | [d1, d2, d3] => { results := [.lit (.bool true)], args := [d1, d2, d3] }
  | _ => none }
def fenceLeastRow : OpenClaim := { program := "ythomlkmbgmkjiaa", sum := "60ce6052d189c459655d2b4e688c49e2219c8166d4c96e8355556534a9b0fe00", func := "planchet/planchetlaw14.FenceLeast", spec := "fenceLeast", apart := false }
def FenceLeastSaid : Prop := fenceLeastRow.holds Try.pinned (OpenSpec.ofChange fenceLeastSpec)

/-- ITS FALSE NEIGHBOUR: 'it returns false'. Refute it at one input. -/
def fenceLeastWrong : ChangeSpec := { name := "fenceLeast", fn := fun _ => fun
  | [d1, d2, d3] => { results := [.lit (.bool false)], args := [d1, d2, d3] }
  | _ => none }
def FenceLeastWrongFalsely : Prop := fenceLeastRow.holds Try.pinned (OpenSpec.ofChange fenceLeastWrong)

/-- 'planchetlaw12.DiskKeeps': WHATEVER THE INPUT: true; the input reads as it did. -/
def diskKeepsSpec : ChangeSpec := { name := "diskKeeps", fn := fun _ => fun
  | [d1, d2, d3, d4, d5, d6] => { results := [.lit (.bool true)], args := [d1, d2, d3, d4, d5, d6] }
  | _ => none }
def diskKeepsRow : OpenClaim := { program := "ythomlkmbgmkjiaa", sum := "60ce6052d189c459655d2b4e688c49e2219c8166d4c96e8355556534a9b0fe00", func := "planchet/planchetlaw12.DiskKeeps", spec := "diskKeeps", apart := false }
def DiskKeepsSaid : Prop := diskKeepsRow.holds Try.pinned (OpenSpec.ofChange diskKeepsSpec)

/-- ITS FALSE NEIGHBOUR: 'it returns false'. Refute it at one input. -/
def diskKeepsWrong : ChangeSpec := { name := "diskKeeps", fn := fun _ => fun
  | [d1, d2, d3, d4, d5, d6] => { results := [.lit (.bool false)], args := [d1, d2, d3, d4, d5, d6] }
  | _ => none }
def DiskKeepsWrongFalsely : Prop := diskKeepsRow.holds Try.pinned (OpenSpec.ofChange diskKeepsWrong)

/-- 'planchetlaw20.WireTexts': WHATEVER THE INPUT: true; the input reads as it did. -/
def wireTextsSpec : ChangeSpec := { name := "wireTexts", fn := fun _ => fun
  | [d1, d2, d3] => { results := [.lit (.bool true)], args := [d1, d2, d3] }
  | _ => none }
def wireTextsRow : OpenClaim := { program := "ythomlkmbgmkjiaa", sum := "60ce6052d189c459655d2b4e688c49e2219c8166d4c96e8355556534a9b0fe00", func := "planchet/planchetlaw20.WireTexts", spec := "wireTexts", apart := false }
def WireTextsSaid : Prop := wireTextsRow.holds Try.pinned (OpenSpec.ofChange wireTextsSpec)

/-- ITS FALSE NEIGHBOUR: 'it returns false'. Refute it at one input. -/
def wireTextsWrong : ChangeSpec := { name := "wireTexts", fn := fun _ => fun
  | [d1, d2, d3] => { results := [.lit (.bool false)], args := [d1, d2, d3] }
  | _ => none }
def WireTextsWrongFalsely : Prop := wireTextsRow.holds Try.pinned (OpenSpec.ofChange wireTextsWrong)

/-- 'planchetlaw20.WirePuts': WHATEVER THE INPUT: true; the input reads as it did. -/
def wirePutsSpec : ChangeSpec := { name := "wirePuts", fn := fun _ => fun
  | [d1, d2] => { results := [.lit (.bool true)], args := [d1, d2] }
  | _ => none }
def wirePutsRow : OpenClaim := { program := "ythomlkmbgmkjiaa", sum := "60ce6052d189c459655d2b4e688c49e2219c8166d4c96e8355556534a9b0fe00", func := "planchet/planchetlaw20.WirePuts", spec := "wirePuts", apart := false }
def WirePutsSaid : Prop := wirePutsRow.holds Try.pinned (OpenSpec.ofChange wirePutsSpec)

/-- ITS FALSE NEIGHBOUR: 'it returns false'. Refute it at one input. -/
def wirePutsWrong : ChangeSpec := { name := "wirePuts", fn := fun _ => fun
  | [d1, d2] => { results := [.lit (.bool false)], args := [d1, d2] }
  | _ => none }
def WirePutsWrongFalsely : Prop := wirePutsRow.holds Try.pinned (OpenSpec.ofChange wirePutsWrong)

/-- 'planchetlaw20.WireGets': WHATEVER THE INPUT: true; the input reads as it did. -/
def wireGetsSpec : ChangeSpec := { name := "wireGets", fn := fun _ => fun
  | [d1, d2] => { results := [.lit (.bool true)], args := [d1, d2] }
  | _ => none }
def wireGetsRow : OpenClaim := { program := "ythomlkmbgmkjiaa", sum := "60ce6052d189c459655d2b4e688c49e2219c8166d4c96e8355556534a9b0fe00", func := "planchet/planchetlaw20.WireGets", spec := "wireGets", apart := false }
def WireGetsSaid : Prop := wireGetsRow.holds Try.pinned (OpenSpec.ofChange wireGetsSpec)

/-- ITS FALSE NEIGHBOUR: 'it returns false'. Refute it at one input. -/
def wireGetsWrong : ChangeSpec := { name := "wireGets", fn := fun _ => fun
  | [d1, d2] => { results := [.lit (.bool false)], args := [d1, d2] }
  | _ => none }
def WireGetsWrongFalsely : Prop := wireGetsRow.holds Try.pinned (OpenSpec.ofChange wireGetsWrong)

/-- 'planchetlaw05.KeyedMessages': WHATEVER THE INPUT: true; the input reads as it did. -/
def keyedMessagesSpec : ChangeSpec := { name := "keyedMessages", fn := fun _ => fun
  | [d1, d2, d3, d4] => { results := [.lit (.bool true)], args := [d1, d2, d3, d4] }
  | _ => none }
def keyedMessagesRow : OpenClaim := { program := "ythomlkmbgmkjiaa", sum := "60ce6052d189c459655d2b4e688c49e2219c8166d4c96e8355556534a9b0fe00", func := "planchet/planchetlaw05.KeyedMessages", spec := "keyedMessages", recurses := true, apart := false }
def KeyedMessagesSaid : Prop := keyedMessagesRow.holds Try.pinned (OpenSpec.ofChange keyedMessagesSpec)

/-- ITS FALSE NEIGHBOUR: 'it returns false'. Refute it at one input. -/
def keyedMessagesWrong : ChangeSpec := { name := "keyedMessages", fn := fun _ => fun
  | [d1, d2, d3, d4] => { results := [.lit (.bool false)], args := [d1, d2, d3, d4] }
  | _ => none }
def KeyedMessagesWrongFalsely : Prop := keyedMessagesRow.holds Try.pinned (OpenSpec.ofChange keyedMessagesWrong)

/-- 'planchetlaw12.DiskPlays': WHATEVER THE INPUT: true; the input reads as it did. -/
def diskPlaysSpec : ChangeSpec := { name := "diskPlays", fn := fun _ => fun
  | [d1, d2, d3] => { results := [.lit (.bool true)], args := [d1, d2, d3] }
  | _ => none }
def diskPlaysRow : OpenClaim := { program := "ythomlkmbgmkjiaa", sum := "60ce6052d189c459655d2b4e688c49e2219c8166d4c96e8355556534a9b0fe00", func := "planchet/planchetlaw12.DiskPlays", spec := "diskPlays", apart := false }
def DiskPlaysSaid : Prop := diskPlaysRow.holds Try.pinned (OpenSpec.ofChange diskPlaysSpec)

/-- ITS FALSE NEIGHBOUR: 'it returns false'. Refute it at one input. -/
def diskPlaysWrong : ChangeSpec := { name := "diskPlays", fn := fun _ => fun
  | [d1, d2, d3] => { results := [.lit (.bool false)], args := [d1, d2, d3] }
  | _ => none }
def DiskPlaysWrongFalsely : Prop := diskPlaysRow.holds Try.pinned (OpenSpec.ofChange diskPlaysWrong)

/-- 'planchetlaw02.MacCodes': WHATEVER THE INPUT: true; the input reads as it did. -/
def macCodesSpec : ChangeSpec := { name := "macCodes", fn := fun _ => fun
  | [d1, d2, d3] => { results := [.lit (.bool true)], args := [d1, d2, d3] }
  | _ => none }
def macCodesRow : OpenClaim := { program := "ythomlkmbgmkjiaa", sum := "60ce6052d189c459655d2b4e688c49e2219c8166d4c96e8355556534a9b0fe00", func := "planchet/planchetlaw02.MacCodes", spec := "macCodes", recurses := true, apart := false }
def MacCodesSaid : Prop := macCodesRow.holds Try.pinned (OpenSpec.ofChange macCodesSpec)

/-- ITS FALSE NEIGHBOUR: 'it returns false'. Refute it at one input. -/
def macCodesWrong : ChangeSpec := { name := "macCodes", fn := fun _ => fun
  | [d1, d2, d3] => { results := [.lit (.bool false)], args := [d1, d2, d3] }
  | _ => none }
def MacCodesWrongFalsely : Prop := macCodesRow.holds Try.pinned (OpenSpec.ofChange macCodesWrong)

/-- 'planchetlaw02.MacKeys': WHATEVER THE INPUT: true; the input reads as it did. -/
def macKeysSpec : ChangeSpec := { name := "macKeys", fn := fun _ => fun
  | [d1, d2, d3] => { results := [.lit (.bool true)], args := [d1, d2, d3] }
  | _ => none }
def macKeysRow : OpenClaim := { program := "ythomlkmbgmkjiaa", sum := "60ce6052d189c459655d2b4e688c49e2219c8166d4c96e8355556534a9b0fe00", func := "planchet/planchetlaw02.MacKeys", spec := "macKeys", recurses := true, apart := false }
def MacKeysSaid : Prop := macKeysRow.holds Try.pinned (OpenSpec.ofChange macKeysSpec)

/-- ITS FALSE NEIGHBOUR: 'it returns false'. Refute it at one input. -/
def macKeysWrong : ChangeSpec := { name := "macKeys", fn := fun _ => fun
  | [d1, d2, d3] => { results := [.lit (.bool false)], args := [d1, d2, d3] }
  | _ => none }
def MacKeysWrongFalsely : Prop := macKeysRow.holds Try.pinned (OpenSpec.ofChange macKeysWrong)

/-- 'planchetlaw05.KeyedSums': WHATEVER THE INPUT: true; the input reads as it did. -/
def keyedSumsSpec : ChangeSpec := { name := "keyedSums", fn := fun _ => fun
  | [d1, d2, d3, d4, d5] => { results := [.lit (.bool true)], args := [d1, d2, d3, d4, d5] }
  | _ => none }
def keyedSumsRow : OpenClaim := { program := "ythomlkmbgmkjiaa", sum := "60ce6052d189c459655d2b4e688c49e2219c8166d4c96e8355556534a9b0fe00", func := "planchet/planchetlaw05.KeyedSums", spec := "keyedSums", recurses := true, apart := false }
def KeyedSumsSaid : Prop := keyedSumsRow.holds Try.pinned (OpenSpec.ofChange keyedSumsSpec)

/-- ITS FALSE NEIGHBOUR: 'it returns false'. Refute it at one input. -/
def keyedSumsWrong : ChangeSpec := { name := "keyedSums", fn := fun _ => fun
  | [d1, d2, d3, d4, d5] => { results := [.lit (.bool false)], args := [d1, d2, d3, d4, d5] }
  | _ => none }
def KeyedSumsWrongFalsely : Prop := keyedSumsRow.holds Try.pinned (OpenSpec.ofChange keyedSumsWrong)

/-- 'planchetlaw07.ChainRuns': WHATEVER THE INPUT: true; the input reads as it did. -/
def chainRunsSpec : ChangeSpec := { name := "chainRuns", fn := fun _ => fun
  | [d1, d2, d3, d4, d5] => { results := [.lit (.bool true)], args := [d1, d2, d3, d4, d5] }
  | _ => none }
def chainRunsRow : OpenClaim := { program := "ythomlkmbgmkjiaa", sum := "60ce6052d189c459655d2b4e688c49e2219c8166d4c96e8355556534a9b0fe00", func := "planchet/planchetlaw07.ChainRuns", spec := "chainRuns", unfollowed := true, recurses := true, apart := false }
def ChainRunsSaid : Prop := chainRunsRow.holds Try.pinned (OpenSpec.ofChange chainRunsSpec)

/-- ITS FALSE NEIGHBOUR: 'it returns false'. Refute it at one input. -/
def chainRunsWrong : ChangeSpec := { name := "chainRuns", fn := fun _ => fun
  | [d1, d2, d3, d4, d5] => { results := [.lit (.bool false)], args := [d1, d2, d3, d4, d5] }
  | _ => none }
def ChainRunsWrongFalsely : Prop := chainRunsRow.holds Try.pinned (OpenSpec.ofChange chainRunsWrong)

/-- 'planchetlaw07.ChainJoins': WHATEVER THE INPUT: true; the input reads as it did. -/
def chainJoinsSpec : ChangeSpec := { name := "chainJoins", fn := fun _ => fun
  | [d1, d2, d3, d4, d5, d6] => { results := [.lit (.bool true)], args := [d1, d2, d3, d4, d5, d6] }
  | _ => none }
def chainJoinsRow : OpenClaim := { program := "ythomlkmbgmkjiaa", sum := "60ce6052d189c459655d2b4e688c49e2219c8166d4c96e8355556534a9b0fe00", func := "planchet/planchetlaw07.ChainJoins", spec := "chainJoins", unfollowed := true, recurses := true, apart := false }
def ChainJoinsSaid : Prop := chainJoinsRow.holds Try.pinned (OpenSpec.ofChange chainJoinsSpec)

/-- ITS FALSE NEIGHBOUR: 'it returns false'. Refute it at one input. -/
def chainJoinsWrong : ChangeSpec := { name := "chainJoins", fn := fun _ => fun
  | [d1, d2, d3, d4, d5, d6] => { results := [.lit (.bool false)], args := [d1, d2, d3, d4, d5, d6] }
  | _ => none }
def ChainJoinsWrongFalsely : Prop := chainJoinsRow.holds Try.pinned (OpenSpec.ofChange chainJoinsWrong)

/- THE SECOND FORM. 'bulk': how many values and letters a reading holds, each counted each time it is reached (what is shared counts as often as it is met; a slice's spare places count too). A statement '..UptoSaid' is the law's where the arguments, and the package variables that the reading takes, are together of bulk at most 1048576: NARROWER than '..Said'. Prove '..Said' where nothing that the law and all that it calls make is longer than what came in: it says more and counts as full. Else prove '..UptoSaid'. A law counts once. -/
mutual
def uptoBulk {H : Type} : DataW H → Nat
  | .lit (.string bytes) => bytes.length + 1
  | .lit _ => 1
  | .nil => 1
  | .ptr d => uptoBulk d + 1
  | .slice elems spare => uptoBulkAll elems + uptoBulkAll spare + 1
  | .agg parts => uptoBulkAll parts + 1
  | .iface _ d => uptoBulk d + 1
  | .map entries => uptoBulkEntries entries + 1
  | .held _ => 1
def uptoBulkAll {H : Type} : List (DataW H) → Nat
  | [] => 0
  | d :: r => uptoBulk d + uptoBulkAll r
def uptoBulkEntries {H : Type} : List (Lit × DataW H) → Nat
  | [] => 0
  | x :: r => uptoBulkEntry x + uptoBulkEntries r
def uptoBulkEntry {H : Type} : Lit × DataW H → Nat
  | (.string bytes, d) => bytes.length + uptoBulk d + 1
  | (_, d) => uptoBulk d + 1
 end
def uptoSmall : (H : Type) → List (DataW H) → Bool := fun _ ds => decide (uptoBulkAll ds ≤ 1048576)
def OpenSpec.upto (s : _root_.Go.ChangeSpec) : _root_.Go.OpenSpec := { _root_.Go.OpenSpec.ofChange s with cond := some uptoSmall }

/-- 'planchetlaw14.FenceLeast', WHERE WHAT IT READS IS OF BULK AT MOST 1048576: true; the input reads as it did. -/
def fenceLeastUptoRow : OpenClaim := { program := "ythomlkmbgmkjiaa", sum := "60ce6052d189c459655d2b4e688c49e2219c8166d4c96e8355556534a9b0fe00", func := "planchet/planchetlaw14.FenceLeast", spec := "fenceLeast", apart := false, narrowed := true }
def FenceLeastUptoSaid : Prop := fenceLeastUptoRow.holds Try.pinned (OpenSpec.upto fenceLeastSpec)

/-- 'planchetlaw12.DiskKeeps', WHERE WHAT IT READS IS OF BULK AT MOST 1048576: true; the input reads as it did. -/
def diskKeepsUptoRow : OpenClaim := { program := "ythomlkmbgmkjiaa", sum := "60ce6052d189c459655d2b4e688c49e2219c8166d4c96e8355556534a9b0fe00", func := "planchet/planchetlaw12.DiskKeeps", spec := "diskKeeps", apart := false, narrowed := true }
def DiskKeepsUptoSaid : Prop := diskKeepsUptoRow.holds Try.pinned (OpenSpec.upto diskKeepsSpec)

/-- 'planchetlaw20.WireTexts', WHERE WHAT IT READS IS OF BULK AT MOST 1048576: true; the input reads as it did. -/
def wireTextsUptoRow : OpenClaim := { program := "ythomlkmbgmkjiaa", sum := "60ce6052d189c459655d2b4e688c49e2219c8166d4c96e8355556534a9b0fe00", func := "planchet/planchetlaw20.WireTexts", spec := "wireTexts", apart := false, narrowed := true }
def WireTextsUptoSaid : Prop := wireTextsUptoRow.holds Try.pinned (OpenSpec.upto wireTextsSpec)

/-- 'planchetlaw20.WirePuts', WHERE WHAT IT READS IS OF BULK AT MOST 1048576: true; the input reads as it did. -/
def wirePutsUptoRow : OpenClaim := { program := "ythomlkmbgmkjiaa", sum := "60ce6052d189c459655d2b4e688c49e2219c8166d4c96e8355556534a9b0fe00", func := "planchet/planchetlaw20.WirePuts", spec := "wirePuts", apart := false, narrowed := true }
def WirePutsUptoSaid : Prop := wirePutsUptoRow.holds Try.pinned (OpenSpec.upto wirePutsSpec)

/-- 'planchetlaw20.WireGets', WHERE WHAT IT READS IS OF BULK AT MOST 1048576: true; the input reads as it did. -/
def wireGetsUptoRow : OpenClaim := { program := "ythomlkmbgmkjiaa", sum := "60ce6052d189c459655d2b4e688c49e2219c8166d4c96e8355556534a9b0fe00", func := "planchet/planchetlaw20.WireGets", spec := "wireGets", apart := false, narrowed := true }
def WireGetsUptoSaid : Prop := wireGetsUptoRow.holds Try.pinned (OpenSpec.upto wireGetsSpec)

/-- 'planchetlaw05.KeyedMessages', WHERE WHAT IT READS IS OF BULK AT MOST 1048576: true; the input reads as it did. -/
def keyedMessagesUptoRow : OpenClaim := { program := "ythomlkmbgmkjiaa", sum := "60ce6052d189c459655d2b4e688c49e2219c8166d4c96e8355556534a9b0fe00", func := "planchet/planchetlaw05.KeyedMessages", spec := "keyedMessages", recurses := true, apart := false, narrowed := true }
def KeyedMessagesUptoSaid : Prop := keyedMessagesUptoRow.holds Try.pinned (OpenSpec.upto keyedMessagesSpec)

/-- 'planchetlaw12.DiskPlays', WHERE WHAT IT READS IS OF BULK AT MOST 1048576: true; the input reads as it did. -/
def diskPlaysUptoRow : OpenClaim := { program := "ythomlkmbgmkjiaa", sum := "60ce6052d189c459655d2b4e688c49e2219c8166d4c96e8355556534a9b0fe00", func := "planchet/planchetlaw12.DiskPlays", spec := "diskPlays", apart := false, narrowed := true }
def DiskPlaysUptoSaid : Prop := diskPlaysUptoRow.holds Try.pinned (OpenSpec.upto diskPlaysSpec)

/-- 'planchetlaw02.MacCodes', WHERE WHAT IT READS IS OF BULK AT MOST 1048576: true; the input reads as it did. -/
def macCodesUptoRow : OpenClaim := { program := "ythomlkmbgmkjiaa", sum := "60ce6052d189c459655d2b4e688c49e2219c8166d4c96e8355556534a9b0fe00", func := "planchet/planchetlaw02.MacCodes", spec := "macCodes", recurses := true, apart := false, narrowed := true }
def MacCodesUptoSaid : Prop := macCodesUptoRow.holds Try.pinned (OpenSpec.upto macCodesSpec)

/-- 'planchetlaw02.MacKeys', WHERE WHAT IT READS IS OF BULK AT MOST 1048576: true; the input reads as it did. -/
def macKeysUptoRow : OpenClaim := { program := "ythomlkmbgmkjiaa", sum := "60ce6052d189c459655d2b4e688c49e2219c8166d4c96e8355556534a9b0fe00", func := "planchet/planchetlaw02.MacKeys", spec := "macKeys", recurses := true, apart := false, narrowed := true }
def MacKeysUptoSaid : Prop := macKeysUptoRow.holds Try.pinned (OpenSpec.upto macKeysSpec)

/-- 'planchetlaw05.KeyedSums', WHERE WHAT IT READS IS OF BULK AT MOST 1048576: true; the input reads as it did. -/
def keyedSumsUptoRow : OpenClaim := { program := "ythomlkmbgmkjiaa", sum := "60ce6052d189c459655d2b4e688c49e2219c8166d4c96e8355556534a9b0fe00", func := "planchet/planchetlaw05.KeyedSums", spec := "keyedSums", recurses := true, apart := false, narrowed := true }
def KeyedSumsUptoSaid : Prop := keyedSumsUptoRow.holds Try.pinned (OpenSpec.upto keyedSumsSpec)

/-- 'planchetlaw07.ChainRuns', WHERE WHAT IT READS IS OF BULK AT MOST 1048576: true; the input reads as it did. -/
def chainRunsUptoRow : OpenClaim := { program := "ythomlkmbgmkjiaa", sum := "60ce6052d189c459655d2b4e688c49e2219c8166d4c96e8355556534a9b0fe00", func := "planchet/planchetlaw07.ChainRuns", spec := "chainRuns", unfollowed := true, recurses := true, apart := false, narrowed := true }
def ChainRunsUptoSaid : Prop := chainRunsUptoRow.holds Try.pinned (OpenSpec.upto chainRunsSpec)

/-- 'planchetlaw07.ChainJoins', WHERE WHAT IT READS IS OF BULK AT MOST 1048576: true; the input reads as it did. -/
def chainJoinsUptoRow : OpenClaim := { program := "ythomlkmbgmkjiaa", sum := "60ce6052d189c459655d2b4e688c49e2219c8166d4c96e8355556534a9b0fe00", func := "planchet/planchetlaw07.ChainJoins", spec := "chainJoins", unfollowed := true, recurses := true, apart := false, narrowed := true }
def ChainJoinsUptoSaid : Prop := chainJoinsUptoRow.holds Try.pinned (OpenSpec.upto chainJoinsSpec)

end Rows
end Go.Proofs.Ythomlkmbgmkjiaa
