/-
  No cell of these rows narrows 'for every input' (looked for: loops, veiled, ifaces, maps, wideKeys, modest, calm, conditions, laid).
  DERIVED. THE GIVEN ROWS OF THIS SEAT. 12 by the template 'for every input the law returns true; each argument reads behind the call as it read before'; 0 by the template 'total and deterministic' (their statements: YtnonjfknpajpaaaTotals.lean).
  GIVEN WITH THE SEED: the statements are not yours to turn. If you find one false, say at which input.
  Laid BY PROGRAM, IN A SANDBOX (cutbox-rows.mjs): the forced cells as the released guide's own fill.sh prints them over the translation 5be41d4373983db1… (all of the seat's roots in one cut). By AI agents, Wed Nov 11 2026. No macro, syntax, notation, axiom, sorry.
-/
import Derived.Test.YtnonjfknpajpaaaChecked
import GoSem.Claim
import GoSem.ClaimJoined
import GoSem.ClaimMapViews
import Derived.JoinedTies
import Derived.KernelRfl
namespace Go.Proofs.Ytnonjfknpajpaaa
/- THE CELL 'sum', in the pinned program and in every row, IS THE sha256 OF THE DUMP (.gsa) THAT YtnonjfknpajpaaaProg.lean LOADS. Nothing in Lean hashes anything: it is a label: what it is worth is what the hold of that sum in a sandbox is worth. -/
noncomputable def Try.pinned : Pinned := { name := "ytnonjfknpajpaaa", sum := "5be41d4373983db19258ea9bb101fa4284371c4439c0d1d0115561bcfaf06bbd", checked := Try.checked }
namespace Rows
def none {H : Type} : Left H := { results := [], args := [] }

/-- 'planchetlaw04.AdrsApart': WHATEVER THE INPUT: true; the input reads as it did. -/
def adrsApartSpec : ChangeSpec := { name := "adrsApart", fn := fun _ => fun
  | [d1, d2, d3, d4] => { results := [.lit (.bool true)], args := [d1, d2, d3, d4] }
  | _ => none }
def adrsApartRow : OpenClaim := { program := "ytnonjfknpajpaaa", sum := "5be41d4373983db19258ea9bb101fa4284371c4439c0d1d0115561bcfaf06bbd", func := "planchet/planchetlaw04.AdrsApart", spec := "adrsApart", apart := false }
def AdrsApartSaid : Prop := adrsApartRow.holds Try.pinned (OpenSpec.ofChange adrsApartSpec)

/-- ITS FALSE NEIGHBOUR: 'it returns false'. Refute it at one input. -/
def adrsApartWrong : ChangeSpec := { name := "adrsApart", fn := fun _ => fun
  | [d1, d2, d3, d4] => { results := [.lit (.bool false)], args := [d1, d2, d3, d4] }
  | _ => none }
def AdrsApartWrongFalsely : Prop := adrsApartRow.holds Try.pinned (OpenSpec.ofChange adrsApartWrong)

/-- 'planchetlaw06.DigitsOf': WHATEVER THE INPUT: true; the input reads as it did. -/
def digitsOfSpec : ChangeSpec := { name := "digitsOf", fn := fun _ => fun
  | [d1, d2] => { results := [.lit (.bool true)], args := [d1, d2] }
  | _ => none }
def digitsOfRow : OpenClaim := { program := "ytnonjfknpajpaaa", sum := "5be41d4373983db19258ea9bb101fa4284371c4439c0d1d0115561bcfaf06bbd", func := "planchet/planchetlaw06.DigitsOf", spec := "digitsOf", apart := false }
def DigitsOfSaid : Prop := digitsOfRow.holds Try.pinned (OpenSpec.ofChange digitsOfSpec)

/-- ITS FALSE NEIGHBOUR: 'it returns false'. Refute it at one input. -/
def digitsOfWrong : ChangeSpec := { name := "digitsOf", fn := fun _ => fun
  | [d1, d2] => { results := [.lit (.bool false)], args := [d1, d2] }
  | _ => none }
def DigitsOfWrongFalsely : Prop := digitsOfRow.holds Try.pinned (OpenSpec.ofChange digitsOfWrong)

/-- 'planchetlaw06.DigitsApart': WHATEVER THE INPUT: true; the input reads as it did. -/
def digitsApartSpec : ChangeSpec := { name := "digitsApart", fn := fun _ => fun
  | [d1, d2] => { results := [.lit (.bool true)], args := [d1, d2] }
  | _ => none }
def digitsApartRow : OpenClaim := { program := "ytnonjfknpajpaaa", sum := "5be41d4373983db19258ea9bb101fa4284371c4439c0d1d0115561bcfaf06bbd", func := "planchet/planchetlaw06.DigitsApart", spec := "digitsApart", apart := false }
def DigitsApartSaid : Prop := digitsApartRow.holds Try.pinned (OpenSpec.ofChange digitsApartSpec)

/-- ITS FALSE NEIGHBOUR: 'it returns false'. Refute it at one input. -/
def digitsApartWrong : ChangeSpec := { name := "digitsApart", fn := fun _ => fun
  | [d1, d2] => { results := [.lit (.bool false)], args := [d1, d2] }
  | _ => none }
def DigitsApartWrongFalsely : Prop := digitsApartRow.holds Try.pinned (OpenSpec.ofChange digitsApartWrong)

/-- 'planchetlaw14.FenceRaises': WHATEVER THE INPUT: true; the input reads as it did. -/
def fenceRaisesSpec : ChangeSpec := { name := "fenceRaises", fn := fun _ => fun
  | [d] => { results := [.lit (.bool true)], args := [d] }
  | _ => none }
def fenceRaisesRow : OpenClaim := { program := "ytnonjfknpajpaaa", sum := "5be41d4373983db19258ea9bb101fa4284371c4439c0d1d0115561bcfaf06bbd", func := "planchet/planchetlaw14.FenceRaises", spec := "fenceRaises", apart := false }
def FenceRaisesSaid : Prop := fenceRaisesRow.holds Try.pinned (OpenSpec.ofChange fenceRaisesSpec)

/-- ITS FALSE NEIGHBOUR: 'it returns false'. Refute it at one input. -/
def fenceRaisesWrong : ChangeSpec := { name := "fenceRaises", fn := fun _ => fun
  | [d] => { results := [.lit (.bool false)], args := [d] }
  | _ => none }
def FenceRaisesWrongFalsely : Prop := fenceRaisesRow.holds Try.pinned (OpenSpec.ofChange fenceRaisesWrong)

/-- 'planchetlaw04.AdrsMakes': WHATEVER THE INPUT: true; the input reads as it did. -/
def adrsMakesSpec : ChangeSpec := { name := "adrsMakes", fn := fun _ => fun
  | [d1, d2, d3, d4, d5] => { results := [.lit (.bool true)], args := [d1, d2, d3, d4, d5] }
  | _ => none }
def adrsMakesRow : OpenClaim := { program := "ytnonjfknpajpaaa", sum := "5be41d4373983db19258ea9bb101fa4284371c4439c0d1d0115561bcfaf06bbd", func := "planchet/planchetlaw04.AdrsMakes", spec := "adrsMakes", apart := false }
def AdrsMakesSaid : Prop := adrsMakesRow.holds Try.pinned (OpenSpec.ofChange adrsMakesSpec)

/-- ITS FALSE NEIGHBOUR: 'it returns false'. Refute it at one input. -/
def adrsMakesWrong : ChangeSpec := { name := "adrsMakes", fn := fun _ => fun
  | [d1, d2, d3, d4, d5] => { results := [.lit (.bool false)], args := [d1, d2, d3, d4, d5] }
  | _ => none }
def AdrsMakesWrongFalsely : Prop := adrsMakesRow.holds Try.pinned (OpenSpec.ofChange adrsMakesWrong)

/-- 'planchetlaw03.PackNumbers': WHATEVER THE INPUT: true; the input reads as it did. -/
def packNumbersSpec : ChangeSpec := { name := "packNumbers", fn := fun _ => fun
  | [d1, d2, d3] => { results := [.lit (.bool true)], args := [d1, d2, d3] }
  | _ => none }
def packNumbersRow : OpenClaim := { program := "ytnonjfknpajpaaa", sum := "5be41d4373983db19258ea9bb101fa4284371c4439c0d1d0115561bcfaf06bbd", func := "planchet/planchetlaw03.PackNumbers", spec := "packNumbers", apart := false }
def PackNumbersSaid : Prop := packNumbersRow.holds Try.pinned (OpenSpec.ofChange packNumbersSpec)

/-- ITS FALSE NEIGHBOUR: 'it returns false'. Refute it at one input. -/
def packNumbersWrong : ChangeSpec := { name := "packNumbers", fn := fun _ => fun
  | [d1, d2, d3] => { results := [.lit (.bool false)], args := [d1, d2, d3] }
  | _ => none }
def PackNumbersWrongFalsely : Prop := packNumbersRow.holds Try.pinned (OpenSpec.ofChange packNumbersWrong)

/-- 'planchetlaw04.AdrsParses': WHATEVER THE INPUT: true; the input reads as it did. -/
def adrsParsesSpec : ChangeSpec := { name := "adrsParses", fn := fun _ => fun
  | [d1, d2] => { results := [.lit (.bool true)], args := [d1, d2] }
  | _ => none }
def adrsParsesRow : OpenClaim := { program := "ytnonjfknpajpaaa", sum := "5be41d4373983db19258ea9bb101fa4284371c4439c0d1d0115561bcfaf06bbd", func := "planchet/planchetlaw04.AdrsParses", spec := "adrsParses", apart := false }
def AdrsParsesSaid : Prop := adrsParsesRow.holds Try.pinned (OpenSpec.ofChange adrsParsesSpec)

/-- ITS FALSE NEIGHBOUR: 'it returns false'. Refute it at one input. -/
def adrsParsesWrong : ChangeSpec := { name := "adrsParses", fn := fun _ => fun
  | [d1, d2] => { results := [.lit (.bool false)], args := [d1, d2] }
  | _ => none }
def AdrsParsesWrongFalsely : Prop := adrsParsesRow.holds Try.pinned (OpenSpec.ofChange adrsParsesWrong)

/-- 'planchetlaw03.PackRows': WHATEVER THE INPUT: true; the input reads as it did. -/
def packRowsSpec : ChangeSpec := { name := "packRows", fn := fun _ => fun
  | [d] => { results := [.lit (.bool true)], args := [d] }
  | _ => none }
def packRowsRow : OpenClaim := { program := "ytnonjfknpajpaaa", sum := "5be41d4373983db19258ea9bb101fa4284371c4439c0d1d0115561bcfaf06bbd", func := "planchet/planchetlaw03.PackRows", spec := "packRows", apart := false }
def PackRowsSaid : Prop := packRowsRow.holds Try.pinned (OpenSpec.ofChange packRowsSpec)

/-- ITS FALSE NEIGHBOUR: 'it returns false'. Refute it at one input. -/
def packRowsWrong : ChangeSpec := { name := "packRows", fn := fun _ => fun
  | [d] => { results := [.lit (.bool false)], args := [d] }
  | _ => none }
def PackRowsWrongFalsely : Prop := packRowsRow.holds Try.pinned (OpenSpec.ofChange packRowsWrong)

/-- 'planchetlaw03.PackSplits': WHATEVER THE INPUT: true; the input reads as it did. -/
def packSplitsSpec : ChangeSpec := { name := "packSplits", fn := fun _ => fun
  | [d1, d2] => { results := [.lit (.bool true)], args := [d1, d2] }
  | _ => none }
def packSplitsRow : OpenClaim := { program := "ytnonjfknpajpaaa", sum := "5be41d4373983db19258ea9bb101fa4284371c4439c0d1d0115561bcfaf06bbd", func := "planchet/planchetlaw03.PackSplits", spec := "packSplits", apart := false }
def PackSplitsSaid : Prop := packSplitsRow.holds Try.pinned (OpenSpec.ofChange packSplitsSpec)

/-- ITS FALSE NEIGHBOUR: 'it returns false'. Refute it at one input. -/
def packSplitsWrong : ChangeSpec := { name := "packSplits", fn := fun _ => fun
  | [d1, d2] => { results := [.lit (.bool false)], args := [d1, d2] }
  | _ => none }
def PackSplitsWrongFalsely : Prop := packSplitsRow.holds Try.pinned (OpenSpec.ofChange packSplitsWrong)

/-- 'planchetlaw01.ShaSums': WHATEVER THE INPUT: true; the input reads as it did. -/
def shaSumsSpec : ChangeSpec := { name := "shaSums", fn := fun _ => fun
  | [d] => { results := [.lit (.bool true)], args := [d] }
  | _ => none }
def shaSumsRow : OpenClaim := { program := "ytnonjfknpajpaaa", sum := "5be41d4373983db19258ea9bb101fa4284371c4439c0d1d0115561bcfaf06bbd", func := "planchet/planchetlaw01.ShaSums", spec := "shaSums", recurses := true, apart := false }
def ShaSumsSaid : Prop := shaSumsRow.holds Try.pinned (OpenSpec.ofChange shaSumsSpec)

/-- ITS FALSE NEIGHBOUR: 'it returns false'. Refute it at one input. -/
def shaSumsWrong : ChangeSpec := { name := "shaSums", fn := fun _ => fun
  | [d] => { results := [.lit (.bool false)], args := [d] }
  | _ => none }
def ShaSumsWrongFalsely : Prop := shaSumsRow.holds Try.pinned (OpenSpec.ofChange shaSumsWrong)

/-- 'planchetlaw01.ShaWrites': WHATEVER THE INPUT: true; the input reads as it did. -/
def shaWritesSpec : ChangeSpec := { name := "shaWrites", fn := fun _ => fun
  | [d] => { results := [.lit (.bool true)], args := [d] }
  | _ => none }
def shaWritesRow : OpenClaim := { program := "ytnonjfknpajpaaa", sum := "5be41d4373983db19258ea9bb101fa4284371c4439c0d1d0115561bcfaf06bbd", func := "planchet/planchetlaw01.ShaWrites", spec := "shaWrites", recurses := true, apart := false }
def ShaWritesSaid : Prop := shaWritesRow.holds Try.pinned (OpenSpec.ofChange shaWritesSpec)

/-- ITS FALSE NEIGHBOUR: 'it returns false'. Refute it at one input. -/
def shaWritesWrong : ChangeSpec := { name := "shaWrites", fn := fun _ => fun
  | [d] => { results := [.lit (.bool false)], args := [d] }
  | _ => none }
def ShaWritesWrongFalsely : Prop := shaWritesRow.holds Try.pinned (OpenSpec.ofChange shaWritesWrong)

/-- 'planchetlaw01.ShaParts': WHATEVER THE INPUT: true; the input reads as it did. -/
def shaPartsSpec : ChangeSpec := { name := "shaParts", fn := fun _ => fun
  | [d1, d2, d3] => { results := [.lit (.bool true)], args := [d1, d2, d3] }
  | _ => none }
def shaPartsRow : OpenClaim := { program := "ytnonjfknpajpaaa", sum := "5be41d4373983db19258ea9bb101fa4284371c4439c0d1d0115561bcfaf06bbd", func := "planchet/planchetlaw01.ShaParts", spec := "shaParts", recurses := true, apart := false }
def ShaPartsSaid : Prop := shaPartsRow.holds Try.pinned (OpenSpec.ofChange shaPartsSpec)

/-- ITS FALSE NEIGHBOUR: 'it returns false'. Refute it at one input. -/
def shaPartsWrong : ChangeSpec := { name := "shaParts", fn := fun _ => fun
  | [d1, d2, d3] => { results := [.lit (.bool false)], args := [d1, d2, d3] }
  | _ => none }
def ShaPartsWrongFalsely : Prop := shaPartsRow.holds Try.pinned (OpenSpec.ofChange shaPartsWrong)

/- THE SECOND FORM. 'bulk': how many values and letters a reading holds, each counted each time it is reached (what is shared counts as often as it is met; a slice's spare places count too). A statement '..UptoSaid' is the law's where the arguments, and the package variables that the reading takes, are together of bulk at most 1048576: NARROWER than '..Said'. Prove '..Said' where nothing that the law and all that it calls make is longer than what came in: it says more and counts as full. Else prove '..UptoSaid'. A law counts once. -/
mutual
def uptoBulk {H : Type} : DataW H → Nat
  | .lit (.string bytes) => bytes.length + 1
  | .lit _ => 1
  | .nil => 1
  | .ptr d => uptoBulk d + 1
  | .slice elems spare => uptoBulkAll elems + uptoBulkAll spare + 1
  | .agg parts => uptoBulkAll parts + 1
  | .iface _ d => uptoBulk d + 1
  | .map entries => uptoBulkEntries entries + 1
  | .held _ => 1
def uptoBulkAll {H : Type} : List (DataW H) → Nat
  | [] => 0
  | d :: r => uptoBulk d + uptoBulkAll r
def uptoBulkEntries {H : Type} : List (Lit × DataW H) → Nat
  | [] => 0
  | x :: r => uptoBulkEntry x + uptoBulkEntries r
def uptoBulkEntry {H : Type} : Lit × DataW H → Nat
  | (.string bytes, d) => bytes.length + uptoBulk d + 1
  | (_, d) => uptoBulk d + 1
 end
def uptoSmall : (H : Type) → List (DataW H) → Bool := fun _ ds => decide (uptoBulkAll ds ≤ 1048576)
def OpenSpec.upto (s : _root_.Go.ChangeSpec) : _root_.Go.OpenSpec := { _root_.Go.OpenSpec.ofChange s with cond := some uptoSmall }

/-- 'planchetlaw04.AdrsApart', WHERE WHAT IT READS IS OF BULK AT MOST 1048576: true; the input reads as it did. -/
def adrsApartUptoRow : OpenClaim := { program := "ytnonjfknpajpaaa", sum := "5be41d4373983db19258ea9bb101fa4284371c4439c0d1d0115561bcfaf06bbd", func := "planchet/planchetlaw04.AdrsApart", spec := "adrsApart", apart := false, narrowed := true }
def AdrsApartUptoSaid : Prop := adrsApartUptoRow.holds Try.pinned (OpenSpec.upto adrsApartSpec)

/-- 'planchetlaw06.DigitsOf', WHERE WHAT IT READS IS OF BULK AT MOST 1048576: true; the input reads as it did. -/
def digitsOfUptoRow : OpenClaim := { program := "ytnonjfknpajpaaa", sum := "5be41d4373983db19258ea9bb101fa4284371c4439c0d1d0115561bcfaf06bbd", func := "planchet/planchetlaw06.DigitsOf", spec := "digitsOf", apart := false, narrowed := true }
def DigitsOfUptoSaid : Prop := digitsOfUptoRow.holds Try.pinned (OpenSpec.upto digitsOfSpec)

/-- 'planchetlaw06.DigitsApart', WHERE WHAT IT READS IS OF BULK AT MOST 1048576: true; the input reads as it did. -/
def digitsApartUptoRow : OpenClaim := { program := "ytnonjfknpajpaaa", sum := "5be41d4373983db19258ea9bb101fa4284371c4439c0d1d0115561bcfaf06bbd", func := "planchet/planchetlaw06.DigitsApart", spec := "digitsApart", apart := false, narrowed := true }
def DigitsApartUptoSaid : Prop := digitsApartUptoRow.holds Try.pinned (OpenSpec.upto digitsApartSpec)

/-- 'planchetlaw14.FenceRaises', WHERE WHAT IT READS IS OF BULK AT MOST 1048576: true; the input reads as it did. -/
def fenceRaisesUptoRow : OpenClaim := { program := "ytnonjfknpajpaaa", sum := "5be41d4373983db19258ea9bb101fa4284371c4439c0d1d0115561bcfaf06bbd", func := "planchet/planchetlaw14.FenceRaises", spec := "fenceRaises", apart := false, narrowed := true }
def FenceRaisesUptoSaid : Prop := fenceRaisesUptoRow.holds Try.pinned (OpenSpec.upto fenceRaisesSpec)

/-- 'planchetlaw04.AdrsMakes', WHERE WHAT IT READS IS OF BULK AT MOST 1048576: true; the input reads as it did. -/
def adrsMakesUptoRow : OpenClaim := { program := "ytnonjfknpajpaaa", sum := "5be41d4373983db19258ea9bb101fa4284371c4439c0d1d0115561bcfaf06bbd", func := "planchet/planchetlaw04.AdrsMakes", spec := "adrsMakes", apart := false, narrowed := true }
def AdrsMakesUptoSaid : Prop := adrsMakesUptoRow.holds Try.pinned (OpenSpec.upto adrsMakesSpec)

/-- 'planchetlaw03.PackNumbers', WHERE WHAT IT READS IS OF BULK AT MOST 1048576: true; the input reads as it did. -/
def packNumbersUptoRow : OpenClaim := { program := "ytnonjfknpajpaaa", sum := "5be41d4373983db19258ea9bb101fa4284371c4439c0d1d0115561bcfaf06bbd", func := "planchet/planchetlaw03.PackNumbers", spec := "packNumbers", apart := false, narrowed := true }
def PackNumbersUptoSaid : Prop := packNumbersUptoRow.holds Try.pinned (OpenSpec.upto packNumbersSpec)

/-- 'planchetlaw04.AdrsParses', WHERE WHAT IT READS IS OF BULK AT MOST 1048576: true; the input reads as it did. -/
def adrsParsesUptoRow : OpenClaim := { program := "ytnonjfknpajpaaa", sum := "5be41d4373983db19258ea9bb101fa4284371c4439c0d1d0115561bcfaf06bbd", func := "planchet/planchetlaw04.AdrsParses", spec := "adrsParses", apart := false, narrowed := true }
def AdrsParsesUptoSaid : Prop := adrsParsesUptoRow.holds Try.pinned (OpenSpec.upto adrsParsesSpec)

/-- 'planchetlaw03.PackRows', WHERE WHAT IT READS IS OF BULK AT MOST 1048576: true; the input reads as it did. -/
def packRowsUptoRow : OpenClaim := { program := "ytnonjfknpajpaaa", sum := "5be41d4373983db19258ea9bb101fa4284371c4439c0d1d0115561bcfaf06bbd", func := "planchet/planchetlaw03.PackRows", spec := "packRows", apart := false, narrowed := true }
def PackRowsUptoSaid : Prop := packRowsUptoRow.holds Try.pinned (OpenSpec.upto packRowsSpec)

/-- 'planchetlaw03.PackSplits', WHERE WHAT IT READS IS OF BULK AT MOST 1048576: true; the input reads as it did. -/
def packSplitsUptoRow : OpenClaim := { program := "ytnonjfknpajpaaa", sum := "5be41d4373983db19258ea9bb101fa4284371c4439c0d1d0115561bcfaf06bbd", func := "planchet/planchetlaw03.PackSplits", spec := "packSplits", apart := false, narrowed := true }
def PackSplitsUptoSaid : Prop := packSplitsUptoRow.holds Try.pinned (OpenSpec.upto packSplitsSpec)

/-- 'planchetlaw01.ShaSums', WHERE WHAT IT READS IS OF BULK AT MOST 1048576: true; the input reads as it did. -/
def shaSumsUptoRow : OpenClaim := { program := "ytnonjfknpajpaaa", sum := "5be41d4373983db19258ea9bb101fa4284371c4439c0d1d0115561bcfaf06bbd", func := "planchet/planchetlaw01.ShaSums", spec := "shaSums", recurses := true, apart := false, narrowed := true }
def ShaSumsUptoSaid : Prop := shaSumsUptoRow.holds Try.pinned (OpenSpec.upto shaSumsSpec)

/-- 'planchetlaw01.ShaWrites', WHERE WHAT IT READS IS OF BULK AT MOST 1048576: true; the input reads as it did. -/
def shaWritesUptoRow : OpenClaim := { program := "ytnonjfknpajpaaa", sum := "5be41d4373983db19258ea9bb101fa4284371c4439c0d1d0115561bcfaf06bbd", func := "planchet/planchetlaw01.ShaWrites", spec := "shaWrites", recurses := true, apart := false, narrowed := true }
def ShaWritesUptoSaid : Prop := shaWritesUptoRow.holds Try.pinned (OpenSpec.upto shaWritesSpec)

/-- 'planchetlaw01.ShaParts', WHERE WHAT IT READS IS OF BULK AT MOST 1048576: true; the input reads as it did. -/
def shaPartsUptoRow : OpenClaim := { program := "ytnonjfknpajpaaa", sum := "5be41d4373983db19258ea9bb101fa4284371c4439c0d1d0115561bcfaf06bbd", func := "planchet/planchetlaw01.ShaParts", spec := "shaParts", recurses := true, apart := false, narrowed := true }
def ShaPartsUptoSaid : Prop := shaPartsUptoRow.holds Try.pinned (OpenSpec.upto shaPartsSpec)

end Rows
end Go.Proofs.Ytnonjfknpajpaaa
