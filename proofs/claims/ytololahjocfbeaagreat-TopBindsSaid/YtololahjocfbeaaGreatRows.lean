/-
  No cell of these rows narrows 'for every input' (looked for: loops, veiled, ifaces, maps, wideKeys, modest, calm, conditions, laid).
  DERIVED. THE GIVEN ROWS OF THIS SEAT. 7 by the template 'for every input the law returns true; each argument reads behind the call as it read before'; 0 by the template 'total and deterministic' (their statements: YtololahjocfbeaaGreatTotals.lean).
  GIVEN WITH THE SEED: the statements are not yours to turn. If you find one false, say at which input.
  Laid BY PROGRAM, IN A SANDBOX (cutbox-rows.mjs): the forced cells as the released guide's own fill.sh prints them over the translation b81cff14b85b9244… (all of the seat's roots in one cut). By AI agents, Wed Nov 11 2026. No macro, syntax, notation, axiom, sorry.
-/
import Derived.Test.YtololahjocfbeaaGreatChecked
import GoSem.Claim
import GoSem.ClaimJoined
import GoSem.ClaimMapViews
import Derived.JoinedTies
import Derived.KernelRfl
namespace Go.Proofs.YtololahjocfbeaaGreat
/- THE CELL 'sum', in the pinned program and in every row, IS THE sha256 OF THE DUMP (.gsa) THAT YtololahjocfbeaaGreatProg.lean LOADS. Nothing in Lean hashes anything: it is a label: what it is worth is what the hold of that sum in a sandbox is worth. -/
noncomputable def Tryz.pinned : Pinned := { name := "ytololahjocfbeaagreat", sum := "b81cff14b85b9244bd0a79f401a0a78592658c6855749db79b5cc2d73370460c", checked := Tryz.checked }
namespace Rows
def none {H : Type} : Left H := { results := [], args := [] }

/-- 'planchettop.TopOnce': WHATEVER THE INPUT: true; the input reads as it did. -/
def topOnceSpec : ChangeSpec := { name := "topOnce", fn := fun _ => fun
  | [d1, d2, d3, d4] => { results := [.lit (.bool true)], args := [d1, d2, d3, d4] }
  | _ => none }
def topOnceRow : OpenClaim := { program := "ytololahjocfbeaagreat", sum := "b81cff14b85b9244bd0a79f401a0a78592658c6855749db79b5cc2d73370460c", func := "planchet/planchettop.TopOnce", spec := "topOnce", inPlace := ["internal/bytealg.Compare"], unfollowed := true, recurses := true, plainKeys := false, apart := false }
def TopOnceSaid : Prop := topOnceRow.holds Tryz.pinned (OpenSpec.ofChange topOnceSpec)

/-- ITS FALSE NEIGHBOUR: 'it returns false'. Refute it at one input. -/
def topOnceWrong : ChangeSpec := { name := "topOnce", fn := fun _ => fun
  | [d1, d2, d3, d4] => { results := [.lit (.bool false)], args := [d1, d2, d3, d4] }
  | _ => none }
def TopOnceWrongFalsely : Prop := topOnceRow.holds Tryz.pinned (OpenSpec.ofChange topOnceWrong)

/-- 'planchettop.TopRecovers': WHATEVER THE INPUT: true; the input reads as it did. -/
def topRecoversSpec : ChangeSpec := { name := "topRecovers", fn := fun _ => fun
  | [d1, d2, d3, d4] => { results := [.lit (.bool true)], args := [d1, d2, d3, d4] }
  | _ => none }
def topRecoversRow : OpenClaim := { program := "ytololahjocfbeaagreat", sum := "b81cff14b85b9244bd0a79f401a0a78592658c6855749db79b5cc2d73370460c", func := "planchet/planchettop.TopRecovers", spec := "topRecovers", inPlace := ["internal/bytealg.Compare"], unfollowed := true, recurses := true, plainKeys := false, apart := false }
def TopRecoversSaid : Prop := topRecoversRow.holds Tryz.pinned (OpenSpec.ofChange topRecoversSpec)

/-- ITS FALSE NEIGHBOUR: 'it returns false'. Refute it at one input. -/
def topRecoversWrong : ChangeSpec := { name := "topRecovers", fn := fun _ => fun
  | [d1, d2, d3, d4] => { results := [.lit (.bool false)], args := [d1, d2, d3, d4] }
  | _ => none }
def TopRecoversWrongFalsely : Prop := topRecoversRow.holds Tryz.pinned (OpenSpec.ofChange topRecoversWrong)

/-- 'planchetlaw24.WorldRuns': WHATEVER THE INPUT: true; the input reads as it did. -/
def worldRunsSpec : ChangeSpec := { name := "worldRuns", fn := fun _ => fun
  | [d1, d2, d3, d4] => { results := [.lit (.bool true)], args := [d1, d2, d3, d4] }
  | _ => none }
def worldRunsRow : OpenClaim := { program := "ytololahjocfbeaagreat", sum := "b81cff14b85b9244bd0a79f401a0a78592658c6855749db79b5cc2d73370460c", func := "planchet/planchetlaw24.WorldRuns", spec := "worldRuns", inPlace := ["internal/bytealg.Compare"], unfollowed := true, recurses := true, plainKeys := false, apart := false }
def WorldRunsSaid : Prop := worldRunsRow.holds Tryz.pinned (OpenSpec.ofChange worldRunsSpec)

/-- ITS FALSE NEIGHBOUR: 'it returns false'. Refute it at one input. -/
def worldRunsWrong : ChangeSpec := { name := "worldRuns", fn := fun _ => fun
  | [d1, d2, d3, d4] => { results := [.lit (.bool false)], args := [d1, d2, d3, d4] }
  | _ => none }
def WorldRunsWrongFalsely : Prop := worldRunsRow.holds Tryz.pinned (OpenSpec.ofChange worldRunsWrong)

/-- 'planchettop.TopRefuses': WHATEVER THE INPUT: true; the input reads as it did. -/
def topRefusesSpec : ChangeSpec := { name := "topRefuses", fn := fun _ => fun
  | [d1, d2, d3, d4, d5, d6] => { results := [.lit (.bool true)], args := [d1, d2, d3, d4, d5, d6] }
  | _ => none }
def topRefusesRow : OpenClaim := { program := "ytololahjocfbeaagreat", sum := "b81cff14b85b9244bd0a79f401a0a78592658c6855749db79b5cc2d73370460c", func := "planchet/planchettop.TopRefuses", spec := "topRefuses", inPlace := ["internal/bytealg.Compare"], unfollowed := true, recurses := true, plainKeys := false, apart := false }
def TopRefusesSaid : Prop := topRefusesRow.holds Tryz.pinned (OpenSpec.ofChange topRefusesSpec)

/-- ITS FALSE NEIGHBOUR: 'it returns false'. Refute it at one input. -/
def topRefusesWrong : ChangeSpec := { name := "topRefuses", fn := fun _ => fun
  | [d1, d2, d3, d4, d5, d6] => { results := [.lit (.bool false)], args := [d1, d2, d3, d4, d5, d6] }
  | _ => none }
def TopRefusesWrongFalsely : Prop := topRefusesRow.holds Tryz.pinned (OpenSpec.ofChange topRefusesWrong)

/-- 'planchettop.TopRoots': WHATEVER THE INPUT: true; the input reads as it did. -/
def topRootsSpec : ChangeSpec := { name := "topRoots", fn := fun _ => fun
  | [d1, d2, d3, d4, d5] => { results := [.lit (.bool true)], args := [d1, d2, d3, d4, d5] }
  | _ => none }
def topRootsRow : OpenClaim := { program := "ytololahjocfbeaagreat", sum := "b81cff14b85b9244bd0a79f401a0a78592658c6855749db79b5cc2d73370460c", func := "planchet/planchettop.TopRoots", spec := "topRoots", inPlace := ["internal/bytealg.Compare"], unfollowed := true, recurses := true, plainKeys := false, apart := false }
def TopRootsSaid : Prop := topRootsRow.holds Tryz.pinned (OpenSpec.ofChange topRootsSpec)

/-- ITS FALSE NEIGHBOUR: 'it returns false'. Refute it at one input. -/
def topRootsWrong : ChangeSpec := { name := "topRoots", fn := fun _ => fun
  | [d1, d2, d3, d4, d5] => { results := [.lit (.bool false)], args := [d1, d2, d3, d4, d5] }
  | _ => none }
def TopRootsWrongFalsely : Prop := topRootsRow.holds Tryz.pinned (OpenSpec.ofChange topRootsWrong)

/-- 'planchettop.TopBinds': WHATEVER THE INPUT: true; the input reads as it did. -/
def topBindsSpec : ChangeSpec := { name := "topBinds", fn := fun _ => fun
  | [d1, d2, d3, d4] => { results := [.lit (.bool true)], args := [d1, d2, d3, d4] }
  | _ => none }
def topBindsRow : OpenClaim := { program := "ytololahjocfbeaagreat", sum := "b81cff14b85b9244bd0a79f401a0a78592658c6855749db79b5cc2d73370460c", func := "planchet/planchettop.TopBinds", spec := "topBinds", inPlace := ["internal/bytealg.Compare"], unfollowed := true, recurses := true, plainKeys := false, apart := false }
def TopBindsSaid : Prop := topBindsRow.holds Tryz.pinned (OpenSpec.ofChange topBindsSpec)

/-- ITS FALSE NEIGHBOUR: 'it returns false'. Refute it at one input. -/
def topBindsWrong : ChangeSpec := { name := "topBinds", fn := fun _ => fun
  | [d1, d2, d3, d4] => { results := [.lit (.bool false)], args := [d1, d2, d3, d4] }
  | _ => none }
def TopBindsWrongFalsely : Prop := topBindsRow.holds Tryz.pinned (OpenSpec.ofChange topBindsWrong)

/-- 'planchettop.TopAccepted': WHATEVER THE INPUT: true; the input reads as it did. -/
def topAcceptedSpec : ChangeSpec := { name := "topAccepted", fn := fun _ => fun
  | [d1, d2, d3, d4, d5, d6] => { results := [.lit (.bool true)], args := [d1, d2, d3, d4, d5, d6] }
  | _ => none }
def topAcceptedRow : OpenClaim := { program := "ytololahjocfbeaagreat", sum := "b81cff14b85b9244bd0a79f401a0a78592658c6855749db79b5cc2d73370460c", func := "planchet/planchettop.TopAccepted", spec := "topAccepted", inPlace := ["internal/bytealg.Compare"], unfollowed := true, recurses := true, plainKeys := false, apart := false }
def TopAcceptedSaid : Prop := topAcceptedRow.holds Tryz.pinned (OpenSpec.ofChange topAcceptedSpec)

/-- ITS FALSE NEIGHBOUR: 'it returns false'. Refute it at one input. -/
def topAcceptedWrong : ChangeSpec := { name := "topAccepted", fn := fun _ => fun
  | [d1, d2, d3, d4, d5, d6] => { results := [.lit (.bool false)], args := [d1, d2, d3, d4, d5, d6] }
  | _ => none }
def TopAcceptedWrongFalsely : Prop := topAcceptedRow.holds Tryz.pinned (OpenSpec.ofChange topAcceptedWrong)

/- THE SECOND FORM. 'bulk': how many values and letters a reading holds, each counted each time it is reached (what is shared counts as often as it is met; a slice's spare places count too). A statement '..UptoSaid' is the law's where the arguments, and the package variables that the reading takes, are together of bulk at most 1048576: NARROWER than '..Said'. Prove '..Said' where nothing that the law and all that it calls make is longer than what came in: it says more and counts as full. Else prove '..UptoSaid'. A law counts once. -/
mutual
def uptoBulk {H : Type} : DataW H → Nat
  | .lit (.string bytes) => bytes.length + 1
  | .lit _ => 1
  | .nil => 1
  | .ptr d => uptoBulk d + 1
  | .slice elems spare => uptoBulkAll elems + uptoBulkAll spare + 1
  | .agg parts => uptoBulkAll parts + 1
  | .iface _ d => uptoBulk d + 1
  | .map entries => uptoBulkEntries entries + 1
  | .held _ => 1
def uptoBulkAll {H : Type} : List (DataW H) → Nat
  | [] => 0
  | d :: r => uptoBulk d + uptoBulkAll r
def uptoBulkEntries {H : Type} : List (Lit × DataW H) → Nat
  | [] => 0
  | x :: r => uptoBulkEntry x + uptoBulkEntries r
def uptoBulkEntry {H : Type} : Lit × DataW H → Nat
  | (.string bytes, d) => bytes.length + uptoBulk d + 1
  | (_, d) => uptoBulk d + 1
 end
def uptoSmall : (H : Type) → List (DataW H) → Bool := fun _ ds => decide (uptoBulkAll ds ≤ 1048576)
def OpenSpec.upto (s : _root_.Go.ChangeSpec) : _root_.Go.OpenSpec := { _root_.Go.OpenSpec.ofChange s with cond := some uptoSmall }

/-- 'planchettop.TopOnce', WHERE WHAT IT READS IS OF BULK AT MOST 1048576: true; the input reads as it did. -/
def topOnceUptoRow : OpenClaim := { program := "ytololahjocfbeaagreat", sum := "b81cff14b85b9244bd0a79f401a0a78592658c6855749db79b5cc2d73370460c", func := "planchet/planchettop.TopOnce", spec := "topOnce", inPlace := ["internal/bytealg.Compare"], unfollowed := true, recurses := true, plainKeys := false, apart := false, narrowed := true }
def TopOnceUptoSaid : Prop := topOnceUptoRow.holds Tryz.pinned (OpenSpec.upto topOnceSpec)

/-- 'planchettop.TopRecovers', WHERE WHAT IT READS IS OF BULK AT MOST 1048576: true; the input reads as it did. -/
def topRecoversUptoRow : OpenClaim := { program := "ytololahjocfbeaagreat", sum := "b81cff14b85b9244bd0a79f401a0a78592658c6855749db79b5cc2d73370460c", func := "planchet/planchettop.TopRecovers", spec := "topRecovers", inPlace := ["internal/bytealg.Compare"], unfollowed := true, recurses := true, plainKeys := false, apart := false, narrowed := true }
def TopRecoversUptoSaid : Prop := topRecoversUptoRow.holds Tryz.pinned (OpenSpec.upto topRecoversSpec)

/-- 'planchetlaw24.WorldRuns', WHERE WHAT IT READS IS OF BULK AT MOST 1048576: true; the input reads as it did. -/
def worldRunsUptoRow : OpenClaim := { program := "ytololahjocfbeaagreat", sum := "b81cff14b85b9244bd0a79f401a0a78592658c6855749db79b5cc2d73370460c", func := "planchet/planchetlaw24.WorldRuns", spec := "worldRuns", inPlace := ["internal/bytealg.Compare"], unfollowed := true, recurses := true, plainKeys := false, apart := false, narrowed := true }
def WorldRunsUptoSaid : Prop := worldRunsUptoRow.holds Tryz.pinned (OpenSpec.upto worldRunsSpec)

/-- 'planchettop.TopRefuses', WHERE WHAT IT READS IS OF BULK AT MOST 1048576: true; the input reads as it did. -/
def topRefusesUptoRow : OpenClaim := { program := "ytololahjocfbeaagreat", sum := "b81cff14b85b9244bd0a79f401a0a78592658c6855749db79b5cc2d73370460c", func := "planchet/planchettop.TopRefuses", spec := "topRefuses", inPlace := ["internal/bytealg.Compare"], unfollowed := true, recurses := true, plainKeys := false, apart := false, narrowed := true }
def TopRefusesUptoSaid : Prop := topRefusesUptoRow.holds Tryz.pinned (OpenSpec.upto topRefusesSpec)

/-- 'planchettop.TopRoots', WHERE WHAT IT READS IS OF BULK AT MOST 1048576: true; the input reads as it did. -/
def topRootsUptoRow : OpenClaim := { program := "ytololahjocfbeaagreat", sum := "b81cff14b85b9244bd0a79f401a0a78592658c6855749db79b5cc2d73370460c", func := "planchet/planchettop.TopRoots", spec := "topRoots", inPlace := ["internal/bytealg.Compare"], unfollowed := true, recurses := true, plainKeys := false, apart := false, narrowed := true }
def TopRootsUptoSaid : Prop := topRootsUptoRow.holds Tryz.pinned (OpenSpec.upto topRootsSpec)

/-- 'planchettop.TopBinds', WHERE WHAT IT READS IS OF BULK AT MOST 1048576: true; the input reads as it did. -/
def topBindsUptoRow : OpenClaim := { program := "ytololahjocfbeaagreat", sum := "b81cff14b85b9244bd0a79f401a0a78592658c6855749db79b5cc2d73370460c", func := "planchet/planchettop.TopBinds", spec := "topBinds", inPlace := ["internal/bytealg.Compare"], unfollowed := true, recurses := true, plainKeys := false, apart := false, narrowed := true }
def TopBindsUptoSaid : Prop := topBindsUptoRow.holds Tryz.pinned (OpenSpec.upto topBindsSpec)

/-- 'planchettop.TopAccepted', WHERE WHAT IT READS IS OF BULK AT MOST 1048576: true; the input reads as it did. -/
def topAcceptedUptoRow : OpenClaim := { program := "ytololahjocfbeaagreat", sum := "b81cff14b85b9244bd0a79f401a0a78592658c6855749db79b5cc2d73370460c", func := "planchet/planchettop.TopAccepted", spec := "topAccepted", inPlace := ["internal/bytealg.Compare"], unfollowed := true, recurses := true, plainKeys := false, apart := false, narrowed := true }
def TopAcceptedUptoSaid : Prop := topAcceptedUptoRow.holds Tryz.pinned (OpenSpec.upto topAcceptedSpec)

end Rows
end Go.Proofs.YtololahjocfbeaaGreat
