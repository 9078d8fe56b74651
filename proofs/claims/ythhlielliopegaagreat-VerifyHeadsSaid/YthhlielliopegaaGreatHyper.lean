/- Keys of the package hyper, and of planchetref11; the walk of HyperKeys. -/
import Derived.Test.YthhlielliopegaaGreatTree5
import Derived.Test.YthhlielliopegaaGreatSig
namespace Go.Proofs.YthhlielliopegaaGreat
open Go Go.Sy Go.Proofs.Tryz
set_option maxRecDepth 100000
set_option maxHeartbeats 8000000
set_option linter.unusedSimpArgs false
set_option linter.unusedVariables false
attribute [go_sem] pl44
def smallP (a b most : Int) : Prop := rightP a b → a * 2 ^ b.toNat ≤ most
instance (a b most : Int) : Decidable (smallP a b most) := by unfold smallP; infer_instance
def keyR (seed pub : List Int) (a b : Int) : List Int := treeD (leafD pub seed (a - 1) 0) pub (a - 1) 0 b.toNat 0
section
variable (seed key pub : List Int) (a b : Int) (hs : goodD seed) (hp : goodD pub)
end
theorem verify_zero_spec : FnC Tryz.prog 44 [.agg [.agg [.int .i64 0, .int .i64 0], .ints .u8 32 zs, .ints .u8 32 zs], .agg [.int .i64 0, .ints .u8 32 zs, .nils], .nils] [] (.bool false) [] := by
  have z1 : List.replicate 32 (0 : Int) = zs := rfl
  refine fn0 mix pl44 0 3 [.tmp 6] Tryz.func44 rfl (by kernel_rfl) (by kernel_rfl) rfl (by kernel_rfl) (by kernel_rfl) (by simp) ?_
  simp (implicitDefEqProofs := false) (disch := omega) only [go_sem, ↓reduceIte, z1]
  refine call0 (many_spec 0 0) ?_
  rw [show manyD 0 0 = 0 by decide]
  simp (implicitDefEqProofs := false) (disch := omega) only [go_sem, ↓reduceIte, z1]
end Go.Proofs.YthhlielliopegaaGreat
