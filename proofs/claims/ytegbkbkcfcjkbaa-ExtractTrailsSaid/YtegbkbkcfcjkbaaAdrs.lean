/- The contracts of the package adrs, and the walk of planchetlaw04.AdrsApart. -/
import Derived.Test.YtegbkbkcfcjkbaaGT
namespace Go.Proofs.Ytegbkbkcfcjkbaa
open Go Go.Sy Go.Proofs.Try
set_option maxRecDepth 100000
set_option maxHeartbeats 4000000
set_option linter.unusedSimpArgs false
set_option linter.unusedVariables false

def base (l a k f : Int) : List Int := [l, IntKind.u32.wrap (ishr .u64 a 32), IntKind.u32.wrap a, k, f, 0, 0, 0]
theorem u64_of {t : Int} (h : (Lit.int .u64 t).wf = true) : 0 ≤ t ∧ t < 18446744073709551616 := by
  simp [Lit.wf, IntKind.min, IntKind.max, IntKind.signed, IntKind.bits] at h
  omega
theorem wrap_u32' (n : Int) : IntKind.u32.wrap n = n % 4294967296 := by
  simp [IntKind.wrap, IntKind.signed, IntKind.bits]
theorem split64 {t o : Int} (ht : (Lit.int .u64 t).wf = true) (ho : (Lit.int .u64 o).wf = true) (h1 : IntKind.u32.wrap (ishr .u64 t 32) = IntKind.u32.wrap (ishr .u64 o 32)) (h2 : IntKind.u32.wrap t = IntKind.u32.wrap o) : t = o := by
  obtain ⟨t0, t1⟩ := u64_of ht
  obtain ⟨o0, o1⟩ := u64_of ho
  rw [wrap_u32', wrap_u32'] at h1 h2
  have e1 : ishr .u64 t 32 = t / 4294967296 := Int.fdiv_eq_ediv_of_nonneg t (by decide)
  have e2 : ishr .u64 o 32 = o / 4294967296 := Int.fdiv_eq_ediv_of_nonneg o (by decide)
  rw [e1, e2] at h1
  omega
end Go.Proofs.Ytegbkbkcfcjkbaa
