/- The contracts of the package adrs, and the walk of planchetlaw04.AdrsApart. -/
import Derived.Test.YtjaailbgeadnnaaGreatGT
namespace Go.Proofs.YtjaailbgeadnnaaGreat
open Go Go.Sy Go.Proofs.Tryz
set_option maxRecDepth 100000
set_option maxHeartbeats 4000000
set_option linter.unusedSimpArgs false
set_option linter.unusedVariables false

theorem for_spec (xs : List Int) (w : Int) : FnC Tryz.prog 194 [.ints .u32 8 xs, .int .u32 w] [] (.ints .u32 8 (xs.set 7 w)) [] := by
  refine fn0 mix [] 0 2 [.cell 4 251] Tryz.func194 rfl (by kernel_rfl) (by kernel_rfl) rfl (by kernel_rfl) (by kernel_rfl) (by simp) ?_
  simp (implicitDefEqProofs := false) only [go_sem, ↓reduceIte]
theorem at_spec (xs : List Int) (a b : Int) : FnC Tryz.prog 169 [.ints .u32 8 xs, .int .u32 a, .int .u32 b] [] (.ints .u32 8 (((xs.set 5 a).set 6 b).set 7 0)) [] := by
  refine fn0 mix [] 0 3 [.cell 6 251] Tryz.func169 rfl (by kernel_rfl) (by kernel_rfl) rfl (by kernel_rfl) (by kernel_rfl) (by simp) ?_
  simp (implicitDefEqProofs := false) only [go_sem, ↓reduceIte]
def base (l a k f : Int) : List Int := [l, IntKind.u32.wrap (ishr .u64 a 32), IntKind.u32.wrap a, k, f, 0, 0, 0]
theorem base_spec (l a k f : Int) : FnC Tryz.prog 172 [.int .u32 l, .int .u64 a, .int .u32 k, .int .u32 f] [] (.ints .u32 8 (base l a k f)) [] := by
  refine fn0 mix [] 0 4 [.cell 8 251] Tryz.func172 rfl (by kernel_rfl) (by kernel_rfl) rfl (by kernel_rfl) (by kernel_rfl) (by simp) ?_
  simp (implicitDefEqProofs := false) only [go_sem, ↓reduceIte]
  simp [base]
theorem ots_spec (l a f : Int) : FnC Tryz.prog 139 [.int .u32 l, .int .u64 a, .int .u32 f] [] (.ints .u32 8 (base l a 0 f)) [] := by
  refine fn0 mix [] 0 3 [.cell 6 251] Tryz.func139 rfl (by kernel_rfl) (by kernel_rfl) rfl (by kernel_rfl) (by kernel_rfl) (by simp) ?_
  simp (implicitDefEqProofs := false) only [go_sem, ↓reduceIte]
  refine call0 (base_spec _ _ _ _) ?_
  simp (implicitDefEqProofs := false) only [go_sem, ↓reduceIte]
theorem ltree_spec (l a f : Int) : FnC Tryz.prog 141 [.int .u32 l, .int .u64 a, .int .u32 f] [] (.ints .u32 8 (base l a 1 f)) [] := by
  refine fn0 mix [] 0 3 [.cell 6 251] Tryz.func141 rfl (by kernel_rfl) (by kernel_rfl) rfl (by kernel_rfl) (by kernel_rfl) (by simp) ?_
  simp (implicitDefEqProofs := false) only [go_sem, ↓reduceIte]
  refine call0 (base_spec _ _ _ _) ?_
  simp (implicitDefEqProofs := false) only [go_sem, ↓reduceIte]
theorem tree_spec (l a : Int) : FnC Tryz.prog 170 [.int .u32 l, .int .u64 a] [] (.ints .u32 8 (base l a 2 0)) [] := by
  refine fn0 mix [] 0 2 [.cell 4 251] Tryz.func170 rfl (by kernel_rfl) (by kernel_rfl) rfl (by kernel_rfl) (by kernel_rfl) (by simp) ?_
  simp (implicitDefEqProofs := false) only [go_sem, ↓reduceIte]
  refine call0 (base_spec _ _ _ _) ?_
  simp (implicitDefEqProofs := false) only [go_sem, ↓reduceIte]
theorem u64_of {t : Int} (h : (Lit.int .u64 t).wf = true) : 0 ≤ t ∧ t < 18446744073709551616 := by
  simp [Lit.wf, IntKind.min, IntKind.max, IntKind.signed, IntKind.bits] at h
  omega
theorem wrap_u32' (n : Int) : IntKind.u32.wrap n = n % 4294967296 := by
  simp [IntKind.wrap, IntKind.signed, IntKind.bits]
theorem split64 {t o : Int} (ht : (Lit.int .u64 t).wf = true) (ho : (Lit.int .u64 o).wf = true) (h1 : IntKind.u32.wrap (ishr .u64 t 32) = IntKind.u32.wrap (ishr .u64 o 32)) (h2 : IntKind.u32.wrap t = IntKind.u32.wrap o) : t = o := by
  obtain ⟨t0, t1⟩ := u64_of ht
  obtain ⟨o0, o1⟩ := u64_of ho
  rw [wrap_u32', wrap_u32'] at h1 h2
  have e1 : ishr .u64 t 32 = t / 4294967296 := Int.fdiv_eq_ediv_of_nonneg t (by decide)
  have e2 : ishr .u64 o 32 = o / 4294967296 := Int.fdiv_eq_ediv_of_nonneg o (by decide)
  rw [e1, e2] at h1
  omega
end Go.Proofs.YtjaailbgeadnnaaGreat
