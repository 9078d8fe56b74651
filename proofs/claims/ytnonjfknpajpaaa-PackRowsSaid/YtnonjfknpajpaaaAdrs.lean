/- The contracts of the package adrs, and the walk of planchetlaw04.AdrsApart. -/
import Derived.Test.YtnonjfknpajpaaaTy
import Derived.Test.YtnonjfknpajpaaaPl
namespace Go.Proofs.Ytnonjfknpajpaaa
open Go Go.Sy Go.Proofs.Try
set_option maxRecDepth 100000
set_option maxHeartbeats 4000000
set_option linter.unusedSimpArgs false
set_option linter.unusedVariables false
attribute [go_sem] pl3
theorem for_spec (xs : List Int) (w : Int) : FnC Try.prog 15 [.ints .u32 8 xs, .int .u32 w] [] (.ints .u32 8 (xs.set 7 w)) [] := by
  refine fn0 mix [] 0 2 [.cell 4 26] Try.func15 rfl (by kernel_rfl) (by kernel_rfl) rfl (by kernel_rfl) (by kernel_rfl) (by simp) ?_
  simp (implicitDefEqProofs := false) only [go_sem, ↓reduceIte]
theorem at_spec (xs : List Int) (a b : Int) : FnC Try.prog 16 [.ints .u32 8 xs, .int .u32 a, .int .u32 b] [] (.ints .u32 8 (((xs.set 5 a).set 6 b).set 7 0)) [] := by
  refine fn0 mix [] 0 3 [.cell 6 26] Try.func16 rfl (by kernel_rfl) (by kernel_rfl) rfl (by kernel_rfl) (by kernel_rfl) (by simp) ?_
  simp (implicitDefEqProofs := false) only [go_sem, ↓reduceIte]
def base (l a k f : Int) : List Int := [l, IntKind.u32.wrap (ishr .u64 a 32), IntKind.u32.wrap a, k, f, 0, 0, 0]
theorem base_spec (l a k f : Int) : FnC Try.prog 56 [.int .u32 l, .int .u64 a, .int .u32 k, .int .u32 f] [] (.ints .u32 8 (base l a k f)) [] := by
  refine fn0 mix [] 0 4 [.cell 8 26] Try.func56 rfl (by kernel_rfl) (by kernel_rfl) rfl (by kernel_rfl) (by kernel_rfl) (by simp) ?_
  simp (implicitDefEqProofs := false) only [go_sem, ↓reduceIte]
  simp [base]
theorem ots_spec (l a f : Int) : FnC Try.prog 17 [.int .u32 l, .int .u64 a, .int .u32 f] [] (.ints .u32 8 (base l a 0 f)) [] := by
  refine fn0 mix [] 0 3 [.cell 6 26] Try.func17 rfl (by kernel_rfl) (by kernel_rfl) rfl (by kernel_rfl) (by kernel_rfl) (by simp) ?_
  simp (implicitDefEqProofs := false) only [go_sem, ↓reduceIte]
  refine call0 (base_spec _ _ _ _) ?_
  simp (implicitDefEqProofs := false) only [go_sem, ↓reduceIte]
theorem ltree_spec (l a f : Int) : FnC Try.prog 18 [.int .u32 l, .int .u64 a, .int .u32 f] [] (.ints .u32 8 (base l a 1 f)) [] := by
  refine fn0 mix [] 0 3 [.cell 6 26] Try.func18 rfl (by kernel_rfl) (by kernel_rfl) rfl (by kernel_rfl) (by kernel_rfl) (by simp) ?_
  simp (implicitDefEqProofs := false) only [go_sem, ↓reduceIte]
  refine call0 (base_spec _ _ _ _) ?_
  simp (implicitDefEqProofs := false) only [go_sem, ↓reduceIte]
theorem tree_spec (l a : Int) : FnC Try.prog 19 [.int .u32 l, .int .u64 a] [] (.ints .u32 8 (base l a 2 0)) [] := by
  refine fn0 mix [] 0 2 [.cell 4 26] Try.func19 rfl (by kernel_rfl) (by kernel_rfl) rfl (by kernel_rfl) (by kernel_rfl) (by simp) ?_
  simp (implicitDefEqProofs := false) only [go_sem, ↓reduceIte]
  refine call0 (base_spec _ _ _ _) ?_
  simp (implicitDefEqProofs := false) only [go_sem, ↓reduceIte]
theorem knows04_spec : FnC Try.prog 20 [] [] (.bool true) [] := by
  have e1 : base 1 4294967301 0 7 = [1, 1, 5, 0, 7, 0, 0, 0] := by decide
  have e2 : base 2 3 2 0 = [2, 0, 3, 2, 0, 0, 0, 0] := by decide
  refine fn0 mix [] 0 0 [.tmp 0] Try.func20 rfl (by kernel_rfl) (by kernel_rfl) rfl (by kernel_rfl) (by kernel_rfl) (by simp) ?_
  simp (implicitDefEqProofs := false) only [go_sem, ↓reduceIte]
  refine call0 (ots_spec _ _ _) ?_
  simp (implicitDefEqProofs := false) only [go_sem, ↓reduceIte, e1]
  refine call0 (tree_spec _ _) ?_
  simp (implicitDefEqProofs := false) only [go_sem, ↓reduceIte, e2]
theorem u64_of {t : Int} (h : (Lit.int .u64 t).wf = true) : 0 ≤ t ∧ t < 18446744073709551616 := by
  simp [Lit.wf, IntKind.min, IntKind.max, IntKind.signed, IntKind.bits] at h
  omega
theorem wrap_u32' (n : Int) : IntKind.u32.wrap n = n % 4294967296 := by
  simp [IntKind.wrap, IntKind.signed, IntKind.bits]
theorem split64 {t o : Int} (ht : (Lit.int .u64 t).wf = true) (ho : (Lit.int .u64 o).wf = true) (h1 : IntKind.u32.wrap (ishr .u64 t 32) = IntKind.u32.wrap (ishr .u64 o 32)) (h2 : IntKind.u32.wrap t = IntKind.u32.wrap o) : t = o := by
  obtain ⟨t0, t1⟩ := u64_of ht
  obtain ⟨o0, o1⟩ := u64_of ho
  rw [wrap_u32', wrap_u32'] at h1 h2
  have e1 : ishr .u64 t 32 = t / 4294967296 := Int.fdiv_eq_ediv_of_nonneg t (by decide)
  have e2 : ishr .u64 o 32 = o / 4294967296 := Int.fdiv_eq_ediv_of_nonneg o (by decide)
  rw [e1, e2] at h1
  omega
theorem apart_spec (t o a0 a1 a2 a3 a4 b0 b1 b2 b3 b4 : Int) (ht : (Lit.int .u64 t).wf = true) (ho : (Lit.int .u64 o).wf = true) : FnC Try.prog 3 [.int .u64 t, .int .u64 o, .ints .u32 5 [a0, a1, a2, a3, a4], .ints .u32 5 [b0, b1, b2, b3, b4]] [] (.bool true) [] := by
  refine fn0 mix pl3 0 4 [.tmp 8] Try.func3 rfl (by kernel_rfl) (by kernel_rfl) rfl (by kernel_rfl) (by kernel_rfl) (by simp) ?_
  simp (implicitDefEqProofs := false) only [go_sem, ↓reduceIte, base]
  repeat
    first | refine call0 (for_spec _ _) ?_ | refine call0 (at_spec _ _ _) ?_ | refine call0 (ots_spec _ _ _) ?_ | refine call0 (ltree_spec _ _ _) ?_ | refine call0 (tree_spec _ _) ?_
    simp (implicitDefEqProofs := false) only [go_sem, ↓reduceIte, base, List.cons.injEq, reduceCtorEq, false_and, and_false]
  have hb : (decide (a0 = b0 ∧ IntKind.u32.wrap (ishr IntKind.u64 t 32) = IntKind.u32.wrap (ishr IntKind.u64 o 32) ∧ IntKind.u32.wrap t = IntKind.u32.wrap o ∧ a1 = b1 ∧ a2 = b2 ∧ a3 = b3 ∧ a4 = b4)) = (if t = o then decide (a0 = b0 ∧ a1 = b1 ∧ a2 = b2 ∧ a3 = b3 ∧ a4 = b4) else false) := by
    split
    · rename_i h; subst h; simp
    · rename_i h
      exact decide_eq_false fun hh => h (split64 ht ho hh.2.1 hh.2.2.1)
  refine brd (fun h => ?_) (fun h => ?_)
  · simp (implicitDefEqProofs := false) only [go_sem, ↓reduceIte, List.cons.injEq, reduceCtorEq, false_and, and_false, hb, if_pos h, beq_self_eq_true]
    refine call0 knows04_spec ?_
    simp (implicitDefEqProofs := false) only [go_sem, ↓reduceIte]
  · simp (implicitDefEqProofs := false) only [go_sem, ↓reduceIte, List.cons.injEq, reduceCtorEq, false_and, and_false, hb, if_neg h, beq_self_eq_true]
    refine call0 knows04_spec ?_
    simp (implicitDefEqProofs := false) only [go_sem, ↓reduceIte]
end Go.Proofs.Ytnonjfknpajpaaa
