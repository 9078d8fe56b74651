/- The walk of TreeClimbs. -/
import Derived.Test.YtjaailbgeadnnaaGreatTree
namespace Go.Proofs.YtjaailbgeadnnaaGreat
open Go Go.Sy Go.Proofs.Tryz
set_option maxRecDepth 100000
set_option maxHeartbeats 8000000
set_option linter.unusedSimpArgs false
set_option linter.unusedVariables false
attribute [go_sem] pl67
section
variable (pub : List Int) (l t : Int) (hp : goodD pub) (hl : 0 ≤ l ∧ l < 4294967296) (ht : 0 ≤ t ∧ t < 18446744073709551616)
end
def secA (seed key pub : List Int) : AV := .agg [.ints .u8 32 seed, .ints .u8 32 key, .ints .u8 32 pub]
theorem build_bad_spec (seed key pub : List Int) (l t levels i : Int) (hi : i < 9223372036854775808) (h : ¬ mayT levels i) :
    FnC Tryz.prog 67 [.agg [.ints .u8 32 seed, .ints .u8 32 key, .ints .u8 32 pub], .int .u32 l, .int .u64 t, .int .i64 levels, .int .i64 i] [] (.tup [.ints .u8 32 (List.replicate 32 0), .nils, .int .i64 1]) [] := by
  unfold mayT at h
  refine fn0 mix pl67 0 5 [.cell 10 25, .tmp 11, .tmp 12] Tryz.func67 rfl (by kernel_rfl) (by kernel_rfl) rfl (by kernel_rfl) (by kernel_rfl) (by simp) ?_
  simp (implicitDefEqProofs := false) (disch := omega) only [go_sem, ↓reduceIte]
  refine brd (fun h1 => ?_) (fun h1 => ?_)
  · simp (implicitDefEqProofs := false) (disch := omega) only [go_sem, ↓reduceIte]
  simp (implicitDefEqProofs := false) (disch := omega) only [go_sem, ↓reduceIte]
  refine brd (fun h2 => ?_) (fun h2 => ?_)
  · simp (implicitDefEqProofs := false) (disch := omega) only [go_sem, ↓reduceIte]
  simp (implicitDefEqProofs := false) (disch := omega) only [go_sem, ↓reduceIte]
  refine brd (fun h3 => ?_) (fun h3 => ?_)
  · simp (implicitDefEqProofs := false) (disch := omega) only [go_sem, ↓reduceIte]
  have hsh : ishl .i64 1 levels.toNat = (pw levels.toNat : Int) := by
    obtain rfl | rfl | rfl | rfl : levels = 1 ∨ levels = 2 ∨ levels = 3 ∨ levels = 4 := by omega
    all_goals decide
  simp (implicitDefEqProofs := false) (disch := omega) only [go_sem, ↓reduceIte, hsh]
  refine brd (fun h4 => ?_) (fun h4 => by omega)
  simp (implicitDefEqProofs := false) (disch := omega) only [go_sem, ↓reduceIte]
def oneD : List Int := 1 :: List.replicate 31 0
def twoD : List Int := 2 :: List.replicate 31 0
theorem oneD_good : goodD oneD := ⟨rfl, by decide⟩
theorem twoD_good : goodD twoD := ⟨rfl, by decide⟩
end Go.Proofs.YtjaailbgeadnnaaGreat
