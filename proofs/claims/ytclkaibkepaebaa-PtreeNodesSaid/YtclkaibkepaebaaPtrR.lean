/- The root of no entries; what is amiss with entries. -/
import Derived.Test.YtclkaibkepaebaaGP
import Derived.Test.YtclkaibkepaebaaGG
namespace Go.Proofs.Ytclkaibkepaebaa
open Go Go.Sy Go.Proofs.Try
set_option maxRecDepth 100000
set_option maxHeartbeats 8000000
set_option linter.unusedSimpArgs false
set_option linter.unusedVariables false
attribute [go_sem] pl98 pl164 pl182
theorem len64_0 : FnC Try.prog 191 [.int .u64 0] [] (.int .i64 0) [] := by
  refine fn0 mix [] 0 1 [.tmp 2] Try.func191 rfl (by kernel_rfl) (by kernel_rfl) rfl (by kernel_rfl) (by kernel_rfl) (by simp) ?_
  simp (implicitDefEqProofs := false) (disch := omega) only [go_sem, ↓reduceIte]
  exact ⟨by decide +kernel, congrArg (AV.int .i64) (by decide +kernel)⟩
theorem bitsLen_0 : FnC Try.prog 165 [.int .u64 0] [] (.int .i64 0) [] := by
  refine fn0 mix [] 0 1 [.tmp 2] Try.func165 rfl (by kernel_rfl) (by kernel_rfl) rfl (by kernel_rfl) (by kernel_rfl) (by simp) ?_
  simp (implicitDefEqProofs := false) (disch := omega) only [go_sem, ↓reduceIte]
  refine call0 len64_0 ?_
  simp (implicitDefEqProofs := false) (disch := omega) only [go_sem, ↓reduceIte]
theorem insort_0 (g : Nat) : FnC Try.prog 182 [.nils, .int .i64 0, .int .i64 0, .fn (.func g) []] [] (.tup []) [] := by
  refine fn0 mix pl182 0 4 [] Try.func182 rfl (by kernel_rfl) (by kernel_rfl) rfl (by kernel_rfl) (by kernel_rfl) (by simp) ?_
  simp (implicitDefEqProofs := false) (disch := omega) only [go_sem, ↓reduceIte]
  refine loop (ι := Nat) 0 (fun i => i = 0) (fun i => [(2, .int .i64 0), (8, .int .i64 1)]) (fun i => []) (fun i => 0) 0 [] [] rfl rfl ?_ ?_ ?_ (fun i hi => ?_)
  · simp (implicitDefEqProofs := false) (disch := omega) only [go_sem, ↓reduceIte]
  · simp (implicitDefEqProofs := false) (disch := omega) only [go_sem, ↓reduceIte]
  · simp (implicitDefEqProofs := false) (disch := omega) only [go_sem, ↓reduceIte]
  simp (implicitDefEqProofs := false) (disch := omega) only [go_sem, ↓reduceIte]
theorem pdq_0 (g : Nat) : FnC Try.prog 164 [.nils, .int .i64 0, .int .i64 0, .int .i64 0, .fn (.func g) []] [] (.tup []) [] := by
  refine fn0 mix pl164 0 5 [] Try.func164 rfl (by kernel_rfl) (by kernel_rfl) rfl (by kernel_rfl) (by kernel_rfl) (by simp) ?_
  simp (implicitDefEqProofs := false) (disch := omega) only [go_sem, ↓reduceIte]
  refine loop (ι := Nat) 0 (fun i => i = 0) (fun i => [(0, .nils), (1, .int .i64 0), (2, .int .i64 0), (4, .fn (.func g) [])]) (fun i => []) (fun i => 0) 0 [] [] rfl rfl ?_ ?_ ?_ (fun i hi => ?_)
  · simp (implicitDefEqProofs := false) (disch := omega) only [go_sem, ↓reduceIte]
  · simp (implicitDefEqProofs := false) (disch := omega) only [go_sem, ↓reduceIte]
  · simp (implicitDefEqProofs := false) (disch := omega) only [go_sem, ↓reduceIte]
  simp (implicitDefEqProofs := false) (disch := omega) only [go_sem, ↓reduceIte]
  refine call0 (insort_0 g) ?_
  simp (implicitDefEqProofs := false) (disch := omega) only [go_sem, ↓reduceIte]
theorem sortf_0 (g : Nat) : FnC Try.prog 141 [.nils, .fn (.func g) []] [] (.tup []) [] := by
  refine fn0 mix [] 0 2 [] Try.func141 rfl (by kernel_rfl) (by kernel_rfl) rfl (by kernel_rfl) (by kernel_rfl) (by simp) ?_
  simp (implicitDefEqProofs := false) (disch := omega) only [go_sem, ↓reduceIte]
  refine call0 bitsLen_0 ?_
  simp (implicitDefEqProofs := false) (disch := omega) only [go_sem, ↓reduceIte]
  refine call0 (pdq_0 g) ?_
  simp (implicitDefEqProofs := false) (disch := omega) only [go_sem, ↓reduceIte]
theorem clone_0 : FnC Try.prog 140 [.nils] [] .nils [] := by
  refine fn0 mix [] 0 1 [.tmp 2] Try.func140 rfl (by kernel_rfl) (by kernel_rfl) rfl (by kernel_rfl) (by kernel_rfl) (by simp) ?_
  simp (implicitDefEqProofs := false) (disch := omega) only [go_sem, ↓reduceIte]
theorem sorted_0 : FnC Try.prog 97 [.nils] [] (.tup [.nils, .int .i64 0]) [] := by
  refine fn0 mix [] 0 1 [.tmp 2, .tmp 3] Try.func97 rfl (by kernel_rfl) (by kernel_rfl) rfl (by kernel_rfl) (by kernel_rfl) (by simp) ?_
  simp (implicitDefEqProofs := false) (disch := omega) only [go_sem, ↓reduceIte]
  refine loop (ι := Nat) 1 (fun i => i = 0) (fun i => [(0, .nils), (13, .int .i64 0), (14, .int .i64 0)]) (fun i => [(0, .map [])]) (fun i => 0) 0 [(0, 0)] [] rfl rfl ?_ ?_ ?_ (fun i hi => ?_)
  · simp (implicitDefEqProofs := false) (disch := omega) only [go_sem, ↓reduceIte]
  · simp (implicitDefEqProofs := false) (disch := omega) only [go_sem, ↓reduceIte]
  · simp (implicitDefEqProofs := false) (disch := omega) only [go_sem, ↓reduceIte]
  simp (implicitDefEqProofs := false) (disch := omega) only [go_sem, ↓reduceIte]
  refine call0 clone_0 ?_
  simp (implicitDefEqProofs := false) (disch := omega) only [go_sem, ↓reduceIte]
  refine call0 (sortf_0 _) ?_
  simp (implicitDefEqProofs := false) (disch := omega) only [go_sem, ↓reduceIte]
theorem node_0 : FnC Try.prog 98 [.agg [.sl (.lst 32 257 ((empties 257).map dg))], .nils, .int .i64 256] [] (.ints .u8 32 (emptyD 256)) [] := by
  have g1 : ∀ K, getP ((empties 257).map dg) 256 K = K (.ints .u8 32 (emptyD 256)) := fun K => getP_map (f := dg) (empties_get (n := 257) (i := 256) (by omega)) K
  have l1 : ((empties 257).map dg).length = 257 := by rw [List.length_map, empties_len]
  refine fn0 mix pl98 0 3 [.cell 6 25] Try.func98 rfl (by kernel_rfl) (by kernel_rfl) rfl (by kernel_rfl) (by kernel_rfl) (by simp) ?_
  simp (implicitDefEqProofs := false) (disch := omega) only [go_sem, ↓reduceIte, ↓g1, l1]
theorem root_0 : FnC Try.prog 49 [.nils] [] (.tup [.ints .u8 32 (emptyD 256), .int .i64 0]) [] := by
  refine fn0 mix [] 0 1 [.cell 2 25, .tmp 3] Try.func49 rfl (by kernel_rfl) (by kernel_rfl) rfl (by kernel_rfl) (by kernel_rfl) (by simp) ?_
  simp (implicitDefEqProofs := false) (disch := omega) only [go_sem, ↓reduceIte]
  refine call0 sorted_0 ?_
  simp (implicitDefEqProofs := false) (disch := omega) only [go_sem, ↓reduceIte]
  refine callF 1 empty17_spec ?_
  simp (implicitDefEqProofs := false) (disch := omega) only [go_sem, ↓reduceIte]
  refine callB node_0 ?_ ?_
  · simp (implicitDefEqProofs := false) (disch := omega) only [go_sem, ↓reduceIte]
  simp (implicitDefEqProofs := false) (disch := omega) only [go_sem, ↓reduceIte]
theorem climb_zero (index : List Int) : ∀ k, climbR index zs [] (emptyD 0) k = emptyD k
  | 0 => rfl
  | k + 1 => by
    have hs : sideD zs [] k = emptyD k := by
      unfold sideD
      rw [if_neg]
      unfold kb
      have : zs.getD (k / 8) 0 = 0 := by
        by_cases h : k / 8 < 32
        · exact getD_all' (xs := zs) (p := fun x => x = 0) (by decide) (by show k / 8 < zs.length; rw [zs_good.1]; exact h)
        · rw [List.getD, List.getElem?_eq_none (by rw [zs_good.1]; omega)]; rfl
      rw [this]
      simp
    rw [climbR, climbS, hs, climb_zero index k]
    split <;> rfl
theorem knows18_spec : FnC Try.prog 55 [] [] (.bool true) [] := by
  have he := emptyD_good 256
  generalize hE : emptyD 256 = E at *
  have h1 := root_0
  rw [hE] at h1
  have h2 : FnC Try.prog 56 [.ints .u8 32 E, .ints .u8 32 E, .agg [.ints .u8 32 (1 :: List.replicate 31 0), .nils]] [] (.tup [.ints .u8 32 (List.replicate 32 0), .int .i64 2]) [] := by
    have h := climb_bad E E (1 :: List.replicate 31 0) ⟨rfl, by decide⟩ [] 0 rfl (by decide) (by decide)
    refine h.sub [] [] [] rfl ?_ ?_
    · simp (implicitDefEqProofs := false) (disch := omega) only [go_sem, ↓reduceIte]
    · simp (implicitDefEqProofs := false) (disch := omega) only [go_sem, ↓reduceIte]
  have h3 : FnC Try.prog 59 [.ints .u8 32 E, .ints .u8 32 (9 :: List.replicate 31 0), .agg [.ints .u8 32 (List.replicate 32 0), .nils]] [] (.bool true) [] := by
    have h := absent_spec E (9 :: List.replicate 31 0) zs ⟨rfl, by decide⟩ zs_good [] 0 rfl (by decide) (fun d h => by cases h)
    rw [decide_eq_true ⟨by decide, by rw [climb_zero, hE]⟩] at h
    refine h.sub [] [] [] rfl ?_ ?_
    · simp (implicitDefEqProofs := false) (disch := omega) only [go_sem, ↓reduceIte]
      rfl
    · simp (implicitDefEqProofs := false) (disch := omega) only [go_sem, ↓reduceIte]
  refine fn0 mix [] 0 0 [.tmp 0] Try.func55 rfl (by kernel_rfl) (by kernel_rfl) rfl (by kernel_rfl) (by kernel_rfl) (by simp) ?_
  simp (implicitDefEqProofs := false) (disch := omega) only [go_sem, ↓reduceIte]
  refine call0 h1 ?_
  simp (implicitDefEqProofs := false) (disch := omega) only [go_sem, ↓reduceIte]
  refine call0 h2 ?_
  simp (implicitDefEqProofs := false) (disch := omega) only [go_sem, ↓reduceIte]
  refine call0 h3 ?_
  simp (implicitDefEqProofs := false) (disch := omega) only [go_sem, ↓reduceIte]
end Go.Proofs.Ytclkaibkepaebaa
