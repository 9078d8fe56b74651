/- The walks of CommitIndices and CommitValues. -/
import Derived.Test.YtmbdkaodaaffmaaCommit
namespace Go.Proofs.Ytmbdkaodaaffmaa
open Go Go.Sy Go.Proofs.Try
set_option maxRecDepth 100000
set_option maxHeartbeats 8000000
set_option linter.unusedSimpArgs false
set_option linter.unusedVariables false
attribute [go_sem] pl5 pl6
theorem zmem (n : Nat) : ∀ x ∈ List.replicate n (0 : Int), 0 ≤ x ∧ x < 256 := by intro x hx; rw [List.mem_replicate] at hx; omega
theorem knows16_spec : FnC Try.prog 21 [] [] (.bool true) [] := by
  have zl : (List.replicate 32 (0 : Int)).length = 32 := List.length_replicate
  have a1 := (index16_bad [] (List.replicate 32 0) 1 0 rfl (by decide)).nz (args' := [.ints .u8 32 (List.replicate 32 0), .nils, .int .i64 1]) (by simp [Go.Sy.nz, nzs, AV.void])
  have a2 := index16_bad [97] (List.replicate 32 0) 0 1 rfl (by decide)
  have a3 := value16_bad (List.replicate 32 0) (List.replicate 32 0) (List.replicate 65 0) 65 rfl (by decide)
  have hn : namedP [97] 1 := by decide
  have hm : ∀ x ∈ [(97 : Int)], 0 ≤ x ∧ x < 256 := by decide
  have a4 := index16_ok [97] (List.replicate 32 0) 1 1 rfl hn zl (zmem 32) hm
  have a5 := isIndex_spec (nonceD (List.replicate 32 0) [97] 1) [97] (fromD (nonceD (List.replicate 32 0) [97] 1) [97] 1) 1 1 rfl (by decide) (code_len _ _) (code_mem _ _) hm
  rw [decide_eq_true hn, decide_eq_true rfl, Bool.true_and] at a5
  refine fn0 mix [] 0 0 [.tmp 0] Try.func21 rfl (by kernel_rfl) (by kernel_rfl) rfl (by kernel_rfl) (by kernel_rfl) (by simp) ?_
  simp (implicitDefEqProofs := false) (disch := omega) only [go_sem, ↓reduceIte]
  refine call0 a1 ?_
  simp (implicitDefEqProofs := false) (disch := omega) only [go_sem, ↓reduceIte]
  refine callB a2 ?_ ?_
  · simp (implicitDefEqProofs := false) (disch := omega) only [go_sem, ↓reduceIte]
  simp (implicitDefEqProofs := false) (disch := omega) only [go_sem, ↓reduceIte]
  refine callB a3 ?_ ?_
  · simp (implicitDefEqProofs := false) (disch := omega) only [go_sem, ↓reduceIte]
  simp (implicitDefEqProofs := false) (disch := omega) only [go_sem, ↓reduceIte]
  refine callB a4 ?_ ?_
  · simp (implicitDefEqProofs := false) (disch := omega) only [go_sem, ↓reduceIte]
  simp (implicitDefEqProofs := false) (disch := omega) only [go_sem, ↓reduceIte]
  refine callB a5 ?_ ?_
  · simp (implicitDefEqProofs := false) (disch := omega) only [go_sem, ↓reduceIte]
  simp (implicitDefEqProofs := false) (disch := omega) only [go_sem, ↓reduceIte]
theorem commitIndices_spec (key index nonce name : List Int) (v : Int) (hk : key.length = 32) (hk' : ∀ x ∈ key, 0 ≤ x ∧ x < 256) (hi : index.length = 32) (ho : nonce.length = 32) (ho' : ∀ x ∈ nonce, 0 ≤ x ∧ x < 256) (hm : ∀ x ∈ name, 0 ≤ x ∧ x < 256) (hl : name.length ≤ 9223372036854775807) :
    FnC Try.prog 5 [.ints .u8 32 key, .ints .u8 32 index, .ints .u8 32 nonce, .sl (.ints .u8 name.length name), .int .i64 v] [] (.bool true) [] := by
  have zl : (List.replicate 32 (0 : Int)).length = 32 := List.length_replicate
  refine fn0 mix pl5 0 5 [.tmp 10] Try.func5 rfl (by kernel_rfl) (by kernel_rfl) rfl (by kernel_rfl) (by kernel_rfl) (by simp) ?_
  simp (implicitDefEqProofs := false) (disch := omega) only [go_sem, ↓reduceIte]
  refine brd (fun h => ?_) (fun h => ?_)
  · simp (implicitDefEqProofs := false) (disch := omega) only [go_sem, ↓reduceIte]
    refine call0 knows16_spec ?_
    simp (implicitDefEqProofs := false) (disch := omega) only [go_sem, ↓reduceIte]
  have h500 : name.length ≤ 500 := by omega
  have hI := isIndex_spec nonce name index v _ rfl (by omega) ho ho' hm
  simp (implicitDefEqProofs := false) (disch := omega) only [go_sem, ↓reduceIte]
  by_cases hn : namedP name v
  · have hI2 := isIndex_spec (nonceD key name v) name (fromD (nonceD key name v) name v) v _ rfl (by omega) (code_len _ _) (code_mem _ _) hm
    rw [decide_eq_true hn, Bool.true_and] at hI hI2
    rw [decide_eq_true rfl] at hI2
    refine call0 (index16_ok name key v _ rfl hn hk hk' hm) ?_
    simp (implicitDefEqProofs := false) (disch := omega) only [go_sem, ↓reduceIte]
    refine call0 (may16_spec name v _ rfl) ?_
    rw [decide_eq_true hn]
    simp (implicitDefEqProofs := false) (disch := omega) only [go_sem, ↓reduceIte]
    refine call0 hI ?_
    simp (implicitDefEqProofs := false) (disch := omega) only [go_sem, ↓reduceIte]
    refine call0 (reffrom16_spec nonce name v _ rfl h500 ho ho' hm) ?_
    simp (implicitDefEqProofs := false) (disch := omega) only [go_sem, ↓reduceIte, beq_self_eq_true]
    refine call0 (from16_ok nonce name v _ rfl hn ho ho' hm) ?_
    simp (implicitDefEqProofs := false) (disch := omega) only [go_sem, ↓reduceIte]
    refine call0 (reffrom16_spec nonce name v _ rfl h500 ho ho' hm) ?_
    simp (implicitDefEqProofs := false) (disch := omega) only [go_sem, ↓reduceIte]
    refine call0 (refindex16_spec name key v _ rfl h500 hk hk' hm) ?_
    simp (implicitDefEqProofs := false) (disch := omega) only [go_sem, ↓reduceIte]
    refine call0 hI2 ?_
    simp (implicitDefEqProofs := false) (disch := omega) only [go_sem, ↓reduceIte]
    refine call0 knows16_spec ?_
    simp (implicitDefEqProofs := false) (disch := omega) only [go_sem, ↓reduceIte]
  · have hI2 := isIndex_spec (List.replicate 32 0) name (List.replicate 32 0) v _ rfl (by omega) zl (zmem 32) hm
    rw [decide_eq_false hn, Bool.false_and] at hI hI2
    refine call0 (index16_bad name key v _ rfl hn) ?_
    simp (implicitDefEqProofs := false) (disch := omega) only [go_sem, ↓reduceIte]
    refine call0 (may16_spec name v _ rfl) ?_
    rw [decide_eq_false hn]
    simp (implicitDefEqProofs := false) (disch := omega) only [go_sem, ↓reduceIte]
    refine call0 hI ?_
    simp (implicitDefEqProofs := false) (disch := omega) only [go_sem, ↓reduceIte, beq_self_eq_true]
    refine call0 (from16_bad nonce name v _ rfl hn) ?_
    simp (implicitDefEqProofs := false) (disch := omega) only [go_sem, ↓reduceIte]
    refine call0 hI2 ?_
    simp (implicitDefEqProofs := false) (disch := omega) only [go_sem, ↓reduceIte]
    refine call0 knows16_spec ?_
    simp (implicitDefEqProofs := false) (disch := omega) only [go_sem, ↓reduceIte]
theorem commitValues_spec (key index salt value : List Int) (hk : key.length = 32) (hk' : ∀ x ∈ key, 0 ≤ x ∧ x < 256) (hi : index.length = 32) (hi' : ∀ x ∈ index, 0 ≤ x ∧ x < 256) (ho : salt.length = 32) (ho' : ∀ x ∈ salt, 0 ≤ x ∧ x < 256) (hm : ∀ x ∈ value, 0 ≤ x ∧ x < 256) (hl : value.length ≤ 9223372036854775807) :
    FnC Try.prog 6 [.ints .u8 32 key, .ints .u8 32 index, .ints .u8 32 salt, .sl (.ints .u8 value.length value)] [] (.bool true) [] := by
  have zl : (List.replicate 32 (0 : Int)).length = 32 := List.length_replicate
  refine fn0 mix pl6 0 4 [.tmp 8] Try.func6 rfl (by kernel_rfl) (by kernel_rfl) rfl (by kernel_rfl) (by kernel_rfl) (by simp) ?_
  simp (implicitDefEqProofs := false) (disch := omega) only [go_sem, ↓reduceIte]
  refine brd (fun h => ?_) (fun h => ?_)
  · simp (implicitDefEqProofs := false) (disch := omega) only [go_sem, ↓reduceIte]
    refine call0 knows16_spec ?_
    simp (implicitDefEqProofs := false) (disch := omega) only [go_sem, ↓reduceIte]
  have h500 : value.length ≤ 500 := by omega
  have hI := isValue_spec index salt value _ rfl (by omega) ho ho' hm
  simp (implicitDefEqProofs := false) (disch := omega) only [go_sem, ↓reduceIte]
  by_cases hn : value.length ≤ 64
  · have dn : decide ((value.length : Int) ≤ 64) = true := decide_eq_true (by omega)
    have hI2 := isValue_spec (madeD (saltD key index value) value) (saltD key index value) value _ rfl (by omega) (code_len _ _) (code_mem _ _) hm
    rw [decide_eq_true hn, Bool.true_and] at hI hI2
    rw [decide_eq_true rfl] at hI2
    refine call0 (value16_ok key index value _ rfl hn hk hk' hi hi' hm) ?_
    simp (implicitDefEqProofs := false) (disch := omega) only [go_sem, ↓reduceIte, dn]
    refine call0 hI ?_
    simp (implicitDefEqProofs := false) (disch := omega) only [go_sem, ↓reduceIte]
    refine call0 (refmade16_spec salt value _ rfl h500 ho ho' hm) ?_
    simp (implicitDefEqProofs := false) (disch := omega) only [go_sem, ↓reduceIte, beq_self_eq_true]
    refine call0 (made16_ok salt value _ rfl hn ho ho' hm) ?_
    simp (implicitDefEqProofs := false) (disch := omega) only [go_sem, ↓reduceIte]
    refine call0 (refmade16_spec salt value _ rfl h500 ho ho' hm) ?_
    simp (implicitDefEqProofs := false) (disch := omega) only [go_sem, ↓reduceIte]
    refine call0 (refvalue16_spec key index value _ rfl h500 hk hk' hi hi' hm) ?_
    simp (implicitDefEqProofs := false) (disch := omega) only [go_sem, ↓reduceIte]
    refine call0 hI2 ?_
    simp (implicitDefEqProofs := false) (disch := omega) only [go_sem, ↓reduceIte]
    refine call0 knows16_spec ?_
    simp (implicitDefEqProofs := false) (disch := omega) only [go_sem, ↓reduceIte]
  · have dn : decide ((value.length : Int) ≤ 64) = false := decide_eq_false (by omega)
    have hI2 := isValue_spec (List.replicate 32 0) (List.replicate 32 0) value _ rfl (by omega) zl (zmem 32) hm
    rw [decide_eq_false hn, Bool.false_and] at hI hI2
    refine call0 (value16_bad key index value _ rfl (by omega)) ?_
    simp (implicitDefEqProofs := false) (disch := omega) only [go_sem, ↓reduceIte, dn]
    refine call0 hI ?_
    simp (implicitDefEqProofs := false) (disch := omega) only [go_sem, ↓reduceIte, beq_self_eq_true]
    refine call0 (made16_bad salt value _ rfl (by omega)) ?_
    simp (implicitDefEqProofs := false) (disch := omega) only [go_sem, ↓reduceIte]
    refine call0 hI2 ?_
    simp (implicitDefEqProofs := false) (disch := omega) only [go_sem, ↓reduceIte]
    refine call0 knows16_spec ?_
    simp (implicitDefEqProofs := false) (disch := omega) only [go_sem, ↓reduceIte]
end Go.Proofs.Ytmbdkaodaaffmaa
