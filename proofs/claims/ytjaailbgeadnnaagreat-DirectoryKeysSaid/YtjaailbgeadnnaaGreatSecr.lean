/- The secrets of a key number; a directory's key. -/
import Derived.Test.YtjaailbgeadnnaaGreatMac
import Derived.Test.YtjaailbgeadnnaaGreatGH
namespace Go.Proofs.YtjaailbgeadnnaaGreat
open Go Go.Sy Go.Proofs.Tryz
set_option maxRecDepth 100000
set_option maxHeartbeats 8000000
set_option linter.unusedSimpArgs false
set_option linter.unusedVariables false
attribute [go_sem] pl9 pl29
/-- A part of a key number's secret. -/
def secK (master : List Int) (k j : Int) : List Int := code master (j :: be (IntKind.u64.wrap k) 8)
theorem secK_good (master : List Int) (k j : Int) : goodD (secK master k j) := ⟨sumD_len _, sumD_mem _⟩
theorem secText_mem {k j : Int} (hj : 0 ≤ j ∧ j < 256) : ∀ x ∈ j :: be (IntKind.u64.wrap k) 8, 0 ≤ x ∧ x < 256 := fun x hx => by
  rcases List.mem_cons.1 hx with rfl | hx
  · exact hj
  · exact be_mem _ _ x hx
abbrev secV (master : List Int) (k : Int) : AV := .agg [.ints .u8 32 (secK master k 1), .ints .u8 32 (secK master k 2), .ints .u8 32 (secK master k 3)]
attribute [go_sem] secV
section
variable (master : List Int) (hm : goodD master) (k : Int)
include hm in
theorem secpart_spec (j : Int) (hj : 0 ≤ j ∧ j < 256) : FnC Tryz.prog 29 [.int .u8 j, .ref 0 [], .ref 1 []] [(0, .var (.ints .u8 32 master)), (1, .var (.int .i64 k))] (.ints .u8 32 (secK master k j)) [(0, .var (.ints .u8 32 master)), (1, .var (.int .i64 k))] := by
  have h := code_spec master [[j], be (IntKind.u64.wrap k) 8] 32 hm.1 hm.2 (fun p hp => by
    simp only [List.mem_cons, List.not_mem_nil, or_false] at hp
    rcases hp with rfl | rfl
    · intro x hx; rw [List.mem_singleton] at hx; rw [hx]; exact hj
    · exact be_mem _ _) (by decide) (by simp [cat, be_len]) (by simp)
  have e : cat [[j], be (IntKind.u64.wrap k) 8] = j :: be (IntKind.u64.wrap k) 8 := by simp [cat]
  have eb : [[j], be (IntKind.u64.wrap k) 8].map bsl = [.sl (.ints .u8 1 [j]), .sl (.ints .u8 8 (be (IntKind.u64.wrap k) 8))] := by
    rw [List.map_cons, List.map_cons, List.map_nil, bsl, bsl, be_len]
    rfl
  rw [e, eb, show [[j], be (IntKind.u64.wrap k) 8].length = 2 from rfl] at h
  have hn := number_spec (IntKind.u64.wrap k) 8 8 rfl
  have e2 : code master (j :: be (IntKind.u64.wrap k) 8) = secK master k j := rfl
  rw [e2] at h
  generalize secK master k j = X at *
  refine fnN mix pl29 2 3 [.cell 4 25] Tryz.func29 rfl (by kernel_rfl) (by kernel_rfl) rfl (by kernel_rfl) (by kernel_rfl) (by simp) ?_
  simp (implicitDefEqProofs := false) (disch := omega) only [go_sem, ↓reduceIte]
  refine callF 1 hn ?_
  simp (implicitDefEqProofs := false) (disch := omega) only [go_sem, ↓reduceIte]
  refine callB h ?_ ?_
  · simp (implicitDefEqProofs := false) (disch := omega) only [go_sem, ↓reduceIte]
  simp (implicitDefEqProofs := false) (disch := omega) only [go_sem, ↓reduceIte]
  refine ⟨[(0, 0), (1, 1)], [], [], rfl, ?_, ?_, ?_⟩ <;> simp (implicitDefEqProofs := false) (disch := omega) only [go_sem, ↓reduceIte]
include hm in
theorem secret_spec : FnC Tryz.prog 10 [.ints .u8 32 master, .int .i64 k] [] (secV master k) [] := by
  have h1 := secpart_spec master hm k 1 (by decide)
  have h2 := secpart_spec master hm k 2 (by decide)
  have h3 := secpart_spec master hm k 3 (by decide)
  unfold secV
  generalize secK master k 1 = X at *
  generalize secK master k 2 = Y at *
  generalize secK master k 3 = Z at *
  refine fn0 mix [] 0 2 [.cell 4 40] Tryz.func10 rfl (by kernel_rfl) (by kernel_rfl) rfl (by kernel_rfl) (by kernel_rfl) (by simp) ?_
  simp (implicitDefEqProofs := false) (disch := omega) only [go_sem, ↓reduceIte]
  refine callG false [(0, 0), (1, 1)] [(0, 0), (1, 1)] 3 h1 ?_ ?_
  · simp [keys]
  simp (implicitDefEqProofs := false) (disch := omega) only [go_sem, ↓reduceIte]
  refine callG false [(0, 0), (1, 1)] [(0, 0), (1, 1)] 3 h2 ?_ ?_
  · simp [keys]
  simp (implicitDefEqProofs := false) (disch := omega) only [go_sem, ↓reduceIte]
  refine callG false [(0, 0), (1, 1)] [(0, 0), (1, 1)] 3 h3 ?_ ?_
  · simp [keys]
  simp (implicitDefEqProofs := false) (disch := omega) only [go_sem, ↓reduceIte]
include hm in
theorem refsecret_spec : FnC Tryz.prog 9 [.ints .u8 32 master, .int .i64 k] [] (secV master k) [] := by
  have hw : 0 ≤ IntKind.u64.wrap k ∧ IntKind.u64.wrap k < 18446744073709551616 := by
    have e : IntKind.u64.wrap k = k % 18446744073709551616 := rfl
    rw [e]
    omega
  have hn := refnumber_spec (IntKind.u64.wrap k) 8 (by decide) hw.1 hw.2
  have hc : ∀ j : Int, 0 ≤ j ∧ j < 256 → FnC Tryz.prog 28 [.sl (.ints .u8 32 master), .sl (.ints .u8 9 (j :: be (IntKind.u64.wrap k) 8))] [] (.ints .u8 32 (secK master k j)) [] := fun j hj =>
    refcode_spec master (j :: be (IntKind.u64.wrap k) 8) 32 9 hm.1 (by rw [List.length_cons, be_len]) hm.2 (secText_mem hj) (by decide) (by decide)
  have h1 := hc 1 (by decide)
  have h2 := hc 2 (by decide)
  have h3 := hc 3 (by decide)
  unfold secV
  generalize secK master k 1 = X at *
  generalize secK master k 2 = Y at *
  generalize secK master k 3 = Z at *
  refine fn0 mix pl9 0 2 [.cell 4 40] Tryz.func9 rfl (by kernel_rfl) (by kernel_rfl) rfl (by kernel_rfl) (by kernel_rfl) (by simp) ?_
  simp (implicitDefEqProofs := false) (disch := omega) only [go_sem, ↓reduceIte]
  refine callF 1 hn ?_
  simp (implicitDefEqProofs := false) (disch := omega) only [go_sem, ↓reduceIte]
  refine callB h1 ?_ ?_
  · simp (implicitDefEqProofs := false) (disch := omega) only [go_sem, ↓reduceIte]
  simp (implicitDefEqProofs := false) (disch := omega) only [go_sem, ↓reduceIte]
  refine callB h2 ?_ ?_
  · simp (implicitDefEqProofs := false) (disch := omega) only [go_sem, ↓reduceIte]
  simp (implicitDefEqProofs := false) (disch := omega) only [go_sem, ↓reduceIte]
  refine callB h3 ?_ ?_
  · simp (implicitDefEqProofs := false) (disch := omega) only [go_sem, ↓reduceIte]
  simp (implicitDefEqProofs := false) (disch := omega) only [go_sem, ↓reduceIte]
end
end Go.Proofs.YtjaailbgeadnnaaGreat
