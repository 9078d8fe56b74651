/- Where one comes to by any proof, and what that shows. -/
import Derived.Test.YtclkaibkepaebaaGQ
namespace Go.Proofs.Ytclkaibkepaebaa
open Go Go.Sy Go.Proofs.Try
set_option maxRecDepth 100000
set_option maxHeartbeats 8000000
set_option linter.unusedSimpArgs false
set_option linter.unusedVariables false
attribute [go_sem] pl13
section
variable (x index root known : List Int) (hx : goodD x) (hi : goodD index) (hk : goodD known) (W : List (List Int)) (hg : ∀ d ∈ W, goodD d)
include hx hi hk hg
theorem proofClimbs_spec (hwl : W.length ≤ 9223372036854775807) : FnC Try.prog 13 [.ints .u8 32 x, .ints .u8 32 index, .ints .u8 32 root, .agg [.ints .u8 32 known, .sl (.lst 32 W.length (W.map dg))]] [] (.bool true) [] := by
  obtain ⟨L, hW⟩ : ∃ n, W.length = n := ⟨_, rfl⟩
  rw [hW] at hwl ⊢
  refine fn0 mix pl13 0 4 [.tmp 8] Try.func13 rfl (by kernel_rfl) (by kernel_rfl) rfl (by kernel_rfl) (by kernel_rfl) (by simp) ?_
  simp (implicitDefEqProofs := false) (disch := omega) only [go_sem, ↓reduceIte]
  refine brd (fun g1 => ?_) (fun g1 => ?_)
  · simp (implicitDefEqProofs := false) (disch := omega) only [go_sem, ↓reduceIte]
    refine call0 knows18_spec ?_
    simp (implicitDefEqProofs := false) (disch := omega) only [go_sem, ↓reduceIte]
  have hwh := refwhole_spec known hk W L hW (by omega)
  have hp1 := present_spec root index known hi hk W L hW (by omega) hg x hx
  have ha1 := absent_spec root index known hi hk W L hW (by omega) hg
  by_cases hp : pops known = L
  · rw [decide_eq_true hp] at hwh
    have hA := climbR_good index known W (leafP_good index x) 256
    have hB := climbR_good index known W (emptyD_good 0) 256
    have hY := climbR_good index known W hx 256
    have hp2 := present_spec (climbR index known W (leafP index x) 256) index known hi hk W L hW (by omega) hg x hx
    have ha2 := absent_spec (climbR index known W (emptyD 0) 256) index known hi hk W L hW (by omega) hg
    rw [decide_eq_true ⟨hp, rfl⟩] at hp2 ha2
    have hc1 := climb_ok x index known hx hi hk W L hW (by omega) hg hp
    have hc2 := refclimb18_spec (leafP index x) index known (leafP_good _ _) hi hk W L hW (by omega) hg hp
    have hc3 := refclimb18_spec (emptyD 0) index known (emptyD_good _) hi hk W L hW (by omega) hg hp
    have hc4 := refclimb18_spec x index known hx hi hk W L hW (by omega) hg hp
    rw [show decide (pops known = L ∧ climbR index known W (leafP index x) 256 = root) = decide (climbR index known W (leafP index x) 256 = root) from decide_eq_decide.2 (by simp [hp])] at hp1
    rw [show decide (pops known = L ∧ climbR index known W (emptyD 0) 256 = root) = decide (climbR index known W (emptyD 0) 256 = root) from decide_eq_decide.2 (by simp [hp])] at ha1
    have g0 : ∀ K, getP ((empties 257).map dg) 0 K = K (.ints .u8 32 (emptyD 0)) := fun K => getP_map (f := dg) (empties_get (n := 257) (i := 0) (by omega)) K
    have l1 : ((empties 257).map dg).length = 257 := by rw [List.length_map, empties_len]
    have hlf := refleaf_spec17 index x hi hx
    generalize climbR index known W (leafP index x) 256 = A at *
    generalize climbR index known W (emptyD 0) 256 = B at *
    generalize climbR index known W x 256 = Y at *
    have bA : ∀ b : Bool, (b == b) = true := fun b => by cases b <;> rfl
    have dY : decide (Y = Y) = true := decide_eq_true rfl
    simp (implicitDefEqProofs := false) (disch := omega) only [go_sem, ↓reduceIte]
    refine call0 hc1 ?_
    simp (implicitDefEqProofs := false) (disch := omega) only [go_sem, ↓reduceIte]
    refine call0 hwh ?_
    simp (implicitDefEqProofs := false) (disch := omega) only [go_sem, ↓reduceIte]
    refine call0 hlf ?_
    simp (implicitDefEqProofs := false) (disch := omega) only [go_sem, ↓reduceIte]
    refine call0 hc2 ?_
    simp (implicitDefEqProofs := false) (disch := omega) only [go_sem, ↓reduceIte]
    refine callF 1 refempty_spec17 ?_
    simp (implicitDefEqProofs := false) (disch := omega) only [go_sem, ↓reduceIte, ↓g0, l1]
    refine call0 hc3 ?_
    simp (implicitDefEqProofs := false) (disch := omega) only [go_sem, ↓reduceIte]
    refine call0 hp1 ?_
    simp (implicitDefEqProofs := false) (disch := omega) only [go_sem, ↓reduceIte, bA]
    refine call0 ha1 ?_
    simp (implicitDefEqProofs := false) (disch := omega) only [go_sem, ↓reduceIte, bA]
    refine call0 hp2 ?_
    simp (implicitDefEqProofs := false) (disch := omega) only [go_sem, ↓reduceIte]
    refine call0 ha2 ?_
    simp (implicitDefEqProofs := false) (disch := omega) only [go_sem, ↓reduceIte]
    refine call0 hc4 ?_
    simp (implicitDefEqProofs := false) (disch := omega) only [go_sem, ↓reduceIte, dY]
    refine call0 knows18_spec ?_
    simp (implicitDefEqProofs := false) (disch := omega) only [go_sem, ↓reduceIte]
  · rw [decide_eq_false hp] at hwh
    rw [decide_eq_false (fun h => hp h.1)] at hp1 ha1
    have hc1 := climb_bad x index known hk W L hW (by omega) hp
    have dz : decide (zs = List.replicate 32 0) = true := by decide
    simp (implicitDefEqProofs := false) (disch := omega) only [go_sem, ↓reduceIte]
    refine call0 hc1 ?_
    simp (implicitDefEqProofs := false) (disch := omega) only [go_sem, ↓reduceIte]
    refine call0 hwh ?_
    simp (implicitDefEqProofs := false) (disch := omega) only [go_sem, ↓reduceIte, dz]
    refine call0 hp1 ?_
    simp (implicitDefEqProofs := false) (disch := omega) only [go_sem, ↓reduceIte]
    refine call0 ha1 ?_
    simp (implicitDefEqProofs := false) (disch := omega) only [go_sem, ↓reduceIte]
    refine call0 knows18_spec ?_
    simp (implicitDefEqProofs := false) (disch := omega) only [go_sem, ↓reduceIte]
end
end Go.Proofs.Ytclkaibkepaebaa
