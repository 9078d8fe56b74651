/- The proof of any index among any entries. -/
import Derived.Test.YtclkaibkepaebaaProv
import Derived.Test.YtclkaibkepaebaaGX
import Derived.Test.YtclkaibkepaebaaPtrT
namespace Go.Proofs.Ytclkaibkepaebaa
open Go Go.Sy Go.Proofs.Try
set_option maxRecDepth 100000
set_option maxHeartbeats 8000000
set_option linter.unusedSimpArgs false
set_option linter.unusedVariables false
attribute [go_sem] pl11 pl53
theorem pf_dgs (l : List (List Int)) : AV.pf.pfs (l.map dg) = true := by
  induction l with
  | nil => rfl
  | cons b l ih => simpa [AV.pf.pfs, AV.pf, dg] using ih
theorem prove_full (l : List En) (n : Nat) (hn : l.length = n) (h : 256 < n) (index : List Int) : FnC Try.prog 53 [.sl (.lst 64 n (l.map enV)), .ints .u8 32 index] [] (.tup [.agg [.ints .u8 32 (List.replicate 32 0), .nils], .int .i64 3]) [] := by
  refine fn0 mix pl53 0 2 [.cell 4 88, .tmp 5] Try.func53 rfl (by kernel_rfl) (by kernel_rfl) rfl (by kernel_rfl) (by kernel_rfl) (by simp) ?_
  simp (implicitDefEqProofs := false) (disch := omega) only [go_sem, ↓reduceIte]
  refine call0 (sorted_full l n hn h) ?_
  simp (implicitDefEqProofs := false) (disch := omega) only [go_sem, ↓reduceIte]
theorem prove_twice (l : List En) (n : Nat) (hn : l.length = n) (h : n ≤ 256) (hd : ¬ (l.map (·.1)).Nodup) (index : List Int) : FnC Try.prog 53 [.sl (.lst 64 n (l.map enV)), .ints .u8 32 index] [] (.tup [.agg [.ints .u8 32 (List.replicate 32 0), .nils], .int .i64 5]) [] := by
  refine fn0 mix pl53 0 2 [.cell 4 88, .tmp 5] Try.func53 rfl (by kernel_rfl) (by kernel_rfl) rfl (by kernel_rfl) (by kernel_rfl) (by simp) ?_
  simp (implicitDefEqProofs := false) (disch := omega) only [go_sem, ↓reduceIte]
  refine call0 (sorted_twice l n hn h hd) ?_
  simp (implicitDefEqProofs := false) (disch := omega) only [go_sem, ↓reduceIte]
theorem ptreeProves_spec (l : List En) (n : Nat) (hn : l.length = n) (hb : n ≤ 9223372036854775807) (hg : ∀ e ∈ l, goodE e) (index : List Int) (hi : goodD index) : FnC Try.prog 11 [.sl (.lst 64 n (l.map enV)), .ints .u8 32 index] [] (.bool true) [] := by
  have dz : decide ((List.replicate 32 0 : List Int) = List.replicate 32 0) = true := decide_eq_true rfl
  refine fn0 mix pl11 0 2 [.tmp 4] Try.func11 rfl (by kernel_rfl) (by kernel_rfl) rfl (by kernel_rfl) (by kernel_rfl) (by simp) ?_
  simp (implicitDefEqProofs := false) (disch := omega) only [go_sem, ↓reduceIte]
  refine brd (fun h1 => ?_) (fun h1 => ?_)
  · simp (implicitDefEqProofs := false) (disch := omega) only [go_sem, ↓reduceIte]
    refine brd (fun h2 => ?_) (fun h2 => ?_)
    · simp (implicitDefEqProofs := false) (disch := omega) only [go_sem, ↓reduceIte]
      refine call0 knows17_spec ?_
      simp (implicitDefEqProofs := false) (disch := omega) only [go_sem, ↓reduceIte]
    · simp (implicitDefEqProofs := false) (disch := omega) only [go_sem, ↓reduceIte]
      refine brd (fun h3 => ?_) (fun h3 => ?_)
      · simp (implicitDefEqProofs := false) (disch := omega) only [go_sem, ↓reduceIte]
        refine call0 knows17_spec ?_
        simp (implicitDefEqProofs := false) (disch := omega) only [go_sem, ↓reduceIte]
      · simp (implicitDefEqProofs := false) (disch := omega) only [go_sem, ↓reduceIte]
        refine call0 (prove_full l n hn (by omega) index) ?_
        simp (implicitDefEqProofs := false) (disch := omega) only [go_sem, ↓reduceIte]
        refine callF 1 (as17_spec l n hn (by omega)) ?_
        simp (implicitDefEqProofs := false) (disch := omega) only [go_sem, ↓reduceIte]
        refine callB (bad_full l n hn (by omega)) ?_ ?_
        · simp (implicitDefEqProofs := false) (disch := omega) only [go_sem, ↓reduceIte]
        simp (implicitDefEqProofs := false) (disch := omega) only [go_sem, ↓reduceIte, dz]
        refine call0 knows17_spec ?_
        simp (implicitDefEqProofs := false) (disch := omega) only [go_sem, ↓reduceIte]
  · simp (implicitDefEqProofs := false) (disch := omega) only [go_sem, ↓reduceIte]
    refine brd (fun h3 => by omega) (fun h3 => ?_)
    simp (implicitDefEqProofs := false) (disch := omega) only [go_sem, ↓reduceIte]
    by_cases hd : (l.map (·.1)).Nodup
    · have hrt := refprove_spec l (srtE l hg) n hn (by omega) hg (srtE_perm l hg) (srtE_sorted l hg) hd index hi
      have hrk := prove_ok l n hn (by omega) hg hd index hi
      have hlen : (ndsP (srtE l hg) index).length ≤ 256 := nds_len _ _ _ _
      have hsame := same08_spec (ndsP (srtE l hg) index) (ndsP (srtE l hg) index) (by omega)
      rw [decide_eq_true rfl] at hsame
      generalize knP (srtE l hg) index = X at *
      generalize (ndsP (srtE l hg) index).length = w at *
      have dX : decide (X = X) = true := decide_eq_true rfl
      refine callF 1 hrk ?_
      simp (implicitDefEqProofs := false) (disch := omega) only [go_sem, ↓reduceIte]
      refine callF 1 (as17_spec l n hn (by omega)) ?_
      simp (implicitDefEqProofs := false) (disch := omega) only [go_sem, ↓reduceIte]
      refine callB (bad_ok l n hn (by omega) hd) ?_ ?_
      · simp (implicitDefEqProofs := false) (disch := omega) only [go_sem, ↓reduceIte]
      simp (implicitDefEqProofs := false) (disch := omega) only [go_sem, ↓reduceIte]
      refine callF 1 (as17_spec l n hn (by omega)) ?_
      simp (implicitDefEqProofs := false) (disch := omega) only [go_sem, ↓reduceIte]
      refine callBF 1 hrt (hq := by simp [OB.pf, AV.pf, pf_dgs]) ?_ ?_
      · simp (implicitDefEqProofs := false) (disch := omega) only [go_sem, ↓reduceIte]
      simp (implicitDefEqProofs := false) (disch := omega) only [go_sem, ↓reduceIte, dX]
      refine callB hsame ?_ ?_
      · simp (implicitDefEqProofs := false) (disch := omega) only [go_sem, ↓reduceIte]
      simp (implicitDefEqProofs := false) (disch := omega) only [go_sem, ↓reduceIte]
      refine call0 knows17_spec ?_
      simp (implicitDefEqProofs := false) (disch := omega) only [go_sem, ↓reduceIte]
    · refine call0 (prove_twice l n hn (by omega) hd index) ?_
      simp (implicitDefEqProofs := false) (disch := omega) only [go_sem, ↓reduceIte]
      refine callF 1 (as17_spec l n hn (by omega)) ?_
      simp (implicitDefEqProofs := false) (disch := omega) only [go_sem, ↓reduceIte]
      refine callB (bad_twice l n hn (by omega) hd) ?_ ?_
      · simp (implicitDefEqProofs := false) (disch := omega) only [go_sem, ↓reduceIte]
      simp (implicitDefEqProofs := false) (disch := omega) only [go_sem, ↓reduceIte, dz]
      refine call0 knows17_spec ?_
      simp (implicitDefEqProofs := false) (disch := omega) only [go_sem, ↓reduceIte]
end Go.Proofs.Ytclkaibkepaebaa
