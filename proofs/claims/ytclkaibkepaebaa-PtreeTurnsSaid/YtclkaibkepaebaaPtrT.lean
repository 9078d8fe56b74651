/- The root of any entries. -/
import Derived.Test.YtclkaibkepaebaaGV
import Derived.Test.YtclkaibkepaebaaGX
namespace Go.Proofs.Ytclkaibkepaebaa
open Go Go.Sy Go.Proofs.Try
set_option maxRecDepth 100000
set_option maxHeartbeats 8000000
set_option linter.unusedSimpArgs false
set_option linter.unusedVariables false
attribute [go_sem] pl10
theorem ens_of {bs : Nat} {x : AV} (h : TD.has (.sl bs (.st [.arr 32 (.int .u8), .arr 32 (.int .u8)])) x) : ∃ l : List En, x = .sl (.lst 64 l.length (l.map enV)) ∧ (∀ e ∈ l, goodE e) ∧ l.length ≤ 9223372036854775807 := by
  simp only [TD.has, TD.ik, TD.cs, TD.css, TD.hass] at h
  obtain ⟨es, rfl, _, hl, he⟩ := h
  obtain ⟨l, rfl, hd⟩ := ex_map' (f := enV) (Q := goodE) (es := es) (fun x hx => by
    obtain ⟨_, rfl, _, _, rfl, ⟨a, rfl, ha, ha'⟩, _, _, rfl, ⟨b, rfl, hb, hb'⟩, rfl⟩ := he x hx
    exact ⟨(a, b), rfl, ⟨ha, fun y hy => wf_u8 (ha' y hy)⟩, ⟨hb, fun y hy => wf_u8 (hb' y hy)⟩⟩)
  exact ⟨l, by simp, hd, by rw [List.length_map] at hl; exact hl⟩
theorem ptreeRoots_spec (l : List En) (n : Nat) (hn : l.length = n) (hb : n ≤ 9223372036854775807) (hg : ∀ e ∈ l, goodE e) : FnC Try.prog 10 [.sl (.lst 64 n (l.map enV))] [] (.bool true) [] := by
  have dz : decide ((List.replicate 32 0 : List Int) = List.replicate 32 0) = true := decide_eq_true rfl
  refine fn0 mix pl10 0 1 [.tmp 2] Try.func10 rfl (by kernel_rfl) (by kernel_rfl) rfl (by kernel_rfl) (by kernel_rfl) (by simp) ?_
  simp (implicitDefEqProofs := false) (disch := omega) only [go_sem, ↓reduceIte]
  refine brd (fun h1 => ?_) (fun h1 => ?_)
  · simp (implicitDefEqProofs := false) (disch := omega) only [go_sem, ↓reduceIte]
    refine brd (fun h2 => ?_) (fun h2 => ?_)
    · simp (implicitDefEqProofs := false) (disch := omega) only [go_sem, ↓reduceIte]
      refine call0 knows17_spec ?_
      simp (implicitDefEqProofs := false) (disch := omega) only [go_sem, ↓reduceIte]
    · simp (implicitDefEqProofs := false) (disch := omega) only [go_sem, ↓reduceIte]
      refine brd (fun h3 => ?_) (fun h3 => ?_)
      · simp (implicitDefEqProofs := false) (disch := omega) only [go_sem, ↓reduceIte]
        refine call0 knows17_spec ?_
        simp (implicitDefEqProofs := false) (disch := omega) only [go_sem, ↓reduceIte]
      · simp (implicitDefEqProofs := false) (disch := omega) only [go_sem, ↓reduceIte]
        refine call0 (root_full l n hn (by omega)) ?_
        simp (implicitDefEqProofs := false) (disch := omega) only [go_sem, ↓reduceIte]
        refine callF 1 (as17_spec l n hn (by omega)) ?_
        simp (implicitDefEqProofs := false) (disch := omega) only [go_sem, ↓reduceIte]
        refine callB (bad_full l n hn (by omega)) ?_ ?_
        · simp (implicitDefEqProofs := false) (disch := omega) only [go_sem, ↓reduceIte]
        simp (implicitDefEqProofs := false) (disch := omega) only [go_sem, ↓reduceIte, dz]
        refine call0 knows17_spec ?_
        simp (implicitDefEqProofs := false) (disch := omega) only [go_sem, ↓reduceIte]
  · simp (implicitDefEqProofs := false) (disch := omega) only [go_sem, ↓reduceIte]
    refine brd (fun h3 => by omega) (fun h3 => ?_)
    simp (implicitDefEqProofs := false) (disch := omega) only [go_sem, ↓reduceIte]
    by_cases hd : (l.map (·.1)).Nodup
    · have hrt := refroot17_spec l n hn (by omega) hg
      rw [rootR_eq l (srtE l hg) hg (srtE_perm l hg) (srtE_sorted l hg) hd] at hrt
      have hrk := root_ok l n hn (by omega) hg hd
      have hgood := nodeP_good 256 (srtE l hg)
      generalize nodeP 256 (srtE l hg) = X at *
      have dX : decide (X = X) = true := decide_eq_true rfl
      refine call0 hrk ?_
      simp (implicitDefEqProofs := false) (disch := omega) only [go_sem, ↓reduceIte]
      refine callF 1 (as17_spec l n hn (by omega)) ?_
      simp (implicitDefEqProofs := false) (disch := omega) only [go_sem, ↓reduceIte]
      refine callB (bad_ok l n hn (by omega) hd) ?_ ?_
      · simp (implicitDefEqProofs := false) (disch := omega) only [go_sem, ↓reduceIte]
      simp (implicitDefEqProofs := false) (disch := omega) only [go_sem, ↓reduceIte]
      refine callF 1 (as17_spec l n hn (by omega)) ?_
      simp (implicitDefEqProofs := false) (disch := omega) only [go_sem, ↓reduceIte]
      refine callB hrt ?_ ?_
      · simp (implicitDefEqProofs := false) (disch := omega) only [go_sem, ↓reduceIte]
      simp (implicitDefEqProofs := false) (disch := omega) only [go_sem, ↓reduceIte, dX]
      refine call0 knows17_spec ?_
      simp (implicitDefEqProofs := false) (disch := omega) only [go_sem, ↓reduceIte]
    · refine call0 (root_twice l n hn (by omega) hd) ?_
      simp (implicitDefEqProofs := false) (disch := omega) only [go_sem, ↓reduceIte]
      refine callF 1 (as17_spec l n hn (by omega)) ?_
      simp (implicitDefEqProofs := false) (disch := omega) only [go_sem, ↓reduceIte]
      refine callB (bad_twice l n hn (by omega) hd) ?_ ?_
      · simp (implicitDefEqProofs := false) (disch := omega) only [go_sem, ↓reduceIte]
      simp (implicitDefEqProofs := false) (disch := omega) only [go_sem, ↓reduceIte, dz]
      refine call0 knows17_spec ?_
      simp (implicitDefEqProofs := false) (disch := omega) only [go_sem, ↓reduceIte]
end Go.Proofs.Ytclkaibkepaebaa
