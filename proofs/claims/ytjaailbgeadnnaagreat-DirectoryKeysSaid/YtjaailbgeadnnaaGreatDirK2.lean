/- A directory's keys. -/
import Derived.Test.YtjaailbgeadnnaaGreatDirK
namespace Go.Proofs.YtjaailbgeadnnaaGreat
open Go Go.Sy Go.Proofs.Tryz
set_option maxRecDepth 100000
set_option maxHeartbeats 8000000
set_option linter.unusedSimpArgs false
set_option linter.unusedVariables false
attribute [go_sem] pl3 pl16 pl17 pl35
theorem epoch_nil : FnC Tryz.prog 70 [.nilp] [] (.int .i64 0) [] := by
  refine fn0 mix [] 0 1 [.tmp 2] Tryz.func70 rfl (by kernel_rfl) (by kernel_rfl) rfl (by kernel_rfl) (by kernel_rfl) (by simp) ?_
  simp (implicitDefEqProofs := false) (disch := omega) only [go_sem, ↓reduceIte]
theorem stopped_nil : FnC Tryz.prog 37 [.nilp] [] (.bool true) [] := by
  refine fn0 mix [] 0 1 [.tmp 2] Tryz.func37 rfl (by kernel_rfl) (by kernel_rfl) rfl (by kernel_rfl) (by kernel_rfl) (by simp) ?_
  simp (implicitDefEqProofs := false) (disch := omega) only [go_sem, ↓reduceIte]
theorem show_nil (f : Nat) (n : Nat) (b : List Int) (hn : 1 ≤ n) (hn2 : n ≤ 64) : FnC Tryz.prog 35 [.nilp, .sl (.ints .u8 n b), .fn (.func f) []] [] (.tup [.agg [.nils, .ints .u8 32 (List.replicate 32 0), .agg [.ints .u8 32 (List.replicate 32 0), .nils]], .int .i64 8]) [] := by
  refine fn0 mix pl35 0 3 [.cell 6 53, .tmp 7] Tryz.func35 rfl (by kernel_rfl) (by kernel_rfl) rfl (by kernel_rfl) (by kernel_rfl) (by simp) ?_
  simp (implicitDefEqProofs := false) (disch := omega) only [go_sem, ↓reduceIte]
  refine brd (fun h => by omega) (fun h => ?_)
  simp (implicitDefEqProofs := false) (disch := omega) only [go_sem, ↓reduceIte]
  refine brd (fun h => by omega) (fun h => ?_)
  simp (implicitDefEqProofs := false) (disch := omega) only [go_sem, ↓reduceIte]
  refine call0 epoch_nil ?_
  simp (implicitDefEqProofs := false) (disch := omega) only [go_sem, ↓reduceIte]
theorem lookup_nil (n : Nat) (b : List Int) (hn : 1 ≤ n) (hn2 : n ≤ 64) : FnC Tryz.prog 15 [.nilp, .sl (.ints .u8 n b)] [] (.tup [.agg [.nils, .ints .u8 32 (List.replicate 32 0), .agg [.ints .u8 32 (List.replicate 32 0), .nils]], .int .i64 8]) [] := by
  refine fn0 mix [] 0 2 [.cell 4 53, .tmp 5] Tryz.func15 rfl (by kernel_rfl) (by kernel_rfl) rfl (by kernel_rfl) (by kernel_rfl) (by simp) ?_
  simp (implicitDefEqProofs := false) (disch := omega) only [go_sem, ↓reduceIte]
  refine call0 (show_nil _ n b hn hn2) ?_
  simp (implicitDefEqProofs := false) (disch := omega) only [go_sem, ↓reduceIte]
theorem publish_nil : FnC Tryz.prog 16 [.nilp] [] (.tup [.agg [.int .i64 0, .int .i64 0, .ints .u8 32 (List.replicate 32 0), .ints .u8 32 (List.replicate 32 0)], .agg [.int .i64 0, .ints .u8 32 (List.replicate 32 0), .nils], .int .i64 9]) [] := by
  refine fn0 mix pl16 0 1 [.cell 2 58, .cell 3 61, .tmp 4] Tryz.func16 rfl (by kernel_rfl) (by kernel_rfl) rfl (by kernel_rfl) (by kernel_rfl) (by simp) ?_
  simp (implicitDefEqProofs := false) (disch := omega) only [go_sem, ↓reduceIte]
  refine call0 stopped_nil ?_
  simp (implicitDefEqProofs := false) (disch := omega) only [go_sem, ↓reduceIte]
theorem change_arg : FnC Tryz.prog 17 [.nilp, .int .i64 1, .nils, .nils] [] (.int .i64 1) [] := by
  refine fn0 mix pl17 0 4 [.tmp 8] Tryz.func17 rfl (by kernel_rfl) (by kernel_rfl) rfl (by kernel_rfl) (by kernel_rfl) (by simp) ?_
  simp (implicitDefEqProofs := false) (disch := omega) only [go_sem, ↓reduceIte]
theorem knows21_spec : FnC Tryz.prog 5 [] [] (.bool true) [] := by
  have h2 := open_bad 0 0 0 (List.replicate 32 0) (List.replicate 32 0) (by decide)
  refine fn0 mix [] 0 0 [.tmp 0] Tryz.func5 rfl (by kernel_rfl) (by kernel_rfl) rfl (by kernel_rfl) (by kernel_rfl) (by simp) ?_
  simp (implicitDefEqProofs := false) (disch := omega) only [go_sem, ↓reduceIte]
  refine callB (lookup_nil 1 [97] (by decide) (by decide)) ?_ ?_
  · simp (implicitDefEqProofs := false) (disch := omega) only [go_sem, ↓reduceIte]
  simp (implicitDefEqProofs := false) (disch := omega) only [go_sem, ↓reduceIte]
  refine call0 h2 ?_
  simp (implicitDefEqProofs := false) (disch := omega) only [go_sem, ↓reduceIte]
  refine call0 publish_nil ?_
  simp (implicitDefEqProofs := false) (disch := omega) only [go_sem, ↓reduceIte]
  refine call0 change_arg ?_
  simp (implicitDefEqProofs := false) (disch := omega) only [go_sem, ↓reduceIte]
theorem small21_spec (a n : Int) : FnC Tryz.prog 4 [.agg [.int .i64 a, .int .i64 n]] [] (.bool (decide (rightP a n ∧ smallP a n 4))) [] := by
  have k1 := refright_spec a n
  have k2 := small_spec a n 4
  by_cases hr : rightP a n
  · rw [decide_eq_true hr] at k1
    rw [show decide (rightP a n ∧ smallP a n 4) = decide (smallP a n 4) from decide_eq_decide.2 ⟨fun h => h.2, fun h => ⟨hr, h⟩⟩]
    generalize decide (smallP a n 4) = b at *
    refine fn0 mix [] 0 1 [.tmp 2] Tryz.func4 rfl (by kernel_rfl) (by kernel_rfl) rfl (by kernel_rfl) (by kernel_rfl) (by simp) ?_
    simp (implicitDefEqProofs := false) (disch := omega) only [go_sem, ↓reduceIte]
    refine call0 k1 ?_
    simp (implicitDefEqProofs := false) (disch := omega) only [go_sem, ↓reduceIte]
    refine call0 k2 ?_
    simp (implicitDefEqProofs := false) (disch := omega) only [go_sem, ↓reduceIte]
  · rw [decide_eq_false hr] at k1
    rw [decide_eq_false (fun h => hr h.1)]
    refine fn0 mix [] 0 1 [.tmp 2] Tryz.func4 rfl (by kernel_rfl) (by kernel_rfl) rfl (by kernel_rfl) (by kernel_rfl) (by simp) ?_
    simp (implicitDefEqProofs := false) (disch := omega) only [go_sem, ↓reduceIte]
    refine call0 k1 ?_
    simp (implicitDefEqProofs := false) (disch := omega) only [go_sem, ↓reduceIte]
def plDL : List (Nat × Plan) := [(5, [(0, [], none), (1, [0], none), (2, [0, 1], none), (3, [], some [21, 22, 23]), (4, [], none), (5, [], none), (6, [5], none), (7, [6], none), (8, [], none)]), (9, [(0, [], none), (1, [], none), (2, [0, 1], none), (3, [], none), (4, [0, 1, 2, 3], none), (5, [], none), (6, [], none), (7, [], none), (8, [7], none), (9, [], some [48, 49]), (10, [7, 8, 9], none), (11, [7, 8, 9], none), (12, [7, 8, 9, 10, 11], none), (13, [], none), (14, [], none), (15, [], none), (16, [], none), (17, [], none), (18, [], none), (19, [], none)])]
attribute [go_sem] plDL
theorem directoryKeys_spec (a n b : Int) (ma na : List Int) (hm : goodD ma) (hn : goodD na) (k : Int) : FnC Tryz.prog 3 [cfgV a n b ma na, .int .i64 k] [] (.bool true) [] := by
  have k0 := small21_spec a n
  by_cases hs : rightP a n ∧ smallP a n 4
  · rw [decide_eq_true hs] at k0
    have k1 := new_ok 5 400 (by decide) (by decide) (by decide) (by decide)
    rw [show (⟨400, List.replicate (5 * 400) 0, [], false, false, 0, []⟩ : DS) = dZ from rfl] at k1
    have k2 := new_spec
    have k3 := open_new a n ma na hs.1
    have k4 := refsecret_spec ma hm k
    have k5 := secret_spec ma hm k
    have k6 := public_new a n ma na hm hs.1 k
    have k7 := refkey_spec (secK ma k 1) (secK ma k 2) (secK ma k 3) a n (secK_good _ _ _) (secK_good _ _ _) hs.1
    unfold secV at k4 k5
    generalize keyR (secK ma k 1) (secK ma k 3) a n = R at *
    generalize secK ma k 1 = X at *
    generalize secK ma k 2 = Y at *
    generalize secK ma k 3 = Z at *
    have dX : decide (X = X) = true := decide_eq_true rfl
    have dY' : decide (Y = Y) = true := decide_eq_true rfl
    have dZ' : decide (Z = Z) = true := decide_eq_true rfl
    have dR : decide (R = R) = true := decide_eq_true rfl
    refine fn0 mix plDL 0 2 [.tmp 4] Tryz.func3 rfl (by kernel_rfl) (by kernel_rfl) rfl (by kernel_rfl) (by kernel_rfl) (by simp) ?_
    simp (implicitDefEqProofs := false) (disch := omega) only [go_sem, ↓reduceIte]
    refine call0 k0 ?_
    simp (implicitDefEqProofs := false) (disch := omega) only [go_sem, ↓reduceIte]
    refine callF 3 k1 ?_
    simp (implicitDefEqProofs := false) (disch := omega) only [go_sem, ↓reduceIte]
    refine callF 1 k2 ?_
    simp (implicitDefEqProofs := false) (disch := omega) only [go_sem, ↓reduceIte]
    refine callG false [(0, 1), (1, 4), (2, 2), (3, 3)] [(0, 1), (1, 4), (12, 5), (13, 6), (4, 7), (5, 8), (6, 9), (7, 10), (8, 11), (9, 12)] 13 k3 ?_ ?_
    · simp [keys]
    simp (implicitDefEqProofs := false) (disch := omega) only [go_sem, ↓reduceIte]
    refine call0 k4 ?_
    simp (implicitDefEqProofs := false) (disch := omega) only [go_sem, ↓reduceIte]
    refine call0 k5 ?_
    simp (implicitDefEqProofs := false) (disch := omega) only [go_sem, ↓reduceIte, dX, dY', dZ']
    refine callG false [(0, 1), (1, 4), (2, 5), (3, 6), (4, 7), (5, 10), (6, 11), (7, 12), (8, 8), (9, 9)] [(0, 1), (1, 4), (2, 5), (3, 6), (4, 7), (5, 10), (10, 14), (11, 15), (12, 16), (13, 17)] 18 k6 ?_ ?_
    · simp [keys]
    simp (implicitDefEqProofs := false) (disch := omega) only [go_sem, ↓reduceIte]
    refine call0 k7 ?_
    have da : decide (a = a) = true := decide_eq_true rfl
    have dn : decide (n = n) = true := decide_eq_true rfl
    simp (implicitDefEqProofs := false) (disch := omega) only [go_sem, ↓reduceIte, dR, dZ', da, dn]
    refine call0 knows21_spec ?_
    simp (implicitDefEqProofs := false) (disch := omega) only [go_sem, ↓reduceIte]
  · rw [decide_eq_false hs] at k0
    refine fn0 mix pl3 0 2 [.tmp 4] Tryz.func3 rfl (by kernel_rfl) (by kernel_rfl) rfl (by kernel_rfl) (by kernel_rfl) (by simp) ?_
    simp (implicitDefEqProofs := false) (disch := omega) only [go_sem, ↓reduceIte]
    refine call0 k0 ?_
    simp (implicitDefEqProofs := false) (disch := omega) only [go_sem, ↓reduceIte]
    refine call0 knows21_spec ?_
    simp (implicitDefEqProofs := false) (disch := omega) only [go_sem, ↓reduceIte]
end Go.Proofs.YtjaailbgeadnnaaGreat
