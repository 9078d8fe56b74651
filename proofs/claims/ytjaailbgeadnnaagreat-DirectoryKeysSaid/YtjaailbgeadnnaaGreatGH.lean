/- Keys of the package hyper, and of planchetref11; the walk of HyperKeys. -/
import Derived.Test.YtjaailbgeadnnaaGreatTree5
import Derived.Test.YtjaailbgeadnnaaGreatSig
namespace Go.Proofs.YtjaailbgeadnnaaGreat
open Go Go.Sy Go.Proofs.Tryz
set_option maxRecDepth 100000
set_option maxHeartbeats 8000000
set_option linter.unusedSimpArgs false
set_option linter.unusedVariables false
attribute [go_sem] pl14 pl89
def smallP (a b most : Int) : Prop := rightP a b → a * 2 ^ b.toNat ≤ most
instance (a b most : Int) : Decidable (smallP a b most) := by unfold smallP; infer_instance
theorem small_spec (a b most : Int) : FnC Tryz.prog 14 [.agg [.int .i64 a, .int .i64 b], .int .i64 most] [] (.bool (decide (smallP a b most))) [] := by
  refine fn0 mix pl14 0 2 [.tmp 4] Tryz.func14 rfl (by kernel_rfl) (by kernel_rfl) rfl (by kernel_rfl) (by kernel_rfl) (by simp) ?_
  simp (implicitDefEqProofs := false) (disch := omega) only [go_sem, ↓reduceIte]
  refine call0 (refright_spec a b) ?_
  by_cases hr : rightP a b
  · rw [decide_eq_true hr]
    have e : decide (smallP a b most) = decide (a * 2 ^ b.toNat ≤ most) := by unfold smallP; simp [hr]
    unfold rightP at hr
    obtain ⟨n, rfl⟩ := Int.eq_ofNat_of_zero_le (show 0 ≤ b by omega)
    have hp : (2 : Int) ^ n = (pw n : Int) := by simp [pw]
    have hb : pw n ≤ pw 4 := pw_le (by omega)
    have h4 : pw 4 = 16 := rfl
    have hpp := pw_pos n
    have hc := power_spec n (by omega)
    rw [e, Int.toNat_natCast]
    rw [hp] at hc ⊢
    simp (implicitDefEqProofs := false) (disch := omega) only [go_sem, ↓reduceIte]
    refine call0 hc ?_
    have hm : a * (pw n : Int) ≤ 4 * 16 := Int.mul_le_mul (by omega) (by omega) (by omega) (by omega)
    have hm2 : 0 ≤ a * (pw n : Int) := Int.mul_nonneg (by omega) (by omega)
    simp (implicitDefEqProofs := false) (disch := omega) only [go_sem, ↓reduceIte]
  · rw [decide_eq_false hr]
    have e : decide (smallP a b most) = true := decide_eq_true (fun h => absurd h hr)
    rw [e]
    simp (implicitDefEqProofs := false) (disch := omega) only [go_sem, ↓reduceIte]
def keyR (seed pub : List Int) (a b : Int) : List Int := treeD (leafD pub seed (a - 1) 0) pub (a - 1) 0 b.toNat 0
section
variable (seed key pub : List Int) (a b : Int) (hs : goodD seed) (hp : goodD pub)
include hs hp in
theorem key_spec (hr : rightP a b) : FnC Tryz.prog 32 [.agg [.int .i64 a, .int .i64 b], .agg [.ints .u8 32 seed, .ints .u8 32 key, .ints .u8 32 pub]] [] (.tup [.agg [.agg [.int .i64 a, .int .i64 b], .ints .u8 32 (keyR seed pub a b), .ints .u8 32 pub], .int .i64 0]) [] := by
  have hr' := hr
  unfold rightP at hr'
  unfold keyR
  obtain ⟨n, rfl⟩ := Int.eq_ofNat_of_zero_le (show 0 ≤ b by omega)
  have hb := build_spec pub seed key (a - 1) 0 hp hs (by omega) n 0 (by omega) (by omega) (pw_pos n)
  rw [Int.toNat_natCast]
  rw [Int.natCast_zero] at hb
  refine fn0 mix [] 0 2 [.cell 4 43, .tmp 5] Tryz.func32 rfl (by kernel_rfl) (by kernel_rfl) rfl (by kernel_rfl) (by kernel_rfl) (by simp) ?_
  simp (implicitDefEqProofs := false) (disch := omega) only [go_sem, ↓reduceIte]
  refine call0 (right_spec11 a n) ?_
  rw [decide_eq_true hr]
  simp (implicitDefEqProofs := false) (disch := omega) only [go_sem, ↓reduceIte]
  refine callF 1 hb ?_
  simp (implicitDefEqProofs := false) (disch := omega) only [go_sem, ↓reduceIte]
theorem key_bad_spec (hr : ¬ rightP a b) : FnC Tryz.prog 32 [.agg [.int .i64 a, .int .i64 b], .agg [.ints .u8 32 seed, .ints .u8 32 key, .ints .u8 32 pub]] [] (.tup [.agg [.agg [.int .i64 0, .int .i64 0], .ints .u8 32 (List.replicate 32 0), .ints .u8 32 (List.replicate 32 0)], .int .i64 1]) [] := by
  refine fn0 mix [] 0 2 [.cell 4 43, .tmp 5] Tryz.func32 rfl (by kernel_rfl) (by kernel_rfl) rfl (by kernel_rfl) (by kernel_rfl) (by simp) ?_
  simp (implicitDefEqProofs := false) (disch := omega) only [go_sem, ↓reduceIte]
  refine call0 (right_spec11 a b) ?_
  rw [decide_eq_false hr]
  simp (implicitDefEqProofs := false) (disch := omega) only [go_sem, ↓reduceIte]
include hs hp in
theorem refkey_spec (hr : rightP a b) : FnC Tryz.prog 12 [.agg [.int .i64 a, .int .i64 b], .agg [.ints .u8 32 seed, .ints .u8 32 key, .ints .u8 32 pub]] [] (.agg [.agg [.int .i64 a, .int .i64 b], .ints .u8 32 (keyR seed pub a b), .ints .u8 32 pub]) [] := by
  have hr' := hr
  unfold rightP at hr'
  unfold keyR
  obtain ⟨n, rfl⟩ := Int.eq_ofNat_of_zero_le (show 0 ≤ b by omega)
  have hb := refbuild_spec pub seed key (a - 1) 0 hp hs (by omega) (by decide) n 0 (by omega) (pw_pos n)
  rw [Int.toNat_natCast]
  rw [Int.natCast_zero] at hb
  refine fn0 mix [] 0 2 [.cell 4 43] Tryz.func12 rfl (by kernel_rfl) (by kernel_rfl) rfl (by kernel_rfl) (by kernel_rfl) (by simp) ?_
  simp (implicitDefEqProofs := false) (disch := omega) only [go_sem, ↓reduceIte]
  refine callF 1 hb ?_
  simp (implicitDefEqProofs := false) (disch := omega) only [go_sem, ↓reduceIte]
end
theorem sign_spent_spec : FnC Tryz.prog 89 [.agg [.agg [.int .i64 1, .int .i64 1], .ints .u8 32 zs, .ints .u8 32 zs], .agg [.ints .u8 32 zs, .ints .u8 32 zs, .ints .u8 32 zs], .int .i64 2, .nils] [] (.tup [.agg [.int .i64 0, .ints .u8 32 zs, .nils], .int .i64 6]) [] := by
  have z1 : List.replicate 32 (0 : Int) = zs := rfl
  refine fn0 mix pl89 0 4 [.cell 8 61, .tmp 9] Tryz.func89 rfl (by kernel_rfl) (by kernel_rfl) rfl (by kernel_rfl) (by kernel_rfl) (by simp) ?_
  simp (implicitDefEqProofs := false) (disch := omega) only [go_sem, ↓reduceIte, z1]
  refine call0 (right_spec11 1 1) ?_
  rw [decide_eq_true (by decide : rightP 1 1)]
  simp (implicitDefEqProofs := false) (disch := omega) only [go_sem, ↓reduceIte, z1]
  refine call0 (many_spec 1 1) ?_
  rw [show manyD 1 1 = 2 by decide]
  simp (implicitDefEqProofs := false) (disch := omega) only [go_sem, ↓reduceIte, z1]
end Go.Proofs.YtjaailbgeadnnaaGreat
