/- The contracts of the package tree and of planchetref10: leaves, joins, climbing; the walk of TreeClimbs' climbing. -/
import Derived.Test.YtjaailbgeadnnaaGreatGW
namespace Go.Proofs.YtjaailbgeadnnaaGreat
open Go Go.Sy Go.Proofs.Tryz
set_option maxRecDepth 100000
set_option maxHeartbeats 8000000
set_option linter.unusedSimpArgs false
set_option linter.unusedVariables false
attribute [go_sem] pl103 pl104 pl105 pl137
theorem u32_in (x : Int) : 0 ≤ IntKind.u32.wrap x ∧ IntKind.u32.wrap x < 4294967296 := by rw [wrap_u32']; omega
theorem base_good {l k f : Int} (a : Int) (hl : 0 ≤ l ∧ l < 4294967296) (hk : 0 ≤ k ∧ k < 4294967296) (hf : 0 ≤ f ∧ f < 4294967296) : goodW (base l a k f) := by
  refine ⟨rfl, fun w hw => ?_⟩
  simp only [base, List.mem_cons, List.not_mem_nil, or_false] at hw
  rcases hw with rfl | rfl | rfl | rfl | rfl | rfl | rfl | rfl
  · exact hl
  · exact u32_in _
  · exact u32_in _
  · exact hk
  · exact hf
  · decide
  · decide
  · decide
/-- A tree's node of two, at its level and its place there. -/
def nodeD (a b pub : List Int) (l t : Int) (lv i : Nat) : List Int := joinD a b pub (adrL (base l t 2 0) lv i)
theorem nodeD_good (a b pub : List Int) (l t : Int) (lv i : Nat) : goodD (nodeD a b pub l t lv i) := joinD_good _ _ _ _
section
variable (pub : List Int) (l t : Int) (hp : goodD pub) (hl : 0 ≤ l ∧ l < 4294967296) (ht : 0 ≤ t ∧ t < 18446744073709551616)
include hp hl in
theorem pjoin_spec (a b : List Int) (lv i : Nat) (ha : goodD a) (hb : goodD b) (h1 : lv < 1000) (h2 : i < 1000) : FnC Tryz.prog 137 [.agg [.ints .u8 32 pub, .int .u32 l, .int .u64 t], .ints .u8 32 a, .ints .u8 32 b, .int .i64 lv, .int .i64 i] [] (.ints .u8 32 (nodeD a b pub l t lv i)) [] := by
  have hw := base_good t hl (show (0 : Int) ≤ 2 ∧ (2 : Int) < 4294967296 by decide) (show (0 : Int) ≤ 0 ∧ (0 : Int) < 4294967296 by decide)
  have hs : (((base l t 2 0).set 5 lv).set 6 i).set 7 0 = adrL (base l t 2 0) lv i := rfl
  refine fn0 mix pl137 0 5 [.cell 10 25] Tryz.func137 rfl (by kernel_rfl) (by kernel_rfl) rfl (by kernel_rfl) (by kernel_rfl) (by simp) ?_
  simp (implicitDefEqProofs := false) (disch := omega) only [go_sem, ↓reduceIte]
  refine call0 (tree_spec l t) ?_
  simp (implicitDefEqProofs := false) (disch := omega) only [go_sem, ↓reduceIte]
  refine call0 (at_spec _ _ _) ?_
  rw [hs]
  simp (implicitDefEqProofs := false) (disch := omega) only [go_sem, ↓reduceIte]
  refine call0 (join_spec09 _ _ _ _ ha hb hp (adrL_good hw (by omega) (by omega))) ?_
  simp (implicitDefEqProofs := false) (disch := omega) only [go_sem, ↓reduceIte, nodeD]
include hp hl ht in
theorem two_spec (a b : List Int) (lv i : Nat) (ha : goodD a) (hb : goodD b) (h1 : lv < 1000) (h2 : i < 1000) : FnC Tryz.prog 105 [.ints .u8 32 a, .ints .u8 32 b, .ints .u8 32 pub, .int .u32 l, .int .u64 t, .int .i64 lv, .int .i64 i] [] (.ints .u8 32 (nodeD a b pub l t lv i)) [] := by
  have hw := base_good t hl (show (0 : Int) ≤ 2 ∧ (2 : Int) < 4294967296 by decide) (show (0 : Int) ≤ 0 ∧ (0 : Int) < 4294967296 by decide)
  have hs : (((base l t 2 0).set 5 lv).set 6 i).set 7 0 = adrL (base l t 2 0) lv i := rfl
  refine fn0 mix pl105 0 7 [.cell 14 25] Tryz.func105 rfl (by kernel_rfl) (by kernel_rfl) rfl (by kernel_rfl) (by kernel_rfl) (by simp) ?_
  simp (implicitDefEqProofs := false) (disch := omega) only [go_sem, ↓reduceIte]
  refine call0 (refbase_spec l t 2 0 ht.1 ht.2) ?_
  simp (implicitDefEqProofs := false) (disch := omega) only [go_sem, ↓reduceIte]
  refine call0 (refat_spec' _ _ _ _ rfl) ?_
  rw [hs]
  simp (implicitDefEqProofs := false) (disch := omega) only [go_sem, ↓reduceIte]
  refine call0 (refjoin_spec _ _ _ _ ha hb hp (adrL_good hw (by omega) (by omega))) ?_
  simp (implicitDefEqProofs := false) (disch := omega) only [go_sem, ↓reduceIte, nodeD]
/-- A leaf. -/
def leafD (pub seed : List Int) (l t : Int) (i : Nat) : List Int := compressD pub (base l t 1 i) (rowN (pubD seed pub (base l t 0 i)) 67)
theorem leafD_good (seed : List Int) (i : Nat) : goodD (leafD pub seed l t i) := compressD_good _ _ (by rw [rowN_len]; decide) (rowN_good fun i _ => pubD_good _ _ _ _)
include hp hl in
theorem leaf_spec (seed key : List Int) (i : Nat) (hs : goodD seed) (hi : i < 1000) : FnC Tryz.prog 103 [.agg [.ints .u8 32 seed, .ints .u8 32 key, .ints .u8 32 pub], .int .u32 l, .int .u64 t, .int .i64 i] [] (.ints .u8 32 (leafD pub seed l t i)) [] := by
  have hw0 := base_good t hl (show (0 : Int) ≤ 0 ∧ (0 : Int) < 4294967296 by decide) (show (0 : Int) ≤ (i : Int) ∧ (i : Int) < 4294967296 by omega)
  have hw1 := base_good t hl (show (0 : Int) ≤ 1 ∧ (1 : Int) < 4294967296 by decide) (show (0 : Int) ≤ (i : Int) ∧ (i : Int) < 4294967296 by omega)
  refine fn0 mix pl103 0 4 [.cell 8 25] Tryz.func103 rfl (by kernel_rfl) (by kernel_rfl) rfl (by kernel_rfl) (by kernel_rfl) (by simp) ?_
  simp (implicitDefEqProofs := false) (disch := omega) only [go_sem, ↓reduceIte]
  refine call0 (ots_spec l t i) ?_
  simp (implicitDefEqProofs := false) (disch := omega) only [go_sem, ↓reduceIte]
  refine callF 1 (wpublic_spec seed pub _ hs hp hw0) ?_
  simp (implicitDefEqProofs := false) (disch := omega) only [go_sem, ↓reduceIte]
  refine call0 (ltree_spec l t i) ?_
  simp (implicitDefEqProofs := false) (disch := omega) only [go_sem, ↓reduceIte]
  refine callB (compress_spec09 pub _ (rowN (pubD seed pub (base l t 0 i)) 67) 67 hp hw1 (rowN_len _ _) (by decide) (by decide) (rowN_good fun i _ => pubD_good _ _ _ _)) ?_ ?_
  · simp (implicitDefEqProofs := false) (disch := omega) only [go_sem, ↓reduceIte]
  simp (implicitDefEqProofs := false) (disch := omega) only [go_sem, ↓reduceIte, leafD]
include hp hl ht in
theorem refleaf_spec (seed key : List Int) (i : Nat) (hs : goodD seed) (hi : i < 1000) : FnC Tryz.prog 104 [.agg [.ints .u8 32 seed, .ints .u8 32 key, .ints .u8 32 pub], .int .u32 l, .int .u64 t, .int .u32 i] [] (.ints .u8 32 (leafD pub seed l t i)) [] := by
  have hw0 := base_good t hl (show (0 : Int) ≤ 0 ∧ (0 : Int) < 4294967296 by decide) (show (0 : Int) ≤ (i : Int) ∧ (i : Int) < 4294967296 by omega)
  have hw1 := base_good t hl (show (0 : Int) ≤ 1 ∧ (1 : Int) < 4294967296 by decide) (show (0 : Int) ≤ (i : Int) ∧ (i : Int) < 4294967296 by omega)
  refine fn0 mix pl104 0 4 [.cell 8 25] Tryz.func104 rfl (by kernel_rfl) (by kernel_rfl) rfl (by kernel_rfl) (by kernel_rfl) (by simp) ?_
  simp (implicitDefEqProofs := false) (disch := omega) only [go_sem, ↓reduceIte]
  refine call0 (refbase_spec l t 0 i ht.1 ht.2) ?_
  simp (implicitDefEqProofs := false) (disch := omega) only [go_sem, ↓reduceIte]
  refine callF 1 (refwpublic_spec seed pub _ hs hp hw0) ?_
  simp (implicitDefEqProofs := false) (disch := omega) only [go_sem, ↓reduceIte]
  refine call0 (refbase_spec l t 1 i ht.1 ht.2) ?_
  simp (implicitDefEqProofs := false) (disch := omega) only [go_sem, ↓reduceIte]
  refine callB (refcompress_spec pub _ (rowN (pubD seed pub (base l t 0 i)) 67) 67 hp hw1 (rowN_len _ _) (by decide) (by decide) (rowN_good fun i _ => pubD_good _ _ _ _)) ?_ ?_
  · simp (implicitDefEqProofs := false) (disch := omega) only [go_sem, ↓reduceIte]
  simp (implicitDefEqProofs := false) (disch := omega) only [go_sem, ↓reduceIte, leafD]
/-- Where one comes to: so many steps up. -/
def climbD (x : List Int) (way : List (List Int)) (i : Nat) : Nat → List Int
  | 0 => x
  | k + 1 => if i / 2 ^ k % 2 = 0 then nodeD (climbD x way i k) (way.getD k []) pub l t k (i / 2 ^ k / 2) else nodeD (way.getD k []) (climbD x way i k) pub l t k (i / 2 ^ k / 2)
theorem climbD_good {x : List Int} (h : goodD x) (way : List (List Int)) (i : Nat) : ∀ k, goodD (climbD pub l t x way i k)
  | 0 => h
  | k + 1 => by rw [climbD]; split <;> exact nodeD_good _ _ _ _ _ _ _
theorem shr_nat (i k : Nat) (h : k ≤ 64) : ishr .i64 (i : Int) k = ((i / 2 ^ k : Nat) : Int) := by
  rw [ishr_div _ _ _ h, Int.natCast_ediv]; simp
def pw (k : Nat) : Nat := 2 ^ k
theorem pw_succ (k : Nat) : ((pw (k + 1) : Nat) : Int) = (pw k : Int) * 2 := by unfold pw; rw [Nat.pow_succ]; omega
theorem pw_le {k n : Nat} (h : k ≤ n) : pw k ≤ pw n := Nat.pow_le_pow_right (by decide) h
theorem pw_one : pw 1 = 2 := rfl
theorem pw_pos (k : Nat) : 1 ≤ pw k := Nat.one_le_two_pow
def mayT (levels i : Int) : Prop := 1 ≤ levels ∧ levels ≤ 4 ∧ 0 ≤ i ∧ i < (pw levels.toNat : Int)
instance (levels i : Int) : Decidable (mayT levels i) := by unfold mayT; infer_instance
end
end Go.Proofs.YtjaailbgeadnnaaGreat
