/- The walks of TreeBuilds and TreeMeets. -/
import Derived.Test.YtmbdkaodaaffmaaTree4
namespace Go.Proofs.Ytmbdkaodaaffmaa
open Go Go.Sy Go.Proofs.Try
set_option maxRecDepth 100000
set_option maxHeartbeats 8000000
set_option linter.unusedSimpArgs false
set_option linter.unusedVariables false
attribute [go_sem] pl11 pl13
theorem same_self (ds : List (List Int)) (n : Nat) (hn : ds.length = n) (h : n ≤ 1000) : FnC Try.prog 33 [.sl (.lst 32 n (ds.map dg)), .sl (.lst 32 n (ds.map dg))] [] (.bool true) [] := by
  have h := same08_spec ds ds (by omega)
  rw [decide_eq_true rfl, hn] at h
  exact h
/-- From a leaf, by its way up, one comes to the root. -/
theorem climb_way (f : Nat → List Int) (pub : List Int) (l t : Int) (i n : Nat) : ∀ k, k ≤ n → climbD pub l t (f i) (wayD f pub l t i n) i k = treeD f pub l t k (i / 2 ^ k)
  | 0, _ => by rw [climbD, Nat.pow_zero, Nat.div_one]; rfl
  | k + 1, hk => by
    have e0 : i / 2 ^ (k + 1) = i / 2 ^ k / 2 := by rw [Nat.pow_succ, Nat.div_div_eq_div_mul]
    have hw : (wayD f pub l t i n).getD k [] = treeD f pub l t k (sib (i / 2 ^ k)) := rowN_getD (fun k => treeD f pub l t k (sib (i / 2 ^ k))) (by omega)
    rw [climbD, climb_way f pub l t i n k (by omega), hw, e0]
    generalize i / 2 ^ k = q
    split
    · next h =>
      have e1 : sib q = 2 * (q / 2) + 1 := by unfold sib; rw [if_pos h]; omega
      have e2 : treeD f pub l t k q = treeD f pub l t k (2 * (q / 2)) := by congr 1; omega
      rw [e1, e2]; rfl
    · next h =>
      have e1 : sib q = 2 * (q / 2) := by unfold sib; rw [if_neg h]; omega
      have e2 : treeD f pub l t k q = treeD f pub l t k (2 * (q / 2) + 1) := by congr 1; omega
      rw [e1, e2]; rfl
section
variable (pub seed key : List Int) (l t : Int) (hp : goodD pub) (hs : goodD seed) (hl : 0 ≤ l ∧ l < 4294967296) (ht : 0 ≤ t ∧ t < 18446744073709551616)
include hp hl hs ht in
theorem treeBuilds_spec (levels i : Int) (hi : i < 9223372036854775808) : FnC Try.prog 11 [.agg [.ints .u8 32 seed, .ints .u8 32 key, .ints .u8 32 pub], .int .u32 l, .int .u64 t, .int .i64 levels, .int .i64 i] [] (.bool true) [] := by
  refine fn0 mix pl11 0 5 [.tmp 10] Try.func11 rfl (by kernel_rfl) (by kernel_rfl) rfl (by kernel_rfl) (by kernel_rfl) (by simp) ?_
  simp (implicitDefEqProofs := false) (disch := omega) only [go_sem, ↓reduceIte]
  refine call0 (may10_spec levels i) ?_
  by_cases c : mayT levels i
  · rw [decide_eq_true c]
    simp (implicitDefEqProofs := false) (disch := omega) only [go_sem, ↓reduceIte]
    refine brd (fun h => ?_) (fun h => ?_)
    · simp (implicitDefEqProofs := false) (disch := omega) only [go_sem, ↓reduceIte]
      refine call0 knows10_spec ?_
      simp (implicitDefEqProofs := false) (disch := omega) only [go_sem, ↓reduceIte]
    · have c' := c
      unfold mayT at c'
      obtain ⟨c1, c2, c3, c4⟩ := c'
      obtain ⟨n, rfl⟩ := Int.eq_ofNat_of_zero_le (show 0 ≤ levels by omega)
      obtain ⟨j, rfl⟩ := Int.eq_ofNat_of_zero_le c3
      rw [Int.toNat_natCast] at c4
      have hp4 : pw n ≤ pw 4 := pw_le (by omega)
      have hp5 : pw 4 = 16 := rfl
      simp (implicitDefEqProofs := false) (disch := omega) only [go_sem, ↓reduceIte]
      refine callF 1 (build_spec pub seed key l t hp hs hl n j (by omega) (by omega) (by omega)) ?_
      simp (implicitDefEqProofs := false) (disch := omega) only [go_sem, ↓reduceIte]
      refine callF 1 (refbuild_spec pub seed key l t hp hs hl ht n j (by omega) (by omega)) ?_
      simp (implicitDefEqProofs := false) (disch := omega) only [go_sem, ↓reduceIte]
      refine callB (same_self (wayD (leafD pub seed l t) pub l t j n) n (wayD_len _ _ _ _ _ _) (by omega)) ?_ ?_
      · simp (implicitDefEqProofs := false) (disch := omega) only [go_sem, ↓reduceIte]
      simp (implicitDefEqProofs := false) (disch := omega) only [go_sem, ↓reduceIte]
      refine call0 (leaf_spec pub l t hp hl seed key j hs (by omega)) ?_
      simp (implicitDefEqProofs := false) (disch := omega) only [go_sem, ↓reduceIte]
      refine call0 (refleaf_spec pub l t hp hl ht seed key j hs (by omega)) ?_
      simp (implicitDefEqProofs := false) (disch := omega) only [go_sem, ↓reduceIte]
      refine call0 knows10_spec ?_
      simp (implicitDefEqProofs := false) (disch := omega) only [go_sem, ↓reduceIte]
  · rw [decide_eq_false c]
    simp (implicitDefEqProofs := false) (disch := omega) only [go_sem, ↓reduceIte]
    refine call0 (build_bad_spec seed key pub l t levels i hi c) ?_
    simp (implicitDefEqProofs := false) (disch := omega) only [go_sem, ↓reduceIte]
    refine call0 knows10_spec ?_
    simp (implicitDefEqProofs := false) (disch := omega) only [go_sem, ↓reduceIte]
include hp hl hs in
theorem treeMeets_spec (levels a b : Int) (hv : 0 ≤ levels ∧ levels < 256) (ha : 0 ≤ a ∧ a < 256) (hb : 0 ≤ b ∧ b < 256) : FnC Try.prog 13 [.agg [.ints .u8 32 seed, .ints .u8 32 key, .ints .u8 32 pub], .int .u32 l, .int .u64 t, .int .u8 levels, .int .u8 a, .int .u8 b] [] (.bool true) [] := by
  obtain ⟨v, rfl⟩ := Int.eq_ofNat_of_zero_le hv.1
  obtain ⟨a, rfl⟩ := Int.eq_ofNat_of_zero_le ha.1
  obtain ⟨b, rfl⟩ := Int.eq_ofNat_of_zero_le hb.1
  obtain ⟨n, hn⟩ : ∃ n, n = v % 3 + 1 := ⟨_, rfl⟩
  have tn : (v : Int).tmod 3 + 1 = (n : Int) := by rw [Int.tmod_eq_emod_of_nonneg (by omega)]; omega
  refine fn0 mix pl13 0 6 [.tmp 12] Try.func13 rfl (by kernel_rfl) (by kernel_rfl) rfl (by kernel_rfl) (by kernel_rfl) (by simp) ?_
  simp (implicitDefEqProofs := false) (disch := omega) only [go_sem, ↓reduceIte, tn]
  refine loop (ι := Nat) 1 (fun k => 1 ≤ k ∧ k ≤ n) (fun k => [(1, .int .u32 l), (2, .int .u64 t), (4, .int .u8 a), (5, .int .u8 b), (6, .ref 0 []), (13, .int .i64 n), (14, .int .i64 (pw k)), (15, .int .i64 k)])
    (fun k => [(0, .var (.agg [.ints .u8 32 seed, .ints .u8 32 key, .ints .u8 32 pub]))]) (fun k => n - k) 1 [(0, 0)] [] ⟨Nat.le_refl _, by omega⟩ rfl ?_ ?_ ?_ (fun k hk => ?_)
  · simp (implicitDefEqProofs := false) (disch := omega) only [go_sem, ↓reduceIte]
  · simp (implicitDefEqProofs := false) (disch := omega) only [go_sem, ↓reduceIte, pw_one]
  · simp (implicitDefEqProofs := false) (disch := omega) only [go_sem, ↓reduceIte]
  have e := pw_succ k
  have e3 : pw k ≤ pw 4 := pw_le (by omega)
  have e4 : pw 4 = 16 := rfl
  have e5 := pw_pos k
  simp (implicitDefEqProofs := false) (disch := omega) only [go_sem, ↓reduceIte]
  refine brd (fun h => ?_) (fun h => ?_)
  · simp (implicitDefEqProofs := false) (disch := omega) only [go_sem, ↓reduceIte, ← e]
    have e2 : (pw k : Int) * 2 ≤ 64 := by omega
    refine ⟨k + 1, [(0, 0)], [], [], by dsimp only; omega, by dsimp only; omega, rfl, ?_, ?_, ?_⟩ <;> simp (implicitDefEqProofs := false) (disch := omega) only [go_sem, ↓reduceIte, e]
  obtain rfl : n = k := by omega
  obtain ⟨i, hi⟩ : ∃ i, i = a % pw n := ⟨_, rfl⟩
  obtain ⟨j, hj⟩ : ∃ j, j = b % pw n := ⟨_, rfl⟩
  have hi2 : i < pw n := by rw [hi]; exact Nat.mod_lt _ (by omega)
  have hj2 : j < pw n := by rw [hj]; exact Nat.mod_lt _ (by omega)
  have ti : (a : Int).tmod (pw n : Int) = (i : Int) := by rw [Int.tmod_eq_emod_of_nonneg (by omega), hi, Int.natCast_emod]
  have tj : (b : Int).tmod (pw n : Int) = (j : Int) := by rw [Int.tmod_eq_emod_of_nonneg (by omega), hj, Int.natCast_emod]
  have hcl := climb_spec pub l t hp hl (leafD pub seed l t i) (wayD (leafD pub seed l t) pub l t i n) i n (wayD_len _ _ _ _ _ _) (by omega) (by omega) hi2 (leafD_good _ _ _ _ _) (wayD_good (leafD_good pub l t seed) _ _ _ _ _)
  have hcw := climb_way (leafD pub seed l t) pub l t i n n (Nat.le_refl _)
  have hdz : i / 2 ^ n = 0 := Nat.div_eq_of_lt hi2
  rw [hcw, hdz] at hcl
  simp (implicitDefEqProofs := false) (disch := omega) only [go_sem, ↓reduceIte, ti, tj]
  refine callF 1 (build_spec pub seed key l t hp hs hl n i (by omega) (by omega) hi2) ?_
  simp (implicitDefEqProofs := false) (disch := omega) only [go_sem, ↓reduceIte, ti, tj]
  refine callF 1 (build_spec pub seed key l t hp hs hl n j (by omega) (by omega) hj2) ?_
  simp (implicitDefEqProofs := false) (disch := omega) only [go_sem, ↓reduceIte, ti, tj]
  refine call0 (leaf_spec pub l t hp hl seed key i hs (by omega)) ?_
  simp (implicitDefEqProofs := false) (disch := omega) only [go_sem, ↓reduceIte]
  refine callB hcl ?_ ?_
  · simp (implicitDefEqProofs := false) (disch := omega) only [go_sem, ↓reduceIte]
  simp (implicitDefEqProofs := false) (disch := omega) only [go_sem, ↓reduceIte]
  refine call0 knows10_spec ?_
  simp (implicitDefEqProofs := false) (disch := omega) only [go_sem, ↓reduceIte]
end
theorem secret_of {x : AV} (h : TD.has (.st [.arr 32 (.int .u8), .arr 32 (.int .u8), .arr 32 (.int .u8)]) x) : ∃ s k p : List Int, x = .agg [.ints .u8 32 s, .ints .u8 32 k, .ints .u8 32 p] ∧ goodD s ∧ goodD k ∧ goodD p := by
  simp only [TD.has, TD.hass, TD.ik] at h
  obtain ⟨_, rfl, _, _, rfl, ⟨s, rfl, hs, hs'⟩, _, _, rfl, ⟨k, rfl, hk, hk'⟩, _, _, rfl, ⟨p, rfl, hp, hp'⟩, rfl⟩ := h
  exact ⟨s, k, p, rfl, ⟨hs, fun x hx => wf_u8 (hs' x hx)⟩, ⟨hk, fun x hx => wf_u8 (hk' x hx)⟩, ⟨hp, fun x hx => wf_u8 (hp' x hx)⟩⟩
end Go.Proofs.Ytmbdkaodaaffmaa
