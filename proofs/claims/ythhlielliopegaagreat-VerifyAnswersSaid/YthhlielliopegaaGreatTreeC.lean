/- The walk of TreeClimbs. -/
import Derived.Test.YthhlielliopegaaGreatTree
namespace Go.Proofs.YthhlielliopegaaGreat
open Go Go.Sy Go.Proofs.Tryz
set_option maxRecDepth 100000
set_option maxHeartbeats 8000000
set_option linter.unusedSimpArgs false
set_option linter.unusedVariables false
attribute [go_sem] pl40
section
variable (pub : List Int) (l t : Int) (hp : goodD pub) (hl : 0 ≤ l ∧ l < 4294967296) (ht : 0 ≤ t ∧ t < 18446744073709551616)
include hp hl ht in
theorem refclimb_spec (x : List Int) (way : List (List Int)) (i n : Nat) (hn : way.length = n) (h4 : n ≤ 100) (hi : i < 1000) (hx : goodD x) (hg : ∀ d ∈ way, goodD d) :
    FnC Tryz.prog 40 [.ints .u8 32 x, .sl (.lst 32 n (way.map dg)), .int .i64 i, .ints .u8 32 pub, .int .u32 l, .int .u64 t] [] (.ints .u8 32 (climbD pub l t x way i n)) [] := by
  refine fn0 mix pl40 0 6 [.cell 12 23] Tryz.func40 rfl (by kernel_rfl) (by kernel_rfl) rfl (by kernel_rfl) (by kernel_rfl) (by simp) ?_
  simp (implicitDefEqProofs := false) (disch := omega) only [go_sem, ↓reduceIte]
  refine loop (ι := Nat) 3 (fun k => k ≤ n) (fun k => [(1, .sl (.lst 32 n (way.map dg))), (2, .int .i64 ((i / 2 ^ k : Nat) : Int)), (4, .int .u32 l), (5, .int .u64 t), (6, .ref 0 []), (9, .ref 1 []), (12, .ref 2 []), (13, .int .i64 k)])
    (fun k => [(0, .var (.ints .u8 32 (climbD pub l t x way i k))), (1, .var (.ints .u8 32 pub)), (2, .var (.ints .u8 32 (List.replicate 32 0)))]) (fun k => n - k) 0 [(0, 0), (1, 1), (2, 2)] [] (Nat.zero_le _) rfl ?_ ?_ ?_ (fun k hk => ?_)
  · simp (implicitDefEqProofs := false) (disch := omega) only [go_sem, ↓reduceIte]
  · simp (implicitDefEqProofs := false) (disch := omega) only [go_sem, ↓reduceIte, Nat.pow_zero, Nat.div_one]
  · simp (implicitDefEqProofs := false) (disch := omega) only [go_sem, ↓reduceIte, climbD]
  simp (implicitDefEqProofs := false) (disch := omega) only [go_sem, ↓reduceIte]
  refine brd (fun h => ?_) (fun h => ?_)
  · have hg1 := fun K => getP_map (f := dg) (getD_some' (row := way) (i := k) (by omega)) K
    have hgd := getD_good hg (show k < way.length by omega)
    have hc := climbD_good pub l t hx way i k
    have hle : (way.map dg).length = n := by rw [List.length_map, hn]
    have hd : i / 2 ^ k ≤ i := Nat.div_le_self _ _
    have e0 : i / 2 ^ (k + 1) = i / 2 ^ k / 2 := by rw [Nat.pow_succ, Nat.div_div_eq_div_mul]
    generalize hq : i / 2 ^ k = q at hd
    have t2 : (q : Int).tmod 2 = (q % 2 : Nat) := by rw [Int.tmod_eq_emod_of_nonneg (by omega)]; omega
    have t3 : (q : Int).tdiv 2 = (q / 2 : Nat) := by rw [Int.tdiv_eq_ediv_of_nonneg (by omega)]; omega
    simp (implicitDefEqProofs := false) (disch := omega) only [go_sem, ↓reduceIte, hg1, dg, hle, t2, t3]
    refine brd (fun h6 => ?_) (fun h6 => ?_)
    · have e : climbD pub l t x way i (k + 1) = nodeD (climbD pub l t x way i k) (way.getD k []) pub l t k (q / 2) := by rw [climbD, hq, if_pos (by omega)]
      simp (implicitDefEqProofs := false) (disch := omega) only [go_sem, ↓reduceIte, hg1, dg, hle, t2, t3]
      refine call0 (two_spec pub l t hp hl ht _ _ k (q / 2) hc hgd (by omega) (by omega)) ?_
      simp (implicitDefEqProofs := false) (disch := omega) only [go_sem, ↓reduceIte, t2, t3]
      refine ⟨k + 1, [(0, 0), (1, 1), (2, 2)], [], [], by dsimp only; omega, by dsimp only; omega, rfl, ?_, ?_, ?_⟩ <;> simp (implicitDefEqProofs := false) (disch := omega) only [go_sem, ↓reduceIte, e, e0, hq]
    · have e : climbD pub l t x way i (k + 1) = nodeD (way.getD k []) (climbD pub l t x way i k) pub l t k (q / 2) := by rw [climbD, hq, if_neg (by omega)]
      simp (implicitDefEqProofs := false) (disch := omega) only [go_sem, ↓reduceIte, hg1, dg, hle, t2, t3]
      refine call0 (two_spec pub l t hp hl ht _ _ k (q / 2) hgd hc (by omega) (by omega)) ?_
      simp (implicitDefEqProofs := false) (disch := omega) only [go_sem, ↓reduceIte, t2, t3]
      refine ⟨k + 1, [(0, 0), (1, 1), (2, 2)], [], [], by dsimp only; omega, by dsimp only; omega, rfl, ?_, ?_, ?_⟩ <;> simp (implicitDefEqProofs := false) (disch := omega) only [go_sem, ↓reduceIte, e, e0, hq]
  obtain rfl : k = n := by omega
  simp (implicitDefEqProofs := false) (disch := omega) only [go_sem, ↓reduceIte]
end
def secA (seed key pub : List Int) : AV := .agg [.ints .u8 32 seed, .ints .u8 32 key, .ints .u8 32 pub]
def oneD : List Int := 1 :: List.replicate 31 0
def twoD : List Int := 2 :: List.replicate 31 0
theorem oneD_good : goodD oneD := ⟨rfl, by decide⟩
theorem twoD_good : goodD twoD := ⟨rfl, by decide⟩
end Go.Proofs.YthhlielliopegaaGreat
