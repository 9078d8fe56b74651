/- The walk of TreeClimbs. -/
import Derived.Test.YtmbdkaodaaffmaaTree
namespace Go.Proofs.Ytmbdkaodaaffmaa
open Go Go.Sy Go.Proofs.Try
set_option maxRecDepth 100000
set_option maxHeartbeats 8000000
set_option linter.unusedSimpArgs false
set_option linter.unusedVariables false
attribute [go_sem] pl12 pl44 pl45 pl50
section
variable (pub : List Int) (l t : Int) (hp : goodD pub) (hl : 0 ≤ l ∧ l < 4294967296) (ht : 0 ≤ t ∧ t < 18446744073709551616)
include hp hl ht in
theorem refclimb_spec (x : List Int) (way : List (List Int)) (i n : Nat) (hn : way.length = n) (h4 : n ≤ 100) (hi : i < 1000) (hx : goodD x) (hg : ∀ d ∈ way, goodD d) :
    FnC Try.prog 50 [.ints .u8 32 x, .sl (.lst 32 n (way.map dg)), .int .i64 i, .ints .u8 32 pub, .int .u32 l, .int .u64 t] [] (.ints .u8 32 (climbD pub l t x way i n)) [] := by
  refine fn0 mix pl50 0 6 [.cell 12 24] Try.func50 rfl (by kernel_rfl) (by kernel_rfl) rfl (by kernel_rfl) (by kernel_rfl) (by simp) ?_
  simp (implicitDefEqProofs := false) (disch := omega) only [go_sem, ↓reduceIte]
  refine loop (ι := Nat) 3 (fun k => k ≤ n) (fun k => [(1, .sl (.lst 32 n (way.map dg))), (2, .int .i64 ((i / 2 ^ k : Nat) : Int)), (4, .int .u32 l), (5, .int .u64 t), (6, .ref 0 []), (9, .ref 1 []), (12, .ref 2 []), (13, .int .i64 k)])
    (fun k => [(0, .var (.ints .u8 32 (climbD pub l t x way i k))), (1, .var (.ints .u8 32 pub)), (2, .var (.ints .u8 32 (List.replicate 32 0)))]) (fun k => n - k) 0 [(0, 0), (1, 1), (2, 2)] [] (Nat.zero_le _) rfl ?_ ?_ ?_ (fun k hk => ?_)
  · simp (implicitDefEqProofs := false) (disch := omega) only [go_sem, ↓reduceIte]
  · simp (implicitDefEqProofs := false) (disch := omega) only [go_sem, ↓reduceIte, Nat.pow_zero, Nat.div_one]
  · simp (implicitDefEqProofs := false) (disch := omega) only [go_sem, ↓reduceIte, climbD]
  simp (implicitDefEqProofs := false) (disch := omega) only [go_sem, ↓reduceIte]
  refine brd (fun h => ?_) (fun h => ?_)
  · have hg1 := fun K => getP_map (f := dg) (getD_some' (row := way) (i := k) (by omega)) K
    have hgd := getD_good hg (show k < way.length by omega)
    have hc := climbD_good pub l t hx way i k
    have hle : (way.map dg).length = n := by rw [List.length_map, hn]
    have hd : i / 2 ^ k ≤ i := Nat.div_le_self _ _
    have e0 : i / 2 ^ (k + 1) = i / 2 ^ k / 2 := by rw [Nat.pow_succ, Nat.div_div_eq_div_mul]
    generalize hq : i / 2 ^ k = q at hd
    have t2 : (q : Int).tmod 2 = (q % 2 : Nat) := by rw [Int.tmod_eq_emod_of_nonneg (by omega)]; omega
    have t3 : (q : Int).tdiv 2 = (q / 2 : Nat) := by rw [Int.tdiv_eq_ediv_of_nonneg (by omega)]; omega
    simp (implicitDefEqProofs := false) (disch := omega) only [go_sem, ↓reduceIte, hg1, dg, hle, t2, t3]
    refine brd (fun h6 => ?_) (fun h6 => ?_)
    · have e : climbD pub l t x way i (k + 1) = nodeD (climbD pub l t x way i k) (way.getD k []) pub l t k (q / 2) := by rw [climbD, hq, if_pos (by omega)]
      simp (implicitDefEqProofs := false) (disch := omega) only [go_sem, ↓reduceIte, hg1, dg, hle, t2, t3]
      refine call0 (two_spec pub l t hp hl ht _ _ k (q / 2) hc hgd (by omega) (by omega)) ?_
      simp (implicitDefEqProofs := false) (disch := omega) only [go_sem, ↓reduceIte, t2, t3]
      refine ⟨k + 1, [(0, 0), (1, 1), (2, 2)], [], [], by dsimp only; omega, by dsimp only; omega, rfl, ?_, ?_, ?_⟩ <;> simp (implicitDefEqProofs := false) (disch := omega) only [go_sem, ↓reduceIte, e, e0, hq]
    · have e : climbD pub l t x way i (k + 1) = nodeD (way.getD k []) (climbD pub l t x way i k) pub l t k (q / 2) := by rw [climbD, hq, if_neg (by omega)]
      simp (implicitDefEqProofs := false) (disch := omega) only [go_sem, ↓reduceIte, hg1, dg, hle, t2, t3]
      refine call0 (two_spec pub l t hp hl ht _ _ k (q / 2) hgd hc (by omega) (by omega)) ?_
      simp (implicitDefEqProofs := false) (disch := omega) only [go_sem, ↓reduceIte, t2, t3]
      refine ⟨k + 1, [(0, 0), (1, 1), (2, 2)], [], [], by dsimp only; omega, by dsimp only; omega, rfl, ?_, ?_, ?_⟩ <;> simp (implicitDefEqProofs := false) (disch := omega) only [go_sem, ↓reduceIte, e, e0, hq]
  obtain rfl : k = n := by omega
  simp (implicitDefEqProofs := false) (disch := omega) only [go_sem, ↓reduceIte]
end
def secA (seed key pub : List Int) : AV := .agg [.ints .u8 32 seed, .ints .u8 32 key, .ints .u8 32 pub]
theorem build_bad_spec (seed key pub : List Int) (l t levels i : Int) (hi : i < 9223372036854775808) (h : ¬ mayT levels i) :
    FnC Try.prog 45 [.agg [.ints .u8 32 seed, .ints .u8 32 key, .ints .u8 32 pub], .int .u32 l, .int .u64 t, .int .i64 levels, .int .i64 i] [] (.tup [.ints .u8 32 (List.replicate 32 0), .nils, .int .i64 1]) [] := by
  unfold mayT at h
  refine fn0 mix pl45 0 5 [.cell 10 24, .tmp 11, .tmp 12] Try.func45 rfl (by kernel_rfl) (by kernel_rfl) rfl (by kernel_rfl) (by kernel_rfl) (by simp) ?_
  simp (implicitDefEqProofs := false) (disch := omega) only [go_sem, ↓reduceIte]
  refine brd (fun h1 => ?_) (fun h1 => ?_)
  · simp (implicitDefEqProofs := false) (disch := omega) only [go_sem, ↓reduceIte]
  simp (implicitDefEqProofs := false) (disch := omega) only [go_sem, ↓reduceIte]
  refine brd (fun h2 => ?_) (fun h2 => ?_)
  · simp (implicitDefEqProofs := false) (disch := omega) only [go_sem, ↓reduceIte]
  simp (implicitDefEqProofs := false) (disch := omega) only [go_sem, ↓reduceIte]
  refine brd (fun h3 => ?_) (fun h3 => ?_)
  · simp (implicitDefEqProofs := false) (disch := omega) only [go_sem, ↓reduceIte]
  have hsh : ishl .i64 1 levels.toNat = (pw levels.toNat : Int) := by
    obtain rfl | rfl | rfl | rfl : levels = 1 ∨ levels = 2 ∨ levels = 3 ∨ levels = 4 := by omega
    all_goals decide
  simp (implicitDefEqProofs := false) (disch := omega) only [go_sem, ↓reduceIte, hsh]
  refine brd (fun h4 => ?_) (fun h4 => by omega)
  simp (implicitDefEqProofs := false) (disch := omega) only [go_sem, ↓reduceIte]
def oneD : List Int := 1 :: List.replicate 31 0
def twoD : List Int := 2 :: List.replicate 31 0
theorem oneD_good : goodD oneD := ⟨rfl, by decide⟩
theorem twoD_good : goodD twoD := ⟨rfl, by decide⟩
theorem knows10_spec : FnC Try.prog 44 [] [] (.bool true) [] := by
  have c1 := climb_spec zs 0 0 zs_good ⟨by decide, by decide⟩ oneD [twoD] 1 1 rfl (by decide) (by decide) (by decide) oneD_good (by intro d hd; rw [List.mem_singleton] at hd; subst hd; exact twoD_good)
  have c2 := climb_spec zs 0 0 zs_good ⟨by decide, by decide⟩ twoD [oneD] 0 1 rfl (by decide) (by decide) (by decide) twoD_good (by intro d hd; rw [List.mem_singleton] at hd; subst hd; exact oneD_good)
  have r1 := refclimb_spec zs 0 0 zs_good ⟨by decide, by decide⟩ ⟨by decide, by decide⟩ oneD [twoD] 1 1 rfl (by decide) (by decide) oneD_good (by intro d hd; rw [List.mem_singleton] at hd; subst hd; exact twoD_good)
  have e1 : climbD zs 0 0 oneD [twoD] 1 1 = nodeD twoD oneD zs 0 0 0 0 := rfl
  have e2 : climbD zs 0 0 twoD [oneD] 0 1 = nodeD twoD oneD zs 0 0 0 0 := rfl
  have z1 : List.replicate 32 (0 : Int) = zs := rfl
  rw [e1] at c1 r1
  rw [e2] at c2
  have b := build_bad_spec zs zs zs 0 0 0 0 (by decide) (by decide)
  rw [z1] at b
  refine fn0 mix pl44 0 0 [.tmp 0] Try.func44 rfl (by kernel_rfl) (by kernel_rfl) rfl (by kernel_rfl) (by kernel_rfl) (by simp) ?_
  simp (implicitDefEqProofs := false) (disch := omega) only [go_sem, ↓reduceIte, z1]
  refine callB c1 ?_ ?_
  · simp (implicitDefEqProofs := false) (disch := omega) only [go_sem, ↓reduceIte, dg, oneD, twoD]
  simp (implicitDefEqProofs := false) (disch := omega) only [go_sem, ↓reduceIte, z1]
  refine callB c2 ?_ ?_
  · simp (implicitDefEqProofs := false) (disch := omega) only [go_sem, ↓reduceIte, dg, oneD, twoD]
  simp (implicitDefEqProofs := false) (disch := omega) only [go_sem, ↓reduceIte, z1]
  refine call0 b ?_
  simp (implicitDefEqProofs := false) (disch := omega) only [go_sem, ↓reduceIte, z1]
  refine callB r1 ?_ ?_
  · simp (implicitDefEqProofs := false) (disch := omega) only [go_sem, ↓reduceIte, dg, oneD, twoD]
  simp (implicitDefEqProofs := false) (disch := omega) only [go_sem, ↓reduceIte]
theorem treeClimbs_spec (x pub : List Int) (way : List (List Int)) (i l t : Int) (hx : goodD x) (hp : goodD pub) (hg : ∀ d ∈ way, goodD d) (hw : way.length ≤ 9223372036854775807) (hi : i < 9223372036854775808) (hl : 0 ≤ l ∧ l < 4294967296) (ht : 0 ≤ t ∧ t < 18446744073709551616) :
    FnC Try.prog 12 [.ints .u8 32 x, .sl (.lst 32 way.length (way.map dg)), .int .i64 i, .ints .u8 32 pub, .int .u32 l, .int .u64 t] [] (.bool true) [] := by
  refine fn0 mix pl12 0 6 [.tmp 12] Try.func12 rfl (by kernel_rfl) (by kernel_rfl) rfl (by kernel_rfl) (by kernel_rfl) (by simp) ?_
  simp (implicitDefEqProofs := false) (disch := omega) only [go_sem, ↓reduceIte]
  refine brd (fun h => ?_) (fun h => ?_)
  · simp (implicitDefEqProofs := false) (disch := omega) only [go_sem, ↓reduceIte]
    refine call0 knows10_spec ?_
    simp (implicitDefEqProofs := false) (disch := omega) only [go_sem, ↓reduceIte]
  simp (implicitDefEqProofs := false) (disch := omega) only [go_sem, ↓reduceIte]
  by_cases c : mayT way.length i
  · have c' := c
    unfold mayT at c'
    rw [Int.toNat_natCast] at c'
    obtain ⟨c1, c2, c3, c4⟩ := c'
    obtain ⟨k, rfl⟩ := Int.eq_ofNat_of_zero_le c3
    have h3 : way.length ≤ 4 := by omega
    have hk : k < 2 ^ way.length := by unfold pw at c4; omega
    have hk2 : k < 1000 := by have : pw way.length ≤ pw 4 := pw_le h3; have : pw 4 = 16 := rfl; omega
    refine call0 (climb_spec pub l t hp hl x way k _ rfl (by omega) h3 hk hx hg) ?_
    simp (implicitDefEqProofs := false) (disch := omega) only [go_sem, ↓reduceIte]
    refine call0 (may10_spec _ _) ?_
    rw [decide_eq_true c]
    simp (implicitDefEqProofs := false) (disch := omega) only [go_sem, ↓reduceIte]
    refine call0 (refclimb_spec pub l t hp hl ht x way k _ rfl (by omega) hk2 hx hg) ?_
    simp (implicitDefEqProofs := false) (disch := omega) only [go_sem, ↓reduceIte]
    refine call0 knows10_spec ?_
    simp (implicitDefEqProofs := false) (disch := omega) only [go_sem, ↓reduceIte]
  · have c' : way.length < 1 ∨ 4 < way.length ∨ i < 0 ∨ (2 : Int) ^ way.length ≤ i := by
      unfold mayT at c
      rw [Int.toNat_natCast] at c
      have : (pw way.length : Int) = (2 : Int) ^ way.length := by simp [pw]
      omega
    refine call0 (climb_bad_spec pub l t x way i _ hi c') ?_
    simp (implicitDefEqProofs := false) (disch := omega) only [go_sem, ↓reduceIte]
    refine call0 (may10_spec _ _) ?_
    rw [decide_eq_false c]
    simp (implicitDefEqProofs := false) (disch := omega) only [go_sem, ↓reduceIte]
    refine call0 knows10_spec ?_
    simp (implicitDefEqProofs := false) (disch := omega) only [go_sem, ↓reduceIte]
end Go.Proofs.Ytmbdkaodaaffmaa
