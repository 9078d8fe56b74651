/- The walk of SignerAll. -/
import Derived.Test.YthhlielliopegaaSgn5
namespace Go.Proofs.Ythhlielliopegaa
open Go Go.Sy Go.Proofs.Try
set_option maxRecDepth 100000
set_option maxHeartbeats 8000000
set_option linter.unusedSimpArgs false
set_option linter.unusedVariables false

structure Sx where
  D : DS
  T : Nat
  t : List Int
  F : Int × Int × Int
  x : ST
abbrev sxO (i j : Nat) (y : Sx) (total batch next : Int) : OO := sgO i j y.D ⟨y.T, y.t, false⟩ y.F y.x total batch next false
attribute [go_sem] sxO
attribute [simp] sxO
theorem ofN_inj {a b : Nat} (ha : a < 256) (hb : b < 256) (h : UInt8.ofNat a = UInt8.ofNat b) : a = b := by
  have e := congrArg UInt8.toNat h
  simp only [UInt8.toNat_ofNat'] at e
  omega
structure Okx (y : Sx) (k T : Nat) : Prop where
  i : Inv 400 y.T y.t y.D
  s : y.D.set = false
  T : y.T ≤ T
  k : y.x.key = (k : Int)
theorem signerAll_spec (tv bv : Int) (ht : 0 ≤ tv ∧ tv < 256) (hb : 0 ≤ bv ∧ bv < 256) : FnC Try.prog 3 [.int .u8 tv, .int .u8 bv] [] (.bool true) [] := by
  obtain ⟨n, hn⟩ := Int.eq_ofNat_of_zero_le (show 0 ≤ tv % 59 + 2 by omega)
  obtain ⟨b, hb'⟩ := Int.eq_ofNat_of_zero_le (show 0 ≤ bv % 16 + 1 by omega)
  have hn2 : 2 ≤ n ∧ n ≤ 60 := by omega
  have hb2 : 1 ≤ b ∧ b ≤ 16 := by omega
  have tn : tv.tmod 59 + 2 = (n : Int) := by rw [Int.tmod_eq_emod_of_nonneg (by omega)]; exact hn
  have tb : bv.tmod 16 + 1 = (b : Int) := by rw [Int.tmod_eq_emod_of_nonneg (by omega)]; exact hb'
  have r0 := new_ok 2 400 (by decide) (by decide) (by decide) (by decide)
  have i0 := inv0
  have e0 : List.replicate (2 * 400) (0 : Int) = List.replicate 800 0 := rfl
  rw [e0] at r0
  have s0 : DS.set ⟨400, List.replicate 800 0, [], false, false, 0, []⟩ = false := rfl
  generalize (⟨400, List.replicate 800 0, [], false, false, 0, []⟩ : DS) = D0 at *
  obtain ⟨D1, r1, i1, s1⟩ := sopen_calm i0 s0 (by omega) (0, 0, 0) ⟨0, 0, 0, 0, 0, []⟩ n b (by omega) (by omega) (.inl ⟨rfl, rfl⟩) (by decide)
  have ex1 : opX (0, 0, 0) ⟨0, 0, 0, 0, 0, []⟩ = ⟨1, 0, 0, 0, 0, []⟩ := by rfl
  rw [ex1] at r1 i1
  generalize opF (0, 0, 0) ⟨0, 0, 0, 0, 0, []⟩ = F1 at *
  dsimp only [Nat.reduceAdd, Int.reduceAdd] at r1 i1
  refine fn0 mix ((100014, []) :: []) 0 2 [.tmp 4] Try.func3 rfl (by kernel_rfl) (by kernel_rfl) rfl (by kernel_rfl) (by kernel_rfl) (by simp) ?_
  simp (implicitDefEqProofs := false) (disch := omega) only [go_sem, ↓reduceIte, tn, tb]
  refine callF 3 r0 ?_
  simp (implicitDefEqProofs := false) (disch := omega) only [go_sem, ↓reduceIte]
  refine callF 1 new_spec ?_
  simp (implicitDefEqProofs := false) (disch := omega) only [go_sem, ↓reduceIte]
  refine callG false [(0, 0), (1, 3), (2, 1), (3, 2)] [(0, 0), (1, 3), (6, 4), (7, 5), (4, 6), (5, 7)] 8 r1 ?_ ?_
  · simp [keys]
  simp (implicitDefEqProofs := false) (disch := omega) only [go_sem, ↓reduceIte]
  refine loop (ι := Nat × Sx) 6 (fun k => k.1 ≤ 2 ∧ Okx k.2 k.1 (1 + 60 * k.1) ∧ k.2.x.msg.length ≠ 1 ∧ k.2.x.msg.length ≠ 3) (fun k => [(5, .int .i64 n), (9, .ref 3 []), (11, .int .i64 k.1)])
    (fun k => sxO 4 5 k.2 n b 0) (fun k => 2 - k.1) (0, ⟨D1, 1, tx ⟨1, 0, 0, 0, 0, []⟩, F1, ⟨1, 0, 0, 0, 0, []⟩⟩) [(0, 0), (1, 4), (2, 3), (3, 5), (4, 6), (5, 7)] [] ⟨Nat.zero_le _, ⟨i1, s1, Nat.le_refl _, rfl⟩, by show (0 : Nat) ≠ 1; decide, by show (0 : Nat) ≠ 3; decide⟩ rfl ?_ ?_ ?_ (fun k hk => ?_)
  · simp (implicitDefEqProofs := false) (disch := omega) only [go_sem, ↓reduceIte]
  · simp (implicitDefEqProofs := false) (disch := omega) only [go_sem, ↓reduceIte]
  · simp (implicitDefEqProofs := false) (disch := omega) only [go_sem, ↓reduceIte]
  obtain ⟨k, y⟩ := k
  obtain ⟨q1, q2, q3, q4⟩ := hk
  dsimp only at q1 q2 q3 q4 ⊢
  simp (implicitDefEqProofs := false) (disch := omega) only [go_sem, ↓reduceIte]
  refine brd (fun h1 => ?_) (fun h1 => ?_)
  case' refine_2 =>
    simp (implicitDefEqProofs := false) (disch := omega) only [go_sem, ↓reduceIte]
    refine call0 knows15_spec ?_
    simp (implicitDefEqProofs := false) (disch := omega) only [go_sem, ↓reduceIte]
  simp (implicitDefEqProofs := false) (disch := omega) only [go_sem, ↓reduceIte]
  refine loop (ι := Nat × Sx) 6 (fun j => j.1 ≤ n - 1 ∧ Okx j.2 k (1 + 60 * k + j.1) ∧ (j.1 = 0 → j.2.x.msg.length ≠ 1 ∧ j.2.x.msg.length ≠ 3) ∧ (1 ≤ j.1 → j.2.x.msg = toU [(k : Int), ((j.1 - 1 : Nat) : Int), 7])) (fun j => [(5, .int .i64 n), (9, .ref 3 []), (11, .int .i64 k), (12, .int .i64 j.1)])
    (fun j => sxO 4 5 j.2 n b j.1) (fun j => n - 1 - j.1) (0, y) [(0, 0), (1, 1), (2, 2), (3, 3), (4, 4), (5, 5)] [] ⟨Nat.zero_le _, q2, fun _ => ⟨q3, q4⟩, fun h => absurd (show (1 : Nat) ≤ 0 from h) (by omega)⟩ rfl ?_ ?_ ?_ (fun j hj => ?_)
  · simp (implicitDefEqProofs := false) (disch := omega) only [go_sem, ↓reduceIte]
  · simp (implicitDefEqProofs := false) (disch := omega) only [go_sem, ↓reduceIte]
  · simp (implicitDefEqProofs := false) (disch := omega) only [go_sem, ↓reduceIte]
  clear q2 q3 q4
  obtain ⟨i, y⟩ := j
  obtain ⟨q2, ⟨q3, q4, q5, q6⟩, q7, q8⟩ := hj
  dsimp only at q2 q3 q4 q5 q6 q7 q8 ⊢
  obtain ⟨D, T, t, F, x⟩ := y
  dsimp only at q3 q4 q5 q6 q7 q8 ⊢
  simp (implicitDefEqProofs := false) (disch := omega) only [go_sem, ↓reduceIte]
  refine brd (fun h2 => ?_) (fun h2 => ?_)
  · have hne : toU [(k : Int), (i : Int), 7] ≠ x.msg := by
      by_cases c : i = 0
      · intro e
        have := q7 c
        rw [← e] at this
        exact this.2 rfl
      · rw [q8 (by omega)]
        intro e
        have e2 := (List.cons.inj (List.cons.inj e).2).1
        have := ofN_inj (a := ((i : Int)).toNat) (b := (((i - 1 : Nat) : Int)).toNat) (by omega) (by omega) e2
        omega
    obtain ⟨D2, k1, i2, s2⟩ := deal_calm q3 q4 (by omega) F x n b i [(k : Int), (i : Int), 7] 3 rfl (by omega) hne (by omega) (by omega) (by omega) (by omega)
    have k2 := deal_old D2 ⟨T + 1, tx (dealY x n b i (toU [(k : Int), (i : Int), 7])), false⟩ (dealF F x n b i) (dealY x n b i (toU [(k : Int), (i : Int), 7])) n b ((i : Int) + 1) [(k : Int), (i : Int), 7] 3 rfl (by omega) rfl
    have f1 : (dealY x n b i (toU [(k : Int), (i : Int), 7])).lk = k := q6
    have f2 : (dealY x n b i (toU [(k : Int), (i : Int), 7])).li = i := rfl
    have f3 : (dealY x n b i (toU [(k : Int), (i : Int), 7])).key = k := q6
    have f4 : (dealY x n b i (toU [(k : Int), (i : Int), 7])).msg = toU [(k : Int), (i : Int), 7] := rfl
    rw [f1, f2] at k2
    rw [q6] at k1
    generalize dealY x n b i (toU [(k : Int), (i : Int), 7]) = x2 at *
    generalize dealF F x n b i = F2 at *
    simp (implicitDefEqProofs := false) (disch := omega) only [go_sem, ↓reduceIte]
    refine cut 6 [(5, .int .i64 n), (9, .ref 3 []), (11, .int .i64 k), (12, .int .i64 i), (13, .sl (.ints .u8 3 [(k : Int), (i : Int), 7]))] (sgO 4 5 D ⟨T, t, false⟩ F x n b i false) [(0, 0), (1, 1), (2, 2), (3, 3), (4, 4), (5, 5)] [] [6] rfl ?_ ?_ ?_ ?_
    · simp (implicitDefEqProofs := false) (disch := omega) only [go_sem, ↓reduceIte]
    · simp (implicitDefEqProofs := false) (disch := omega) only [go_sem, ↓reduceIte]
    · simp (implicitDefEqProofs := false) (disch := omega) only [go_sem, ↓reduceIte]
    simp (implicitDefEqProofs := false) (disch := omega) only [go_sem, ↓reduceIte]
    refine callG false [(0, 0), (1, 1), (2, 2), (3, 3), (4, 4), (5, 5)] [(0, 0), (1, 1), (2, 2), (3, 3), (6, 6), (7, 7)] 8 k1 ?_ ?_
    · simp [keys]
    simp (implicitDefEqProofs := false) (disch := omega) only [go_sem, ↓reduceIte]
    refine callG false [(0, 0), (1, 1), (2, 2), (3, 3), (4, 6), (5, 7)] [(0, 0), (1, 1), (2, 2), (3, 3), (6, 8), (7, 9)] 10 k2 ?_ ?_
    · simp [keys]
    simp (implicitDefEqProofs := false) (disch := omega) only [go_sem, ↓reduceIte]
    refine ⟨(i + 1, ⟨D2, T + 1, tx x2, F2, x2⟩), [(0, 0), (1, 1), (2, 2), (3, 3), (4, 8), (5, 9)], [], [], ⟨by dsimp only; omega, ⟨i2, s2, by dsimp only; omega, f3⟩, fun h => absurd (show i + 1 = 0 from h) (by omega), fun _ => f4⟩, by dsimp only; omega, rfl, ?_, ?_, ?_⟩ <;> simp (implicitDefEqProofs := false) (disch := omega) only [go_sem, ↓reduceIte]
  obtain rfl : i = n - 1 := by omega
  have hmx := q8 (by omega)
  have ne9 : toU [9] ≠ x.msg := by rw [hmx]; intro e; exact absurd (congrArg List.length e) (by rw [toU_len, toU_len]; simp)
  have ne8 : toU [(k : Int), 8] ≠ x.msg := by rw [hmx]; intro e; exact absurd (congrArg List.length e) (by rw [toU_len, toU_len]; simp)
  have k1 := deal_spent D ⟨T, t, false⟩ F x n b ((n - 1 : Nat) : Int) [9] 1 rfl (by decide) ne9 (by omega) (by omega)
  obtain ⟨D2, k2, i2, s2⟩ := roll_calm q3 q4 (by omega) F x n b ((n - 1 : Nat) : Int) [(k : Int), 8] 2 rfl (by decide) ne8 (by omega) (by omega)
  have f3 : (rollY x ((n - 1 : Nat) : Int) (toU [(k : Int), 8])).key = (k : Int) + 1 := by show x.key + 1 = _; rw [q6]
  have f4 : (rollY x ((n - 1 : Nat) : Int) (toU [(k : Int), 8])).msg.length = 2 := by show (toU [(k : Int), 8]).length = 2; rw [toU_len]; rfl
  rw [q6] at k2
  generalize rollY x ((n - 1 : Nat) : Int) (toU [(k : Int), 8]) = x2 at *
  generalize lst3 F (x.gen, (k : Int) + 1, 0) = F2 at *
  have k3 := key_spec D2 ⟨T + 1, tx x2, false⟩ F2 x2 n b 0 false
  have k4 := next_spec D2 ⟨T + 1, tx x2, false⟩ F2 x2 n b 0 false
  rw [f3] at k3
  have en : ((n - 1 : Nat) : Int) = (n : Int) - 1 := by omega
  rw [en] at k1 k2 ⊢
  simp (implicitDefEqProofs := false) (disch := omega) only [go_sem, ↓reduceIte]
  refine callG false [(8, 6), (0, 0), (1, 1), (2, 2), (3, 3), (4, 4), (5, 5)] [(0, 0), (1, 1), (2, 2), (3, 3), (6, 7), (7, 8)] 9 (own_spec k1) ?_ ?_
  · simp [keys]
  simp (implicitDefEqProofs := false) (disch := omega) only [go_sem, ↓reduceIte]
  refine callG false [(8, 9), (0, 0), (1, 1), (2, 2), (3, 3), (4, 7), (5, 8)] [(0, 0), (1, 1), (2, 2), (3, 3), (6, 10), (7, 11)] 12 (own_spec k2) ?_ ?_
  · simp [keys]
  simp (implicitDefEqProofs := false) (disch := omega) only [go_sem, ↓reduceIte]
  refine callG false [(0, 0), (1, 1), (2, 2), (3, 3), (4, 10), (5, 11)] [(0, 0), (1, 1), (2, 2), (3, 3), (6, 12), (7, 13)] 14 k3 ?_ ?_
  · simp [keys]
  simp (implicitDefEqProofs := false) (disch := omega) only [go_sem, ↓reduceIte]
  refine callG false [(0, 0), (1, 1), (2, 2), (3, 3), (4, 12), (5, 13)] [(0, 0), (1, 1), (2, 2), (3, 3), (6, 14), (7, 15)] 16 k4 ?_ ?_
  · simp [keys]
  simp (implicitDefEqProofs := false) (disch := omega) only [go_sem, ↓reduceIte]
  refine ⟨(k + 1, ⟨D2, T + 1, tx x2, F2, x2⟩), [(0, 0), (1, 1), (2, 2), (3, 3), (4, 14), (5, 15)], [], [], ⟨by dsimp only; omega, ⟨i2, s2, by dsimp only; omega, by rw [f3]; simp⟩, by dsimp only; omega, by dsimp only; omega⟩, by dsimp only; omega, rfl, ?_, ?_, ?_⟩ <;> simp (implicitDefEqProofs := false) (disch := omega) only [go_sem, ↓reduceIte]
end Go.Proofs.Ythhlielliopegaa
