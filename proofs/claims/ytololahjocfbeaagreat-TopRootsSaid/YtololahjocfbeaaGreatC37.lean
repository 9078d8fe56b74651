/- Texts, joined. -/
import Derived.Test.YtololahjocfbeaaGreatC36
import Derived.Test.YtololahjocfbeaaGreatC33
namespace Go.Proofs.YtololahjocfbeaaGreat
open Go Go.Sy Go.Proofs.Tryz
set_option maxRecDepth 100000
set_option maxHeartbeats 8000000
set_option linter.unusedSimpArgs false
set_option linter.unusedVariables false
def areaF (D : DS) : List Int := (D.b.drop (4 * D.sz)).take (D.b.length - 4 * D.sz)
def allF (D : DS) (size : Nat) (t : List Int) : List Int := (areaF D).take size ++ (t ++ (areaF D).drop (size + t.length))
def pick4 {α : Type} (a b c d : α) : Nat → α
  | 0 => a
  | 1 => b
  | 2 => c
  | _ + 3 => d
theorem pick4_0 {α : Type} (a b c d : α) : pick4 a b c d 0 = a := rfl
theorem pick4_1 {α : Type} (a b c d : α) : pick4 a b c d 1 = b := rfl
theorem pick4_2 {α : Type} (a b c d : α) : pick4 a b c d 2 = c := rfl
theorem pick4_3 {α : Type} (a b c d : α) : pick4 a b c d 3 = d := rfl
def plWr : List (Nat × Plan) := (100006, []) :: [(9, [(0, [], none), (1, [], none), (2, [], none), (3, [], none), (4, [0, 1, 2, 3], none), (5, [0, 1, 2, 3], none), (6, [0, 1, 2, 3, 4, 5], none), (7, [0, 1, 2, 3, 4, 5, 6], none), (8, [0, 1, 2, 3, 4, 5, 6, 7], none), (9, [0, 1, 2, 3, 4, 5, 6], none), (10, [0, 1, 2, 3, 4, 5, 6, 7, 8, 9], none), (11, [0, 1, 2, 3, 4, 5, 6, 7, 8, 9], none), (12, [0, 1, 2, 3, 4, 5, 6, 7, 8, 9, 10, 11], none), (13, [0, 1, 2, 3, 4, 5, 6, 7, 8, 9], none), (14, [0, 1, 2, 3, 4, 5], none), (15, [], some [54, 56, 65]), (16, [], none)]), (15, [(0, [], none), (1, [], none), (2, [], none), (3, [], none), (4, [0, 1, 2, 3], none), (5, [0, 1, 2, 3], none), (6, [0, 1, 2, 3], none), (7, [0, 1, 2, 3], none), (8, [0, 1, 2, 3, 4, 5, 6, 7], none), (9, [0, 1, 2, 3, 4, 5, 6, 7], none), (10, [0, 1, 2, 3], none), (11, [0, 1, 2, 3], none), (12, [0, 1, 2, 3], none), (13, [], some [81, 90]), (14, [], none)])]
attribute [go_sem] plWr
section
variable (na ma : List Int) (a n b : Int) (y : Dy)
theorem write_one (t : List Int) (L : Nat) (hL : t.length = L) (hL1 : 1 ≤ L) (ho : okD y.D) (h4 : 4 * y.D.sz + y.size + L ≤ y.D.b.length) (c : Nat) (hc1 : y.size / y.D.sz = c) (hc2 : (y.size + L - 1) / y.D.sz = c) (hc3 : (4 + c + 1) * y.D.sz ≤ y.D.b.length)
    (hw0 : y.D.wait.length ≤ 1000) (D1 D2 D3 : DS) (S3 : SS) (hw : writeD y.D ((4 + c : Nat) : Int) (((allF y.D y.size t).drop (c * y.D.sz)).take y.D.sz) = (0, D1)) (ho1 : okD D1) (hs : syncD D1 = (0, D2)) (ho2 : okD D2) (hw2 : D2.wait.length ≤ 1000) (hz2 : D2.sz = y.D.sz) (hz : 26 ≤ y.D.sz)
    (hg : y.S2.gone = false) (hT : y.S2.turn ≤ 4611686018427387000) (hr : replDA 2 D2 y.S2 (be ((y.size + L : Nat) : Int) 8) = (0, D3, S3)) :
    FnC Tryz.prog 80 [.ref 5 [], .sl (.ints .u8 L t)] (dirOS na ma a n b y 6 7 8 9 10 11)
      (.int .i64 0) (dirOS na ma a n b { y with D := D3, S2 := S3 } 12 13 14 15 16 17) := by
  have k1 := dsize_pp y.D
  have k2 := area_pp na ma a n b (bookP na y) rfl [.pp (sgPP y (manyD a n) b) [], .pp (slPA 2 y.D y.S2) [], .int .i64 y.size, wtP y.ps, .bool y.gone] y.D ho (by omega)
  have k3 := dwrite_spec y.D ho (by omega) ((4 + c : Nat) : Int) (((allF y.D y.size t).drop (c * y.D.sz)).take y.D.sz)
  have k4 := sync_spec D1 ho1
  have k5 := number_spec ((y.size + L : Nat) : Int) 8 8 rfl
  have k6 := replace_ownA 2 D2 ho2 (by omega) y.S2 hg (by decide) hT (be ((y.size + L : Nat) : Int) 8) 8 (be_len _ _) (by omega)
  rw [hs] at k4
  rw [hr] at k6
  have hsz := ho.sz2
  have hsz1 := ho.sz1
  have hbl := ho.bl
  have hA : (areaF y.D).length = y.D.b.length - 4 * y.D.sz := by
    unfold areaF
    rw [List.length_take, List.length_drop]
    omega
  have hall : (allF y.D y.size t).length = y.D.b.length - 4 * y.D.sz := by
    unfold allF
    simp only [List.length_append, List.length_take, List.length_drop, hA]
    omega
  have hcs : (c + 1) * y.D.sz ≤ y.D.b.length - 4 * y.D.sz := by
    have : (4 + c + 1) * y.D.sz = 4 * y.D.sz + (c + 1) * y.D.sz := by rw [Nat.add_assoc, Nat.add_mul]
    omega
  have hX : (((allF y.D y.size t).drop (c * y.D.sz)).take y.D.sz).length = y.D.sz := by
    rw [List.length_take, List.length_drop, hall]
    rw [Nat.add_mul, Nat.one_mul] at hcs
    omega
  replace k3 := k3 y.D.sz hX (by omega)
  rw [hw] at k3
  dsimp only at k3 k4 k6
  have hcl : c + 1 ≤ (c + 1) * y.D.sz := Nat.le_mul_of_pos_right _ hsz1
  have hAll : allF y.D y.size t = (areaF y.D).take y.size ++ (t ++ (areaF y.D).drop (y.size + L)) := by unfold allF; rw [hL]
  have hsub : ∀ lo len κ, subC (.ints .u8 y.D.b.length y.D.b) lo len κ = (lo + len ≤ y.D.b.length ∧ κ (.ints .u8 len ((y.D.b.drop lo).take len))) := fun lo len κ => subC_len .u8 _ _ lo len κ rfl
  have hAe : (y.D.b.drop (4 * y.D.sz)).take (y.D.b.length - 4 * y.D.sz) = areaF y.D := rfl
  obtain ⟨q, hq⟩ : ∃ q, c * y.D.sz = q := ⟨_, rfl⟩
  rw [Nat.add_mul, Nat.one_mul, hq] at hcs hcl
  have hc9 : c ≤ 32768 := by omega
  rw [hq] at k3
  have p1 : (c : Int) * (y.D.sz : Int) = (q : Int) := by rw [← hq, Int.natCast_mul]
  have p2 : ((c : Int) + 1) * (y.D.sz : Int) = (q : Int) + (y.D.sz : Int) := by rw [Int.add_mul, p1, Int.one_mul]
  have hsubA : ∀ lo len κ, subC (.ints .u8 (y.D.b.length - 4 * y.D.sz) (allF y.D y.size t)) lo len κ = (lo + len ≤ y.D.b.length - 4 * y.D.sz ∧ κ (.ints .u8 len (((allF y.D y.size t).drop lo).take len))) := fun lo len κ => subC_len .u8 _ _ lo len κ hall
  rw [show ((4 + c : Nat) : Int) = 4 + (c : Int) by omega] at k3
  rw [Int.natCast_add] at k5 k6
  have q1 : ((y.size : Nat) : Int).tdiv (y.D.sz : Int) = (c : Int) := by rw [← Int.ofNat_tdiv, hc1]
  have q2 : ((y.size : Int) + (L : Int) - 1).tdiv (y.D.sz : Int) = (c : Int) := by
    rw [show (y.size : Int) + (L : Int) - 1 = ((y.size + L - 1 : Nat) : Int) by omega, ← Int.ofNat_tdiv, hc2]
  obtain ⟨D, F, S, x, nxt, sg, S2, es, l, size, pw, gone, la, va⟩ := y
  dsimp only at *
  generalize allF D size t = All at *
  generalize areaF D = Ar at *
  refine fnV mix plWr 6 12 2 [.tmp 4] Tryz.func80 rfl (by kernel_rfl) (by kernel_rfl) rfl (by kernel_rfl) (by kernel_rfl) (by simp) rfl rfl ?_
  simp -implicitDefEqProofs (disch := omega) only [go_sem, ↓reduceIte]
  refine callB k1 ?_ ?_
  · simp -implicitDefEqProofs (disch := omega) only [go_sem, ↓reduceIte]
  simp -implicitDefEqProofs (disch := omega) only [go_sem, ↓reduceIte, q1, q2]
  refine callBF 1 k2 ?_ ?_
  · simp -implicitDefEqProofs (disch := omega) only [go_sem, ↓reduceIte]
  simp -implicitDefEqProofs (disch := omega) only [go_sem, ↓reduceIte, ↓hsub, hAe, ← hAll]
  refine brd (fun h => by omega) (fun h => ?_)
  simp -implicitDefEqProofs (disch := omega) only [go_sem, ↓reduceIte, ← hAll]
  refine brd (fun h => ?_) (fun h => by omega)
  simp -implicitDefEqProofs (disch := omega) only [go_sem, ↓reduceIte, ← hAll]
  refine Sy.cut 12 [(0, .ref 5 []), (1, .sl (.ints .u8 L t)), (5, .int .i64 D.sz), (6, .int .i64 c), (7, .int .i64 c), (8, .sl (.ints .u8 (D.b.length - 4 * D.sz) All))] (dirOS na ma a n b ⟨D, F, S, x, nxt, sg, S2, es, l, size, pw, gone, la, va⟩ 6 7 8 9 10 11)
    [(0, 0), (1, 1), (2, 2), (3, 3), (4, 4), (5, 5), (6, 6), (7, 7), (8, 8), (9, 9), (10, 10), (11, 11)] [] [14] rfl ?_ ?_ ?_ ?_
  · simp -implicitDefEqProofs (disch := omega) only [go_sem, ↓reduceIte]
  · simp -implicitDefEqProofs (disch := omega) only [go_sem, ↓reduceIte]
  · simp -implicitDefEqProofs (disch := omega) only [go_sem, ↓reduceIte]
  dsimp only [dirOS]
  simp -implicitDefEqProofs (disch := omega) only [go_sem, ↓reduceIte]
  refine loop (ι := Nat) 12 (fun i => i ≤ 1) (fun i => [(0, .ref 5 []), (1, .sl (.ints .u8 L t)), (5, .int .i64 D.sz), (7, .int .i64 c), (8, .sl (.ints .u8 (D.b.length - 4 * D.sz) All)), (9, .int .i64 ((c : Int) + (i : Int)))])
    (fun i => dirOS na ma a n b ⟨pick4 D D1 D1 D1 i, F, S, x, nxt, sg, S2, es, l, size, pw, gone, la, va⟩ 6 7 8 9 10 11) (fun i => 1 - i) 0 [(0, 0), (1, 1), (2, 2), (3, 3), (4, 4), (5, 5), (6, 6), (7, 7), (8, 8), (9, 9), (10, 10), (11, 11)] [] (Nat.zero_le _) rfl ?_ ?_ ?_ (fun i hi => ?_)
  · simp -implicitDefEqProofs (disch := omega) only [go_sem, ↓reduceIte]
  · simp -implicitDefEqProofs (disch := omega) only [go_sem, ↓reduceIte, Int.natCast_zero, Int.add_zero]
  · simp -implicitDefEqProofs (disch := omega) only [go_sem, ↓reduceIte, pick4_0]
  rcases (show i = 0 ∨ i = 1 by omega) with rfl | rfl
  · simp only [Int.natCast_zero, Int.add_zero]
    dsimp only [dirOS, pick4_0]
    simp -implicitDefEqProofs (disch := omega) only [go_sem, ↓reduceIte]
    refine brd (fun h => ?_) (fun h => by omega)
    have f2 : ((q : Int) + (D.sz : Int)).toNat = q + D.sz := by omega
    have f3 : q + D.sz - q = D.sz := by omega
    simp -implicitDefEqProofs (disch := omega) only [go_sem, ↓reduceIte, p1, p2, f2, f3, ↓hsubA]
    refine callG false [(0, 0), (1, 6), (2, 7)] [(0, 0), (3, 12), (4, 13)] 14 k3 ?_ ?_
    · simp [keys]
    simp -implicitDefEqProofs (disch := omega) only [go_sem, ↓reduceIte]
    refine ⟨1, [(0, 0), (1, 1), (2, 2), (3, 3), (4, 4), (5, 5), (6, 12), (7, 13), (8, 8), (9, 9), (10, 10), (11, 11)], [], [], by dsimp only; omega, by dsimp only; omega, rfl, ?_, ?_, ?_⟩ <;> simp -implicitDefEqProofs (disch := omega) only [go_sem, ↓reduceIte, pick4_1]
  · dsimp only [dirOS, pick4_1]
    simp -implicitDefEqProofs (disch := omega) only [go_sem, ↓reduceIte]
    refine brd (fun h => by omega) (fun h => ?_)
    simp -implicitDefEqProofs (disch := omega) only [go_sem, ↓reduceIte]
    refine callG false [(0, 0), (1, 6), (2, 7)] [(0, 0), (3, 12), (4, 13)] 14 k4 ?_ ?_
    · simp [keys]
    simp -implicitDefEqProofs (disch := omega) only [go_sem, ↓reduceIte]
    refine callF 1 k5 ?_
    simp -implicitDefEqProofs (disch := omega) only [go_sem, ↓reduceIte]
    refine callG false [(6, 14), (0, 0), (1, 4), (2, 12), (3, 13)] [(0, 0), (1, 4), (4, 15), (5, 16)] 17 k6 ?_ ?_
    · simp [keys]
    simp -implicitDefEqProofs (disch := omega) only [go_sem, ↓reduceIte]
    refine ⟨[(0, 0), (1, 1), (2, 2), (3, 3), (4, 4), (5, 5), (12, 15), (13, 16), (14, 8), (15, 9), (16, 10), (17, 11)], [], [], rfl, ?_, ?_, ?_⟩ <;> simp -implicitDefEqProofs (disch := omega) only [go_sem, ↓reduceIte]
end
abbrev actC (N : AV) : AV := .agg [.int .i64 1, .int .i64 1, N, .nils, .nils]
attribute [go_sem] actC
section
variable (ns : Nat) (na ma : List Int) (a n : Int) (y0 y1 y2 y3 : Dy) (s : Sn) (c2 : Int)
theorem run_three (hnew : FnC Tryz.prog 16 [cfgV a n 1 ma na, .int .i64 ns, .int .i64 400] [] (.tup [.ref 6 [], .int .i64 0]) (wO na ma a n 1 y0 [] 7 8 9 10 11 12 13 14))
    (h0 : FnC Tryz.prog 17 [.ref 6 [], actC (.sl (.ints .u8 1 [97]))] (wO na ma a n 1 y0 [] 7 8 9 10 11 12 13 14) (.int .i64 0) (wO na ma a n 1 y1 [] 15 16 17 18 19 20 21 22))
    (h1 : FnC Tryz.prog 17 [.ref 6 [], actP] (wO na ma a n 1 y1 [] 7 8 9 10 11 12 13 14) (.int .i64 0) (wO na ma a n 1 y2 [s] 15 16 17 18 19 20 21 22))
    (h2 : FnC Tryz.prog 17 [.ref 6 [], actP] (wO na ma a n 1 y2 [s] 7 8 9 10 11 12 13 14) (.int .i64 c2) (wO na ma a n 1 y3 [s] 15 16 17 18 19 20 21 22)) :
    FnC Tryz.prog 12 [cfgV a n 1 ma na, .int .i64 ns, .int .i64 400, .sl (.lst 5 3 [actC (.sl (.ints .u8 1 [97])), actP, actP])] [] (.tup [.ref 6 [], .osl 15 [] 1 0 3, .int .i64 0]) (wO na ma a n 1 y3 [s] 7 8 9 10 11 12 13 14 ++ [(15, .row (.ints .i64 3 [0, 0, c2]))]) := by
  refine fnN mix [] 0 4 [.tmp 8, .tmp 9, .tmp 10] Tryz.func12 rfl (by kernel_rfl) (by kernel_rfl) rfl (by kernel_rfl) (by kernel_rfl) (by simp) ?_
  simp -implicitDefEqProofs (disch := omega) only [go_sem, ↓reduceIte]
  refine callF 15 hnew ?_
  simp -implicitDefEqProofs (disch := omega) only [go_sem, ↓reduceIte]
  refine loop (ι := Nat) 16 (fun i => i ≤ 3) (fun i => [(11, .ref 6 []), (13, .osl 15 [] 1 0 i), (29, .sl (.lst 5 3 [actC (.sl (.ints .u8 1 [97])), actP, actP])), (30, .int .i64 3), (31, .int .i64 i)])
    (fun i => wO na ma a n 1 (pick4 y0 y1 y2 y3 i) (pick4 [] [] [s] [s] i) 7 8 9 10 11 12 13 14 ++ [(15, .row (.ints .i64 i (pick4 [] [0] [0, 0] [0, 0, c2] i)))]) (fun i => 3 - i) 0 [(0, 1), (1, 2), (2, 3), (3, 4), (4, 5), (5, 6), (6, 7), (7, 8), (8, 9), (9, 10), (10, 11), (11, 12), (12, 13), (13, 14), (14, 15)] [15] (Nat.zero_le _) rfl ?_ ?_ ?_ (fun i hi => ?_)
  · simp -implicitDefEqProofs (disch := omega) only [go_sem, ↓reduceIte]
  · simp -implicitDefEqProofs (disch := omega) only [go_sem, ↓reduceIte]
  · simp -implicitDefEqProofs (disch := omega) only [go_sem, ↓reduceIte, pick4_0, List.cons_append, List.nil_append]
  rcases (show i = 0 ∨ i = 1 ∨ i = 2 ∨ i = 3 by omega) with rfl | rfl | rfl | rfl
  · dsimp only [pick4_0, List.cons_append, List.nil_append, wO]
    simp -implicitDefEqProofs (disch := omega) only [go_sem, ↓reduceIte]
    refine callG false [(0, 0), (1, 1), (2, 2), (3, 3), (4, 4), (5, 5), (6, 6), (7, 7), (8, 8), (9, 9), (10, 10), (11, 11), (12, 12), (13, 13), (14, 14)] [(0, 0), (1, 1), (2, 2), (3, 3), (4, 4), (5, 5), (6, 6), (15, 17), (16, 18), (17, 19), (18, 20), (19, 21), (20, 22), (21, 23), (22, 24)] 25 h0 ?_ ?_
    · simp [keys]
    simp -implicitDefEqProofs (disch := omega) only [go_sem, ↓reduceIte]
    refine ⟨1, [(0, 0), (1, 1), (2, 2), (3, 3), (4, 4), (5, 5), (6, 6), (7, 17), (8, 18), (9, 19), (10, 20), (11, 21), (12, 22), (13, 23), (14, 24), (15, 26)], [], [], by dsimp only; omega, by dsimp only; omega, rfl, ?_, ?_, ?_⟩ <;> simp -implicitDefEqProofs (disch := omega) only [go_sem, ↓reduceIte, pick4_1]
  · dsimp only [pick4_1, List.cons_append, List.nil_append, wO]
    simp -implicitDefEqProofs (disch := omega) only [go_sem, ↓reduceIte]
    refine callG false [(0, 0), (1, 1), (2, 2), (3, 3), (4, 4), (5, 5), (6, 6), (7, 7), (8, 8), (9, 9), (10, 10), (11, 11), (12, 12), (13, 13), (14, 14)] [(0, 0), (1, 1), (2, 2), (3, 3), (4, 4), (5, 5), (6, 6), (15, 17), (16, 18), (17, 19), (18, 20), (19, 21), (20, 22), (21, 23), (22, 24)] 25 h1 ?_ ?_
    · simp [keys]
    simp -implicitDefEqProofs (disch := omega) only [go_sem, ↓reduceIte]
    refine ⟨2, [(0, 0), (1, 1), (2, 2), (3, 3), (4, 4), (5, 5), (6, 6), (7, 17), (8, 18), (9, 19), (10, 20), (11, 21), (12, 22), (13, 23), (14, 24), (15, 26)], [], [], by dsimp only; omega, by dsimp only; omega, rfl, ?_, ?_, ?_⟩ <;> simp -implicitDefEqProofs (disch := omega) only [go_sem, ↓reduceIte, pick4_2]
  · dsimp only [pick4_2, List.cons_append, List.nil_append, wO]
    simp -implicitDefEqProofs (disch := omega) only [go_sem, ↓reduceIte]
    refine callG false [(0, 0), (1, 1), (2, 2), (3, 3), (4, 4), (5, 5), (6, 6), (7, 7), (8, 8), (9, 9), (10, 10), (11, 11), (12, 12), (13, 13), (14, 14)] [(0, 0), (1, 1), (2, 2), (3, 3), (4, 4), (5, 5), (6, 6), (15, 17), (16, 18), (17, 19), (18, 20), (19, 21), (20, 22), (21, 23), (22, 24)] 25 h2 ?_ ?_
    · simp [keys]
    simp -implicitDefEqProofs (disch := omega) only [go_sem, ↓reduceIte]
    refine ⟨3, [(0, 0), (1, 1), (2, 2), (3, 3), (4, 4), (5, 5), (6, 6), (7, 17), (8, 18), (9, 19), (10, 20), (11, 21), (12, 22), (13, 23), (14, 24), (15, 26)], [], [], by dsimp only; omega, by dsimp only; omega, rfl, ?_, ?_, ?_⟩ <;> simp -implicitDefEqProofs (disch := omega) only [go_sem, ↓reduceIte, pick4_3]
  · dsimp only [pick4_3, List.cons_append, List.nil_append, wO]
    simp -implicitDefEqProofs (disch := omega) only [go_sem, ↓reduceIte]
    refine ⟨[(0, 0), (1, 1), (2, 2), (3, 3), (4, 4), (5, 5), (6, 6), (7, 7), (8, 8), (9, 9), (10, 10), (11, 11), (12, 12), (13, 13), (14, 14), (15, 15)], [], [], rfl, ?_, ?_, ?_⟩ <;> simp -implicitDefEqProofs (disch := omega) only [go_sem, ↓reduceIte]
end
section
variable (na ma : List Int) (a n : Nat) (b : Int) (y : Dy) (hm : goodD ma) (ha : 1 ≤ a ∧ a ≤ 4) (hn : 1 ≤ n ∧ n ≤ 4)
include hm ha hn in
theorem sign_slW (k : Int) (idx : Nat) (hi : idx < manyD a n) (text : List Int) (tl : Nat) (htl : text.length = tl) (htx : ∀ x ∈ text, 0 ≤ x ∧ x < 256) (hc : tl ≤ 100000) :
    FnC Tryz.prog 82 [.ref 5 [], .int .i64 k, .int .i64 idx, .sl (.ints .u8 tl text)] (dirOW na ma a n b y 6 7 8 9 10 11 12)
      (.agg [.int .i64 idx, .ints .u8 32 (sgR ma k idx), .osl 21 [] 2 0 a]) (dirOW na ma a n b y 14 15 16 17 18 19 20 ++ [(21, .row (.lst 2 a ((sgP a n ma k idx text).map pt)))]) := by
  have hr : rightP a n := by unfold rightP; omega
  have k1 := public_pp na (bookP na y) rfl [.pp (dskP y.D) [], .pp (sgPP y (manyD a n) b) [], .pp (slPA 2 y.D y.S2) [], .int .i64 y.size, wtP y.ps, .bool y.gone] a n b ma hm hr k
  have k2 := secret_spec ma hm k
  have k3 := sign_own_spec (secK ma k 1) (secK ma k 2) (secK ma k 3) (keyR (secK ma k 1) (secK ma k 3) a n) (secK ma k 3) (secK_good _ _ _) (secK_good _ _ _) (secK_good _ _ _) (keyR_good _ _ _ _) a n idx text tl htl ha hn hi htx hc
  rw [show rD (secK ma k 2) idx = sgR ma k idx from rfl] at k3
  rw [show partsK (secK ma k 1) (secK ma k 3) (msgD (sgR ma k idx) (keyR (secK ma k 1) (secK ma k 3) a n) idx text) n idx a = sgP a n ma k idx text from rfl] at k3
  unfold secV at k2
  generalize sgP a n ma k idx text = Z at *
  generalize sgR ma k idx = R at *
  generalize keyR (secK ma k 1) (secK ma k 3) a n = X at *
  generalize secK ma k 1 = s1 at *
  generalize secK ma k 2 = s2 at *
  generalize secK ma k 3 = s3 at *
  refine fnV mix plSG 6 13 4 [.cell 8 41] Tryz.func82 rfl (by kernel_rfl) (by kernel_rfl) rfl (by kernel_rfl) (by kernel_rfl) (by simp) rfl rfl ?_
  simp -implicitDefEqProofs (disch := omega) only [go_sem, ↓reduceIte]
  refine callB k1 ?_ ?_
  · simp -implicitDefEqProofs (disch := omega) only [go_sem, ↓reduceIte]
  simp -implicitDefEqProofs (disch := omega) only [go_sem, ↓reduceIte]
  refine call0 k2 ?_
  simp -implicitDefEqProofs (disch := omega) only [go_sem, ↓reduceIte]
  refine callG false [(0, 14)] [(0, 15)] 16 k3 ?_ ?_
  · simp [keys]
  simp -implicitDefEqProofs (disch := omega) only [go_sem, ↓reduceIte]
  refine ⟨[(0, 0), (1, 1), (2, 2), (3, 3), (4, 4), (5, 5), (14, 6), (15, 7), (16, 8), (17, 9), (18, 10), (19, 11), (20, 12), (21, 15)], [], [], rfl, ?_, ?_, ?_⟩ <;> simp -implicitDefEqProofs (disch := omega) only [go_sem, ↓reduceIte]
include hm ha hn in
theorem sign_ownW (k : Int) (idx : Nat) (hi : idx < manyD a n) (text : List Int) (tl : Nat) (htl : text.length = tl) (htx : ∀ x ∈ text, 0 ≤ x ∧ x < 256) (hc : tl ≤ 100000) :
    FnC Tryz.prog 82 [.ref 5 [], .int .i64 k, .int .i64 idx, .osl 13 [] 1 0 tl] ((13, .row (.ints .u8 tl text)) :: dirOW na ma a n b y 6 7 8 9 10 11 12)
      (.agg [.int .i64 idx, .ints .u8 32 (sgR ma k idx), .osl 21 [] 2 0 a]) (dirOW na ma a n b y 14 15 16 17 18 19 20 ++ [(21, .row (.lst 2 a ((sgP a n ma k idx text).map pt)))]) := by
  refine (sign_slW na ma a n b y hm ha hn k idx hi text tl htl htx hc).sub [(0, 0), (1, 1), (2, 2), (3, 3), (4, 4), (5, 5), (6, 6), (7, 7), (8, 8), (9, 9), (10, 10), (11, 11), (12, 12)] [] [13] rfl ?_ ?_
  · simp -implicitDefEqProofs (disch := omega) only [go_sem, ↓reduceIte]
  · simp -implicitDefEqProofs (disch := omega) only [go_sem, ↓reduceIte]
abbrev dirON (na ma : List Int) (a n b : Int) (y : Dy) (i j e t p q : Nat) : OO :=
  [(0, .var (dskV i j y.D)), (1, .var (fcV y.F)), (2, .var (slV y.S)), (3, .var (sgV 2 1 y.x (manyD a n) b y.next y.sg)), (4, .var (slVA 2 y.S2)), (5, .var (dirV na ma a n b y e t p q .nils)),
    (i, .row (.ints .u8 y.D.b.length y.D.b)), (j, .row (.lst 2 y.D.wait.length (y.D.wait.map wtV))), (e, .row (.lst 35 y.es.length (y.es.map epV))), (t, .row (.lst 64 y.l.length (y.l.map enV))), (p, lastO y.la), (q, valsO y.va)]
attribute [go_sem] dirON
attribute [simp] dirON
include hm ha hn in
theorem sign_nil (hps : y.ps = []) (k : Int) (idx : Nat) (hi : idx < manyD a n) (text : List Int) (tl : Nat) (htl : text.length = tl) (htx : ∀ x ∈ text, 0 ≤ x ∧ x < 256) (hc : tl ≤ 100000) :
    FnC Tryz.prog 82 [.ref 5 [], .int .i64 k, .int .i64 idx, .osl 12 [] 1 0 tl] ((12, .row (.ints .u8 tl text)) :: dirON na ma a n b y 6 7 8 9 10 11)
      (.agg [.int .i64 idx, .ints .u8 32 (sgR ma k idx), .osl 21 [] 2 0 a]) (dirOW na ma a n b y 14 15 16 17 18 19 20 ++ [(21, .row (.lst 2 a ((sgP a n ma k idx text).map pt)))]) := by
  refine (sign_ownW na ma a n b y hm ha hn k idx hi text tl htl htx hc).sub [(13, 12), (0, 0), (1, 1), (2, 2), (3, 3), (4, 4), (5, 5), (6, 6), (7, 7), (8, 8), (9, 9), (10, 10), (11, 11)] [12] [] rfl ?_ ?_
  · simp -implicitDefEqProofs (disch := omega) only [go_sem, ↓reduceIte]
  · simp -implicitDefEqProofs (disch := omega) only [go_sem, ↓reduceIte, hps, List.map_nil, List.length_nil]
end
end Go.Proofs.YtololahjocfbeaaGreat
