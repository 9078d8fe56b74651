/- The contracts of planchetref10's Rows, Way and Build. -/
import Derived.Test.YtjaailbgeadnnaaGreatTree3
namespace Go.Proofs.YtjaailbgeadnnaaGreat
open Go Go.Sy Go.Proofs.Tryz
set_option maxRecDepth 100000
set_option maxHeartbeats 8000000
set_option linter.unusedSimpArgs false
set_option linter.unusedVariables false
attribute [go_sem] pl33 pl68
theorem pf_dg : ∀ ds : List (List Int), AV.pf.pfs (ds.map dg) = true
  | [] => rfl
  | d :: ds => by rw [List.map_cons, AV.pf.pfs, pf_dg ds]; rfl
/-- A row of a tree, as an element of a list of rows. -/
def rsl (r : List (List Int)) : AV := .sl (.lst 32 r.length (r.map dg))
def rowD (f : Nat → List Int) (pub : List Int) (l t : Int) (n k : Nat) : List (List Int) := rowN (fun i => treeD f pub l t k i) (pw (n - k))
def rowsD (f : Nat → List Int) (pub : List Int) (l t : Int) (n : Nat) : Nat → List (List (List Int))
  | 0 => []
  | k + 1 => rowsD f pub l t n k ++ [rowD f pub l t n k]
theorem rowD_len (f : Nat → List Int) (pub : List Int) (l t : Int) (n k : Nat) : (rowD f pub l t n k).length = pw (n - k) := rowN_len _ _
theorem rowsD_len (f : Nat → List Int) (pub : List Int) (l t : Int) (n : Nat) : ∀ k, (rowsD f pub l t n k).length = k
  | 0 => rfl
  | k + 1 => by simp [rowsD, rowsD_len f pub l t n k]
theorem rowsD_at (f : Nat → List Int) (pub : List Int) (l t : Int) (n : Nat) : ∀ (m k : Nat), k < m → (rowsD f pub l t n m)[k]? = some (rowD f pub l t n k)
  | m + 1, k, h => by
    rw [rowsD]
    by_cases e : k = m
    · subst e; rw [List.getElem?_append_right (by rw [rowsD_len]; omega), rowsD_len, Nat.sub_self]; rfl
    · rw [List.getElem?_append_left (by rw [rowsD_len]; omega)]; exact rowsD_at f pub l t n m k (by omega)
theorem pw_half {m : Nat} (h : 1 ≤ m) : pw m = 2 * pw (m - 1) := by
  obtain ⟨k, rfl⟩ : ∃ k, m = k + 1 := ⟨m - 1, by omega⟩
  have := pw_succ k
  rw [Nat.add_sub_cancel]
  omega
section
variable (pub seed key : List Int) (l t : Int) (hp : goodD pub) (hs : goodD seed) (hl : 0 ≤ l ∧ l < 4294967296) (ht : 0 ≤ t ∧ t < 18446744073709551616)
include hp hl hs ht in
theorem rows_spec (n : Nat) (h4 : n ≤ 4) : FnC Tryz.prog 68 [.agg [.ints .u8 32 seed, .ints .u8 32 key, .ints .u8 32 pub], .int .u32 l, .int .u64 t, .int .i64 n] []
    (.osl 0 [] 1 0 (n + 1)) [(0, .row (.lst 1 (n + 1) ((rowsD (leafD pub seed l t) pub l t n (n + 1)).map rsl)))] := by
  have hfg := leafD_good pub l t seed
  have hpw : pw n ≤ 16 := pw_le h4
  have hlf := fun i (hi : i < 1000) => refleaf_spec pub l t hp hl ht seed key i hs hi
  generalize hf : leafD pub seed l t = f at *
  refine fnN mix ((100012, []) :: (100021, []) :: pl68) 0 4 [.tmp 8] Tryz.func68 rfl (by kernel_rfl) (by kernel_rfl) rfl (by kernel_rfl) (by kernel_rfl) (by simp) ?_
  simp (implicitDefEqProofs := false) (disch := omega) only [go_sem, ↓reduceIte]
  refine loop (ι := Nat) 1 (fun k => k ≤ n) (fun k => [(1, .int .u32 l), (2, .int .u64 t), (3, .int .i64 n), (4, .ref 0 []), (9, .nils), (10, .int .i64 (pw k)), (11, .int .i64 k)])
    (fun k => [(0, .var (.agg [.ints .u8 32 seed, .ints .u8 32 key, .ints .u8 32 pub]))]) (fun k => n - k) 0 [(0, 0)] [] (Nat.zero_le _) rfl ?_ ?_ ?_ (fun k hk => ?_)
  · simp (implicitDefEqProofs := false) (disch := omega) only [go_sem, ↓reduceIte]
  · simp (implicitDefEqProofs := false) (disch := omega) only [go_sem, ↓reduceIte, show pw 0 = 1 by rfl]
  · simp (implicitDefEqProofs := false) (disch := omega) only [go_sem, ↓reduceIte]
  simp (implicitDefEqProofs := false) (disch := omega) only [go_sem, ↓reduceIte]
  refine brd (fun h => ?_) (fun h => ?_)
  · have e := pw_succ k
    have e3 : pw k ≤ pw 4 := pw_le (by omega)
    have e4 : pw 4 = 16 := rfl
    simp (implicitDefEqProofs := false) (disch := omega) only [go_sem, ↓reduceIte, ← e]
    have e2 : (pw k : Int) * 2 ≤ 64 := by omega
    refine ⟨k + 1, [(0, 0)], [], [], by dsimp only; omega, by dsimp only; omega, rfl, ?_, ?_, ?_⟩ <;> simp (implicitDefEqProofs := false) (disch := omega) only [go_sem, ↓reduceIte, e]
  obtain rfl : n = k := by omega
  simp (implicitDefEqProofs := false) (disch := omega) only [go_sem, ↓reduceIte]
  refine loop (ι := Nat) 2 (fun i => i ≤ pw n) (fun i => [(1, .int .u32 l), (2, .int .u64 t), (3, .int .i64 n), (4, .ref 0 []), (9, .osl 1 [] 32 0 i), (10, .int .i64 (pw n)), (12, .int .i64 i)])
    (fun i => [(0, .var (.agg [.ints .u8 32 seed, .ints .u8 32 key, .ints .u8 32 pub])), (1, .row (.lst 32 i ((rowN f i).map dg)))]) (fun i => pw n - i) 0 [(0, 0)] [1] (Nat.zero_le _) rfl ?_ ?_ ?_ (fun i hi => ?_)
  · simp (implicitDefEqProofs := false) (disch := omega) only [go_sem, ↓reduceIte]
  · simp (implicitDefEqProofs := false) (disch := omega) only [go_sem, ↓reduceIte]
  · simp (implicitDefEqProofs := false) (disch := omega) only [go_sem, ↓reduceIte, rowN, List.range_zero]
  simp (implicitDefEqProofs := false) (disch := omega) only [go_sem, ↓reduceIte]
  refine brd (fun h => ?_) (fun h => ?_)
  · simp (implicitDefEqProofs := false) (disch := omega) only [go_sem, ↓reduceIte]
    refine call0 (hlf i (by omega)) ?_
    simp (implicitDefEqProofs := false) (disch := omega) only [go_sem, ↓reduceIte]
    refine ⟨i + 1, [(0, 0), (1, 3)], [], [], by dsimp only; omega, by dsimp only; omega, rfl, ?_, ?_, ?_⟩ <;> simp (implicitDefEqProofs := false) (disch := omega) only [go_sem, ↓reduceIte, rowN_succ, List.map_append, dg]
  obtain rfl : i = pw n := by omega
  simp (implicitDefEqProofs := false) (disch := omega) only [go_sem, ↓reduceIte]
  have hr0 : rowD f pub l t n 0 = rowN f (pw n) := rfl
  refine cut 1 [(1, .int .u32 l), (2, .int .u64 t), (3, .int .i64 n), (4, .ref 0 []), (9, .sl (.lst 32 (pw n) ((rowN f (pw n)).map dg))), (13, .nils)] [(0, .var (.agg [.ints .u8 32 seed, .ints .u8 32 key, .ints .u8 32 pub]))] [(0, 0)] [] [1] rfl ?_ ?_ ?_ ?_
  · simp (implicitDefEqProofs := false) (disch := omega) only [go_sem, ↓reduceIte]
  · simp (implicitDefEqProofs := false) (disch := omega) only [go_sem, ↓reduceIte]
  · simp (implicitDefEqProofs := false) (disch := omega) only [go_sem, ↓reduceIte]
  simp (implicitDefEqProofs := false) (disch := omega) only [go_sem, ↓reduceIte]
  have hq1 : rowsD f pub l t n 1 = [rowD f pub l t n 0] := rfl
  have hq2 : (rowN f (pw n)).length = pw n := rowN_len _ _
  refine loop (ι := Nat) 2 (fun k => k ≤ n) (fun k => [(1, .int .u32 l), (2, .int .u64 t), (3, .int .i64 n), (4, .ref 0 []), (9, .sl (.lst 32 (pw (n - k)) ((rowD f pub l t n k).map dg))), (13, .osl 1 [] 1 0 (k + 1)), (14, .int .i64 k)])
    (fun k => [(0, .var (.agg [.ints .u8 32 seed, .ints .u8 32 key, .ints .u8 32 pub])), (1, .row (.lst 1 (k + 1) ((rowsD f pub l t n (k + 1)).map rsl)))]) (fun k => n - k) 0 [(0, 0), (1, 2)] [] (Nat.zero_le _) rfl ?_ ?_ ?_ (fun k hk => ?_)
  · simp (implicitDefEqProofs := false) (disch := omega) only [go_sem, ↓reduceIte]
  · simp (implicitDefEqProofs := false) (disch := omega) only [go_sem, ↓reduceIte, hr0]
  · simp (implicitDefEqProofs := false) (disch := omega) only [go_sem, ↓reduceIte, hq1, hr0, rsl, hq2]
  simp (implicitDefEqProofs := false) (disch := omega) only [go_sem, ↓reduceIte]
  refine brd (fun h => ?_) (fun h => ?_)
  · have hle := rowD_len f pub l t n k
    have hle2 := rowD_len f pub l t n (k + 1)
    have hh := pw_half (show 1 ≤ n - k by omega)
    have hm1 : n - k - 1 = n - (k + 1) := by omega
    have hpk : pw (n - k) ≤ pw 4 := pw_le (by omega)
    have hp4 : pw 4 = 16 := rfl
    rw [hm1] at hh
    simp (implicitDefEqProofs := false) (disch := omega) only [go_sem, ↓reduceIte]
    refine loop (ι := Nat) 3 (fun j => j ≤ pw (n - (k + 1))) (fun j => [(1, .int .u32 l), (2, .int .u64 t), (3, .int .i64 n), (4, .ref 0 []), (9, .sl (.lst 32 (pw (n - k)) ((rowD f pub l t n k).map dg))), (13, .osl 1 [] 1 0 (k + 1)), (14, .int .i64 k), (15, .osl 2 [] 32 0 j), (16, .int .i64 j)])
      (fun j => [(0, .var (.agg [.ints .u8 32 seed, .ints .u8 32 key, .ints .u8 32 pub])), (1, .row (.lst 1 (k + 1) ((rowsD f pub l t n (k + 1)).map rsl))), (2, .row (.lst 32 j ((rowN (fun i => treeD f pub l t (k + 1) i) j).map dg)))]) (fun j => pw (n - (k + 1)) - j) 0 [(0, 0), (1, 1)] [2] (Nat.zero_le _) rfl ?_ ?_ ?_ (fun j hj => ?_)
    · simp (implicitDefEqProofs := false) (disch := omega) only [go_sem, ↓reduceIte]
    · simp (implicitDefEqProofs := false) (disch := omega) only [go_sem, ↓reduceIte]
    · simp (implicitDefEqProofs := false) (disch := omega) only [go_sem, ↓reduceIte, rowN, List.range_zero]
    simp (implicitDefEqProofs := false) (disch := omega) only [go_sem, ↓reduceIte]
    refine brd (fun h2 => ?_) (fun h2 => ?_)
    · have g1 : ∀ K : AV → Prop, getP ((rowD f pub l t n k).map dg) (2 * j) K = K (dg (treeD f pub l t k (2 * j))) := fun K => getP_map (f := dg) (rowN_at _ (by omega)) K
      have g2 : ∀ K : AV → Prop, getP ((rowD f pub l t n k).map dg) (2 * j + 1) K = K (dg (treeD f pub l t k (2 * j + 1))) := fun K => getP_map (f := dg) (rowN_at _ (by omega)) K
      have i1 : (2 * (j : Int)).toNat = 2 * j := by omega
      have i2 : (2 * (j : Int) + 1).toNat = 2 * j + 1 := by omega
      have hlm : ((rowD f pub l t n k).map dg).length = pw (n - k) := by rw [List.length_map, hle]
      have ej : nodeD (treeD f pub l t k (2 * j)) (treeD f pub l t k (2 * j + 1)) pub l t k j = treeD f pub l t (k + 1) j := rfl
      have hj2 := two_spec pub l t hp hl ht _ _ k j (treeD_good hfg pub l t k (2 * j)) (treeD_good hfg pub l t k (2 * j + 1)) (by omega) (by omega)
      rw [ej] at hj2
      simp (implicitDefEqProofs := false) (disch := omega) only [go_sem, ↓reduceIte, i1, i2, g1, g2, dg, hlm]
      refine call0 hj2 ?_
      simp (implicitDefEqProofs := false) (disch := omega) only [go_sem, ↓reduceIte]
      refine ⟨j + 1, [(0, 0), (1, 1), (2, 4)], [], [], by dsimp only; omega, by dsimp only; omega, rfl, ?_, ?_, ?_⟩ <;> simp (implicitDefEqProofs := false) (disch := omega) only [go_sem, ↓reduceIte, rowN_succ, List.map_append, dg]
    obtain rfl : j = pw (n - (k + 1)) := by omega
    simp (implicitDefEqProofs := false) (disch := omega) only [go_sem, ↓reduceIte]
    refine cut 2 [(1, .int .u32 l), (2, .int .u64 t), (3, .int .i64 n), (4, .ref 0 []), (13, .osl 1 [] 1 0 (k + 1)), (14, .int .i64 k), (15, .sl (.lst 32 (pw (n - (k + 1))) ((rowD f pub l t n (k + 1)).map dg)))]
      [(0, .var (.agg [.ints .u8 32 seed, .ints .u8 32 key, .ints .u8 32 pub])), (1, .row (.lst 1 (k + 1) ((rowsD f pub l t n (k + 1)).map rsl)))] [(0, 0), (1, 1)] [] [2] rfl ?_ ?_ ?_ ?_
    · simp (implicitDefEqProofs := false) (disch := omega) only [go_sem, ↓reduceIte, rowD]
    · simp (implicitDefEqProofs := false) (disch := omega) only [go_sem, ↓reduceIte, rowD]
    · simp (implicitDefEqProofs := false) (disch := omega) only [go_sem, ↓reduceIte, rowD]
    simp (implicitDefEqProofs := false) (disch := omega) only [go_sem, ↓reduceIte]
    have eq : (rowsD f pub l t n (k + 1 + 1)).map rsl = (rowsD f pub l t n (k + 1)).map rsl ++ [.sl (.lst 32 (pw (n - (k + 1))) ((rowD f pub l t n (k + 1)).map dg))] := by
      rw [rowsD, List.map_append, List.map_cons, List.map_nil, rsl, hle2]
    refine ⟨k + 1, [(0, 0), (1, 3)], [], [], by dsimp only; omega, by dsimp only; omega, rfl, ?_, ?_, ?_⟩ <;> simp (implicitDefEqProofs := false) (disch := omega) only [go_sem, ↓reduceIte, eq]
  obtain rfl : n = k := by omega
  simp (implicitDefEqProofs := false) (disch := omega) only [go_sem, ↓reduceIte]
  refine ⟨[(0, 1)], [], [], rfl, ?_, ?_, ?_⟩ <;> simp (implicitDefEqProofs := false) (disch := omega) only [go_sem, ↓reduceIte, hf]
end
theorem refway_spec (f : Nat → List Int) (pub : List Int) (l t : Int) (n i : Nat) (h4 : n ≤ 4) (hi : i < pw n) : FnC Tryz.prog 69 [.sl (.lst 1 (n + 1) ((rowsD f pub l t n (n + 1)).map rsl)), .int .i64 i] []
    (.osl 0 [] 32 0 n) [(0, .row (.lst 32 n ((wayD f pub l t i n).map dg)))] := by
  have hpw : pw n ≤ pw 4 := pw_le h4
  have hp4 : pw 4 = 16 := rfl
  have hwd : wayD f pub l t i n = rowN (fun k => treeD f pub l t k (sib (i / 2 ^ k))) n := rfl
  have hle : ((rowsD f pub l t n (n + 1)).map rsl).length = n + 1 := by rw [List.length_map, rowsD_len]
  rw [hwd]
  refine fnN mix [] 0 2 [.tmp 4] Tryz.func69 rfl (by kernel_rfl) (by kernel_rfl) rfl (by kernel_rfl) (by kernel_rfl) (by simp) ?_
  simp (implicitDefEqProofs := false) (disch := omega) only [go_sem, ↓reduceIte]
  refine loop (ι := Nat) 1 (fun k => k ≤ n) (fun k => [(0, .sl (.lst 1 (n + 1) ((rowsD f pub l t n (n + 1)).map rsl))), (1, .int .i64 ((i / 2 ^ k : Nat) : Int)), (5, .osl 0 [] 32 0 k), (6, .int .i64 k)])
    (fun k => [(0, .row (.lst 32 k ((rowN (fun k => treeD f pub l t k (sib (i / 2 ^ k))) k).map dg)))]) (fun k => n - k) 0 [] [0] (Nat.zero_le _) rfl ?_ ?_ ?_ (fun k hk => ?_)
  · simp (implicitDefEqProofs := false) (disch := omega) only [go_sem, ↓reduceIte, Nat.pow_zero, Nat.div_one]
  · simp (implicitDefEqProofs := false) (disch := omega) only [go_sem, ↓reduceIte, Nat.pow_zero, Nat.div_one, rowN, List.range_zero]
  · simp (implicitDefEqProofs := false) (disch := omega) only [go_sem, ↓reduceIte, rowN, List.range_zero]
  simp (implicitDefEqProofs := false) (disch := omega) only [go_sem, ↓reduceIte]
  refine brd (fun h => ?_) (fun h => ?_)
  · have e0 : i / 2 ^ (k + 1) = i / 2 ^ k / 2 := by rw [Nat.pow_succ, Nat.div_div_eq_div_mul]
    have hd : i / 2 ^ k ≤ i := Nat.div_le_self _ _
    have hq' : i / 2 ^ k < pw (n - k) := by
      unfold pw at hi ⊢
      rw [Nat.div_lt_iff_lt_mul (Nat.two_pow_pos k), ← Nat.pow_add, show n - k + k = n by omega]
      exact hi
    have hh := pw_half (show 1 ≤ n - k by omega)
    have hsk := fun w : List (List Int) => rowN_succ (fun k => treeD f pub l t k (sib (i / 2 ^ k))) k
    generalize hq : i / 2 ^ k = q at hd hq' e0
    have hsl : sib q < pw (n - k) := by unfold sib; split <;> omega
    have t2 : (q : Int).tmod 2 = (q % 2 : Nat) := by rw [Int.tmod_eq_emod_of_nonneg (by omega)]; omega
    have t3 : (q : Int).tdiv 2 = (q / 2 : Nat) := by rw [Int.tdiv_eq_ediv_of_nonneg (by omega)]; omega
    have hlr := rowD_len f pub l t n k
    have g1 : ∀ K : AV → Prop, getP ((rowsD f pub l t n (n + 1)).map rsl) k K = K (.sl (.lst 32 (pw (n - k)) ((rowD f pub l t n k).map dg))) := fun K => by
      rw [getP_map (f := rsl) (rowsD_at f pub l t n (n + 1) k (by omega)) K, rsl, hlr]
    have g2 : ∀ K : AV → Prop, getP ((rowD f pub l t n k).map dg) (sib q) K = K (.ints .u8 32 (treeD f pub l t k (sib q))) := fun K => getP_map (f := dg) (rowN_at _ hsl) K
    have hlm : ((rowD f pub l t n k).map dg).length = pw (n - k) := by rw [List.length_map, hlr]
    have er : rowN (fun k => treeD f pub l t k (sib (i / 2 ^ k))) (k + 1) = rowN (fun k => treeD f pub l t k (sib (i / 2 ^ k))) k ++ [treeD f pub l t k (sib q)] := by rw [rowN_succ, hq]
    simp (implicitDefEqProofs := false) (disch := omega) only [go_sem, ↓reduceIte, hq, t2]
    refine brd (fun h2 => ?_) (fun h2 => ?_)
    · have i1 : (q : Int) - 1 = (sib q : Int) := by unfold sib; rw [if_neg (by omega)]; omega
      simp (implicitDefEqProofs := false) (disch := omega) only [go_sem, ↓reduceIte, hq, t2, t3, i1, g1, g2, hle, hlm]
      refine ⟨k + 1, [(0, 2)], [], [], by dsimp only; omega, by dsimp only; omega, rfl, ?_, ?_, ?_⟩ <;> simp (implicitDefEqProofs := false) (disch := omega) only [go_sem, ↓reduceIte, er, e0, hq, List.map_append, dg]
    · have i1 : (q : Int) + 1 = (sib q : Int) := by unfold sib; rw [if_pos (by omega)]; omega
      simp (implicitDefEqProofs := false) (disch := omega) only [go_sem, ↓reduceIte, hq, t2, t3, i1, g1, g2, hle, hlm]
      refine ⟨k + 1, [(0, 2)], [], [], by dsimp only; omega, by dsimp only; omega, rfl, ?_, ?_, ?_⟩ <;> simp (implicitDefEqProofs := false) (disch := omega) only [go_sem, ↓reduceIte, er, e0, hq, List.map_append, dg]
  obtain rfl : n = k := by omega
  simp (implicitDefEqProofs := false) (disch := omega) only [go_sem, ↓reduceIte]
  refine ⟨[(0, 0)], [], [], rfl, ?_, ?_, ?_⟩ <;> simp (implicitDefEqProofs := false) (disch := omega) only [go_sem, ↓reduceIte]
section
variable (pub seed key : List Int) (l t : Int) (hp : goodD pub) (hs : goodD seed) (hl : 0 ≤ l ∧ l < 4294967296) (ht : 0 ≤ t ∧ t < 18446744073709551616)
include hp hl hs ht in
theorem refbuild_spec (n i : Nat) (h4 : n ≤ 4) (hi : i < pw n) : FnC Tryz.prog 33 [.agg [.ints .u8 32 seed, .ints .u8 32 key, .ints .u8 32 pub], .int .u32 l, .int .u64 t, .int .i64 n, .int .i64 i] []
    (.tup [.ints .u8 32 (treeD (leafD pub seed l t) pub l t n 0), .osl 0 [] 32 0 n]) [(0, .row (.lst 32 n ((wayD (leafD pub seed l t) pub l t i n).map dg)))] := by
  have h1 := rows_spec pub seed key l t hp hs hl ht n h4
  have h2 := refway_spec (leafD pub seed l t) pub l t n i h4 hi
  have hlr := rowD_len (leafD pub seed l t) pub l t n n
  have hle : ((rowsD (leafD pub seed l t) pub l t n (n + 1)).map rsl).length = n + 1 := by rw [List.length_map, rowsD_len]
  generalize leafD pub seed l t = f at *
  have p1 : pw (n - n) = 1 := by rw [Nat.sub_self]; rfl
  have g1 : ∀ K : AV → Prop, getP ((rowsD f pub l t n (n + 1)).map rsl) n K = K (.sl (.lst 32 1 ((rowD f pub l t n n).map dg))) := fun K => by
    rw [getP_map (f := rsl) (rowsD_at f pub l t n (n + 1) n (by omega)) K, rsl, hlr, p1]
  have g2 : ∀ K : AV → Prop, getP ((rowD f pub l t n n).map dg) 0 K = K (.ints .u8 32 (treeD f pub l t n 0)) := fun K => getP_map (f := dg) (rowN_at _ (by rw [p1]; decide)) K
  have hlm : ((rowD f pub l t n n).map dg).length = 1 := by rw [List.length_map, hlr, p1]
  refine fnN mix pl33 0 5 [.cell 10 25, .tmp 11] Tryz.func33 rfl (by kernel_rfl) (by kernel_rfl) rfl (by kernel_rfl) (by kernel_rfl) (by simp) ?_
  simp (implicitDefEqProofs := false) (disch := omega) only [go_sem, ↓reduceIte]
  refine callF 1 h1 ?_
  simp (implicitDefEqProofs := false) (disch := omega) only [go_sem, ↓reduceIte, g1, g2, hle, hlm]
  refine callBF 1 h2 (hq := by simp [OB.pf, AV.pf, pf_dg]) ?_ ?_
  · simp (implicitDefEqProofs := false) (disch := omega) only [go_sem, ↓reduceIte]
  simp (implicitDefEqProofs := false) (disch := omega) only [go_sem, ↓reduceIte, g1, g2, hle, hlm]
  refine ⟨[(0, 3)], [], [], rfl, ?_, ?_, ?_⟩ <;> simp (implicitDefEqProofs := false) (disch := omega) only [go_sem, ↓reduceIte]
end
end Go.Proofs.YtjaailbgeadnnaaGreat
