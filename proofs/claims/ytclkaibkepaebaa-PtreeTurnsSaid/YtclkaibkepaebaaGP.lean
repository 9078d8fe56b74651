/- A tree of entries: the empty nodes, the sides, how many nodes a proof has. -/
import Derived.Test.YtclkaibkepaebaaLog
import Derived.Test.YtclkaibkepaebaaSig
import Derived.Test.YtclkaibkepaebaaGK
namespace Go.Proofs.Ytclkaibkepaebaa
open Go Go.Sy Go.Proofs.Try
set_option maxRecDepth 100000
set_option maxHeartbeats 8000000
set_option linter.unusedSimpArgs false
set_option linter.unusedVariables false
attribute [go_sem] pl40
def emptyD : Nat → List Int
  | 0 => sumD [2]
  | k + 1 => nodeL (emptyD k) (emptyD k)
theorem emptyD_good : ∀ k, goodD (emptyD k)
  | 0 => ⟨sumD_len _, sumD_mem _⟩
  | k + 1 => nodeL_good _ _
def empties (n : Nat) : List (List Int) := (List.range n).map emptyD
theorem empties_len (n : Nat) : (empties n).length = n := by simp [empties]
theorem empties_succ (n : Nat) : empties (n + 1) = empties n ++ [emptyD n] := by simp [empties, List.range_succ]
theorem empties_get {n i : Nat} (h : i < n) : (empties n)[i]? = some (emptyD i) := by simp [empties, h]

theorem sums117 {a : List Int} (ha : ∀ x ∈ a, 0 ≤ x ∧ x < 256) (hn : a.length ≤ 1000000) : FnC Try.prog 94 [.sl (.lst 1 1 [bsl a])] [] (.ints .u8 32 (sumD a)) [] := by
  have h := sums_spec [a] (fun p hp => by rw [List.mem_singleton] at hp; subst hp; exact ha) (by simpa [cat] using hn) (by simp)
  simpa [cat] using h
/-- The row of empty nodes, when so many are told. -/
def emT (i : Nat) : List (List Int) := empties i ++ List.replicate (257 - i) zs
theorem emT_len {i : Nat} (h : i ≤ 257) : (emT i).length = 257 := by unfold emT; rw [List.length_append, empties_len, List.length_replicate]; omega
theorem emT_0 : List.replicate 257 (AV.ints .u8 32 (List.replicate 32 0)) = (emT 0).map dg := by
  unfold emT
  rw [show empties 0 = [] from rfl, List.nil_append, List.map_replicate]
  rfl
theorem emT_set {i : Nat} (h : i < 257) : ((emT i).map dg).set i (.ints .u8 32 (emptyD i)) = (emT (i + 1)).map dg := by
  unfold emT
  rw [empties_succ, show 257 - i = (257 - (i + 1)) + 1 by omega, List.replicate_succ, List.map_append, List.map_cons, List.map_append, List.map_append, List.map_cons, List.map_nil, List.set_append_right _ _ (by rw [List.length_map, empties_len]; exact Nat.le_refl _), List.length_map, empties_len, Nat.sub_self, List.set_cons_zero, List.append_assoc]
  rfl
theorem emT_old {i j : Nat} (h : j < i) (K : AV → Prop) : getP ((emT i).map dg) j K = K (.ints .u8 32 (emptyD j)) := by
  refine getP_map (f := dg) (a := emptyD j) ?_ K
  unfold emT
  rw [List.getElem?_append_left (by rw [empties_len]; exact h), empties_get h]
theorem emT_new {i : Nat} (h : i < 257) (K : AV → Prop) : getP ((emT i).map dg) i K = K (.ints .u8 32 zs) := by
  refine getP_map (f := dg) (a := zs) ?_ K
  unfold emT
  rw [List.getElem?_append_right (by rw [empties_len]; exact Nat.le_refl _), empties_len, Nat.sub_self, List.getElem?_replicate, if_pos (by omega)]
theorem emT_end : emT 257 = empties 257 := by unfold emT; rw [Nat.sub_self, List.replicate_zero, List.append_nil]
theorem empty17_spec : FnC Try.prog 40 [] [] (.osl 0 [] 32 0 257) [(0, .row (.lst 32 257 ((empties 257).map dg)))] := by
  have h2 := sums117 (a := [2]) (by decide) (by decide)
  have e0 := emT_0
  have g0 := fun K => emT_new (i := 0) (by omega) K
  have s0 := emT_set (i := 0) (by omega)
  have l0 : ((emT 0).map dg).length = 257 := by rw [List.length_map, emT_len (by omega)]
  have z0 : sumD [2] = emptyD 0 := rfl
  rw [← emT_end]
  refine fnN mix pl40 0 0 [.tmp 0] Try.func40 rfl (by kernel_rfl) (by kernel_rfl) rfl (by kernel_rfl) (by kernel_rfl) (by simp) ?_
  simp (implicitDefEqProofs := false) (disch := omega) only [go_sem, ↓reduceIte, e0]
  refine callB h2 ?_ ?_
  · simp (implicitDefEqProofs := false) (disch := omega) only [go_sem, ↓reduceIte, bsl, List.length_singleton, List.length_cons, List.length_nil]
  simp (implicitDefEqProofs := false) (disch := omega) only [go_sem, ↓reduceIte, e0, ↓g0, s0, l0, z0]
  refine loop (ι := Nat) 1 (fun i => i ≤ 256) (fun i => [(1, .osl 0 [] 32 0 257), (9, .int .i64 i)]) (fun i => [(0, .row (.lst 32 257 ((emT (i + 1)).map dg)))]) (fun i => 256 - i) 0 [(0, 0)] [] (Nat.zero_le _) rfl ?_ ?_ ?_ (fun i hi => ?_)
  · simp (implicitDefEqProofs := false) (disch := omega) only [go_sem, ↓reduceIte]
  · simp (implicitDefEqProofs := false) (disch := omega) only [go_sem, ↓reduceIte]
  · simp (implicitDefEqProofs := false) (disch := omega) only [go_sem, ↓reduceIte]
  simp (implicitDefEqProofs := false) (disch := omega) only [go_sem, ↓reduceIte]
  refine brd (fun h => ?_) (fun h => ?_)
  · have g1 := fun K => emT_old (i := i + 1) (j := i) (by omega) K
    have g2 := fun K => emT_new (i := i + 1) (by omega) K
    have s1 := emT_set (i := i + 1) (by omega)
    have l1 : ((emT (i + 1)).map dg).length = 257 := by rw [List.length_map, emT_len (by omega)]
    have hn := node_spec17 (emptyD i) (emptyD i) (emptyD_good i) (emptyD_good i)
    have en : nodeL (emptyD i) (emptyD i) = emptyD (i + 1) := rfl
    rw [en] at hn
    have ti : ((i : Int) + 1).toNat = i + 1 := by omega
    simp (implicitDefEqProofs := false) (disch := omega) only [go_sem, ↓reduceIte, ↓g1, l1]
    refine call0 hn ?_
    simp (implicitDefEqProofs := false) (disch := omega) only [go_sem, ↓reduceIte, ↓g1, ↓g2, s1, l1, ti]
    refine ⟨i + 1, [(0, 0)], [], [], by dsimp only; omega, by dsimp only; omega, rfl, ?_, ?_, ?_⟩ <;> simp (implicitDefEqProofs := false) (disch := omega) only [go_sem, ↓reduceIte]
  obtain rfl : i = 256 := by omega
  simp (implicitDefEqProofs := false) (disch := omega) only [go_sem, ↓reduceIte]
  refine ⟨[(0, 0)], [], [], rfl, ?_, ?_, ?_⟩ <;> simp (implicitDefEqProofs := false) (disch := omega) only [go_sem, ↓reduceIte]
/-- On which side a place is at a level. -/
def bitD (d : List Int) (k : Int) : Int := if 0 ≤ k ∧ k < 256 then (d.getD (31 - (k / 8).toNat) 0 / 2 ^ (k % 8).toNat) % 2 else 0
theorem bit17_spec (d : List Int) (k : Int) (hd : goodD d) : FnC Try.prog 46 [.ints .u8 32 d, .int .i64 k] [] (.int .i64 (bitD d k)) [] := by
  unfold bitD
  refine fn0 mix [] 0 2 [.tmp 4] Try.func46 rfl (by kernel_rfl) (by kernel_rfl) rfl (by kernel_rfl) (by kernel_rfl) (by simp) ?_
  simp (implicitDefEqProofs := false) (disch := omega) only [go_sem, ↓reduceIte]
  refine brd (fun h => ?_) (fun h => ?_)
  · rw [if_neg (by omega)]
    simp (implicitDefEqProofs := false) (disch := omega) only [go_sem, ↓reduceIte]
  simp (implicitDefEqProofs := false) (disch := omega) only [go_sem, ↓reduceIte]
  refine brd (fun h2 => ?_) (fun h2 => ?_)
  · rw [if_neg (by omega)]
    simp (implicitDefEqProofs := false) (disch := omega) only [go_sem, ↓reduceIte]
  rw [if_pos (by omega)]
  obtain ⟨k, rfl⟩ := Int.eq_ofNat_of_zero_le (show 0 ≤ k by omega)
  have t1 : (255 - (k : Int)).tdiv 8 = ((31 - k / 8 : Nat) : Int) := by rw [Int.tdiv_eq_ediv_of_nonneg (by omega)]; omega
  have t2 : (7 : Int) - (255 - (k : Int)).tmod 8 = ((k % 8 : Nat) : Int) := by rw [Int.tmod_eq_emod_of_nonneg (by omega)]; omega
  have e1 : ((k : Int) / 8).toNat = k / 8 := by omega
  have e2 : ((k : Int) % 8).toNat = k % 8 := by omega
  rw [e1, e2]
  have hx : 0 ≤ d.getD (31 - k / 8) 0 ∧ d.getD (31 - k / 8) 0 < 256 := getD_all' hd.2 (by rw [hd.1]; omega)
  have hr : k % 8 < 8 := by omega
  have hs : ishr .u8 (d.getD (31 - k / 8) 0) (k % 8) = d.getD (31 - k / 8) 0 / 2 ^ (k % 8) := ishr_div _ _ _ (by show k % 8 ≤ 8; omega)
  have hp : (1 : Int) ≤ 2 ^ (k % 8) := by exact_mod_cast Nat.one_le_two_pow
  have hq : 0 ≤ d.getD (31 - k / 8) 0 / 2 ^ (k % 8) ∧ d.getD (31 - k / 8) 0 / 2 ^ (k % 8) < 256 := ⟨Int.ediv_nonneg hx.1 (by omega), Int.lt_of_le_of_lt (Int.ediv_le_self _ hx.1) hx.2⟩
  generalize d.getD (31 - k / 8) 0 / 2 ^ (k % 8) = v at *
  have hm : iand .i64 v 1 = v % 2 := iand_mask 1 rfl (by decide) hq.1 (by show v < 2 ^ 64; omega)
  have hj : 31 - k / 8 < 32 := by omega
  generalize 31 - k / 8 = j at *
  generalize k % 8 = r at *
  have hr0 : (0 : Int) ≤ (r : Int) := by omega
  simp (implicitDefEqProofs := false) (disch := omega) only [go_sem, ↓reduceIte, t1, t2, hs, hm, hr0]
  exact hj
/-- How many of a byte's bits are 1. -/
def popc (x : Int) : Int := ((List.range 8).map fun r => (x / 2 ^ r) % 2).sum
theorem popc_le {x : Int} (h : 0 ≤ x ∧ x < 256) : 0 ≤ popc x ∧ popc x ≤ 8 := by
  have e : popc x = ((x / 2 ^ 0) % 2) + (((x / 2 ^ 1) % 2) + (((x / 2 ^ 2) % 2) + (((x / 2 ^ 3) % 2) + (((x / 2 ^ 4) % 2) + (((x / 2 ^ 5) % 2) + (((x / 2 ^ 6) % 2) + ((x / 2 ^ 7) % 2 + 0))))))) := rfl
  rw [e]
  omega
theorem ones_spec (x : Int) (h : 0 ≤ x ∧ x < 256) : FnC Try.prog 146 [.int .u8 x] [] (.int .i64 (popc x)) [] := by
  refine fn0 mix [] 0 1 [.tmp 2] Try.func146 rfl (by kernel_rfl) (by kernel_rfl) rfl (by kernel_rfl) (by kernel_rfl) (by simp) ?_
  simp (implicitDefEqProofs := false) (disch := omega) only [go_sem, ↓reduceIte]
  obtain ⟨n, rfl⟩ := Int.eq_ofNat_of_zero_le h.1
  have hn : n < 256 := by omega
  clear h
  refine ⟨?_, congrArg (AV.int .i64) ?_⟩
  · revert n
    decide +kernel
  · revert n
    decide +kernel
/-- How many nodes a proof has. -/
def pops (d : List Int) : Int := (d.map popc).sum
theorem pops_succ {d : List Int} {i : Nat} (h : i < d.length) : pops (d.take (i + 1)) = pops (d.take i) + popc (d.getD i 0) := by
  unfold pops
  rw [List.take_add_one, List.getElem?_eq_getElem h]
  simp only [Option.toList_some, List.map_append, List.map_cons, List.map_nil, List.sum_append, List.sum_cons, List.sum_nil, List.getD, List.getElem?_eq_getElem h, Option.getD_some, Int.add_zero]
theorem pops_le {d : List Int} (hd : ∀ x ∈ d, 0 ≤ x ∧ x < 256) : 0 ≤ pops d ∧ pops d ≤ 8 * d.length := by
  unfold pops
  induction d with
  | nil => exact ⟨Int.le_refl _, Int.le_refl _⟩
  | cons x d ih =>
    have h1 := popc_le (hd x (List.mem_cons_self ..))
    have h2 := ih (fun y hy => hd y (List.mem_cons_of_mem _ hy))
    rw [List.map_cons, List.sum_cons, List.length_cons]
    omega
theorem whole_spec (known : List Int) (hk : goodD known) (W : List (List Int)) (L : Nat) (hW : W.length = L) (hL : L ≤ 9223372036854775807) :
    FnC Try.prog 105 [.agg [.ints .u8 32 known, .sl (.lst 32 L (W.map dg))]] [] (.bool (decide (pops known = L))) [] := by
  refine fn0 mix [] 0 1 [.tmp 2] Try.func105 rfl (by kernel_rfl) (by kernel_rfl) rfl (by kernel_rfl) (by kernel_rfl) (by simp) ?_
  simp (implicitDefEqProofs := false) (disch := omega) only [go_sem, ↓reduceIte]
  refine loop (ι := Nat) 1 (fun i => i ≤ 32) (fun i => [(1, .ref 0 []), (3, .int .i64 (pops (known.take i))), (7, .ints .u8 32 known), (8, .int .i64 i)]) (fun i => [(0, .var (.agg [.ints .u8 32 known, .sl (.lst 32 L (W.map dg))]))]) (fun i => 32 - i) 0 [(0, 0)] [] (Nat.zero_le _) rfl ?_ ?_ ?_ (fun i hi => ?_)
  · simp (implicitDefEqProofs := false) (disch := omega) only [go_sem, ↓reduceIte]
  · simp (implicitDefEqProofs := false) (disch := omega) only [go_sem, ↓reduceIte, List.take_zero, pops, List.map_nil, List.sum_nil]
  · simp (implicitDefEqProofs := false) (disch := omega) only [go_sem, ↓reduceIte]
  simp (implicitDefEqProofs := false) (disch := omega) only [go_sem, ↓reduceIte]
  refine brd (fun h => ?_) (fun h => ?_)
  · have hs := pops_succ (d := known) (i := i) (by rw [hk.1]; omega)
    have hx := getD_all' hk.2 (i := i) (by rw [hk.1]; omega)
    have hp := pops_le (d := known.take i) (fun x h => hk.2 x (List.mem_of_mem_take h))
    have hlt : (known.take i).length ≤ 32 := by rw [List.length_take]; omega
    have hc := popc_le hx
    simp (implicitDefEqProofs := false) (disch := omega) only [go_sem, ↓reduceIte]
    refine call0 (ones_spec _ hx) ?_
    simp (implicitDefEqProofs := false) (disch := omega) only [go_sem, ↓reduceIte]
    refine ⟨i + 1, [(0, 0)], [], [], by dsimp only; omega, by dsimp only; omega, rfl, ?_, ?_, ?_⟩ <;> simp (implicitDefEqProofs := false) (disch := omega) only [go_sem, ↓reduceIte, hs]
  obtain rfl : i = 32 := by omega
  have e : known.take 32 = known := List.take_of_length_le (by rw [hk.1]; exact Nat.le_refl _)
  rw [e]
  simp (implicitDefEqProofs := false) (disch := omega) only [go_sem, ↓reduceIte]
end Go.Proofs.Ytclkaibkepaebaa
/- Where one comes to from a digest by a proof: a range over a function. -/
namespace Go.Proofs.Ytclkaibkepaebaa
open Go Go.Sy Go.Proofs.Try
set_option maxRecDepth 100000
set_option maxHeartbeats 8000000
set_option linter.unusedSimpArgs false
set_option linter.unusedVariables false

/-- A bit of what is known. -/
def kb (known : List Int) (k : Nat) : Bool := decide ((known.getD (k / 8) 0 / 2 ^ (k % 8)) % 2 = 1)
def cntK (known : List Int) : Nat → Nat
  | 0 => 0
  | k + 1 => cntK known k + (if kb known k = true then 1 else 0)
/-- What is beside the way, at a level. -/
def sideD (known : List Int) (W : List (List Int)) (k : Nat) : List Int := if kb known k = true then W.getD (cntK known k) zs else emptyD k
def climbS (index known : List Int) (W : List (List Int)) (k : Nat) (x : List Int) : List Int := if bitD index k = 0 then nodeL x (sideD known W k) else nodeL (sideD known W k) x
def climbR (index known : List Int) (W : List (List Int)) (x : List Int) : Nat → List Int
  | 0 => x
  | k + 1 => climbS index known W k (climbR index known W x k)
theorem cntK_mono (known : List Int) {a b : Nat} (h : a ≤ b) : cntK known a ≤ cntK known b := by
  induction h with
  | refl => exact Nat.le_refl _
  | step h ih => rw [cntK]; omega
theorem cntK_byte (known : List Int) (j : Nat) : ((cntK known (8 * j + 8) : Nat) : Int) = (cntK known (8 * j) : Nat) + popc (known.getD j 0) := by
  have e : popc (known.getD j 0) = ((known.getD j 0 / 2 ^ 0) % 2) + (((known.getD j 0 / 2 ^ 1) % 2) + (((known.getD j 0 / 2 ^ 2) % 2) + (((known.getD j 0 / 2 ^ 3) % 2) + (((known.getD j 0 / 2 ^ 4) % 2) + (((known.getD j 0 / 2 ^ 5) % 2) + (((known.getD j 0 / 2 ^ 6) % 2) + ((known.getD j 0 / 2 ^ 7) % 2 + 0))))))) := rfl
  have step : ∀ r, r < 8 → ((cntK known (8 * j + r + 1) : Nat) : Int) = (cntK known (8 * j + r) : Nat) + (known.getD j 0 / 2 ^ r) % 2 := fun r hr => by
    rw [cntK]
    unfold kb
    rw [show (8 * j + r) / 8 = j by omega, show (8 * j + r) % 8 = r by omega]
    by_cases h : (known.getD j 0 / 2 ^ r) % 2 = 1
    · rw [if_pos (by simpa using h), h]; omega
    · rw [if_neg (by simpa using h)]; omega
  have h0 := step 0 (by decide)
  have h1 := step 1 (by decide)
  have h2 := step 2 (by decide)
  have h3 := step 3 (by decide)
  have h4 := step 4 (by decide)
  have h5 := step 5 (by decide)
  have h6 := step 6 (by decide)
  have h7 := step 7 (by decide)
  simp only [Nat.add_assoc, Nat.add_zero, Nat.reduceAdd] at h0 h1 h2 h3 h4 h5 h6 h7
  rw [e]
  omega
theorem cntK_pops (known : List Int) (hk : known.length = 32) : ∀ j, j ≤ 32 → ((cntK known (8 * j) : Nat) : Int) = pops (known.take j)
  | 0, _ => by rw [List.take_zero]; rfl
  | j + 1, h => by
    rw [pops_succ (by omega), ← cntK_pops known hk j (by omega), show 8 * (j + 1) = 8 * j + 8 by omega, cntK_byte]
theorem cntK_all {known : List Int} (hk : known.length = 32) : ((cntK known 256 : Nat) : Int) = pops known := by
  have := cntK_pops known hk 32 (Nat.le_refl _)
  rw [List.take_of_length_le (by omega)] at this
  exact this
theorem cntK_lt {known : List Int} {k : Nat} (hk : k < 256) (hb : kb known k = true) : cntK known k < cntK known 256 := by
  have := cntK_mono known (show k + 1 ≤ 256 by omega)
  rw [cntK, if_pos hb] at this
  omega
theorem sideD_good {known : List Int} {W : List (List Int)} (hg : ∀ d ∈ W, goodD d) (hl : cntK known 256 = W.length) {k : Nat} (hk : k < 256) : goodD (sideD known W k) := by
  unfold sideD
  split
  · rename_i hb
    have := cntK_lt hk hb
    rw [List.getD, List.getElem?_eq_getElem (by omega), Option.getD_some]
    exact hg _ (List.getElem_mem _)
  · exact emptyD_good k
theorem climbS_good (index known : List Int) (W : List (List Int)) (k : Nat) (x : List Int) : goodD (climbS index known W k x) := by
  unfold climbS
  split <;> exact nodeL_good _ _
theorem climbR_good (index known : List Int) (W : List (List Int)) {x : List Int} (hx : goodD x) : ∀ k, goodD (climbR index known W x k)
  | 0 => hx
  | k + 1 => climbS_good _ _ _ _ _
theorem beside_spec (known : List Int) (W : List (List Int)) (L : Nat) : FnC Try.prog 106 [.agg [.ints .u8 32 known, .sl (.lst 32 L (W.map dg))]] [] (.fn (.func 147) [.ref 0 []]) [(0, .var (.agg [.ints .u8 32 known, .sl (.lst 32 L (W.map dg))]))] := by
  refine fnN mix [] 0 1 [.tmp 2] Try.func106 rfl (by kernel_rfl) (by kernel_rfl) rfl (by kernel_rfl) (by kernel_rfl) (by simp) ?_
  simp (implicitDefEqProofs := false) (disch := omega) only [go_sem, ↓reduceIte]
  refine ⟨[(0, 0)], [], [], rfl, ?_, ?_, ?_⟩ <;> simp (implicitDefEqProofs := false) (disch := omega) only [go_sem, ↓reduceIte]
section
variable (x index known : List Int) (hx : goodD x) (hi : goodD index) (hk : goodD known) (W : List (List Int)) (L : Nat) (hW : W.length = L) (hL : L ≤ 9223372036854775807) (hg : ∀ d ∈ W, goodD d)
include hk hW hL in
theorem climb_bad (hp : pops known ≠ L) : FnC Try.prog 56 [.ints .u8 32 x, .ints .u8 32 index, .agg [.ints .u8 32 known, .sl (.lst 32 L (W.map dg))]] [] (.tup [.ints .u8 32 zs, .int .i64 2]) [] := by
  have hw := whole_spec known hk W L hW hL
  rw [show decide (pops known = (L : Int)) = false by simpa using hp] at hw
  refine fn0 mix [] 0 3 [.cell 6 25, .tmp 7] Try.func56 rfl (by kernel_rfl) (by kernel_rfl) rfl (by kernel_rfl) (by kernel_rfl) (by simp) ?_
  simp (implicitDefEqProofs := false) (disch := omega) only [go_sem, ↓reduceIte]
  refine call0 hw ?_
  simp (implicitDefEqProofs := false) (disch := omega) only [go_sem, ↓reduceIte]
  rfl
include hx hi hk hW hL hg in
theorem climb_ok (hp : pops known = L) : FnC Try.prog 56 [.ints .u8 32 x, .ints .u8 32 index, .agg [.ints .u8 32 known, .sl (.lst 32 L (W.map dg))]] [] (.tup [.ints .u8 32 (climbR index known W x 256), .int .i64 0]) [] := by
  have hw := whole_spec known hk W L hW hL
  rw [show decide (pops known = (L : Int)) = true by simpa using hp] at hw
  refine fn_range mix [] (I1 := [(3, .ref 0 []), (4, .ref 1 []), (6, .ref 2 []), (15, .fn (.func 147) [.ref 3 []])]) (J1 := [(0, .var (.ints .u8 32 x)), (1, .var (.ints .u8 32 index)), (2, .var (.ints .u8 32 zs)), (3, .var (.agg [.ints .u8 32 known, .sl (.lst 32 L (W.map dg))]))]) (n1 := 4)
    [(3, .ref 0 []), (4, .ref 1 [])] 3 15 16 17 [.cell 6 25, .tmp 7] Try.func56 rfl (by kernel_rfl) (by kernel_rfl) rfl (by kernel_rfl) (by kernel_rfl) (by kernel_rfl) (by kernel_rfl) (by kernel_rfl) (by kernel_rfl) (fun _ _ => ?_) ?_ rfl (by kernel_rfl) ?_ (fun l rec xp h1 h2 h3 h4 h5 h6 h7 htr => ?_)
  · simp (implicitDefEqProofs := false) only [callFunc, Sem.run_bind, run_program, Result.andThen_ok, Try.func147]
    rfl
  · simp (implicitDefEqProofs := false) (disch := omega) only [go_sem, ↓reduceIte]
    refine call0 hw ?_
    simp (implicitDefEqProofs := false) (disch := omega) only [go_sem, ↓reduceIte]
    refine callF 1 (beside_spec known W L) ?_
    simp (implicitDefEqProofs := false) (disch := omega) only [go_sem, ↓reduceIte]
    refine ⟨[(0, 0), (1, 1), (2, 3), (3, 4)], [], [], rfl, ?_, ?_, ?_⟩ <;> simp (implicitDefEqProofs := false) (disch := omega) only [go_sem, ↓reduceIte]
    rfl
  · simp [lk]
  simp only [List.map_cons, List.map_nil, List.cons_append, List.nil_append]
  have hc : cntK known 256 = W.length := by
    have := cntK_all hk.1
    rw [hp] at this
    omega
  have rd : ∀ (k : Nat), k < 256 → RunC (YRun Try.prog l rec xp) ([.int .i64 k, .ints .u8 32 (sideD known W k)] ++ [.ref 0 [], .ref 1 []]) [(0, .var (.ints .u8 32 (climbR index known W x k))), (1, .var (.ints .u8 32 index))] (.bool true) [(0, .var (.ints .u8 32 (climbR index known W x (k + 1)))), (1, .var (.ints .u8 32 index))] := fun k hk256 => by
    refine round_of_vc [] (refs := [.ref 0 [], .ref 1 []]) (tr := [(3, .ref 0 []), (4, .ref 1 [])]) (k0 := 2) (k := 2) (p1 := 16) (p2 := 17) h1 h2 h3 h4 h5 h6 (by decide) (by decide) (by decide) (by kernel_rfl) (by kernel_rfl) (by kernel_rfl) (by kernel_rfl) (by simp) rfl rfl rfl h7 htr ?_
    have hb := bit17_spec index k hi
    have gs := sideD_good hg hc hk256
    have gx := climbR_good index known W hx k
    have e1 : climbR index known W x (k + 1) = climbS index known W k (climbR index known W x k) := rfl
    rw [e1]
    unfold climbS
    simp (implicitDefEqProofs := false) (disch := omega) only [go_sem, ↓reduceIte]
    refine call0 hb ?_
    simp (implicitDefEqProofs := false) (disch := omega) only [go_sem, ↓reduceIte]
    refine brd (fun h => ?_) (fun h => ?_)
    · rw [if_pos h]
      simp (implicitDefEqProofs := false) (disch := omega) only [go_sem, ↓reduceIte]
      refine call0 (node_spec17 _ _ gx gs) ?_
      simp (implicitDefEqProofs := false) (disch := omega) only [go_sem, ↓reduceIte]
      refine ⟨[(0, 0), (1, 1)], [], [], rfl, ?_, ?_, ?_⟩ <;> simp (implicitDefEqProofs := false) (disch := omega) only [go_sem, ↓reduceIte]
    · rw [if_neg h]
      simp (implicitDefEqProofs := false) (disch := omega) only [go_sem, ↓reduceIte]
      refine call0 (node_spec17 _ _ gs gx) ?_
      simp (implicitDefEqProofs := false) (disch := omega) only [go_sem, ↓reduceIte]
      refine ⟨[(0, 0), (1, 1)], [], [], rfl, ?_, ?_, ?_⟩ <;> simp (implicitDefEqProofs := false) (disch := omega) only [go_sem, ↓reduceIte]
  have hIt := it_of_vc (O := [(0, .var (.ints .u8 32 x)), (1, .var (.ints .u8 32 index)), (2, .var (.agg [.ints .u8 32 known, .sl (.lst 32 L (W.map dg))]))]) (O' := [(0, .var (.ints .u8 32 (climbR index known W x 256))), (1, .var (.ints .u8 32 index)), (2, .var (.agg [.ints .u8 32 known, .sl (.lst 32 L (W.map dg))]))]) (r := .tup []) (args := [.fn (.yield l) [], .ref 2 []]) (refs := [.ref 0 [], .ref 1 []]) (xp := xp) (rec := rec) (l := l) ((200007, []) :: []) 3 3 2 [] Try.func147 rfl (by kernel_rfl) rfl (by kernel_rfl) (by kernel_rfl) (by simp) rfl rfl rfl rfl h7 (by
    simp (implicitDefEqProofs := false) (disch := omega) only [go_sem, ↓reduceIte]
    refine callF 1 empty17_spec ?_
    simp (implicitDefEqProofs := false) (disch := omega) only [go_sem, ↓reduceIte]
    refine loop (ι := Nat) 4 (fun i => i ≤ 256) (fun i => [(0, .fn (.yield l) []), (1, .ref 2 []), (3, .int .i64 (cntK known i : Nat)), (7, .osl 3 [] 32 0 256), (8, .int .i64 256), (9, .int .i64 i)]) (fun i => [(0, .var (.ints .u8 32 (climbR index known W x i))), (1, .var (.ints .u8 32 index)), (2, .var (.agg [.ints .u8 32 known, .sl (.lst 32 L (W.map dg))])), (3, .row (.lst 32 257 ((empties 257).map dg)))]) (fun i => 256 - i) 0 [(0, 0), (1, 1), (2, 2), (3, 3)] [] (Nat.zero_le _) rfl ?_ ?_ ?_ (fun i hi => ?_)
    · simp (implicitDefEqProofs := false) (disch := omega) only [go_sem, ↓reduceIte]
    · simp (implicitDefEqProofs := false) (disch := omega) only [go_sem, ↓reduceIte]
      rfl
    · simp (implicitDefEqProofs := false) (disch := omega) only [go_sem, ↓reduceIte]
      rfl
    simp (implicitDefEqProofs := false) (disch := omega) only [go_sem, ↓reduceIte]
    refine brd (fun h => ?_) (fun h => ?_)
    · have g1 : ∀ K, getP ((empties 257).map dg) i K = K (.ints .u8 32 (emptyD i)) := fun K => getP_map (f := dg) (empties_get (n := 257) (i := i) (by omega)) K
      have l1 : ((empties 257).map dg).length = 257 := by rw [List.length_map, empties_len]
      have t1 : (i : Int).tdiv 8 = ((i / 8 : Nat) : Int) := by rw [Int.tdiv_eq_ediv_of_nonneg (by omega)]; omega
      have t2 : (i : Int).tmod 8 = ((i % 8 : Nat) : Int) := by rw [Int.tmod_eq_emod_of_nonneg (by omega)]; omega
      have hx8 : 0 ≤ known.getD (i / 8) 0 ∧ known.getD (i / 8) 0 < 256 := getD_all' hk.2 (by rw [hk.1]; omega)
      have hr : i % 8 < 8 := by omega
      have hs : ishr .u8 (known.getD (i / 8) 0) (i % 8) = known.getD (i / 8) 0 / 2 ^ (i % 8) := ishr_div _ _ _ (by show i % 8 ≤ 8; omega)
      have hp2 : (1 : Int) ≤ 2 ^ (i % 8) := by exact_mod_cast Nat.one_le_two_pow
      have hq : 0 ≤ known.getD (i / 8) 0 / 2 ^ (i % 8) ∧ known.getD (i / 8) 0 / 2 ^ (i % 8) < 256 := ⟨Int.ediv_nonneg hx8.1 (by omega), Int.lt_of_le_of_lt (Int.ediv_le_self _ hx8.1) hx8.2⟩
      have hm : iand .u8 (known.getD (i / 8) 0 / 2 ^ (i % 8)) 1 = (known.getD (i / 8) 0 / 2 ^ (i % 8)) % 2 := iand_mask 1 rfl (by decide) hq.1 (by show _ < 2 ^ 8; omega)
      have hkb : decide ((known.getD (i / 8) 0 / 2 ^ (i % 8)) % 2 = 1) = kb known i := rfl
      have hi8 : i / 8 < 32 := by omega
      have h08 : (0 : Int) ≤ ((i / 8 : Nat) : Int) := by omega
      have h0r : (0 : Int) ≤ ((i % 8 : Nat) : Int) := by omega
      have hw8 : IntKind.i64.wrap ((i / 8 : Nat) : Int) = ((i / 8 : Nat) : Int) := wrap_i64 (by omega) (by omega)
      have rdi := rd i (by omega)
      simp only [List.cons_append, List.nil_append] at rdi
      have hcs : cntK known (i + 1) = cntK known i + (if kb known i = true then 1 else 0) := rfl
      have hsd : sideD known W i = if kb known i = true then W.getD (cntK known i) zs else emptyD i := rfl
      have hmono := cntK_mono known (show i ≤ 256 by omega)
      simp (implicitDefEqProofs := false) (disch := omega) only [go_sem, ↓reduceIte, ↓g1, l1, t1, t2, hw8, hs, hm, hkb]
      refine br (fun hb => ?_) (fun hb => ?_)
      · rw [if_pos hb] at hcs hsd
        have hlt := cntK_lt (k := i) (by omega) hb
        have g2 : ∀ K, getP (W.map dg) (cntK known i) K = K (.ints .u8 32 (sideD known W i)) := fun K => getP_map (f := dg) (l := W) (i := cntK known i) (a := sideD known W i) (by rw [hsd, List.getD, List.getElem?_eq_getElem (by omega), Option.getD_some]) K
        simp (implicitDefEqProofs := false) (disch := omega) only [go_sem, ↓reduceIte, ↓g2]
        refine runG false [(0, 0), (1, 1)] [(0, 0), (1, 1)] 5 rdi (by simp [keys]) ?_
        simp (implicitDefEqProofs := false) (disch := omega) only [go_sem, ↓reduceIte]
        refine ⟨i + 1, [(0, 0), (1, 1), (2, 2), (3, 3)], [], [], by dsimp only; omega, by dsimp only; omega, rfl, ?_, ?_, ?_⟩ <;> simp (implicitDefEqProofs := false) (disch := omega) only [go_sem, ↓reduceIte, hcs]
      · rw [if_neg (by rw [hb]; decide)] at hcs hsd
        rw [hsd] at rdi
        simp (implicitDefEqProofs := false) (disch := omega) only [go_sem, ↓reduceIte]
        refine runG false [(0, 0), (1, 1)] [(0, 0), (1, 1)] 5 rdi (by simp [keys]) ?_
        simp (implicitDefEqProofs := false) (disch := omega) only [go_sem, ↓reduceIte]
        refine ⟨i + 1, [(0, 0), (1, 1), (2, 2), (3, 3)], [], [], by dsimp only; omega, by dsimp only; omega, rfl, ?_, ?_, ?_⟩ <;> simp (implicitDefEqProofs := false) (disch := omega) only [go_sem, ↓reduceIte, hcs]
    · obtain rfl : i = 256 := by omega
      simp (implicitDefEqProofs := false) (disch := omega) only [go_sem, ↓reduceIte]
      refine ⟨[(0, 0), (1, 1), (2, 2)], [], [], rfl, ?_, ?_, ?_⟩ <;> simp (implicitDefEqProofs := false) (disch := omega) only [go_sem, ↓reduceIte])
  refine runG false [(0, 0), (1, 1), (2, 3)] [(0, 0), (1, 1), (2, 3)] 4 hIt (by simp [keys]) ?_
  simp (implicitDefEqProofs := false) (disch := omega) only [go_sem, ↓reduceIte]
end
end Go.Proofs.Ytclkaibkepaebaa
/- A tree of entries, as the document tells it: nodes, halves, bits, the way up. -/
namespace Go.Proofs.Ytclkaibkepaebaa
open Go Go.Sy Go.Proofs.Try
set_option maxRecDepth 100000
set_option maxHeartbeats 8000000
set_option linter.unusedSimpArgs false
set_option linter.unusedVariables false
attribute [go_sem] pl42 pl43
def leafP (a b : List Int) : List Int := sumD (0 :: (a ++ b))
theorem leafP_good (a b : List Int) : goodD (leafP a b) := ⟨sumD_len _, sumD_mem _⟩
theorem leaf_spec17 (a b : List Int) (ha : goodD a) (hb : goodD b) : FnC Try.prog 42 [.agg [.ints .u8 32 a, .ints .u8 32 b]] [] (.ints .u8 32 (leafP a b)) [] := by
  have h1 := sums3 (a := [0]) (b := a) (c := b) (by decide) ha.2 hb.2 (by rw [List.length_singleton, ha.1, hb.1]; decide)
  have l1 := ha.1
  have l2 := hb.1
  refine fn0 mix pl42 0 1 [.cell 2 25] Try.func42 rfl (by kernel_rfl) (by kernel_rfl) rfl (by kernel_rfl) (by kernel_rfl) (by simp) ?_
  simp (implicitDefEqProofs := false) (disch := omega) only [go_sem, ↓reduceIte]
  refine callB h1 ?_ ?_
  · simp (implicitDefEqProofs := false) (disch := omega) only [go_sem, ↓reduceIte, bsl, l1, l2]
  simp (implicitDefEqProofs := false) (disch := omega) only [go_sem, ↓reduceIte, leafP]
theorem refleaf_spec17 (a b : List Int) (ha : goodD a) (hb : goodD b) : FnC Try.prog 43 [.agg [.ints .u8 32 a, .ints .u8 32 b]] [] (.ints .u8 32 (leafP a b)) [] := by
  have l1 := ha.1
  have l2 := hb.1
  have hb0 : ∀ x ∈ 0 :: (a ++ b), 0 ≤ x ∧ x < 256 := by
    intro x hx
    rcases List.mem_cons.1 hx with rfl | hx
    · decide
    · exact app_mem ha.2 hb.2 x hx
  have h1 := refsum_spec (0 :: (a ++ b)) hb0 (by rw [List.length_cons, List.length_append]; omega)
  have e1 : (0 :: (a ++ b)).length = 65 := by rw [List.length_cons, List.length_append]; omega
  rw [e1] at h1
  refine fn0 mix pl43 0 1 [.cell 2 25] Try.func43 rfl (by kernel_rfl) (by kernel_rfl) rfl (by kernel_rfl) (by kernel_rfl) (by simp) ?_
  simp (implicitDefEqProofs := false) (disch := omega) only [go_sem, ↓reduceIte]
  refine callB h1 ?_ ?_
  · simp (implicitDefEqProofs := false) (disch := omega) only [go_sem, ↓reduceIte, List.singleton_append, List.cons_append]
  simp (implicitDefEqProofs := false) (disch := omega) only [go_sem, ↓reduceIte, leafP]
theorem refempty_spec17 : FnC Try.prog 41 [] [] (.osl 0 [] 32 0 257) [(0, .row (.lst 32 257 ((empties 257).map dg)))] := by
  have h1 := refsum_spec [2] (by decide) (by decide)
  have e1 : [(2 : Int)].length = 1 := rfl
  rw [e1] at h1
  refine fnN mix [] 0 0 [.tmp 0] Try.func41 rfl (by kernel_rfl) (by kernel_rfl) rfl (by kernel_rfl) (by kernel_rfl) (by simp) ?_
  simp (implicitDefEqProofs := false) (disch := omega) only [go_sem, ↓reduceIte]
  refine callB h1 ?_ ?_
  · simp (implicitDefEqProofs := false) (disch := omega) only [go_sem, ↓reduceIte]
  simp (implicitDefEqProofs := false) (disch := omega) only [go_sem, ↓reduceIte]
  refine loop (ι := Nat) 2 (fun i => i ≤ 257) (fun i => [(1, .osl 1 [] 32 0 i), (2, .ref 0 []), (3, .int .i64 i)]) (fun i => [(0, .var (.ints .u8 32 (emptyD i))), (1, .row (.lst 32 i ((empties i).map dg)))]) (fun i => 257 - i) 0 [(0, 1)] [1] (Nat.zero_le _) rfl ?_ ?_ ?_ (fun i hi => ?_)
  · simp (implicitDefEqProofs := false) (disch := omega) only [go_sem, ↓reduceIte]
  · simp (implicitDefEqProofs := false) (disch := omega) only [go_sem, ↓reduceIte]
  · simp (implicitDefEqProofs := false) (disch := omega) only [go_sem, ↓reduceIte, emptyD, empties, List.range_zero]
  simp (implicitDefEqProofs := false) (disch := omega) only [go_sem, ↓reduceIte]
  refine brd (fun h => ?_) (fun h => ?_)
  · have hn := refnode_spec17 (emptyD i) (emptyD i) (emptyD_good i) (emptyD_good i)
    have en : nodeL (emptyD i) (emptyD i) = emptyD (i + 1) := rfl
    rw [en] at hn
    simp (implicitDefEqProofs := false) (disch := omega) only [go_sem, ↓reduceIte]
    refine call0 hn ?_
    simp (implicitDefEqProofs := false) (disch := omega) only [go_sem, ↓reduceIte]
    refine ⟨i + 1, [(0, 0), (1, 3)], [], [], by dsimp only; omega, by dsimp only; omega, rfl, ?_, ?_, ?_⟩ <;> simp (implicitDefEqProofs := false) (disch := omega) only [go_sem, ↓reduceIte, empties_succ, List.map_append, dg]
  obtain rfl : i = 257 := by omega
  simp (implicitDefEqProofs := false) (disch := omega) only [go_sem, ↓reduceIte]
  refine ⟨[(0, 1)], [], [], rfl, ?_, ?_, ?_⟩ <;> simp (implicitDefEqProofs := false) (disch := omega) only [go_sem, ↓reduceIte]
def hf (d : List Int) (j : Nat) : Int := d.getD j 0 / 2 + (if j = 0 then 0 else d.getD (j - 1) 0 % 2 * 128)
def outH (d : List Int) (i : Nat) : List Int := (List.range 32).map fun j => if j < i then hf d j else 0
abbrev halfD (d : List Int) : List Int := outH d 32
theorem outH_0 (d : List Int) : List.replicate 32 0 = outH d 0 := rfl
theorem outH_set (d : List Int) {i : Nat} (h : i < 32) : (outH d i).set i (hf d i) = outH d (i + 1) := by
  apply List.ext_getElem
  · simp [outH]
  · intro j h1 h2
    simp only [outH, List.length_set, List.length_map, List.length_range, List.getElem_set, List.getElem_map, List.getElem_range] at *
    by_cases e : i = j
    · subst e; rw [if_pos rfl, if_pos (by omega)]
    · rw [if_neg e]
      by_cases g : j < i
      · rw [if_pos g, if_pos (by omega)]
      · rw [if_neg g, if_neg (by omega)]
theorem outH_len (d : List Int) (i : Nat) : (outH d i).length = 32 := by simp [outH]
theorem hf_range {d : List Int} (hd : goodD d) {j : Nat} (hj : j < 32) : 0 ≤ hf d j ∧ hf d j < 256 := by
  have h1 : 0 ≤ d.getD j 0 ∧ d.getD j 0 < 256 := getD_all' hd.2 (by rw [hd.1]; exact hj)
  unfold hf
  split
  · omega
  · have h2 : 0 ≤ d.getD (j - 1) 0 ∧ d.getD (j - 1) 0 < 256 := getD_all' hd.2 (by rw [hd.1]; omega)
    omega
theorem halfD_good {d : List Int} (hd : goodD d) : goodD (halfD d) := by
  refine ⟨outH_len _ _, fun x hx => ?_⟩
  simp only [halfD, outH, List.mem_map, List.mem_range] at hx
  obtain ⟨j, hj, rfl⟩ := hx
  rw [if_pos hj]
  exact hf_range hd hj
theorem halfD_get (d : List Int) {j : Nat} (hj : j < 32) : (halfD d).getD j 0 = hf d j := by
  simp [halfD, outH, List.getD, hj]
theorem halfd_spec (d : List Int) (hd : goodD d) : FnC Try.prog 96 [.ints .u8 32 d] [] (.ints .u8 32 (halfD d)) [] := by
  refine fn0 mix [] 0 1 [.cell 2 25] Try.func96 rfl (by kernel_rfl) (by kernel_rfl) rfl (by kernel_rfl) (by kernel_rfl) (by simp) ?_
  simp (implicitDefEqProofs := false) (disch := omega) only [go_sem, ↓reduceIte]
  refine loop (ι := Nat) 3 (fun i => i ≤ 32) (fun i => [(1, .ref 0 []), (2, .ref 1 []), (3, .ref 2 []), (4, .int .u8 (if i = 0 then 0 else d.getD (i - 1) 0 % 2 * 128)), (5, .int .i64 i)]) (fun i => [(0, .var (.ints .u8 32 d)), (1, .var (.ints .u8 32 (List.replicate 32 0))), (2, .var (.ints .u8 32 (outH d i)))]) (fun i => 32 - i) 0 [(0, 0), (1, 1), (2, 2)] [] (Nat.zero_le _) rfl ?_ ?_ ?_ (fun i hi => ?_)
  · simp (implicitDefEqProofs := false) (disch := omega) only [go_sem, ↓reduceIte]
  · simp (implicitDefEqProofs := false) (disch := omega) only [go_sem, ↓reduceIte]
  · simp (implicitDefEqProofs := false) (disch := omega) only [go_sem, ↓reduceIte]
    rfl
  simp (implicitDefEqProofs := false) (disch := omega) only [go_sem, ↓reduceIte]
  refine brd (fun h => ?_) (fun h => ?_)
  · have hx : 0 ≤ d.getD i 0 ∧ d.getD i 0 < 256 := getD_all' hd.2 (by rw [hd.1]; omega)
    have hr := hf_range hd (j := i) (by omega)
    have hs := outH_set d (i := i) (by omega)
    have hl := outH_len d i
    have hm : (if i + 1 = 0 then (0 : Int) else d.getD (i + 1 - 1) 0 % 2 * 128) = d.getD i 0 % 2 * 128 := by rw [if_neg (by omega), Nat.add_sub_cancel]
    have q2 : (d.getD i 0).tdiv 2 = d.getD i 0 / 2 := Int.tdiv_eq_ediv_of_nonneg hx.1
    have r2 : (d.getD i 0).tmod 2 = d.getD i 0 % 2 := Int.tmod_eq_emod_of_nonneg hx.1
    have w1 : IntKind.u8.wrap (d.getD i 0 / 2) = d.getD i 0 / 2 := wrap_u8 (by omega) (by omega)
    have w2 : IntKind.u8.wrap (d.getD i 0 / 2 + (if i = 0 then 0 else d.getD (i - 1) 0 % 2 * 128)) = hf d i := wrap_u8 hr.1 hr.2
    have w3 : IntKind.u8.wrap (d.getD i 0 % 2 * 128) = d.getD i 0 % 2 * 128 := wrap_u8 (by omega) (by omega)
    simp (implicitDefEqProofs := false) (disch := omega) only [go_sem, ↓reduceIte, q2, r2, w1, w2, w3, hs, hl]
    refine ⟨i + 1, [(0, 0), (1, 1), (2, 2)], [], [], by dsimp only; omega, by dsimp only; omega, rfl, ?_, ?_, ?_⟩ <;> simp (implicitDefEqProofs := false) (disch := omega) only [go_sem, ↓reduceIte, hm, Nat.add_sub_cancel]
  obtain rfl : i = 32 := by omega
  simp (implicitDefEqProofs := false) (disch := omega) only [go_sem, ↓reduceIte]
def bitN (d : List Int) (k : Nat) : Int := (d.getD (31 - k / 8) 0 / 2 ^ (k % 8)) % 2
theorem bitN_half {d : List Int} (hd : goodD d) {k : Nat} (hk : k < 255) : bitN (halfD d) k = bitN d (k + 1) := by
  unfold bitN
  rw [halfD_get d (by omega)]
  have h1 : 0 ≤ d.getD (31 - k / 8) 0 ∧ d.getD (31 - k / 8) 0 < 256 := getD_all' hd.2 (by rw [hd.1]; omega)
  obtain ⟨q, r, hr, hq⟩ : ∃ q r, r < 8 ∧ k = 8 * q + r := ⟨k / 8, k % 8, by omega, by omega⟩
  subst hq
  have e1 : (8 * q + r) / 8 = q := by omega
  have e2 : (8 * q + r) % 8 = r := by omega
  rw [e1] at h1
  rw [e1, e2]
  obtain ⟨c, hc, hc2⟩ : ∃ c : Int, (0 ≤ c ∧ c < 2) ∧ hf d (31 - q) = d.getD (31 - q) 0 / 2 + c * 128 := by
    unfold hf
    split
    · exact ⟨0, by omega, by omega⟩
    · exact ⟨d.getD (31 - q - 1) 0 % 2, by omega, rfl⟩
  by_cases h7 : r = 7
  · subst h7
    rw [show (8 * q + 7 + 1) / 8 = q + 1 by omega, show (8 * q + 7 + 1) % 8 = 0 by omega]
    have e3 : hf d (31 - q) = d.getD (31 - q) 0 / 2 + d.getD (31 - (q + 1)) 0 % 2 * 128 := by
      unfold hf
      rw [if_neg (by omega), Nat.sub_sub]
    rw [e3]
    generalize d.getD (31 - q) 0 = x at *
    generalize d.getD (31 - (q + 1)) 0 = y at *
    rw [show (2 : Int) ^ 7 = 128 by decide, show (2 : Int) ^ 0 = 1 by decide]
    omega
  · rw [show (8 * q + r + 1) / 8 = q by omega, show (8 * q + r + 1) % 8 = r + 1 by omega, hc2]
    generalize d.getD (31 - q) 0 = x at *
    have : r = 0 ∨ r = 1 ∨ r = 2 ∨ r = 3 ∨ r = 4 ∨ r = 5 ∨ r = 6 := by omega
    rcases this with rfl | rfl | rfl | rfl | rfl | rfl | rfl
    · rw [show (2 : Int) ^ 0 = 1 by decide, show (2 : Int) ^ (0 + 1) = 2 by decide]; omega
    · rw [show (2 : Int) ^ 1 = 2 by decide, show (2 : Int) ^ (1 + 1) = 4 by decide]; omega
    · rw [show (2 : Int) ^ 2 = 4 by decide, show (2 : Int) ^ (2 + 1) = 8 by decide]; omega
    · rw [show (2 : Int) ^ 3 = 8 by decide, show (2 : Int) ^ (3 + 1) = 16 by decide]; omega
    · rw [show (2 : Int) ^ 4 = 16 by decide, show (2 : Int) ^ (4 + 1) = 32 by decide]; omega
    · rw [show (2 : Int) ^ 5 = 32 by decide, show (2 : Int) ^ (5 + 1) = 64 by decide]; omega
    · rw [show (2 : Int) ^ 6 = 64 by decide, show (2 : Int) ^ (6 + 1) = 128 by decide]; omega
def halfs (d : List Int) : Nat → List Int
  | 0 => d
  | k + 1 => halfD (halfs d k)
theorem halfs_good {d : List Int} (hd : goodD d) : ∀ k, goodD (halfs d k)
  | 0 => hd
  | k + 1 => halfD_good (halfs_good hd k)
theorem bitN_halfs {d : List Int} (hd : goodD d) : ∀ (i k : Nat), k + i < 256 → bitN (halfs d i) k = bitN d (k + i)
  | 0, _, _ => rfl
  | i + 1, k, h => by
    rw [halfs, bitN_half (halfs_good hd i) (by omega), bitN_halfs hd i (k + 1) (by omega)]
    congr 1
    omega
theorem refbit_spec17 (d : List Int) (k : Int) (hd : goodD d) : FnC Try.prog 47 [.ints .u8 32 d, .int .i64 k] [] (.int .i64 (bitD d k)) [] := by
  refine fn0 mix [] 0 2 [.tmp 4] Try.func47 rfl (by kernel_rfl) (by kernel_rfl) rfl (by kernel_rfl) (by kernel_rfl) (by simp) ?_
  simp (implicitDefEqProofs := false) (disch := omega) only [go_sem, ↓reduceIte]
  refine brd (fun h => ?_) (fun h => ?_)
  · rw [bitD, if_neg (by omega)]
    simp (implicitDefEqProofs := false) (disch := omega) only [go_sem, ↓reduceIte]
  simp (implicitDefEqProofs := false) (disch := omega) only [go_sem, ↓reduceIte]
  refine brd (fun h2 => ?_) (fun h2 => ?_)
  · rw [bitD, if_neg (by omega)]
    simp (implicitDefEqProofs := false) (disch := omega) only [go_sem, ↓reduceIte]
  obtain ⟨k, rfl⟩ := Int.eq_ofNat_of_zero_le (show 0 ≤ k by omega)
  have e0 : bitD d (k : Int) = bitN d k := by
    unfold bitD bitN
    rw [if_pos (by omega), show ((k : Int) / 8).toNat = k / 8 by omega, show ((k : Int) % 8).toNat = k % 8 by omega]
  rw [e0]
  simp (implicitDefEqProofs := false) (disch := omega) only [go_sem, ↓reduceIte]
  refine loop (ι := Nat) 1 (fun i => i ≤ k) (fun i => [(1, .int .i64 k), (2, .ref 0 []), (5, .int .i64 i)]) (fun i => [(0, .var (.ints .u8 32 (halfs d i)))]) (fun i => k - i) 0 [(0, 0)] [] (Nat.zero_le _) rfl ?_ ?_ ?_ (fun i hi => ?_)
  · simp (implicitDefEqProofs := false) (disch := omega) only [go_sem, ↓reduceIte]
  · simp (implicitDefEqProofs := false) (disch := omega) only [go_sem, ↓reduceIte]
  · simp (implicitDefEqProofs := false) (disch := omega) only [go_sem, ↓reduceIte, halfs]
  simp (implicitDefEqProofs := false) (disch := omega) only [go_sem, ↓reduceIte]
  refine brd (fun h3 => ?_) (fun h3 => ?_)
  · have hh := halfd_spec (halfs d i) (halfs_good hd i)
    simp (implicitDefEqProofs := false) (disch := omega) only [go_sem, ↓reduceIte]
    refine call0 hh ?_
    simp (implicitDefEqProofs := false) (disch := omega) only [go_sem, ↓reduceIte]
    refine ⟨i + 1, [(0, 0)], [], [], by dsimp only; omega, by dsimp only; omega, rfl, ?_, ?_, ?_⟩ <;> simp (implicitDefEqProofs := false) (disch := omega) only [go_sem, ↓reduceIte, halfs]
  obtain rfl : i = k := by omega
  have hg := halfs_good hd i
  have hx : 0 ≤ (halfs d i).getD 31 0 ∧ (halfs d i).getD 31 0 < 256 := getD_all' hg.2 (by rw [hg.1]; decide)
  have r2 : ((halfs d i).getD 31 0).tmod 2 = (halfs d i).getD 31 0 % 2 := Int.tmod_eq_emod_of_nonneg hx.1
  have hb := bitN_halfs hd i 0 (by omega)
  rw [Nat.zero_add] at hb
  have hz : bitN (halfs d i) 0 = (halfs d i).getD 31 0 % 2 := by
    show ((halfs d i).getD 31 0 / 2 ^ 0) % 2 = _
    rw [show (2 : Int) ^ 0 = 1 by decide, Int.ediv_one]
  rw [← hb, hz]
  have w1 : IntKind.i64.wrap ((halfs d i).getD 31 0 % 2) = (halfs d i).getD 31 0 % 2 := wrap_i64 (by omega) (by omega)
  simp (implicitDefEqProofs := false) (disch := omega) only [go_sem, ↓reduceIte, r2, w1]
theorem bit18_spec (d : List Int) (k : Nat) (hd : goodD d) (hk : k < 256) : FnC Try.prog 107 [.ints .u8 32 d, .int .i64 k] [] (.bool (kb d k)) [] := by
  have hx : 0 ≤ d.getD (k / 8) 0 ∧ d.getD (k / 8) 0 < 256 := getD_all' hd.2 (by rw [hd.1]; omega)
  have t1 : (k : Int).tdiv 8 = ((k / 8 : Nat) : Int) := by rw [Int.tdiv_eq_ediv_of_nonneg (by omega)]; omega
  have t2 : (k : Int).tmod 8 = ((k % 8 : Nat) : Int) := by rw [Int.tmod_eq_emod_of_nonneg (by omega)]; omega
  have hw8 : IntKind.i64.wrap ((k / 8 : Nat) : Int) = ((k / 8 : Nat) : Int) := wrap_i64 (by omega) (by omega)
  have hi8 : k / 8 < 32 := by omega
  have h08 : (0 : Int) ≤ ((k / 8 : Nat) : Int) := by omega
  have hr : k % 8 < 8 := by omega
  have e0 : kb d k = decide ((d.getD (k / 8) 0 / 2 ^ (k % 8)) % 2 = 1) := rfl
  rw [e0]
  generalize hv : d.getD (k / 8) 0 = x at *
  refine fn0 mix [] 0 2 [.tmp 4] Try.func107 rfl (by kernel_rfl) (by kernel_rfl) rfl (by kernel_rfl) (by kernel_rfl) (by simp) ?_
  simp (implicitDefEqProofs := false) (disch := omega) only [go_sem, ↓reduceIte, t1, hw8, hv]
  refine loop (ι := Nat) 1 (fun i => i ≤ k % 8) (fun i => [(1, .int .i64 k), (5, .int .u8 (x / 2 ^ i)), (6, .int .i64 i)]) (fun i => []) (fun i => k % 8 - i) 0 [] [] (Nat.zero_le _) rfl ?_ ?_ ?_ (fun i hi => ?_)
  · simp (implicitDefEqProofs := false) (disch := omega) only [go_sem, ↓reduceIte]
  · simp (implicitDefEqProofs := false) (disch := omega) only [go_sem, ↓reduceIte]
    rw [show (2 : Int) ^ 0 = 1 by decide, Int.ediv_one]
  · simp (implicitDefEqProofs := false) (disch := omega) only [go_sem, ↓reduceIte]
  have hp2 : (1 : Int) ≤ 2 ^ i := by exact_mod_cast Nat.one_le_two_pow
  have hq : 0 ≤ x / 2 ^ i ∧ x / 2 ^ i < 256 := ⟨Int.ediv_nonneg hx.1 (by omega), Int.lt_of_le_of_lt (Int.ediv_le_self _ hx.1) hx.2⟩
  have q2 : (x / 2 ^ i).tdiv 2 = x / 2 ^ (i + 1) := by rw [Int.tdiv_eq_ediv_of_nonneg hq.1, Int.pow_succ, Int.ediv_ediv_of_nonneg (by omega)]
  have q3 : x / 2 ^ (i + 1) = (x / 2 ^ i) / 2 := by rw [Int.pow_succ, Int.ediv_ediv_of_nonneg (by omega)]
  have w1 : IntKind.u8.wrap (x / 2 ^ (i + 1)) = x / 2 ^ (i + 1) := wrap_u8 (by omega) (by omega)
  simp (implicitDefEqProofs := false) (disch := omega) only [go_sem, ↓reduceIte, t2]
  refine brd (fun h => ?_) (fun h => ?_)
  · simp (implicitDefEqProofs := false) (disch := omega) only [go_sem, ↓reduceIte, q2, w1]
    refine ⟨i + 1, [], [], [], by dsimp only; omega, by dsimp only; omega, rfl, ?_, ?_, ?_⟩ <;> simp (implicitDefEqProofs := false) (disch := omega) only [go_sem, ↓reduceIte]
  obtain rfl : i = k % 8 := by omega
  have r2 : (x / 2 ^ (k % 8)).tmod 2 = (x / 2 ^ (k % 8)) % 2 := Int.tmod_eq_emod_of_nonneg hq.1
  simp (implicitDefEqProofs := false) (disch := omega) only [go_sem, ↓reduceIte, r2]
theorem refwhole_spec (known : List Int) (hk : goodD known) (W : List (List Int)) (L : Nat) (hW : W.length = L) (hL : L ≤ 9223372036854775807) :
    FnC Try.prog 57 [.ints .u8 32 known, .sl (.lst 32 L (W.map dg))] [] (.bool (decide (pops known = L))) [] := by
  have hc := cntK_all hk.1
  rw [← hc]
  refine fn0 mix [] 0 2 [.tmp 4] Try.func57 rfl (by kernel_rfl) (by kernel_rfl) rfl (by kernel_rfl) (by kernel_rfl) (by simp) ?_
  simp (implicitDefEqProofs := false) (disch := omega) only [go_sem, ↓reduceIte]
  refine loop (ι := Nat) 1 (fun i => i ≤ 256) (fun i => [(1, .sl (.lst 32 L (W.map dg))), (2, .ref 0 []), (5, .int .i64 (cntK known i : Nat)), (6, .int .i64 i)]) (fun i => [(0, .var (.ints .u8 32 known))]) (fun i => 256 - i) 0 [(0, 0)] [] (Nat.zero_le _) rfl ?_ ?_ ?_ (fun i hi => ?_)
  · simp (implicitDefEqProofs := false) (disch := omega) only [go_sem, ↓reduceIte]
  · simp (implicitDefEqProofs := false) (disch := omega) only [go_sem, ↓reduceIte, cntK]
  · simp (implicitDefEqProofs := false) (disch := omega) only [go_sem, ↓reduceIte]
  simp (implicitDefEqProofs := false) (disch := omega) only [go_sem, ↓reduceIte]
  refine brd (fun h => ?_) (fun h => ?_)
  · have hb := bit18_spec known i hk (by omega)
    have hm := cntK_mono known (show i ≤ 256 by omega)
    have hl := pops_le hk.2
    rw [← hc, hk.1] at hl
    simp (implicitDefEqProofs := false) (disch := omega) only [go_sem, ↓reduceIte]
    refine call0 hb ?_
    simp (implicitDefEqProofs := false) (disch := omega) only [go_sem, ↓reduceIte]
    refine br (fun hb => ?_) (fun hb => ?_)
    · have hcs : ((cntK known (i + 1) : Nat) : Int) = (cntK known i : Int) + 1 := by rw [cntK, if_pos hb]; omega
      simp (implicitDefEqProofs := false) (disch := omega) only [go_sem, ↓reduceIte]
      refine ⟨i + 1, [(0, 0)], [], [], by dsimp only; omega, by dsimp only; omega, rfl, ?_, ?_, ?_⟩ <;> simp (implicitDefEqProofs := false) (disch := omega) only [go_sem, ↓reduceIte, hcs]
    · have hcs : cntK known (i + 1) = cntK known i := by rw [cntK, if_neg (by rw [hb]; decide), Nat.add_zero]
      simp (implicitDefEqProofs := false) (disch := omega) only [go_sem, ↓reduceIte]
      refine ⟨i + 1, [(0, 0)], [], [], by dsimp only; omega, by dsimp only; omega, rfl, ?_, ?_, ?_⟩ <;> simp (implicitDefEqProofs := false) (disch := omega) only [go_sem, ↓reduceIte, hcs]
  obtain rfl : i = 256 := by omega
  simp (implicitDefEqProofs := false) (disch := omega) only [go_sem, ↓reduceIte]
theorem refclimb18_spec (x index known : List Int) (hx : goodD x) (hi : goodD index) (hk : goodD known) (W : List (List Int)) (L : Nat) (hW : W.length = L) (hL : L ≤ 9223372036854775807) (hg : ∀ d ∈ W, goodD d) (hp : pops known = L) :
    FnC Try.prog 60 [.ints .u8 32 x, .ints .u8 32 index, .ints .u8 32 known, .sl (.lst 32 L (W.map dg))] [] (.ints .u8 32 (climbR index known W x 256)) [] := by
  have hc : cntK known 256 = W.length := by
    have := cntK_all hk.1
    rw [hp] at this
    omega
  refine fn0 mix [] 0 4 [.cell 8 25] Try.func60 rfl (by kernel_rfl) (by kernel_rfl) rfl (by kernel_rfl) (by kernel_rfl) (by simp) ?_
  simp (implicitDefEqProofs := false) (disch := omega) only [go_sem, ↓reduceIte]
  refine callF 1 refempty_spec17 ?_
  simp (implicitDefEqProofs := false) (disch := omega) only [go_sem, ↓reduceIte]
  refine loop (ι := Nat) 5 (fun i => i ≤ 256) (fun i => [(3, .sl (.lst 32 L (W.map dg))), (4, .ref 0 []), (5, .ref 1 []), (6, .ref 2 []), (8, .ref 3 []), (9, .osl 4 [] 32 0 257), (10, .int .i64 (cntK known i : Nat)), (11, .int .i64 i)])
    (fun i => [(0, .var (.ints .u8 32 (climbR index known W x i))), (1, .var (.ints .u8 32 index)), (2, .var (.ints .u8 32 known)), (3, .var (.ints .u8 32 zs)), (4, .row (.lst 32 257 ((empties 257).map dg)))]) (fun i => 256 - i) 0 [(0, 0), (1, 1), (2, 2), (3, 3), (4, 4)] [] (Nat.zero_le _) rfl ?_ ?_ ?_ (fun i hi' => ?_)
  · simp (implicitDefEqProofs := false) (disch := omega) only [go_sem, ↓reduceIte]
  · simp (implicitDefEqProofs := false) (disch := omega) only [go_sem, ↓reduceIte, cntK]
  · simp (implicitDefEqProofs := false) (disch := omega) only [go_sem, ↓reduceIte]
    exact ⟨rfl, rfl⟩
  simp (implicitDefEqProofs := false) (disch := omega) only [go_sem, ↓reduceIte]
  refine brd (fun h => ?_) (fun h => ?_)
  · have g1 : ∀ K, getP ((empties 257).map dg) i K = K (.ints .u8 32 (emptyD i)) := fun K => getP_map (f := dg) (empties_get (n := 257) (i := i) (by omega)) K
    have l1 : ((empties 257).map dg).length = 257 := by rw [List.length_map, empties_len]
    have hb := bit18_spec known i hk (by omega)
    have hb17 := refbit_spec17 index i hi
    have hcs : cntK known (i + 1) = cntK known i + (if kb known i = true then 1 else 0) := rfl
    have hsd : sideD known W i = if kb known i = true then W.getD (cntK known i) zs else emptyD i := rfl
    have hmono := cntK_mono known (show i ≤ 256 by omega)
    have gs := sideD_good hg hc (k := i) (by omega)
    have gx := climbR_good index known W hx i
    have e1 : climbR index known W x (i + 1) = if bitD index i = 0 then nodeL (climbR index known W x i) (sideD known W i) else nodeL (sideD known W i) (climbR index known W x i) := rfl
    simp (implicitDefEqProofs := false) (disch := omega) only [go_sem, ↓reduceIte, ↓g1, l1]
    refine call0 hb ?_
    simp (implicitDefEqProofs := false) (disch := omega) only [go_sem, ↓reduceIte]
    refine br (fun hb => ?_) (fun hb => ?_)
    · rw [if_pos hb] at hcs hsd
      have hlt := cntK_lt (k := i) (by omega) hb
      have g2 : ∀ K, getP (W.map dg) (cntK known i) K = K (.ints .u8 32 (sideD known W i)) := fun K => getP_map (f := dg) (l := W) (i := cntK known i) (a := sideD known W i) (by rw [hsd, List.getD, List.getElem?_eq_getElem (by omega), Option.getD_some]) K
      have hl2 : (W.map dg).length = L := by rw [List.length_map, hW]
      simp (implicitDefEqProofs := false) (disch := omega) only [go_sem, ↓reduceIte, ↓g2, hl2]
      refine call0 hb17 ?_
      simp (implicitDefEqProofs := false) (disch := omega) only [go_sem, ↓reduceIte]
      refine brd (fun h2 => ?_) (fun h2 => ?_)
      · rw [if_pos h2] at e1
        simp (implicitDefEqProofs := false) (disch := omega) only [go_sem, ↓reduceIte]
        refine call0 (refnode_spec17 _ _ gx gs) ?_
        simp (implicitDefEqProofs := false) (disch := omega) only [go_sem, ↓reduceIte]
        refine ⟨i + 1, [(0, 0), (1, 1), (2, 2), (3, 3), (4, 4)], [], [], by dsimp only; omega, by dsimp only; omega, rfl, ?_, ?_, ?_⟩ <;> simp (implicitDefEqProofs := false) (disch := omega) only [go_sem, ↓reduceIte, hcs, e1]
      · rw [if_neg h2] at e1
        simp (implicitDefEqProofs := false) (disch := omega) only [go_sem, ↓reduceIte]
        refine call0 (refnode_spec17 _ _ gs gx) ?_
        simp (implicitDefEqProofs := false) (disch := omega) only [go_sem, ↓reduceIte]
        refine ⟨i + 1, [(0, 0), (1, 1), (2, 2), (3, 3), (4, 4)], [], [], by dsimp only; omega, by dsimp only; omega, rfl, ?_, ?_, ?_⟩ <;> simp (implicitDefEqProofs := false) (disch := omega) only [go_sem, ↓reduceIte, hcs, e1]
    · rw [if_neg (by rw [hb]; decide)] at hcs hsd
      rw [hsd] at gs e1
      simp (implicitDefEqProofs := false) (disch := omega) only [go_sem, ↓reduceIte]
      refine call0 hb17 ?_
      simp (implicitDefEqProofs := false) (disch := omega) only [go_sem, ↓reduceIte]
      refine brd (fun h2 => ?_) (fun h2 => ?_)
      · rw [if_pos h2] at e1
        simp (implicitDefEqProofs := false) (disch := omega) only [go_sem, ↓reduceIte]
        refine call0 (refnode_spec17 _ _ gx gs) ?_
        simp (implicitDefEqProofs := false) (disch := omega) only [go_sem, ↓reduceIte]
        refine ⟨i + 1, [(0, 0), (1, 1), (2, 2), (3, 3), (4, 4)], [], [], by dsimp only; omega, by dsimp only; omega, rfl, ?_, ?_, ?_⟩ <;> simp (implicitDefEqProofs := false) (disch := omega) only [go_sem, ↓reduceIte, hcs, e1]
      · rw [if_neg h2] at e1
        simp (implicitDefEqProofs := false) (disch := omega) only [go_sem, ↓reduceIte]
        refine call0 (refnode_spec17 _ _ gs gx) ?_
        simp (implicitDefEqProofs := false) (disch := omega) only [go_sem, ↓reduceIte]
        refine ⟨i + 1, [(0, 0), (1, 1), (2, 2), (3, 3), (4, 4)], [], [], by dsimp only; omega, by dsimp only; omega, rfl, ?_, ?_, ?_⟩ <;> simp (implicitDefEqProofs := false) (disch := omega) only [go_sem, ↓reduceIte, hcs, e1]
  obtain rfl : i = 256 := by omega
  simp (implicitDefEqProofs := false) (disch := omega) only [go_sem, ↓reduceIte]
end Go.Proofs.Ytclkaibkepaebaa
/- What is shown of an index: that a commitment is there, or that none is. -/
namespace Go.Proofs.Ytclkaibkepaebaa
open Go Go.Sy Go.Proofs.Try
set_option maxRecDepth 100000
set_option maxHeartbeats 8000000
set_option linter.unusedSimpArgs false
set_option linter.unusedVariables false
attribute [go_sem] pl58 pl59
section
variable (root index known : List Int) (hi : goodD index) (hk : goodD known) (W : List (List Int)) (L : Nat) (hW : W.length = L) (hL : L ≤ 9223372036854775807) (hg : ∀ d ∈ W, goodD d)
include hi hk hW hL hg in
theorem leads_spec (x : List Int) (hx : goodD x) : FnC Try.prog 108 [.ints .u8 32 x, .ints .u8 32 index, .ints .u8 32 root, .agg [.ints .u8 32 known, .sl (.lst 32 L (W.map dg))]] [] (.bool (decide (pops known = L ∧ climbR index known W x 256 = root))) [] := by
  by_cases hp : pops known = L
  · have e : decide (pops known = L ∧ climbR index known W x 256 = root) = decide (climbR index known W x 256 = root) := by simp [hp]
    rw [e]
    refine fn0 mix [] 0 4 [.tmp 8] Try.func108 rfl (by kernel_rfl) (by kernel_rfl) rfl (by kernel_rfl) (by kernel_rfl) (by simp) ?_
    simp (implicitDefEqProofs := false) (disch := omega) only [go_sem, ↓reduceIte]
    refine call0 (climb_ok x index known hx hi hk W L hW hL hg hp) ?_
    simp (implicitDefEqProofs := false) (disch := omega) only [go_sem, ↓reduceIte]
  · rw [decide_eq_false (fun h => hp h.1)]
    refine fn0 mix [] 0 4 [.tmp 8] Try.func108 rfl (by kernel_rfl) (by kernel_rfl) rfl (by kernel_rfl) (by kernel_rfl) (by simp) ?_
    simp (implicitDefEqProofs := false) (disch := omega) only [go_sem, ↓reduceIte]
    refine call0 (climb_bad x index known hk W L hW hL hp) ?_
    simp (implicitDefEqProofs := false) (disch := omega) only [go_sem, ↓reduceIte]
include hi hk hW hL hg in
theorem present_spec (c : List Int) (hc : goodD c) : FnC Try.prog 58 [.ints .u8 32 root, .ints .u8 32 index, .ints .u8 32 c, .agg [.ints .u8 32 known, .sl (.lst 32 L (W.map dg))]] [] (.bool (decide (pops known = L ∧ climbR index known W (leafP index c) 256 = root))) [] := by
  refine fn0 mix pl58 0 4 [.tmp 8] Try.func58 rfl (by kernel_rfl) (by kernel_rfl) rfl (by kernel_rfl) (by kernel_rfl) (by simp) ?_
  simp (implicitDefEqProofs := false) (disch := omega) only [go_sem, ↓reduceIte]
  refine call0 (leaf_spec17 index c hi hc) ?_
  simp (implicitDefEqProofs := false) (disch := omega) only [go_sem, ↓reduceIte]
  refine call0 (leads_spec root index known hi hk W L hW hL hg (leafP index c) (leafP_good _ _)) ?_
  simp (implicitDefEqProofs := false) (disch := omega) only [go_sem, ↓reduceIte]
include hi hk hW hL hg in
theorem absent_spec : FnC Try.prog 59 [.ints .u8 32 root, .ints .u8 32 index, .agg [.ints .u8 32 known, .sl (.lst 32 L (W.map dg))]] [] (.bool (decide (pops known = L ∧ climbR index known W (emptyD 0) 256 = root))) [] := by
  have g1 : ∀ K, getP ((empties 257).map dg) 0 K = K (.ints .u8 32 (emptyD 0)) := fun K => getP_map (f := dg) (empties_get (n := 257) (i := 0) (by omega)) K
  have l1 : ((empties 257).map dg).length = 257 := by rw [List.length_map, empties_len]
  refine fn0 mix pl59 0 3 [.tmp 6] Try.func59 rfl (by kernel_rfl) (by kernel_rfl) rfl (by kernel_rfl) (by kernel_rfl) (by simp) ?_
  simp (implicitDefEqProofs := false) (disch := omega) only [go_sem, ↓reduceIte]
  refine callF 1 empty17_spec ?_
  simp (implicitDefEqProofs := false) (disch := omega) only [go_sem, ↓reduceIte, ↓g1, l1]
  refine call0 (leads_spec root index known hi hk W L hW hL hg (emptyD 0) (emptyD_good _)) ?_
  simp (implicitDefEqProofs := false) (disch := omega) only [go_sem, ↓reduceIte]
end
end Go.Proofs.Ytclkaibkepaebaa
