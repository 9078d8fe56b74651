/- The climber of the package hyper; the contract of Sign. -/
import Derived.Test.YtclkaibkepaebaaHyper
import Derived.Test.YtclkaibkepaebaaPack
namespace Go.Proofs.Ytclkaibkepaebaa
open Go Go.Sy Go.Proofs.Try
set_option maxRecDepth 100000
set_option maxHeartbeats 8000000
set_option linter.unusedSimpArgs false
set_option linter.unusedVariables false
attribute [go_sem] pl18 pl111
/-- The place of a layer, among all leaves of the layer. -/
def atN (n idx : Nat) : Nat → Nat
  | 0 => idx
  | k + 1 => atN n idx k / pw n
theorem atN_le (n idx : Nat) : ∀ k, atN n idx k ≤ idx
  | 0 => Nat.le_refl _
  | k + 1 => Nat.le_trans (Nat.div_le_self _ _) (atN_le n idx k)
/-- A climber at a layer. -/
def clA (lay tree leaf : Int) (a : Int) (n : Nat) : AV := .agg [.agg [.int .u32 lay, .int .u64 tree, .int .i64 leaf], .agg [.int .i64 a, .int .i64 n]]
theorem and_pw {n x : Nat} (h : n ≤ 4) (hx : x ≤ 65536) : iand .i64 (x : Int) ((pw n : Int) - 1) = ((x % pw n : Nat) : Int) := by
  have hp : (pw n : Int) = (2 : Int) ^ n := by simp [pw]
  rw [iand_mask (k := .i64) n (by rw [hp]) (by show n < 64; omega) (by omega) (by show (x : Int) < 2 ^ 64; omega), ← hp, Int.natCast_emod]
theorem to_spec (lay x y z a : Int) (n v : Nat) (hn : 1 ≤ n) (h4 : n ≤ 4) (hv : v ≤ 65536) : FnC Try.prog 111 [.ref 0 [], .int .u32 lay, .int .i64 v]
    [(0, .var (.agg [.agg [.int .u32 x, .int .u64 y, .int .i64 z], .agg [.int .i64 a, .int .i64 n]]))] (.tup [])
    [(0, .var (.agg [.agg [.int .u32 lay, .int .u64 ((v / pw n : Nat) : Int), .int .i64 ((v % pw n : Nat) : Int)], .agg [.int .i64 a, .int .i64 n]]))] := by
  have hsh : ishl .i64 1 n = (pw n : Int) := by
    obtain rfl | rfl | rfl | rfl : n = 1 ∨ n = 2 ∨ n = 3 ∨ n = 4 := by omega
    all_goals decide
  have hsr : ishr .i64 (v : Int) n = ((v / pw n : Nat) : Int) := shr_nat v n (by omega)
  have hand := and_pw (n := n) (x := v) h4 hv
  have hp4 : pw n ≤ pw 4 := pw_le h4
  have hp5 : pw 4 = 16 := rfl
  have hpp := pw_pos n
  have hd : v / pw n ≤ v := Nat.div_le_self _ _
  generalize v / pw n = q at *
  generalize v % pw n = r at *
  refine fnN mix pl111 1 3 [] Try.func111 rfl (by kernel_rfl) (by kernel_rfl) rfl (by kernel_rfl) (by kernel_rfl) (by simp) ?_
  simp (implicitDefEqProofs := false) (disch := omega) only [go_sem, ↓reduceIte, hsh, hsr, hand]
  refine ⟨[(0, 0)], [], [], rfl, ?_, ?_, ?_⟩ <;> simp (implicitDefEqProofs := false) (disch := omega) only [go_sem, ↓reduceIte]
theorem begin_spec (a : Int) (n v : Nat) (hn : 1 ≤ n) (h4 : n ≤ 4) (hv : v ≤ 65536) : FnC Try.prog 67 [.agg [.int .i64 a, .int .i64 n], .int .i64 v] [] (.ref 0 [])
    [(0, .var (.agg [.agg [.int .u32 0, .int .u64 ((v / pw n : Nat) : Int), .int .i64 ((v % pw n : Nat) : Int)], .agg [.int .i64 a, .int .i64 n]]))] := by
  refine fnN mix [] 0 2 [.tmp 4] Try.func67 rfl (by kernel_rfl) (by kernel_rfl) rfl (by kernel_rfl) (by kernel_rfl) (by simp) ?_
  simp (implicitDefEqProofs := false) (disch := omega) only [go_sem, ↓reduceIte]
  refine callG false [(0, 1)] [(0, 1)] 2 (to_spec 0 0 0 0 a n v hn h4 hv) ?_ ?_
  · simp [keys]
  simp (implicitDefEqProofs := false) (disch := omega) only [go_sem, ↓reduceIte]
  refine ⟨[(0, 1)], [], [], rfl, ?_, ?_, ?_⟩ <;> simp (implicitDefEqProofs := false) (disch := omega) only [go_sem, ↓reduceIte]
def plUp : List (Nat × Plan) := [(0, [(0, [], none), (1, [0], none), (2, [0], none), (3, [0], none), (4, [0], none), (5, [0], none), (6, [0], none), (7, [0, 1, 2, 3, 4, 5, 6], none), (8, [0, 1, 2, 3, 4, 5, 6], none), (9, [0, 1, 2, 3, 4, 5, 6], none), (10, [0, 1, 2, 3, 4, 5, 6], none), (11, [0, 1, 2, 3, 4, 5, 6], none), (12, [0, 1, 2, 3, 4, 5, 6], none), (13, [], some [2, 8, 14])])]
attribute [go_sem] plUp
theorem up_spec11 (k a z : Int) (n t : Nat) (hn : 1 ≤ n) (h4 : n ≤ 4) (hv : t ≤ 65536) (hk : 0 ≤ k ∧ k < 100) : FnC Try.prog 71 [.ref 0 []]
    [(0, .var (.agg [.agg [.int .u32 k, .int .u64 t, .int .i64 z], .agg [.int .i64 a, .int .i64 n]]))] (.tup [])
    [(0, .var (.agg [.agg [.int .u32 (k + 1), .int .u64 ((t / pw n : Nat) : Int), .int .i64 ((t % pw n : Nat) : Int)], .agg [.int .i64 a, .int .i64 n]]))] := by
  refine fnN mix plUp 1 1 [] Try.func71 rfl (by kernel_rfl) (by kernel_rfl) rfl (by kernel_rfl) (by kernel_rfl) (by simp) ?_
  simp (implicitDefEqProofs := false) (disch := omega) only [go_sem, ↓reduceIte]
  refine callG false [(0, 0)] [(0, 0)] 1 (to_spec (k + 1) k t z a n t hn h4 hv) ?_ ?_
  · simp [keys]
  simp (implicitDefEqProofs := false) (disch := omega) only [go_sem, ↓reduceIte]
  refine ⟨[(0, 0)], [], [], rfl, ?_, ?_, ?_⟩ <;> simp (implicitDefEqProofs := false) (disch := omega) only [go_sem, ↓reduceIte]
theorem spot_spec (k t : Int) (f : Int) (hf : 0 ≤ f ∧ f < 4294967296) : FnC Try.prog 70 [.agg [.int .u32 k, .int .u64 t, .int .i64 f]] [] (.ints .u32 8 (base k t 0 f)) [] := by
  refine fn0 mix [] 0 1 [.cell 2 116] Try.func70 rfl (by kernel_rfl) (by kernel_rfl) rfl (by kernel_rfl) (by kernel_rfl) (by simp) ?_
  simp (implicitDefEqProofs := false) (disch := omega) only [go_sem, ↓reduceIte]
  refine call0 (ots_spec k t f) ?_
  simp (implicitDefEqProofs := false) (disch := omega) only [go_sem, ↓reduceIte]
theorem told_spec (shape : AV) (a b : Int) (r root pub : List Int) (index : Int) (ps : List (List Int)) (hr : goodD r) (ht : goodD root) (hp : ∀ p ∈ ps, ∀ x ∈ p, 0 ≤ x ∧ x < 256) (hc : (cat ps).length ≤ 100000) (hps : ps.length ≤ 100000) (hi : 0 ≤ index ∧ index < 1000000) :
    FnC Try.prog 66 [.agg [.agg [.int .i64 a, .int .i64 b], .ints .u8 32 root, .ints .u8 32 pub], .ints .u8 32 r, .int .i64 index, .sl (.lst 1 ps.length (ps.map bsl))] [] (.ints .u8 32 (msgD r root index (cat ps))) [] := by
  refine fn0 mix [] 0 4 [.cell 8 25] Try.func66 rfl (by kernel_rfl) (by kernel_rfl) rfl (by kernel_rfl) (by kernel_rfl) (by simp) ?_
  simp (implicitDefEqProofs := false) (disch := omega) only [go_sem, ↓reduceIte]
  refine call0 (message_spec r root index ps hr.1 hr.2 ht.1 ht.2 hp hc hps) ?_
  simp (implicitDefEqProofs := false) (disch := omega) only [go_sem, ↓reduceIte]
/-- The roots, from layer to layer. -/
def rootK (seed pub : List Int) (n idx : Nat) (k : Nat) : List Int := treeD (leafD pub seed k (atN n idx (k + 1))) pub k (atN n idx (k + 1)) n 0
def mK (seed pub m : List Int) (n idx : Nat) : Nat → List Int
  | 0 => m
  | k + 1 => rootK seed pub n idx k
def partK (seed pub m : List Int) (n idx k : Nat) : Part :=
  (rowN (signD (mK seed pub m n idx k) seed pub (base k (atN n idx (k + 1)) 0 (atN n idx k % pw n : Nat))) 67, wayD (leafD pub seed k (atN n idx (k + 1))) pub k (atN n idx (k + 1)) (atN n idx k % pw n) n)
def partsK (seed pub m : List Int) (n idx : Nat) : Nat → List Part
  | 0 => []
  | k + 1 => partsK seed pub m n idx k ++ [partK seed pub m n idx k]
theorem partsK_len (seed pub m : List Int) (n idx : Nat) : ∀ k, (partsK seed pub m n idx k).length = k
  | 0 => rfl
  | k + 1 => by simp [partsK, partsK_len seed pub m n idx k]
theorem rootK_good (seed pub : List Int) (n idx k : Nat) : goodD (rootK seed pub n idx k) := treeD_good (leafD_good pub _ _ seed) _ _ _ _ _
theorem mK_good (seed pub : List Int) {m : List Int} (hm : goodD m) (n idx : Nat) : ∀ k, goodD (mK seed pub m n idx k)
  | 0 => hm
  | k + 1 => rootK_good _ _ _ _ _
def rD (key : List Int) (idx : Int) : List Int := ofD 3 key (be idx 32)
theorem rD_good (key : List Int) (idx : Int) : goodD (rD key idx) := ofD_good _ _ _
def outA : Nat → AV
  | 0 => .nils
  | k + 1 => .osl 6 [] 2 0 (k + 1)
def outO (seed pub m : List Int) (n idx : Nat) : Nat → OO
  | 0 => []
  | k + 1 => [(6, .row (.lst 2 (k + 1) ((partsK seed pub m n idx (k + 1)).map pt)))]
section
variable (seed key pub root pub' : List Int) (hs : goodD seed) (hk : goodD key) (hp : goodD pub) (ht : goodD root)
include hs hk hp ht in
theorem sign_spec (a n idx : Nat) (ps : List (List Int)) (ha : 1 ≤ a ∧ a ≤ 4) (hn : 1 ≤ n ∧ n ≤ 4) (hi : idx < manyD a n) (hps : ∀ p ∈ ps, ∀ x ∈ p, 0 ≤ x ∧ x < 256) (hc : (cat ps).length ≤ 100000) (hpl : ps.length ≤ 100000) :
    FnC Try.prog 18 [.agg [.agg [.int .i64 a, .int .i64 n], .ints .u8 32 root, .ints .u8 32 pub'], .agg [.ints .u8 32 seed, .ints .u8 32 key, .ints .u8 32 pub], .int .i64 idx, .sl (.lst 1 ps.length (ps.map bsl))] []
      (.tup [.agg [.int .i64 idx, .ints .u8 32 (rD key idx), .osl 0 [] 2 0 a], .int .i64 0]) [(0, .row (.lst 2 a ((partsK seed pub (msgD (rD key idx) root idx (cat ps)) n idx a).map pt)))] := by
  have hr : rightP a n := by unfold rightP; omega
  have hm6 := manyD_le (a : Int) n
  refine fnN mix pl18 0 4 [.cell 8 36, .tmp 9] Try.func18 rfl (by kernel_rfl) (by kernel_rfl) rfl (by kernel_rfl) (by kernel_rfl) (by simp) ?_
  simp (implicitDefEqProofs := false) (disch := omega) only [go_sem, ↓reduceIte]
  refine call0 (right_spec11 a n) ?_
  rw [decide_eq_true hr]
  simp (implicitDefEqProofs := false) (disch := omega) only [go_sem, ↓reduceIte]
  refine brd (fun h => by omega) (fun h => ?_)
  simp (implicitDefEqProofs := false) (disch := omega) only [go_sem, ↓reduceIte]
  refine call0 (many_spec a n) ?_
  simp (implicitDefEqProofs := false) (disch := omega) only [go_sem, ↓reduceIte]
  refine brd (fun h => by omega) (fun h => ?_)
  simp (implicitDefEqProofs := false) (disch := omega) only [go_sem, ↓reduceIte]
  refine callF 1 (number_spec idx 32 32 rfl) ?_
  simp (implicitDefEqProofs := false) (disch := omega) only [go_sem, ↓reduceIte]
  refine callB (prf_spec key (be idx 32) 32 hk.1 (be_len _ _) (by decide) hk.2 (be_mem _ _)) ?_ ?_
  · simp (implicitDefEqProofs := false) (disch := omega) only [go_sem, ↓reduceIte]
  have er : ofD 3 key (be idx 32) = rD key idx := rfl
  rw [er]
  simp (implicitDefEqProofs := false) (disch := omega) only [go_sem, ↓reduceIte]
  refine call0 (told_spec .nils a n (rD key idx) root pub' idx ps (rD_good _ _) ht hps hc hpl (by omega)) ?_
  simp (implicitDefEqProofs := false) (disch := omega) only [go_sem, ↓reduceIte]
  refine callF 1 (begin_spec a n idx hn.1 hn.2 (by omega)) ?_
  simp (implicitDefEqProofs := false) (disch := omega) only [go_sem, ↓reduceIte]
  generalize hM : msgD (rD key idx) root idx (cat ps) = M
  have hMg : goodD M := by rw [← hM]; exact ofD_good _ _ _
  refine loop (ι := Nat) 7 (fun k => k ≤ a) (fun k => [(4, .ref 0 []), (5, .ref 1 []), (8, .ref 2 []), (9, .int .i64 0), (10, .ref 3 []), (11, .ref 4 []), (12, .ref 5 []), (53, .int .i64 a), (54, .int .i64 k)])
    (fun k => [(0, .var (.agg [.agg [.int .i64 a, .int .i64 n], .ints .u8 32 root, .ints .u8 32 pub'])), (1, .var (.agg [.ints .u8 32 seed, .ints .u8 32 key, .ints .u8 32 pub])), (2, .var (.agg [.int .i64 0, .ints .u8 32 (List.replicate 32 0), .nils])),
      (3, .var (.agg [.int .i64 idx, .ints .u8 32 (rD key idx), outA k])), (4, .var (.ints .u8 32 (mK seed pub M n idx k))), (5, .var (.agg [.agg [.int .u32 k, .int .u64 (atN n idx (k + 1)), .int .i64 ((atN n idx k % pw n : Nat) : Int)], .agg [.int .i64 a, .int .i64 n]]))] ++ outO seed pub M n idx k)
    (fun k => a - k) 0 [(0, 0), (1, 1), (2, 2), (3, 4), (4, 5), (5, 6)] [] (Nat.zero_le _) rfl ?_ ?_ ?_ (fun k hk => ?_)
  · simp (implicitDefEqProofs := false) (disch := omega) only [go_sem, ↓reduceIte]
  · simp (implicitDefEqProofs := false) (disch := omega) only [go_sem, ↓reduceIte]
  · simp (implicitDefEqProofs := false) (disch := omega) only [go_sem, ↓reduceIte, outA, outO, List.cons_append, List.nil_append, List.append_nil, mK, atN]
  have hle := atN_le n idx (k + 1)
  have hle0 := atN_le n idx k
  have hpp := pw_pos n
  have hp4 : pw n ≤ pw 4 := pw_le hn.2
  have hp5 : pw 4 = 16 := rfl
  have hlf : atN n idx k % pw n < pw n := Nat.mod_lt _ (by omega)
  have hmk := mK_good seed pub hMg n idx k
  have hb := build_spec pub seed key k (atN n idx (k + 1) : Nat) hp hs (by omega) n (atN n idx k % pw n) hn.1 hn.2 hlf
  have hbw := base_good (l := (k : Int)) (k := 0) (f := ((atN n idx k % pw n : Nat) : Int)) (atN n idx (k + 1) : Nat) (by omega) (by decide) (by omega)
  have hws := wsign_spec seed pub (mK seed pub M n idx k) _ hs hp hmk hbw
  have hso := spot_spec (k : Int) (atN n idx (k + 1) : Nat) ((atN n idx k % pw n : Nat) : Int) (by omega)
  have hup := up_spec11 (k : Int) a ((atN n idx k % pw n : Nat) : Int) n (atN n idx (k + 1)) hn.1 hn.2 (by omega) (by omega)
  have e1 : treeD (leafD pub seed k (atN n idx (k + 1) : Nat)) pub k (atN n idx (k + 1) : Nat) n 0 = mK seed pub M n idx (k + 1) := rfl
  have e2 : atN n idx (k + 1) / pw n = atN n idx (k + 1 + 1) := rfl
  have ep : (partsK seed pub M n idx (k + 1)).map pt = (partsK seed pub M n idx k).map pt ++ [pt (partK seed pub M n idx k)] := by rw [partsK, List.map_append]; rfl
  have eq : pt (partK seed pub M n idx k) = .agg [.sl (.lst 32 67 ((rowN (signD (mK seed pub M n idx k) seed pub (base k (atN n idx (k + 1) : Nat) 0 ((atN n idx k % pw n : Nat) : Int))) 67).map dg)), .sl (.lst 32 n ((wayD (leafD pub seed k (atN n idx (k + 1) : Nat)) pub k (atN n idx (k + 1) : Nat) (atN n idx k % pw n) n).map dg))] := by
    unfold pt partK; dsimp only; rw [rowN_len, wayD_len]
  rw [e1] at hb
  rw [e2] at hup
  obtain _ | k := k
  · simp (implicitDefEqProofs := false) (disch := omega) only [go_sem, ↓reduceIte, outA, outO, List.cons_append, List.nil_append, List.append_nil]
    refine brd (fun h => ?_) (fun h => by omega)
    simp (implicitDefEqProofs := false) (disch := omega) only [go_sem, ↓reduceIte]
    refine callF 1 hb ?_
    simp (implicitDefEqProofs := false) (disch := omega) only [go_sem, ↓reduceIte]
    refine call0 hso ?_
    simp (implicitDefEqProofs := false) (disch := omega) only [go_sem, ↓reduceIte]
    refine callF 1 hws ?_
    simp (implicitDefEqProofs := false) (disch := omega) only [go_sem, ↓reduceIte]
    refine callG false [(0, 5)] [(0, 5)] 13 hup ?_ ?_
    · simp [keys]
    simp (implicitDefEqProofs := false) (disch := omega) only [go_sem, ↓reduceIte]
    have p1 : (partsK seed pub M n idx 1).map pt = [pt (partK seed pub M n idx 0)] := rfl
    simp only [Int.natCast_zero, Nat.zero_add] at eq
    refine ⟨1, [(0, 0), (1, 1), (2, 2), (3, 3), (4, 4), (5, 5), (6, 11)], [], [], by dsimp only; omega, by dsimp only; omega, rfl, ?_, ?_, ?_⟩ <;> simp (implicitDefEqProofs := false) (disch := omega) only [go_sem, ↓reduceIte, outA, outO, p1, eq]
  · simp (implicitDefEqProofs := false) (disch := omega) only [go_sem, ↓reduceIte, outA, outO, List.cons_append, List.nil_append, List.append_nil]
    refine brd (fun h => ?_) (fun h => ?_)
    · simp (implicitDefEqProofs := false) (disch := omega) only [go_sem, ↓reduceIte]
      refine callF 1 hb ?_
      simp (implicitDefEqProofs := false) (disch := omega) only [go_sem, ↓reduceIte]
      refine call0 hso ?_
      simp (implicitDefEqProofs := false) (disch := omega) only [go_sem, ↓reduceIte]
      refine callF 1 hws ?_
      simp (implicitDefEqProofs := false) (disch := omega) only [go_sem, ↓reduceIte]
      refine callG false [(0, 5)] [(0, 5)] 13 hup ?_ ?_
      · simp [keys]
      simp (implicitDefEqProofs := false) (disch := omega) only [go_sem, ↓reduceIte]
      refine ⟨k + 1 + 1, [(0, 0), (1, 1), (2, 2), (3, 3), (4, 4), (5, 5), (6, 11)], [], [], by dsimp only; omega, by dsimp only; omega, rfl, ?_, ?_, ?_⟩ <;> simp (implicitDefEqProofs := false) (disch := omega) only [go_sem, ↓reduceIte, outA, outO, ep, eq]
    · obtain rfl : a = k + 1 := by omega
      simp (implicitDefEqProofs := false) (disch := omega) only [go_sem, ↓reduceIte]
      refine ⟨[(0, 6)], [], [], rfl, ?_, ?_, ?_⟩ <;> simp (implicitDefEqProofs := false) (disch := omega) only [go_sem, ↓reduceIte, hM]
end
end Go.Proofs.Ytclkaibkepaebaa
