/- Keys of the package hyper, and of planchetref11; the walk of HyperKeys. -/
import Derived.Test.YthhlielliopegaaGreatTree5
import Derived.Test.YthhlielliopegaaGreatSig
import Derived.Test.YthhlielliopegaaGreatPack
import Derived.Test.YthhlielliopegaaGreatKeyed
import Derived.Test.YthhlielliopegaaGreatRef01
namespace Go.Proofs.YthhlielliopegaaGreat
open Go Go.Sy Go.Proofs.Tryz
set_option maxRecDepth 100000
set_option maxHeartbeats 8000000
set_option linter.unusedSimpArgs false
set_option linter.unusedVariables false
attribute [go_sem] pl44
def smallP (a b most : Int) : Prop := rightP a b → a * 2 ^ b.toNat ≤ most
instance (a b most : Int) : Decidable (smallP a b most) := by unfold smallP; infer_instance
def keyR (seed pub : List Int) (a b : Int) : List Int := treeD (leafD pub seed (a - 1) 0) pub (a - 1) 0 b.toNat 0
section
variable (seed key pub : List Int) (a b : Int) (hs : goodD seed) (hp : goodD pub)
end
theorem verify_zero_spec : FnC Tryz.prog 44 [.agg [.agg [.int .i64 0, .int .i64 0], .ints .u8 32 zs, .ints .u8 32 zs], .agg [.int .i64 0, .ints .u8 32 zs, .nils], .nils] [] (.bool false) [] := by
  have z1 : List.replicate 32 (0 : Int) = zs := rfl
  refine fn0 mix pl44 0 3 [.tmp 6] Tryz.func44 rfl (by kernel_rfl) (by kernel_rfl) rfl (by kernel_rfl) (by kernel_rfl) (by simp) ?_
  simp (implicitDefEqProofs := false) (disch := omega) only [go_sem, ↓reduceIte, z1]
  refine call0 (many_spec 0 0) ?_
  rw [show manyD 0 0 = 0 by decide]
  simp (implicitDefEqProofs := false) (disch := omega) only [go_sem, ↓reduceIte, z1]
end Go.Proofs.YthhlielliopegaaGreat
/- The climber of the package hyper; the contract of Sign. -/
namespace Go.Proofs.YthhlielliopegaaGreat
open Go Go.Sy Go.Proofs.Tryz
set_option maxRecDepth 100000
set_option maxHeartbeats 8000000
set_option linter.unusedSimpArgs false
set_option linter.unusedVariables false
attribute [go_sem] pl98
/-- The place of a layer, among all leaves of the layer. -/
def atN (n idx : Nat) : Nat → Nat
  | 0 => idx
  | k + 1 => atN n idx k / pw n
theorem atN_le (n idx : Nat) : ∀ k, atN n idx k ≤ idx
  | 0 => Nat.le_refl _
  | k + 1 => Nat.le_trans (Nat.div_le_self _ _) (atN_le n idx k)
/-- A climber at a layer. -/
def clA (lay tree leaf : Int) (a : Int) (n : Nat) : AV := .agg [.agg [.int .u32 lay, .int .u64 tree, .int .i64 leaf], .agg [.int .i64 a, .int .i64 n]]
theorem and_pw {n x : Nat} (h : n ≤ 4) (hx : x ≤ 65536) : iand .i64 (x : Int) ((pw n : Int) - 1) = ((x % pw n : Nat) : Int) := by
  have hp : (pw n : Int) = (2 : Int) ^ n := by simp [pw]
  rw [iand_mask (k := .i64) n (by rw [hp]) (by show n < 64; omega) (by omega) (by show (x : Int) < 2 ^ 64; omega), ← hp, Int.natCast_emod]
theorem to_spec (lay x y z a : Int) (n v : Nat) (hn : 1 ≤ n) (h4 : n ≤ 4) (hv : v ≤ 65536) : FnC Tryz.prog 98 [.ref 0 [], .int .u32 lay, .int .i64 v]
    [(0, .var (.agg [.agg [.int .u32 x, .int .u64 y, .int .i64 z], .agg [.int .i64 a, .int .i64 n]]))] (.tup [])
    [(0, .var (.agg [.agg [.int .u32 lay, .int .u64 ((v / pw n : Nat) : Int), .int .i64 ((v % pw n : Nat) : Int)], .agg [.int .i64 a, .int .i64 n]]))] := by
  have hsh : ishl .i64 1 n = (pw n : Int) := by
    obtain rfl | rfl | rfl | rfl : n = 1 ∨ n = 2 ∨ n = 3 ∨ n = 4 := by omega
    all_goals decide
  have hsr : ishr .i64 (v : Int) n = ((v / pw n : Nat) : Int) := shr_nat v n (by omega)
  have hand := and_pw (n := n) (x := v) h4 hv
  have hp4 : pw n ≤ pw 4 := pw_le h4
  have hp5 : pw 4 = 16 := rfl
  have hpp := pw_pos n
  have hd : v / pw n ≤ v := Nat.div_le_self _ _
  generalize v / pw n = q at *
  generalize v % pw n = r at *
  refine fnN mix pl98 1 3 [] Tryz.func98 rfl (by kernel_rfl) (by kernel_rfl) rfl (by kernel_rfl) (by kernel_rfl) (by simp) ?_
  simp (implicitDefEqProofs := false) (disch := omega) only [go_sem, ↓reduceIte, hsh, hsr, hand]
  refine ⟨[(0, 0)], [], [], rfl, ?_, ?_, ?_⟩ <;> simp (implicitDefEqProofs := false) (disch := omega) only [go_sem, ↓reduceIte]
theorem begin_spec (a : Int) (n v : Nat) (hn : 1 ≤ n) (h4 : n ≤ 4) (hv : v ≤ 65536) : FnC Tryz.prog 75 [.agg [.int .i64 a, .int .i64 n], .int .i64 v] [] (.ref 0 [])
    [(0, .var (.agg [.agg [.int .u32 0, .int .u64 ((v / pw n : Nat) : Int), .int .i64 ((v % pw n : Nat) : Int)], .agg [.int .i64 a, .int .i64 n]]))] := by
  refine fnN mix [] 0 2 [.tmp 4] Tryz.func75 rfl (by kernel_rfl) (by kernel_rfl) rfl (by kernel_rfl) (by kernel_rfl) (by simp) ?_
  simp (implicitDefEqProofs := false) (disch := omega) only [go_sem, ↓reduceIte]
  refine callG false [(0, 1)] [(0, 1)] 2 (to_spec 0 0 0 0 a n v hn h4 hv) ?_ ?_
  · simp [keys]
  simp (implicitDefEqProofs := false) (disch := omega) only [go_sem, ↓reduceIte]
  refine ⟨[(0, 1)], [], [], rfl, ?_, ?_, ?_⟩ <;> simp (implicitDefEqProofs := false) (disch := omega) only [go_sem, ↓reduceIte]
def plUp : List (Nat × Plan) := [(0, [(0, [], none), (1, [0], none), (2, [0], none), (3, [0], none), (4, [0], none), (5, [0], none), (6, [0], none), (7, [0, 1, 2, 3, 4, 5, 6], none), (8, [0, 1, 2, 3, 4, 5, 6], none), (9, [0, 1, 2, 3, 4, 5, 6], none), (10, [0, 1, 2, 3, 4, 5, 6], none), (11, [0, 1, 2, 3, 4, 5, 6], none), (12, [0, 1, 2, 3, 4, 5, 6], none), (13, [], some [2, 8, 14])])]
attribute [go_sem] plUp
theorem up_spec11 (k a z : Int) (n t : Nat) (hn : 1 ≤ n) (h4 : n ≤ 4) (hv : t ≤ 65536) (hk : 0 ≤ k ∧ k < 100) : FnC Tryz.prog 77 [.ref 0 []]
    [(0, .var (.agg [.agg [.int .u32 k, .int .u64 t, .int .i64 z], .agg [.int .i64 a, .int .i64 n]]))] (.tup [])
    [(0, .var (.agg [.agg [.int .u32 (k + 1), .int .u64 ((t / pw n : Nat) : Int), .int .i64 ((t % pw n : Nat) : Int)], .agg [.int .i64 a, .int .i64 n]]))] := by
  refine fnN mix plUp 1 1 [] Tryz.func77 rfl (by kernel_rfl) (by kernel_rfl) rfl (by kernel_rfl) (by kernel_rfl) (by simp) ?_
  simp (implicitDefEqProofs := false) (disch := omega) only [go_sem, ↓reduceIte]
  refine callG false [(0, 0)] [(0, 0)] 1 (to_spec (k + 1) k t z a n t hn h4 hv) ?_ ?_
  · simp [keys]
  simp (implicitDefEqProofs := false) (disch := omega) only [go_sem, ↓reduceIte]
  refine ⟨[(0, 0)], [], [], rfl, ?_, ?_, ?_⟩ <;> simp (implicitDefEqProofs := false) (disch := omega) only [go_sem, ↓reduceIte]
theorem spot_spec (k t : Int) (f : Int) (hf : 0 ≤ f ∧ f < 4294967296) : FnC Tryz.prog 100 [.agg [.int .u32 k, .int .u64 t, .int .i64 f]] [] (.ints .u32 8 (base k t 0 f)) [] := by
  refine fn0 mix [] 0 1 [.cell 2 82] Tryz.func100 rfl (by kernel_rfl) (by kernel_rfl) rfl (by kernel_rfl) (by kernel_rfl) (by simp) ?_
  simp (implicitDefEqProofs := false) (disch := omega) only [go_sem, ↓reduceIte]
  refine call0 (ots_spec k t f) ?_
  simp (implicitDefEqProofs := false) (disch := omega) only [go_sem, ↓reduceIte]
theorem told_spec (shape : AV) (a b : Int) (r root pub : List Int) (index : Int) (ps : List (List Int)) (hr : goodD r) (ht : goodD root) (hp : ∀ p ∈ ps, ∀ x ∈ p, 0 ≤ x ∧ x < 256) (hc : (cat ps).length ≤ 100000) (hps : ps.length ≤ 100000) (hi : 0 ≤ index ∧ index < 1000000) :
    FnC Tryz.prog 74 [.agg [.agg [.int .i64 a, .int .i64 b], .ints .u8 32 root, .ints .u8 32 pub], .ints .u8 32 r, .int .i64 index, .sl (.lst 1 ps.length (ps.map bsl))] [] (.ints .u8 32 (msgD r root index (cat ps))) [] := by
  refine fn0 mix [] 0 4 [.cell 8 23] Tryz.func74 rfl (by kernel_rfl) (by kernel_rfl) rfl (by kernel_rfl) (by kernel_rfl) (by simp) ?_
  simp (implicitDefEqProofs := false) (disch := omega) only [go_sem, ↓reduceIte]
  refine call0 (message_spec r root index ps hr.1 hr.2 ht.1 ht.2 hp hc hps) ?_
  simp (implicitDefEqProofs := false) (disch := omega) only [go_sem, ↓reduceIte]
/-- The roots, from layer to layer. -/
def rootK (seed pub : List Int) (n idx : Nat) (k : Nat) : List Int := treeD (leafD pub seed k (atN n idx (k + 1))) pub k (atN n idx (k + 1)) n 0
def mK (seed pub m : List Int) (n idx : Nat) : Nat → List Int
  | 0 => m
  | k + 1 => rootK seed pub n idx k
def partK (seed pub m : List Int) (n idx k : Nat) : Part :=
  (rowN (signD (mK seed pub m n idx k) seed pub (base k (atN n idx (k + 1)) 0 (atN n idx k % pw n : Nat))) 67, wayD (leafD pub seed k (atN n idx (k + 1))) pub k (atN n idx (k + 1)) (atN n idx k % pw n) n)
def partsK (seed pub m : List Int) (n idx : Nat) : Nat → List Part
  | 0 => []
  | k + 1 => partsK seed pub m n idx k ++ [partK seed pub m n idx k]
theorem partsK_len (seed pub m : List Int) (n idx : Nat) : ∀ k, (partsK seed pub m n idx k).length = k
  | 0 => rfl
  | k + 1 => by simp [partsK, partsK_len seed pub m n idx k]
theorem rootK_good (seed pub : List Int) (n idx k : Nat) : goodD (rootK seed pub n idx k) := treeD_good (leafD_good pub _ _ seed) _ _ _ _ _
theorem mK_good (seed pub : List Int) {m : List Int} (hm : goodD m) (n idx : Nat) : ∀ k, goodD (mK seed pub m n idx k)
  | 0 => hm
  | k + 1 => rootK_good _ _ _ _ _
def rD (key : List Int) (idx : Int) : List Int := ofD 3 key (be idx 32)
theorem rD_good (key : List Int) (idx : Int) : goodD (rD key idx) := ofD_good _ _ _
def outA : Nat → AV
  | 0 => .nils
  | k + 1 => .osl 6 [] 2 0 (k + 1)
def outO (seed pub m : List Int) (n idx : Nat) : Nat → OO
  | 0 => []
  | k + 1 => [(6, .row (.lst 2 (k + 1) ((partsK seed pub m n idx (k + 1)).map pt)))]
section
variable (seed key pub root pub' : List Int) (hs : goodD seed) (hk : goodD key) (hp : goodD pub) (ht : goodD root)
end
end Go.Proofs.YthhlielliopegaaGreat
/- The contracts of hyper.Sign's errors, of the climber's over, and of Verify. -/
namespace Go.Proofs.YthhlielliopegaaGreat
open Go Go.Sy Go.Proofs.Tryz
set_option maxRecDepth 100000
set_option maxHeartbeats 8000000
set_option linter.unusedSimpArgs false
set_option linter.unusedVariables false
attribute [go_sem] pl44 pl76
/-- What a part leads to. -/
def ledD (pub m : List Int) (k t : Int) (f : Nat) (p : Part) : List Int := compressD pub (base k t 1 f) (rowN (leadD p.1 m pub (base k t 0 f)) 67)
def overD (pub m : List Int) (k t : Int) (f n : Nat) (p : Part) : List Int := climbD pub k t (ledD pub m k t f p) p.2 f n
theorem leadD_good {l : List (List Int)} (hl : l.length = 67) (hg : ∀ d ∈ l, goodD d) (m pub ws : List Int) {i : Nat} (hi : i < 67) : goodD (leadD l m pub ws i) := runD_good (getD_good hg (by omega)) _ _ _ _
theorem ledD_good {p : Part} (hl : p.1.length = 67) (hg : ∀ d ∈ p.1, goodD d) (pub m : List Int) (k t : Int) (f : Nat) : goodD (ledD pub m k t f p) :=
  compressD_good _ _ (by rw [rowN_len]; decide) (rowN_good fun i hi => leadD_good hl hg _ _ _ hi)
theorem overD_good {p : Part} (hl : p.1.length = 67) (hg : ∀ d ∈ p.1, goodD d) (pub m : List Int) (k t : Int) (f n : Nat) : goodD (overD pub m k t f n p) := climbD_good _ _ _ (ledD_good hl hg _ _ _ _ _) _ _ _
section
variable (pub m : List Int) (k : Nat) (t : Int) (f n : Nat) (a : Int) (p : Part) (hp : goodD pub) (hm : goodD m) (hk : k < 100) (h1 : 1 ≤ n) (h4 : n ≤ 4) (hf : f < pw n)
include hp hm hk h1 h4 hf in
theorem over_ok_spec (hl : p.1.length = 67) (ha : p.2.length = n) (hg : ∀ d ∈ p.1, goodD d) (hg2 : ∀ d ∈ p.2, goodD d) :
    FnC Tryz.prog 76 [.ref 0 [], .agg [.sl (.lst 32 67 (p.1.map dg)), .sl (.lst 32 n (p.2.map dg))], .ints .u8 32 m, .ints .u8 32 pub]
      [(0, .var (.agg [.agg [.int .u32 k, .int .u64 t, .int .i64 f], .agg [.int .i64 a, .int .i64 n]]))] (.tup [.ints .u8 32 (overD pub m k t f n p), .bool true])
      [(0, .var (.agg [.agg [.int .u32 k, .int .u64 t, .int .i64 f], .agg [.int .i64 a, .int .i64 n]]))] := by
  have hp4 : pw n ≤ pw 4 := pw_le h4
  have hp5 : pw 4 = 16 := rfl
  have w0 := base_good (l := (k : Int)) (k := 0) (f := (f : Int)) t (by omega) (by decide) (by omega)
  have w1 := base_good (l := (k : Int)) (k := 1) (f := (f : Int)) t (by omega) (by decide) (by omega)
  have hfr := wfrom_spec pub m _ hp hm w0 p.1 hl hg
  have hcp := compress_spec09 pub _ (rowN (leadD p.1 m pub (base k t 0 f)) 67) 67 hp w1 (rowN_len _ _) (by decide) (by decide) (rowN_good fun i hi => leadD_good hl hg _ _ _ hi)
  have hld := ledD_good hl hg pub m k t f
  have ecl := climb_spec pub k t hp (by omega) (ledD pub m k t f p) p.2 f n ha h1 h4 hf hld hg2
  have e1 : compressD pub (base k t 1 f) (rowN (leadD p.1 m pub (base k t 0 f)) 67) = ledD pub m k t f p := rfl
  rw [e1] at hcp
  refine fnN mix pl76 1 4 [.cell 8 23, .tmp 9] Tryz.func76 rfl (by kernel_rfl) (by kernel_rfl) rfl (by kernel_rfl) (by kernel_rfl) (by simp) ?_
  simp (implicitDefEqProofs := false) (disch := omega) only [go_sem, ↓reduceIte]
  refine call0 (spot_spec k t f (by omega)) ?_
  simp (implicitDefEqProofs := false) (disch := omega) only [go_sem, ↓reduceIte]
  refine callF 1 hfr ?_
  simp (implicitDefEqProofs := false) (disch := omega) only [go_sem, ↓reduceIte]
  refine call0 (ltree_spec k t f) ?_
  simp (implicitDefEqProofs := false) (disch := omega) only [go_sem, ↓reduceIte]
  refine callB hcp ?_ ?_
  · simp (implicitDefEqProofs := false) (disch := omega) only [go_sem, ↓reduceIte]
  simp (implicitDefEqProofs := false) (disch := omega) only [go_sem, ↓reduceIte]
  refine call0 ecl ?_
  simp (implicitDefEqProofs := false) (disch := omega) only [go_sem, ↓reduceIte]
  refine ⟨[(0, 0)], [], [], rfl, ?_, ?_, ?_⟩ <;> simp (implicitDefEqProofs := false) (disch := omega) only [go_sem, ↓reduceIte, overD]
include hp hm hk h4 hf in
theorem over_bad_spec (hn : ¬ (p.1.length = 67 ∧ p.2.length = n)) (hg : ∀ d ∈ p.1, goodD d) :
    FnC Tryz.prog 76 [.ref 0 [], .agg [.sl (.lst 32 p.1.length (p.1.map dg)), .sl (.lst 32 p.2.length (p.2.map dg))], .ints .u8 32 m, .ints .u8 32 pub]
      [(0, .var (.agg [.agg [.int .u32 k, .int .u64 t, .int .i64 f], .agg [.int .i64 a, .int .i64 n]]))] (.tup [.ints .u8 32 (List.replicate 32 0), .bool false])
      [(0, .var (.agg [.agg [.int .u32 k, .int .u64 t, .int .i64 f], .agg [.int .i64 a, .int .i64 n]]))] := by
  have hp4 : pw n ≤ pw 4 := pw_le h4
  have hp5 : pw 4 = 16 := rfl
  have w0 := base_good (l := (k : Int)) (k := 0) (f := (f : Int)) t (by omega) (by decide) (by omega)
  refine fnN mix pl76 1 4 [.cell 8 23, .tmp 9] Tryz.func76 rfl (by kernel_rfl) (by kernel_rfl) rfl (by kernel_rfl) (by kernel_rfl) (by simp) ?_
  simp (implicitDefEqProofs := false) (disch := omega) only [go_sem, ↓reduceIte]
  refine call0 (spot_spec k t f (by omega)) ?_
  simp (implicitDefEqProofs := false) (disch := omega) only [go_sem, ↓reduceIte]
  by_cases h67 : p.1.length = 67
  · have hfr := wfrom_spec pub m _ hp hm w0 p.1 h67 hg
    have e2 : decide (p.2.length = n) = false := decide_eq_false (fun h => hn ⟨h67, h⟩)
    rw [h67]
    refine callF 1 hfr ?_
    simp (implicitDefEqProofs := false) (disch := omega) only [go_sem, ↓reduceIte, e2]
    refine brd (fun h => by omega) (fun h => ?_)
    simp (implicitDefEqProofs := false) (disch := omega) only [go_sem, ↓reduceIte]
    refine ⟨[(0, 0)], [], [], rfl, ?_, ?_, ?_⟩ <;> simp (implicitDefEqProofs := false) (disch := omega) only [go_sem, ↓reduceIte]
  · refine call0 (wfrom_bad_spec pub m (base k t 0 f) p.1 _ h67) ?_
    simp (implicitDefEqProofs := false) (disch := omega) only [go_sem, ↓reduceIte]
    refine ⟨[(0, 0)], [], [], rfl, ?_, ?_, ?_⟩ <;> simp (implicitDefEqProofs := false) (disch := omega) only [go_sem, ↓reduceIte]
end
/-- Where a signature leads to: so many layers up. -/
def vK (pub m : List Int) (n idx : Nat) (ps : List Part) : Nat → List Int
  | 0 => m
  | k + 1 => overD pub (vK pub m n idx ps k) k (atN n idx (k + 1) : Nat) (atN n idx k % pw n) n (ps.getD k ([], []))
def partOk (n : Nat) (p : Part) : Prop := p.1.length = 67 ∧ p.2.length = n
def goodPt (p : Part) : Prop := (∀ d ∈ p.1, goodD d) ∧ ∀ d ∈ p.2, goodD d
theorem getPt {ps : List Part} {k : Nat} (h : k < ps.length) : ps[k]? = some (ps.getD k ([], [])) := by
  simp only [List.getD, List.getElem?_eq_getElem h, Option.getD_some]
theorem getPt_mem {ps : List Part} {k : Nat} (h : k < ps.length) : ps.getD k ([], []) ∈ ps := by
  simp only [List.getD, List.getElem?_eq_getElem h, Option.getD_some]
  exact List.getElem_mem h
section
variable (root pub r : List Int) (ht : goodD root) (hp : goodD pub) (hrg : goodD r)
include ht hp hrg in
theorem verify_spec (a b i : Int) (sg : List Part) (ps : List (List Int)) (hg : ∀ p ∈ sg, goodPt p) (hsl : sg.length ≤ 9223372036854775807) (hi : i < 9223372036854775808) (hps : ∀ p ∈ ps, ∀ x ∈ p, 0 ≤ x ∧ x < 256) (hc : (cat ps).length ≤ 100000) (hpl : ps.length ≤ 100000) :
    FnC Tryz.prog 44 [.agg [.agg [.int .i64 a, .int .i64 b], .ints .u8 32 root, .ints .u8 32 pub], .agg [.int .i64 i, .ints .u8 32 r, .sl (.lst 2 sg.length (sg.map pt))], .sl (.lst 1 ps.length (ps.map bsl))] []
      (.bool (decide (formedP a b i sg ∧ vK pub (msgD r root i (cat ps)) b.toNat i.toNat sg sg.length = root))) [] := by
  have hm6 := manyD_le a b
  refine fn0 mix pl44 0 3 [.tmp 6] Tryz.func44 rfl (by kernel_rfl) (by kernel_rfl) rfl (by kernel_rfl) (by kernel_rfl) (by simp) ?_
  simp (implicitDefEqProofs := false) (disch := omega) only [go_sem, ↓reduceIte]
  refine brd (fun h => ?_) (fun h0 => ?_)
  · have e : decide (formedP a b i sg ∧ vK pub (msgD r root i (cat ps)) b.toNat i.toNat sg sg.length = root) = false := decide_eq_false (fun x => by have := x.1.1; omega)
    rw [e]
    simp (implicitDefEqProofs := false) (disch := omega) only [go_sem, ↓reduceIte]
  simp (implicitDefEqProofs := false) (disch := omega) only [go_sem, ↓reduceIte]
  refine call0 (many_spec a b) ?_
  simp (implicitDefEqProofs := false) (disch := omega) only [go_sem, ↓reduceIte]
  refine brd (fun h => ?_) (fun h1 => ?_)
  · have e : decide (formedP a b i sg ∧ vK pub (msgD r root i (cat ps)) b.toNat i.toNat sg sg.length = root) = false := decide_eq_false (fun x => by have := x.1.2.1; omega)
    rw [e]
    simp (implicitDefEqProofs := false) (disch := omega) only [go_sem, ↓reduceIte]
  simp (implicitDefEqProofs := false) (disch := omega) only [go_sem, ↓reduceIte]
  refine brd (fun h2 => ?_) (fun h => ?_)
  case' refine_2 =>
    have e : decide (formedP a b i sg ∧ vK pub (msgD r root i (cat ps)) b.toNat i.toNat sg sg.length = root) = false := decide_eq_false (fun x => by have := x.1.2.2.1; omega)
    rw [e]
    simp (implicitDefEqProofs := false) (disch := omega) only [go_sem, ↓reduceIte]
  have hr : rightP a b := by
    by_cases hr : rightP a b
    · exact hr
    · exfalso
      have : manyD a b = 0 := by rw [manyD, if_neg hr]
      omega
  have hr' := hr
  unfold rightP at hr'
  obtain ⟨n, rfl⟩ := Int.eq_ofNat_of_zero_le (show 0 ≤ b by omega)
  obtain ⟨idx, rfl⟩ := Int.eq_ofNat_of_zero_le (show 0 ≤ i by omega)
  rw [Int.toNat_natCast, Int.toNat_natCast]
  simp (implicitDefEqProofs := false) (disch := omega) only [go_sem, ↓reduceIte]
  refine call0 (told_spec .nils a n r root pub idx ps hrg ht hps hc hpl (by omega)) ?_
  generalize hM : msgD r root idx (cat ps) = M
  have hMg : goodD M := by rw [← hM]; exact ofD_good _ _ _
  simp (implicitDefEqProofs := false) (disch := omega) only [go_sem, ↓reduceIte]
  refine callF 1 (begin_spec a n idx (by omega) (by omega) (by omega)) ?_
  simp (implicitDefEqProofs := false) (disch := omega) only [go_sem, ↓reduceIte]
  have hvg : ∀ k, k ≤ sg.length → (∀ p ∈ sg.take k, partOk n p) → goodD (vK pub M n idx sg k) := by
    intro k hk hq
    obtain _ | k := k
    · exact hMg
    · have hm := getPt_mem (show k < sg.length by omega)
      have hx : sg.getD k ([], []) ∈ sg.take (k + 1) := by
        rw [take_next' (getPt (show k < sg.length by omega))]
        exact List.mem_append_right _ (List.mem_singleton.2 rfl)
      exact overD_good (hq _ hx).1 (hg _ hm).1 _ _ _ _ _ _
  refine loop (ι := Nat) 4 (fun k => k ≤ sg.length ∧ ∀ p ∈ sg.take k, partOk n p) (fun k => [(3, .ref 0 []), (4, .ref 1 []), (6, .bool false), (7, .ref 2 []), (8, .ref 3 []), (46, .sl (.lst 2 sg.length (sg.map pt))), (47, .int .i64 sg.length), (48, .int .i64 k)])
    (fun k => [(0, .var (.agg [.agg [.int .i64 a, .int .i64 n], .ints .u8 32 root, .ints .u8 32 pub])), (1, .var (.agg [.int .i64 idx, .ints .u8 32 r, .sl (.lst 2 sg.length (sg.map pt))])), (2, .var (.ints .u8 32 (vK pub M n idx sg k))),
      (3, .var (.agg [.agg [.int .u32 k, .int .u64 (atN n idx (k + 1)), .int .i64 ((atN n idx k % pw n : Nat) : Int)], .agg [.int .i64 a, .int .i64 n]]))])
    (fun k => sg.length - k) 0 [(0, 0), (1, 1), (2, 2), (3, 3)] [] ⟨Nat.zero_le _, by simp⟩ rfl ?_ ?_ ?_ (fun k hk => ?_)
  · simp (implicitDefEqProofs := false) (disch := omega) only [go_sem, ↓reduceIte]
  · simp (implicitDefEqProofs := false) (disch := omega) only [go_sem, ↓reduceIte]
  · simp (implicitDefEqProofs := false) (disch := omega) only [go_sem, ↓reduceIte, vK, atN]
  obtain ⟨hk, hq⟩ := hk
  have hvk := hvg k hk hq
  have hle := atN_le n idx (k + 1)
  have hle0 := atN_le n idx k
  have hpp := pw_pos n
  have hlf : atN n idx k % pw n < pw n := Nat.mod_lt _ (by omega)
  have hup := up_spec11 (k : Int) a ((atN n idx k % pw n : Nat) : Int) n (atN n idx (k + 1)) (by omega) (by omega) (by omega) (by omega)
  have e2 : atN n idx (k + 1) / pw n = atN n idx (k + 1 + 1) := rfl
  rw [e2] at hup
  simp (implicitDefEqProofs := false) (disch := omega) only [go_sem, ↓reduceIte]
  refine brd (fun h => ?_) (fun h => ?_)
  · have hlt : k < sg.length := by omega
    have hm := getPt_mem hlt
    have hgp : ∀ K : AV → Prop, getP (sg.map pt) k K = K (.agg [.sl (.lst 32 (sg.getD k ([], [])).1.length ((sg.getD k ([], [])).1.map dg)), .sl (.lst 32 (sg.getD k ([], [])).2.length ((sg.getD k ([], [])).2.map dg))]) := fun K => getP_map (f := pt) (getPt hlt) K
    have hv1 : overD pub (vK pub M n idx sg k) k (atN n idx (k + 1) : Nat) (atN n idx k % pw n) n (sg.getD k ([], [])) = vK pub M n idx sg (k + 1) := rfl
    have htk := take_next' (getPt hlt)
    generalize sg.getD k ([], []) = P at *
    by_cases hok : partOk n P
    · have hov := over_ok_spec pub (vK pub M n idx sg k) k (atN n idx (k + 1) : Nat) (atN n idx k % pw n) n a P hp hvk (by omega) (by omega) (by omega) hlf hok.1 hok.2 (hg _ hm).1 (hg _ hm).2
      rw [hv1] at hov
      rw [hok.1, hok.2] at hgp
      simp (implicitDefEqProofs := false) (disch := omega) only [go_sem, ↓reduceIte, ↓hgp]
      refine callG false [(0, 3)] [(0, 3)] 5 hov ?_ ?_
      · simp [keys]
      simp (implicitDefEqProofs := false) (disch := omega) only [go_sem, ↓reduceIte]
      refine callG false [(0, 3)] [(0, 3)] 6 hup ?_ ?_
      · simp [keys]
      simp (implicitDefEqProofs := false) (disch := omega) only [go_sem, ↓reduceIte]
      have hq2 : ∀ p ∈ sg.take (k + 1), partOk n p := by
        intro p hx
        rw [htk] at hx
        rcases List.mem_append.1 hx with hx | hx
        · exact hq p hx
        · rw [List.mem_singleton] at hx; subst hx; exact hok
      refine ⟨k + 1, [(0, 0), (1, 1), (2, 2), (3, 3)], [], [], ⟨hlt, hq2⟩, by dsimp only; omega, rfl, ?_, ?_, ?_⟩ <;> simp (implicitDefEqProofs := false) (disch := omega) only [go_sem, ↓reduceIte]
    · have hov := over_bad_spec pub (vK pub M n idx sg k) k (atN n idx (k + 1) : Nat) (atN n idx k % pw n) n a P hp hvk (by omega) (by omega) hlf hok (hg _ hm).1
      have e : decide (formedP a n idx sg ∧ vK pub M n idx sg sg.length = root) = false := decide_eq_false (fun x => hok (by
        have := x.1.2.2.2 P hm
        exact ⟨this.1, by omega⟩))
      rw [e]
      simp (implicitDefEqProofs := false) (disch := omega) only [go_sem, ↓reduceIte, ↓hgp]
      refine callG false [(0, 3)] [(0, 3)] 5 hov ?_ ?_
      · simp [keys]
      simp (implicitDefEqProofs := false) (disch := omega) only [go_sem, ↓reduceIte]
  · obtain rfl : k = sg.length := by omega
    have hf : formedP a n idx sg := ⟨by omega, by omega, by omega, fun p hx => by
      have := hq p (by rw [List.take_length]; exact hx)
      exact ⟨this.1, by have := this.2; omega⟩⟩
    have e : decide (formedP a n idx sg ∧ vK pub M n idx sg sg.length = root) = decide (vK pub M n idx sg sg.length = root) := by simp [hf]
    rw [e]
    simp (implicitDefEqProofs := false) (disch := omega) only [go_sem, ↓reduceIte]
end
end Go.Proofs.YthhlielliopegaaGreat
/- The contracts of planchetref11's Verify; the walk of HyperVerifies. -/
namespace Go.Proofs.YthhlielliopegaaGreat
open Go Go.Sy Go.Proofs.Tryz
set_option maxRecDepth 100000
set_option maxHeartbeats 8000000
set_option linter.unusedSimpArgs false
set_option linter.unusedVariables false
attribute [go_sem] pl13
theorem refmsg_spec (a b : Int) (r root pub : List Int) (index : Int) (m : List Int) (n : Nat) (hr : goodD r) (ht : goodD root) (hm : m.length = n) (hm' : ∀ x ∈ m, 0 ≤ x ∧ x < 256) (hn : n ≤ 10000) (hi : 0 ≤ index ∧ index < 1000000) :
    FnC Tryz.prog 35 [.agg [.agg [.int .i64 a, .int .i64 b], .ints .u8 32 root, .ints .u8 32 pub], .ints .u8 32 r, .int .i64 index, .sl (.ints .u8 n m)] [] (.ints .u8 32 (msgD r root index m)) [] := by
  refine fn0 mix [] 0 4 [.cell 8 23] Tryz.func35 rfl (by kernel_rfl) (by kernel_rfl) rfl (by kernel_rfl) (by kernel_rfl) (by simp) ?_
  simp (implicitDefEqProofs := false) (disch := omega) only [go_sem, ↓reduceIte]
  refine call0 (refmessage_spec r root index m n hi.1 (by omega) hr.1 hr.2 ht.1 ht.2 hm hm' hn) ?_
  simp (implicitDefEqProofs := false) (disch := omega) only [go_sem, ↓reduceIte]
theorem part_has {b1 b2 : Nat} {x : AV} (h : TD.has (.st [.sl b1 (.arr 32 (.int .u8)), .sl b2 (.arr 32 (.int .u8))]) x) : ∃ p : Part, x = pt p ∧ goodPt p := by
  simp only [TD.has.eq_5, TD.hass] at h
  obtain ⟨_, rfl, _, _, rfl, ha, _, _, rfl, hb, rfl⟩ := h
  obtain ⟨d1, rfl, h1, _⟩ := digests_of (bs := b1) ha
  obtain ⟨d2, rfl, h2, _⟩ := digests_of (bs := b2) hb
  exact ⟨(d1, d2), rfl, h1, h2⟩
section
variable (root pub r : List Int) (ht : goodD root) (hp : goodD pub) (hrg : goodD r)
include ht hp hrg in
theorem refverify_spec (a b i : Int) (sg : List Part) (text : List Int) (m : Nat) (hm : text.length = m) (hm' : ∀ x ∈ text, 0 ≤ x ∧ x < 256) (hn : m ≤ 10000) (hg : ∀ p ∈ sg, goodPt p) (hsl : sg.length ≤ 9223372036854775807) (hi : i < 9223372036854775808) :
    FnC Tryz.prog 13 [.agg [.agg [.int .i64 a, .int .i64 b], .ints .u8 32 root, .ints .u8 32 pub], .agg [.int .i64 i, .ints .u8 32 r, .sl (.lst 2 sg.length (sg.map pt))], .sl (.ints .u8 m text)] []
      (.bool (decide (formedP a b i sg ∧ vK pub (msgD r root i text) b.toNat i.toNat sg sg.length = root))) [] := by
  have hm6 := manyD_le a b
  refine fn0 mix pl13 0 3 [.tmp 6] Tryz.func13 rfl (by kernel_rfl) (by kernel_rfl) rfl (by kernel_rfl) (by kernel_rfl) (by simp) ?_
  simp (implicitDefEqProofs := false) (disch := omega) only [go_sem, ↓reduceIte]
  refine call0 (refright_spec a b) ?_
  by_cases hr : rightP a b
  case neg =>
    have e : decide (formedP a b i sg ∧ vK pub (msgD r root i text) b.toNat i.toNat sg sg.length = root) = false := decide_eq_false (fun x => by
      have h1 := x.1.1
      have h2 := x.1.2.1
      rw [manyD, if_neg hr] at h2
      omega)
    rw [decide_eq_false hr, e]
    simp (implicitDefEqProofs := false) (disch := omega) only [go_sem, ↓reduceIte]
  rw [decide_eq_true hr]
  simp (implicitDefEqProofs := false) (disch := omega) only [go_sem, ↓reduceIte]
  refine call0 (formed_spec a b i r sg hsl) ?_
  by_cases hf : formedP a b i sg
  case neg =>
    have e : decide (formedP a b i sg ∧ vK pub (msgD r root i text) b.toNat i.toNat sg sg.length = root) = false := decide_eq_false (fun x => hf x.1)
    rw [decide_eq_false hf, e]
    simp (implicitDefEqProofs := false) (disch := omega) only [go_sem, ↓reduceIte]
  rw [decide_eq_true hf]
  have hf' := hf
  obtain ⟨f1, f2, f3, f4⟩ := hf'
  have hr' := hr
  unfold rightP at hr'
  obtain ⟨n, rfl⟩ := Int.eq_ofNat_of_zero_le (show 0 ≤ b by omega)
  obtain ⟨idx, rfl⟩ := Int.eq_ofNat_of_zero_le f1
  have e : decide (formedP a n idx sg ∧ vK pub (msgD r root idx text) (n : Int).toNat (idx : Int).toNat sg sg.length = root) = decide (vK pub (msgD r root idx text) n idx sg sg.length = root) := by simp [hf]
  rw [e]
  have hpw := power_spec n (by omega)
  have hpe : (2 : Int) ^ n = (pw n : Int) := by simp [pw]
  rw [hpe] at hpw
  simp (implicitDefEqProofs := false) (disch := omega) only [go_sem, ↓reduceIte]
  refine call0 (refmsg_spec a n r root pub idx text m hrg ht hm hm' hn (by omega)) ?_
  generalize hM : msgD r root idx text = M
  have hMg : goodD M := by rw [← hM]; exact ofD_good _ _ _
  simp (implicitDefEqProofs := false) (disch := omega) only [go_sem, ↓reduceIte]
  refine call0 hpw ?_
  simp (implicitDefEqProofs := false) (disch := omega) only [go_sem, ↓reduceIte]
  have hvg : ∀ k, k ≤ sg.length → goodD (vK pub M n idx sg k) := by
    intro k hk
    obtain _ | k := k
    · exact hMg
    · have hm := getPt_mem (show k < sg.length by omega)
      exact overD_good (f4 _ hm).1 (hg _ hm).1 _ _ _ _ _ _
  refine loop (ι := Nat) 3 (fun k => k ≤ sg.length) (fun k => [(3, .ref 0 []), (4, .ref 1 []), (6, .bool false), (7, .ref 2 []), (8, .int .i64 (pw n)), (9, .int .i64 (atN n idx k)), (10, .int .i64 k)])
    (fun k => [(0, .var (.agg [.agg [.int .i64 a, .int .i64 n], .ints .u8 32 root, .ints .u8 32 pub])), (1, .var (.agg [.int .i64 idx, .ints .u8 32 r, .sl (.lst 2 sg.length (sg.map pt))])), (2, .var (.ints .u8 32 (vK pub M n idx sg k)))])
    (fun k => sg.length - k) 0 [(0, 0), (1, 1), (2, 2)] [] (Nat.zero_le _) rfl ?_ ?_ ?_ (fun k hk => ?_)
  · simp (implicitDefEqProofs := false) (disch := omega) only [go_sem, ↓reduceIte]
  · simp (implicitDefEqProofs := false) (disch := omega) only [go_sem, ↓reduceIte, atN]
  · simp (implicitDefEqProofs := false) (disch := omega) only [go_sem, ↓reduceIte, vK]
  have hvk := hvg k hk
  have hle := atN_le n idx (k + 1)
  have hle0 := atN_le n idx k
  have hpp := pw_pos n
  have hp4 : pw n ≤ pw 4 := pw_le (by omega)
  have hp5 : pw 4 = 16 := rfl
  have hlf : atN n idx k % pw n < pw n := Nat.mod_lt _ (by omega)
  have t2 : (atN n idx k : Int).tmod (pw n : Int) = ((atN n idx k % pw n : Nat) : Int) := by rw [Int.tmod_eq_emod_of_nonneg (by omega), Int.natCast_emod]
  have t3 : (atN n idx k : Int).tdiv (pw n : Int) = (atN n idx (k + 1) : Int) := by rw [Int.tdiv_eq_ediv_of_nonneg (by omega), ← Int.natCast_ediv]; rfl
  simp (implicitDefEqProofs := false) (disch := omega) only [go_sem, ↓reduceIte]
  refine brd (fun h => ?_) (fun h => ?_)
  · have hlt : k < sg.length := by omega
    have hm := getPt_mem hlt
    have hle2 : (sg.map pt).length = sg.length := List.length_map _
    have hgp : ∀ K : AV → Prop, getP (sg.map pt) k K = K (.agg [.sl (.lst 32 (sg.getD k ([], [])).1.length ((sg.getD k ([], [])).1.map dg)), .sl (.lst 32 (sg.getD k ([], [])).2.length ((sg.getD k ([], [])).2.map dg))]) := fun K => getP_map (f := pt) (getPt hlt) K
    have hv1 : overD pub (vK pub M n idx sg k) k (atN n idx (k + 1) : Nat) (atN n idx k % pw n) n (sg.getD k ([], [])) = vK pub M n idx sg (k + 1) := rfl
    generalize sg.getD k ([], []) = P at *
    obtain ⟨p1, p2⟩ := f4 _ hm
    have p2' : P.2.length = n := by omega
    have w0 := base_good (l := (k : Int)) (k := 0) (f := ((atN n idx k % pw n : Nat) : Int)) (atN n idx (k + 1) : Nat) (by omega) (by decide) (by omega)
    have w1 := base_good (l := (k : Int)) (k := 1) (f := ((atN n idx k % pw n : Nat) : Int)) (atN n idx (k + 1) : Nat) (by omega) (by decide) (by omega)
    have hfr := refwfrom_spec pub (vK pub M n idx sg k) _ hp hvk w0 P.1 p1 (hg _ hm).1
    have hcp := refcompress_spec pub _ (rowN (leadD P.1 (vK pub M n idx sg k) pub (base k (atN n idx (k + 1) : Nat) 0 ((atN n idx k % pw n : Nat) : Int))) 67) 67 hp w1 (rowN_len _ _) (by decide) (by decide) (rowN_good fun i hi => leadD_good p1 (hg _ hm).1 _ _ _ hi)
    have hld := ledD_good p1 (hg _ hm).1 pub (vK pub M n idx sg k) k (atN n idx (k + 1) : Nat) (atN n idx k % pw n)
    have hcl := refclimb_spec pub k (atN n idx (k + 1) : Nat) hp (by omega) (by omega) (ledD pub (vK pub M n idx sg k) k (atN n idx (k + 1) : Nat) (atN n idx k % pw n) P) P.2 (atN n idx k % pw n) n p2' (by omega) (by omega) hld (hg _ hm).2
    have e1 : compressD pub (base k (atN n idx (k + 1) : Nat) 1 ((atN n idx k % pw n : Nat) : Int)) (rowN (leadD P.1 (vK pub M n idx sg k) pub (base k (atN n idx (k + 1) : Nat) 0 ((atN n idx k % pw n : Nat) : Int))) 67) = ledD pub (vK pub M n idx sg k) k (atN n idx (k + 1) : Nat) (atN n idx k % pw n) P := rfl
    have e2 : climbD pub k (atN n idx (k + 1) : Nat) (ledD pub (vK pub M n idx sg k) k (atN n idx (k + 1) : Nat) (atN n idx k % pw n) P) P.2 (atN n idx k % pw n) n = vK pub M n idx sg (k + 1) := hv1
    rw [e1] at hcp
    rw [e2] at hcl
    rw [p1, p2'] at hgp
    simp (implicitDefEqProofs := false) (disch := omega) only [go_sem, ↓reduceIte, ↓hgp, hle2, t2, t3]
    refine call0 (refbase_spec k (atN n idx (k + 1) : Nat) 0 ((atN n idx k % pw n : Nat) : Int) (by omega) (by omega)) ?_
    simp (implicitDefEqProofs := false) (disch := omega) only [go_sem, ↓reduceIte]
    refine callF 1 hfr ?_
    simp (implicitDefEqProofs := false) (disch := omega) only [go_sem, ↓reduceIte]
    refine call0 (refbase_spec k (atN n idx (k + 1) : Nat) 1 ((atN n idx k % pw n : Nat) : Int) (by omega) (by omega)) ?_
    simp (implicitDefEqProofs := false) (disch := omega) only [go_sem, ↓reduceIte]
    refine callB hcp ?_ ?_
    · simp (implicitDefEqProofs := false) (disch := omega) only [go_sem, ↓reduceIte]
    simp (implicitDefEqProofs := false) (disch := omega) only [go_sem, ↓reduceIte]
    refine call0 hcl ?_
    simp (implicitDefEqProofs := false) (disch := omega) only [go_sem, ↓reduceIte]
    refine ⟨k + 1, [(0, 0), (1, 1), (2, 2)], [], [], by dsimp only; omega, by dsimp only; omega, rfl, ?_, ?_, ?_⟩ <;> simp (implicitDefEqProofs := false) (disch := omega) only [go_sem, ↓reduceIte]
  · obtain rfl : k = sg.length := by omega
    simp (implicitDefEqProofs := false) (disch := omega) only [go_sem, ↓reduceIte]
end
end Go.Proofs.YthhlielliopegaaGreat
