/- Texts,joined. -/
import Derived.Test.YtololahjocfbeaaGreatD08
import Derived.Test.YtololahjocfbeaaGreatD30
namespace Go.Proofs.YtololahjocfbeaaGreat
open Go Go.Sy Go.Proofs.Tryz
set_option maxRecDepth 100000
set_option maxHeartbeats 8000000
set_option linter.unusedSimpArgs false
set_option linter.unusedVariables false
attribute [go_sem] pl139 pl171
def atN (n idx : Nat) : Nat → Nat
  | 0 => idx
  | k + 1 => atN n idx k / pw n
theorem atN_le (n idx : Nat) : ∀ k,atN n idx k ≤ idx
  | 0 => Nat.le_refl _
  | k + 1 => Nat.le_trans (Nat.div_le_self _ _) (atN_le n idx k)
theorem and_pw {n x : Nat} (h : n ≤ 4) (hx : x ≤ 65536) : iand .i64 (x : Int) ((pw n : Int) - 1) = ((x % pw n : Nat) : Int):=by
  have hp : (pw n : Int) = (2 : Int) ^ n:=by simp [pw]
  rw [iand_mask (k:=.i64) n (by rw [hp]) (by show n < 64; omega) (by omega) (by show (x : Int) < 2 ^ 64; omega),← hp,Int.natCast_emod]
theorem to_spec (lay x y z a : Int) (n v : Nat) (hn : 1 ≤ n) (h4 : n ≤ 4) (hv : v ≤ 65536) : FnC Tryz.prog 171 [.ref 0 [],.int .u32 lay,.int .i64 v]
    [(0,.var (.agg [.agg [.int .u32 x,.int .u64 y,.int .i64 z],.agg [.int .i64 a,.int .i64 n]]))] (.tup [])
    [(0,.var (.agg [.agg [.int .u32 lay,.int .u64 ((v / pw n : Nat) : Int),.int .i64 ((v % pw n : Nat) : Int)],.agg [.int .i64 a,.int .i64 n]]))]:=by
  have hsh : ishl .i64 1 n = (pw n : Int):=by
    obtain rfl | rfl | rfl | rfl : n = 1 ∨ n = 2 ∨ n = 3 ∨ n = 4:=by omega
    all_goals decide
  have hsr : ishr .i64 (v : Int) n = ((v / pw n : Nat) : Int):=shr_nat v n (by omega)
  have hand:=and_pw (n:=n) (x:=v) h4 hv
  have hp4 : pw n ≤ pw 4:=pw_le h4
  have hp5 : pw 4 = 16:=rfl
  have hpp:=pw_pos n
  have hd : v / pw n ≤ v:=Nat.div_le_self _ _
  generalize v / pw n = q at *
  generalize v % pw n = r at *
  refine fnN mix pl171 1 3 [] Tryz.func171 rfl (by kernel_rfl) (by kernel_rfl) rfl (by kernel_rfl) (by kernel_rfl) (by simp) ?_
  simp -implicitDefEqProofs (disch:=omega) only [go_sem,↓reduceIte,hsh,hsr,hand]
  refine ⟨[(0,0)],[],[],rfl,?_,?_,?_⟩ <;> simp -implicitDefEqProofs (disch:=omega) only [go_sem,↓reduceIte]
theorem begin_spec (a : Int) (n v : Nat) (hn : 1 ≤ n) (h4 : n ≤ 4) (hv : v ≤ 65536) : FnC Tryz.prog 107 [.agg [.int .i64 a,.int .i64 n],.int .i64 v] [] (.ref 0 [])
    [(0,.var (.agg [.agg [.int .u32 0,.int .u64 ((v / pw n : Nat) : Int),.int .i64 ((v % pw n : Nat) : Int)],.agg [.int .i64 a,.int .i64 n]]))]:=by
  refine fnN mix [] 0 2 [.tmp 4] Tryz.func107 rfl (by kernel_rfl) (by kernel_rfl) rfl (by kernel_rfl) (by kernel_rfl) (by simp) ?_
  simp -implicitDefEqProofs (disch:=omega) only [go_sem,↓reduceIte]
  refine callG false [(0,1)] [(0,1)] 2 (to_spec 0 0 0 0 a n v hn h4 hv) ?_ ?_
  · simp [keys]
  simp -implicitDefEqProofs (disch:=omega) only [go_sem,↓reduceIte]
  refine ⟨[(0,1)],[],[],rfl,?_,?_,?_⟩ <;> simp -implicitDefEqProofs (disch:=omega) only [go_sem,↓reduceIte]
def plUp : List (Nat × Plan):=[(0,[(0,[],none),(1,[0],none),(2,[0],none),(3,[0],none),(4,[0],none),(5,[0],none),(6,[0],none),(7,[0,1,2,3,4,5,6],none),(8,[0,1,2,3,4,5,6],none),(9,[0,1,2,3,4,5,6],none),(10,[0,1,2,3,4,5,6],none),(11,[0,1,2,3,4,5,6],none),(12,[0,1,2,3,4,5,6],none),(13,[],some [2,8,14])])]
attribute [go_sem] plUp
theorem up_spec11 (k a z : Int) (n t : Nat) (hn : 1 ≤ n) (h4 : n ≤ 4) (hv : t ≤ 65536) (hk : 0 ≤ k ∧ k < 100) : FnC Tryz.prog 109 [.ref 0 []]
    [(0,.var (.agg [.agg [.int .u32 k,.int .u64 t,.int .i64 z],.agg [.int .i64 a,.int .i64 n]]))] (.tup [])
    [(0,.var (.agg [.agg [.int .u32 (k + 1),.int .u64 ((t / pw n : Nat) : Int),.int .i64 ((t % pw n : Nat) : Int)],.agg [.int .i64 a,.int .i64 n]]))]:=by
  refine fnN mix plUp 1 1 [] Tryz.func109 rfl (by kernel_rfl) (by kernel_rfl) rfl (by kernel_rfl) (by kernel_rfl) (by simp) ?_
  simp -implicitDefEqProofs (disch:=omega) only [go_sem,↓reduceIte]
  refine callG false [(0,0)] [(0,0)] 1 (to_spec (k + 1) k t z a n t hn h4 hv) ?_ ?_
  · simp [keys]
  simp -implicitDefEqProofs (disch:=omega) only [go_sem,↓reduceIte]
  refine ⟨[(0,0)],[],[],rfl,?_,?_,?_⟩ <;> simp -implicitDefEqProofs (disch:=omega) only [go_sem,↓reduceIte]
theorem spot_spec (k t : Int) (f : Int) (hf : 0 ≤ f ∧ f < 4294967296) : FnC Tryz.prog 173 [.agg [.int .u32 k,.int .u64 t,.int .i64 f]] [] (.ints .u32 8 (base k t 0 f)) []:=by
  refine fn0 mix [] 0 1 [.cell 2 282] Tryz.func173 rfl (by kernel_rfl) (by kernel_rfl) rfl (by kernel_rfl) (by kernel_rfl) (by simp) ?_
  simp -implicitDefEqProofs (disch:=omega) only [go_sem,↓reduceIte]
  refine call0 (ots_spec k t f) ?_
  simp -implicitDefEqProofs (disch:=omega) only [go_sem,↓reduceIte]
theorem told_spec (shape : AV) (a b : Int) (r root pub : List Int) (index : Int) (ps : List (List Int)) (hr : goodD r) (ht : goodD root) (hp : ∀ p ∈ ps,∀ x ∈ p,0 ≤ x ∧ x < 256) (hc : (cat ps).length ≤ 100000) (hps : ps.length ≤ 100000) (hi : 0 ≤ index ∧ index < 1000000) :
    FnC Tryz.prog 106 [.agg [.agg [.int .i64 a,.int .i64 b],.ints .u8 32 root,.ints .u8 32 pub],.ints .u8 32 r,.int .i64 index,.sl (.lst 1 ps.length (ps.map bsl))] [] (.ints .u8 32 (msgD r root index (cat ps))) []:=by
  refine fn0 mix [] 0 4 [.cell 8 25] Tryz.func106 rfl (by kernel_rfl) (by kernel_rfl) rfl (by kernel_rfl) (by kernel_rfl) (by simp) ?_
  simp -implicitDefEqProofs (disch:=omega) only [go_sem,↓reduceIte]
  refine call0 (message_spec r root index ps hr.1 hr.2 ht.1 ht.2 hp hc hps) ?_
  simp -implicitDefEqProofs (disch:=omega) only [go_sem,↓reduceIte]
def rootK (seed pub : List Int) (n idx : Nat) (k : Nat) : List Int:=treeD (leafD pub seed k (atN n idx (k + 1))) pub k (atN n idx (k + 1)) n 0
def mK (seed pub m : List Int) (n idx : Nat) : Nat → List Int
  | 0 => m
  | k + 1 => rootK seed pub n idx k
def partK (seed pub m : List Int) (n idx k : Nat) : Part :=
  (rowN (signD (mK seed pub m n idx k) seed pub (base k (atN n idx (k + 1)) 0 (atN n idx k % pw n : Nat))) 67,wayD (leafD pub seed k (atN n idx (k + 1))) pub k (atN n idx (k + 1)) (atN n idx k % pw n) n)
def partsK (seed pub m : List Int) (n idx : Nat) : Nat → List Part
  | 0 => []
  | k + 1 => partsK seed pub m n idx k ++ [partK seed pub m n idx k]
theorem partsK_len (seed pub m : List Int) (n idx : Nat) : ∀ k,(partsK seed pub m n idx k).length = k
  | 0 => rfl
  | k + 1 => by simp [partsK,partsK_len seed pub m n idx k]
theorem rootK_good (seed pub : List Int) (n idx k : Nat) : goodD (rootK seed pub n idx k):=treeD_good (leafD_good pub _ _ seed) _ _ _ _ _
theorem mK_good (seed pub : List Int) {m : List Int} (hm : goodD m) (n idx : Nat) : ∀ k,goodD (mK seed pub m n idx k)
  | 0 => hm
  | k + 1 => rootK_good _ _ _ _ _
def rD (key : List Int) (idx : Int) : List Int:=ofD 3 key (be idx 32)
theorem rD_good (key : List Int) (idx : Int) : goodD (rD key idx):=ofD_good _ _ _
def outA : Nat → AV
  | 0 => .nils
  | k + 1 => .osl 6 [] 2 0 (k + 1)
def outO (seed pub m : List Int) (n idx : Nat) : Nat → OO
  | 0 => []
  | k + 1 => [(6,.row (.lst 2 (k + 1) ((partsK seed pub m n idx (k + 1)).map pt)))]
end Go.Proofs.YtololahjocfbeaaGreat
