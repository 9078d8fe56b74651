/- Texts,joined. -/
import Derived.Test.YtololahjocfbeaaGreatD08
namespace Go.Proofs.YtololahjocfbeaaGreat
open Go Go.Sy Go.Proofs.Tryz
set_option maxRecDepth 100000
set_option maxHeartbeats 8000000
set_option linter.unusedSimpArgs false
set_option linter.unusedVariables false
abbrev Part:=List (List Int) × List (List Int)
def dg (d : List Int) : AV:=.ints .u8 32 d
def pt (p : Part) : AV:=.agg [.sl (.lst 32 p.1.length (p.1.map dg)),.sl (.lst 32 p.2.length (p.2.map dg))]
def rightP (a b : Int) : Prop:=1 ≤ a ∧ a ≤ 4 ∧ 1 ≤ b ∧ b ≤ 4
instance (a b : Int) : Decidable (rightP a b):=by unfold rightP; infer_instance
def manyD (a b : Int) : Nat:=if rightP a b then 2 ^ (a * b).toNat else 0
theorem mul_16 {a b : Int} (h : rightP a b) : 1 ≤ a * b ∧ a * b ≤ 16:=by
  obtain ⟨h1,h2,h3,h4⟩:=h
  have x1 : 0 ≤ (a - 1) * (b - 1):=Int.mul_nonneg (by omega) (by omega)
  have x2 : 0 ≤ (4 - a) * b:=Int.mul_nonneg (by omega) (by omega)
  rw [Int.sub_mul,Int.mul_sub] at x1
  rw [Int.sub_mul] at x2
  omega
theorem manyD_le (a b : Int) : manyD a b ≤ 65536:=by
  unfold manyD
  split
  · rename_i h
    have:=mul_16 h
    exact Nat.le_trans (Nat.pow_le_pow_right (show 0 < 2 by decide) (show (a * b).toNat ≤ 16 by omega)) (by decide)
  · omega
theorem right_spec11 (a b : Int) : FnC Tryz.prog 55 [.agg [.int .i64 a,.int .i64 b]] [] (.bool (decide (rightP a b))) []:=by
  refine fn0 mix [] 0 1 [.tmp 2] Tryz.func55 rfl (by kernel_rfl) (by kernel_rfl) rfl (by kernel_rfl) (by kernel_rfl) (by simp) ?_
  simp -implicitDefEqProofs (disch:=omega) only [go_sem,↓reduceIte]
  by_cases hr : rightP a b
  · obtain ⟨h1,h2,h3,h4⟩:=id hr
    have d1 : decide (1 ≤ a) = true:=decide_eq_true h1
    have d2 : decide (a ≤ 4) = true:=decide_eq_true h2
    have d3 : decide (1 ≤ b) = true:=decide_eq_true h3
    have d4 : decide (b ≤ 4) = true:=decide_eq_true h4
    have e : decide (rightP a b) = true:=decide_eq_true hr
    simp -implicitDefEqProofs (disch:=omega) only [go_sem,↓reduceIte,d1,d2,d3,d4,e]
  · have e : decide (rightP a b) = false:=decide_eq_false hr
    unfold rightP at hr
    rw [e]
    simp -implicitDefEqProofs (disch:=omega) only [go_sem,↓reduceIte]
    refine brd (fun h1 => ?_) (fun h1 => ?_)
    case' refine_2 => simp -implicitDefEqProofs (disch:=omega) only [go_sem,↓reduceIte]
    simp -implicitDefEqProofs (disch:=omega) only [go_sem,↓reduceIte]
    refine brd (fun h2 => ?_) (fun h2 => ?_)
    case' refine_2 => simp -implicitDefEqProofs (disch:=omega) only [go_sem,↓reduceIte]
    simp -implicitDefEqProofs (disch:=omega) only [go_sem,↓reduceIte]
    refine brd (fun h3 => ?_) (fun h3 => ?_)
    case' refine_2 => simp -implicitDefEqProofs (disch:=omega) only [go_sem,↓reduceIte]
    have d4 : decide (b ≤ 4) = false:=decide_eq_false (by omega)
    simp -implicitDefEqProofs (disch:=omega) only [go_sem,↓reduceIte,d4]
theorem pow_62 {n : Nat} (h : n ≤ 62) : (2 : Int) ^ n ≤ 4611686018427387904 ∧ 1 ≤ (2 : Int) ^ n:=by
  have h1:=Nat.pow_le_pow_right (show 0 < 2 by decide) h
  have h2:=Nat.two_pow_pos n
  have e : (2 : Int) ^ n = ((2 ^ n : Nat) : Int):=by simp
  have e2 : (2 : Nat) ^ 62 = 4611686018427387904:=by decide
  omega
theorem shl_one {n : Nat} (h : n ≤ 62) : ishl .i64 1 n = 2 ^ n:=by
  have hp:=pow_62 h
  unfold ishl
  rw [Nat.min_eq_left (show n ≤ IntKind.i64.bits by show n ≤ 64; omega),Int.one_mul]
  exact wrap_i64 (by omega) (by omega)
theorem many_spec (a b : Int) : FnC Tryz.prog 14 [.agg [.int .i64 a,.int .i64 b]] [] (.int .i64 (manyD a b)) []:=by
  refine fn0 mix [] 0 1 [.tmp 2] Tryz.func14 rfl (by kernel_rfl) (by kernel_rfl) rfl (by kernel_rfl) (by kernel_rfl) (by simp) ?_
  simp -implicitDefEqProofs (disch:=omega) only [go_sem,↓reduceIte]
  refine call0 (right_spec11 a b) ?_
  simp -implicitDefEqProofs (disch:=omega) only [go_sem,↓reduceIte]
  refine brd (fun h => ?_) (fun h => ?_)
  · have hm:=mul_16 h
    have e1 : ishl .i64 1 (a * b).toNat = (manyD a b : Int):=by
      rw [shl_one (by omega),manyD,if_pos h]; simp
    simp -implicitDefEqProofs (disch:=omega) only [go_sem,↓reduceIte,e1]
    exact Int.le_trans (by decide) hm.1
  · have e1 : manyD a b = 0:=by rw [manyD,if_neg h]
    simp -implicitDefEqProofs (disch:=omega) only [go_sem,↓reduceIte,e1]
theorem take_next' {α : Type} {l : List α} {i : Nat} {x : α} (h : l[i]? = some x) : l.take (i + 1) = l.take i ++ [x]:=by
  rw [List.take_add_one,h]; rfl
def formedP (a b i : Int) (ps : List Part) : Prop:=0 ≤ i ∧ i < manyD a b ∧ (ps.length : Int) = a ∧ ∀ p ∈ ps,p.1.length = 67 ∧ (p.2.length : Int) = b
instance (a b i : Int) (ps : List Part) : Decidable (formedP a b i ps):=by unfold formedP; infer_instance
attribute [go_sem] pl30 pl83 pl84 pl132
def nums (l : List Int) : List Int:=l.flatMap fun x => be (IntKind.u64.wrap x) 8
def dcat (ps : List (List Int)) : List Int:=ps.flatMap id
theorem nums_succ {l : List Int} {i : Nat} (h : i < l.length) : nums (l.take (i + 1)) = nums (l.take i) ++ be (IntKind.u64.wrap (l.getD i 0)) 8:=by
  unfold nums
  rw [List.take_add_one,List.getElem?_eq_getElem h,List.flatMap_append]
  simp [List.getD,List.getElem?_eq_getElem h]
theorem dcat_succ {l : List (List Int)} {i : Nat} {d : List Int} (h : l[i]? = some d) : dcat (l.take (i + 1)) = dcat (l.take i) ++ d:=by
  unfold dcat
  rw [List.take_add_one,h,List.flatMap_append]
  simp
theorem dcat_len {l : List (List Int)} (h : ∀ d ∈ l,d.length = 32) : (dcat l).length = 32 * l.length:=by
  induction l with
  | nil => rfl
  | cons d l ih =>
    have:=ih (fun x hx => h x (by simp [hx]))
    simp only [dcat,List.flatMap_cons,List.length_append,id,List.length_cons,h d (by simp)] at this ⊢
    omega
theorem numbers_spec (l xs : List Int) (k n : Nat) (hk : l.length = k) (hl : k ≤ 1000) (hn : n ≤ 1000000) :
    FnC Tryz.prog 83 [.ref 0 [],.sl (.ints .i64 k l)] [(0,.var (.agg [.osl 1 [] 1 0 n])),(1,.row (.ints .u8 n xs))] (.ref 0 [])
      [(0,.var (.agg [.osl 1 [] 1 0 (n + 8 * k)])),(1,.row (.ints .u8 (n + 8 * k) (xs ++ nums l)))]:=by
  refine fnV mix pl83 1 2 2 [.tmp 4] Tryz.func83 rfl (by kernel_rfl) (by kernel_rfl) rfl (by kernel_rfl) (by kernel_rfl) (by simp) rfl rfl ?_
  simp -implicitDefEqProofs (disch:=omega) only [go_sem,↓reduceIte]
  refine loop (ι:=Nat) 2 (fun i => i ≤ k) (fun i => [(0,.ref 0 []),(7,.sl (.ints .i64 k l)),(8,.int .i64 k),(9,.int .i64 i)]) (fun i => [(0,.var (.agg [.osl 1 [] 1 0 (n + 8 * i)])),(1,.row (.ints .u8 (n + 8 * i) (xs ++ nums (l.take i))))]) (fun i => k - i) 0 [(0,0),(1,1)] [] (Nat.zero_le _) rfl ?_ ?_ ?_ (fun i hi => ?_)
  · simp -implicitDefEqProofs (disch:=omega) only [go_sem,↓reduceIte]
  · simp -implicitDefEqProofs (disch:=omega) only [go_sem,↓reduceIte]
  · simp -implicitDefEqProofs (disch:=omega) only [go_sem,↓reduceIte,nums,List.take_zero,List.flatMap_nil,Nat.mul_zero,List.append_nil]
  simp -implicitDefEqProofs (disch:=omega) only [go_sem,↓reduceIte]
  refine brd (fun h => ?_) (fun h => ?_)
  · have hs:=nums_succ (show i < l.length by omega)
    have e : n + 8 * i + 8 = n + 8 * (i + 1):=by omega
    simp -implicitDefEqProofs (disch:=omega) only [go_sem,↓reduceIte]
    refine callF 1 (number_spec (IntKind.u64.wrap (l.getD i 0)) 8 8 rfl) ?_
    simp -implicitDefEqProofs (disch:=omega) only [go_sem,↓reduceIte,e]
    refine ⟨i + 1,[(0,0),(1,3)],[],[],by dsimp only; omega,by dsimp only; omega,rfl,?_,?_,?_⟩ <;> simp -implicitDefEqProofs (disch:=omega) only [go_sem,↓reduceIte,hs,List.append_assoc]
  obtain rfl : i = k:=by omega
  rw [List.take_of_length_le (by omega)]
  simp -implicitDefEqProofs (disch:=omega) only [go_sem,↓reduceIte]
  refine ⟨[(0,0),(1,1)],[],[],rfl,?_,?_,?_⟩ <;> simp -implicitDefEqProofs (disch:=omega) only [go_sem,↓reduceIte]
theorem numbers_nil_spec (x : Int) : FnC Tryz.prog 83 [.ref 0 [],.sl (.ints .i64 1 [x])] [(0,.var (.agg [.nils]))] (.ref 0 []) [(0,.var (.agg [.osl 1 [] 1 0 8])),(1,.row (.ints .u8 8 (nums [x])))]:=by
  have e : nums [x] = be (IntKind.u64.wrap x) 8:=by simp [nums]
  refine fnN mix pl83 1 2 [.tmp 4] Tryz.func83 rfl (by kernel_rfl) (by kernel_rfl) rfl (by kernel_rfl) (by kernel_rfl) (by simp) ?_
  simp -implicitDefEqProofs (disch:=omega) only [go_sem,↓reduceIte]
  refine loop (ι:=Nat) 2 (fun i => i ≤ 1) (fun i => [(0,.ref 0 []),(7,.sl (.ints .i64 1 [x])),(8,.int .i64 1),(9,.int .i64 i)]) (fun i => [(0,.var (.agg [.osl 1 [] 1 0 (8 * i)])),(1,.row (.ints .u8 (8 * i) (nums ([x].take i))))]) (fun i => 1 - i) 0 [(0,0)] [1] (Nat.zero_le _) rfl ?_ ?_ ?_ (fun i hi => ?_)
  · simp -implicitDefEqProofs (disch:=omega) only [go_sem,↓reduceIte]
  · simp -implicitDefEqProofs (disch:=omega) only [go_sem,↓reduceIte]
  · simp -implicitDefEqProofs (disch:=omega) only [go_sem,↓reduceIte,nums,List.take_zero,List.flatMap_nil,Nat.mul_zero]
  simp -implicitDefEqProofs (disch:=omega) only [go_sem,↓reduceIte]
  refine brd (fun h => ?_) (fun h => ?_)
  · obtain rfl : i = 0:=by omega
    simp -implicitDefEqProofs (disch:=omega) only [go_sem,↓reduceIte]
    refine callF 1 (number_spec (IntKind.u64.wrap ([x].getD 0 0)) 8 8 rfl) ?_
    simp -implicitDefEqProofs (disch:=omega) only [go_sem,↓reduceIte]
    refine ⟨0 + 1,[(0,0),(1,3)],[],[],by dsimp only; omega,by dsimp only; omega,rfl,?_,?_,?_⟩ <;> simp -implicitDefEqProofs (disch:=omega) only [go_sem,↓reduceIte,nums,List.flatMap_cons,List.flatMap_nil,Nat.mul_zero]
  obtain rfl : i = 1:=by omega
  simp -implicitDefEqProofs (disch:=omega) only [go_sem,↓reduceIte]
  refine ⟨[(0,0),(1,1)],[],[],rfl,?_,?_,?_⟩ <;> simp -implicitDefEqProofs (disch:=omega) only [go_sem,↓reduceIte]
theorem digests_spec (ds : List (List Int)) (xs : List Int) (n k : Nat) (hk : ds.length = k) (hl : k ≤ 1000) (hn : n ≤ 1000000) :
    FnC Tryz.prog 84 [.ref 0 [],.sl (.lst 32 k (ds.map dg))] [(0,.var (.agg [.osl 1 [] 1 0 n])),(1,.row (.ints .u8 n xs))] (.ref 0 [])
      [(0,.var (.agg [.osl 1 [] 1 0 (n + 32 * k)])),(1,.row (.ints .u8 (n + 32 * k) (xs ++ dcat ds)))]:=by
  refine fnV mix pl84 1 2 2 [.tmp 4] Tryz.func84 rfl (by kernel_rfl) (by kernel_rfl) rfl (by kernel_rfl) (by kernel_rfl) (by simp) rfl rfl ?_
  simp -implicitDefEqProofs (disch:=omega) only [go_sem,↓reduceIte]
  refine loop (ι:=Nat) 2 (fun i => i ≤ k) (fun i => [(0,.ref 0 []),(7,.sl (.lst 32 k (ds.map dg))),(8,.int .i64 k),(9,.int .i64 i)]) (fun i => [(0,.var (.agg [.osl 1 [] 1 0 (n + 32 * i)])),(1,.row (.ints .u8 (n + 32 * i) (xs ++ dcat (ds.take i))))]) (fun i => k - i) 0 [(0,0),(1,1)] [] (Nat.zero_le _) rfl ?_ ?_ ?_ (fun i hi => ?_)
  · simp -implicitDefEqProofs (disch:=omega) only [go_sem,↓reduceIte]
  · simp -implicitDefEqProofs (disch:=omega) only [go_sem,↓reduceIte]
  · simp -implicitDefEqProofs (disch:=omega) only [go_sem,↓reduceIte,dcat,List.take_zero,List.flatMap_nil,Nat.mul_zero,List.append_nil]
  simp -implicitDefEqProofs (disch:=omega) only [go_sem,↓reduceIte]
  refine brd (fun h => ?_) (fun h => ?_)
  · have hd:=List.getElem?_eq_getElem (show i < ds.length by omega)
    have hg:=fun K => getP_map (f:=dg) hd K
    have hs:=dcat_succ hd
    generalize ds[i]'(show i < ds.length by omega) = d at *
    have e : n + 32 * i + 32 = n + 32 * (i + 1):=by omega
    simp -implicitDefEqProofs (disch:=omega) only [go_sem,↓reduceIte,hg,dg,e]
    refine ⟨i + 1,[(0,0),(1,3)],[],[],by dsimp only; omega,by dsimp only; omega,rfl,?_,?_,?_⟩ <;> simp -implicitDefEqProofs (disch:=omega) only [go_sem,↓reduceIte,hs,List.append_assoc]
  obtain rfl : i = k:=by omega
  rw [List.take_of_length_le (by omega)]
  simp -implicitDefEqProofs (disch:=omega) only [go_sem,↓reduceIte]
  refine ⟨[(0,0),(1,1)],[],[],rfl,?_,?_,?_⟩ <;> simp -implicitDefEqProofs (disch:=omega) only [go_sem,↓reduceIte]
def headT (key epoch : Int) (tree log : List Int) : List Int:=1 :: (nums [key,epoch] ++ dcat [tree,log])
def epochT (epoch : Int) (tree : List Int) : List Int:=nums [epoch] ++ dcat [tree]
theorem headText_spec (key epoch : Int) (tree log : List Int) : FnC Tryz.prog 30 [.agg [.int .i64 key,.int .i64 epoch,.ints .u8 32 tree,.ints .u8 32 log]] [] (.osl 0 [] 1 0 81) [(0,.row (.ints .u8 81 (headT key epoch tree log)))]:=by
  refine fnN mix pl30 0 1 [.tmp 2] Tryz.func30 rfl (by kernel_rfl) (by kernel_rfl) rfl (by kernel_rfl) (by kernel_rfl) (by simp) ?_
  simp -implicitDefEqProofs (disch:=omega) only [go_sem,↓reduceIte]
  refine callGB [(0,2),(1,1)] [(0,2),(1,4)] 5 (numbers_spec [key,epoch] [1] 2 1 rfl (by decide) (by decide)) ?_ ?_
  · simp [keys]
  simp -implicitDefEqProofs (disch:=omega) only [go_sem,↓reduceIte]
  refine callGB [(0,2),(1,4)] [(0,2),(1,6)] 7 (digests_spec [tree,log] ([1] ++ nums [key,epoch]) 17 2 rfl (by decide) (by decide)) ?_ ?_
  · simp [keys]
  simp -implicitDefEqProofs (disch:=omega) only [go_sem,↓reduceIte,dg]
  refine ⟨[(0,6)],[],[],rfl,?_,?_,?_⟩ <;> simp -implicitDefEqProofs (disch:=omega) only [go_sem,↓reduceIte,headT]
theorem epochText_spec (epoch : Int) (tree : List Int) : FnC Tryz.prog 132 [.int .i64 epoch,.ints .u8 32 tree] [] (.osl 0 [] 1 0 40) [(0,.row (.ints .u8 40 (epochT epoch tree)))]:=by
  refine fnN mix pl132 0 2 [.tmp 4] Tryz.func132 rfl (by kernel_rfl) (by kernel_rfl) rfl (by kernel_rfl) (by kernel_rfl) (by simp) ?_
  simp -implicitDefEqProofs (disch:=omega) only [go_sem,↓reduceIte]
  refine callGB [(0,1)] [(0,1),(1,3)] 4 (numbers_nil_spec epoch) ?_ ?_
  · simp [keys]
  simp -implicitDefEqProofs (disch:=omega) only [go_sem,↓reduceIte]
  refine callGB [(0,1),(1,3)] [(0,1),(1,5)] 6 (digests_spec [tree] (nums [epoch]) 8 1 rfl (by decide) (by decide)) ?_ ?_
  · simp [keys]
  simp -implicitDefEqProofs (disch:=omega) only [go_sem,↓reduceIte,dg]
  refine ⟨[(0,5)],[],[],rfl,?_,?_,?_⟩ <;> simp -implicitDefEqProofs (disch:=omega) only [go_sem,↓reduceIte,epochT]
end Go.Proofs.YtololahjocfbeaaGreat
