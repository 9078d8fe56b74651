/- Texts,joined. -/
import Derived.Test.YtololahjocfbeaaGreatD24
namespace Go.Proofs.YtololahjocfbeaaGreat
open Go Go.Sy Go.Proofs.Tryz
set_option maxRecDepth 100000
set_option maxHeartbeats 8000000
set_option linter.unusedSimpArgs false
set_option linter.unusedVariables false
attribute [go_sem] pl205 pl225
theorem u32_in (x : Int) : 0 ≤ IntKind.u32.wrap x ∧ IntKind.u32.wrap x < 4294967296:=by rw [wrap_u32']; omega
theorem base_good {l k f : Int} (a : Int) (hl : 0 ≤ l ∧ l < 4294967296) (hk : 0 ≤ k ∧ k < 4294967296) (hf : 0 ≤ f ∧ f < 4294967296) : goodW (base l a k f):=by
  refine ⟨rfl,fun w hw => ?_⟩
  simp only [base,List.mem_cons,List.not_mem_nil,or_false] at hw
  rcases hw with rfl | rfl | rfl | rfl | rfl | rfl | rfl | rfl
  · exact hl
  · exact u32_in _
  · exact u32_in _
  · exact hk
  · exact hf
  · decide
  · decide
  · decide
def nodeD (a b pub : List Int) (l t : Int) (lv i : Nat) : List Int:=joinD a b pub (adrL (base l t 2 0) lv i)
theorem nodeD_good (a b pub : List Int) (l t : Int) (lv i : Nat) : goodD (nodeD a b pub l t lv i):=joinD_good _ _ _ _
section
variable (pub : List Int) (l t : Int) (hp : goodD pub) (hl : 0 ≤ l ∧ l < 4294967296) (ht : 0 ≤ t ∧ t < 18446744073709551616)
include hp hl in
theorem pjoin_spec (a b : List Int) (lv i : Nat) (ha : goodD a) (hb : goodD b) (h1 : lv < 1000) (h2 : i < 1000) : FnC Tryz.prog 225 [.agg [.ints .u8 32 pub,.int .u32 l,.int .u64 t],.ints .u8 32 a,.ints .u8 32 b,.int .i64 lv,.int .i64 i] [] (.ints .u8 32 (nodeD a b pub l t lv i)) []:=by
  have hw:=base_good t hl (show (0 : Int) ≤ 2 ∧ (2 : Int) < 4294967296 by decide) (show (0 : Int) ≤ 0 ∧ (0 : Int) < 4294967296 by decide)
  have hs : (((base l t 2 0).set 5 lv).set 6 i).set 7 0 = adrL (base l t 2 0) lv i:=rfl
  refine fn0 mix pl225 0 5 [.cell 10 25] Tryz.func225 rfl (by kernel_rfl) (by kernel_rfl) rfl (by kernel_rfl) (by kernel_rfl) (by simp) ?_
  simp -implicitDefEqProofs (disch:=omega) only [go_sem,↓reduceIte]
  refine call0 (tree_spec l t) ?_
  simp -implicitDefEqProofs (disch:=omega) only [go_sem,↓reduceIte]
  refine call0 (at_spec _ _ _) ?_
  rw [hs]
  simp -implicitDefEqProofs (disch:=omega) only [go_sem,↓reduceIte]
  refine call0 (join_spec09 _ _ _ _ ha hb hp (adrL_good hw (by omega) (by omega))) ?_
  simp -implicitDefEqProofs (disch:=omega) only [go_sem,↓reduceIte,nodeD]
def leafD (pub seed : List Int) (l t : Int) (i : Nat) : List Int:=compressD pub (base l t 1 i) (rowN (pubD seed pub (base l t 0 i)) 67)
theorem leafD_good (seed : List Int) (i : Nat) : goodD (leafD pub seed l t i):=compressD_good _ _ (by rw [rowN_len]; decide) (rowN_good fun i _ => pubD_good _ _ _ _)
include hp hl in
theorem leaf_spec (seed key : List Int) (i : Nat) (hs : goodD seed) (hi : i < 1000) : FnC Tryz.prog 205 [.agg [.ints .u8 32 seed,.ints .u8 32 key,.ints .u8 32 pub],.int .u32 l,.int .u64 t,.int .i64 i] [] (.ints .u8 32 (leafD pub seed l t i)) []:=by
  have hw0:=base_good t hl (show (0 : Int) ≤ 0 ∧ (0 : Int) < 4294967296 by decide) (show (0 : Int) ≤ (i : Int) ∧ (i : Int) < 4294967296 by omega)
  have hw1:=base_good t hl (show (0 : Int) ≤ 1 ∧ (1 : Int) < 4294967296 by decide) (show (0 : Int) ≤ (i : Int) ∧ (i : Int) < 4294967296 by omega)
  refine fn0 mix pl205 0 4 [.cell 8 25] Tryz.func205 rfl (by kernel_rfl) (by kernel_rfl) rfl (by kernel_rfl) (by kernel_rfl) (by simp) ?_
  simp -implicitDefEqProofs (disch:=omega) only [go_sem,↓reduceIte]
  refine call0 (ots_spec l t i) ?_
  simp -implicitDefEqProofs (disch:=omega) only [go_sem,↓reduceIte]
  refine callF 1 (wpublic_spec seed pub _ hs hp hw0) ?_
  simp -implicitDefEqProofs (disch:=omega) only [go_sem,↓reduceIte]
  refine call0 (ltree_spec l t i) ?_
  simp -implicitDefEqProofs (disch:=omega) only [go_sem,↓reduceIte]
  refine callB (compress_spec09 pub _ (rowN (pubD seed pub (base l t 0 i)) 67) 67 hp hw1 (rowN_len _ _) (by decide) (by decide) (rowN_good fun i _ => pubD_good _ _ _ _)) ?_ ?_
  · simp -implicitDefEqProofs (disch:=omega) only [go_sem,↓reduceIte]
  simp -implicitDefEqProofs (disch:=omega) only [go_sem,↓reduceIte,leafD]
def climbD (x : List Int) (way : List (List Int)) (i : Nat) : Nat → List Int
  | 0 => x
  | k + 1 => if i / 2 ^ k % 2 = 0 then nodeD (climbD x way i k) (way.getD k []) pub l t k (i / 2 ^ k / 2) else nodeD (way.getD k []) (climbD x way i k) pub l t k (i / 2 ^ k / 2)
theorem climbD_good {x : List Int} (h : goodD x) (way : List (List Int)) (i : Nat) : ∀ k,goodD (climbD pub l t x way i k)
  | 0 => h
  | k + 1 => by rw [climbD]; split <;> exact nodeD_good _ _ _ _ _ _ _
theorem shr_nat (i k : Nat) (h : k ≤ 64) : ishr .i64 (i : Int) k = ((i / 2 ^ k : Nat) : Int):=by
  rw [ishr_div _ _ _ h,Int.natCast_ediv]; simp
include hp hl in
theorem climb_spec (x : List Int) (way : List (List Int)) (i n : Nat) (hn : way.length = n) (h1 : 1 ≤ n) (h4 : n ≤ 4) (hi : i < 2 ^ n) (hx : goodD x) (hg : ∀ d ∈ way,goodD d) :
    FnC Tryz.prog 176 [.ints .u8 32 x,.sl (.lst 32 n (way.map dg)),.int .i64 i,.ints .u8 32 pub,.int .u32 l,.int .u64 t] [] (.tup [.ints .u8 32 (climbD pub l t x way i n),.int .i64 0]) []:=by
  have hsh : ishl .i64 1 n = ((2 ^ n : Nat) : Int):=by
    obtain rfl | rfl | rfl | rfl : n = 1 ∨ n = 2 ∨ n = 3 ∨ n = 4:=by omega
    all_goals decide
  have hi16 : i < 1000:=by
    have : 2 ^ n ≤ 2 ^ 4:=Nat.pow_le_pow_right (by decide) h4
    omega
  refine fn0 mix [] 0 6 [.cell 12 25,.tmp 13] Tryz.func176 rfl (by kernel_rfl) (by kernel_rfl) rfl (by kernel_rfl) (by kernel_rfl) (by simp) ?_
  simp -implicitDefEqProofs (disch:=omega) only [go_sem,↓reduceIte,hsh]
  refine brd (fun h => by omega) (fun h => ?_)
  simp -implicitDefEqProofs (disch:=omega) only [go_sem,↓reduceIte,hsh]
  refine brd (fun h => by omega) (fun h => ?_)
  simp -implicitDefEqProofs (disch:=omega) only [go_sem,↓reduceIte,hsh]
  refine brd (fun h => by omega) (fun h => ?_)
  simp -implicitDefEqProofs (disch:=omega) only [go_sem,↓reduceIte,hsh]
  refine brd (fun h => by omega) (fun h => ?_)
  simp -implicitDefEqProofs (disch:=omega) only [go_sem,↓reduceIte,hsh]
  refine loop (ι:=Nat) 4 (fun k => k ≤ n) (fun k => [(2,.int .i64 i),(6,.ref 0 []),(9,.ref 1 []),(12,.ref 2 []),(13,.int .i64 0),(14,.ref 3 []),(42,.sl (.lst 32 n (way.map dg))),(43,.int .i64 n),(44,.int .i64 k)])
    (fun k => [(0,.var (.ints .u8 32 (climbD pub l t x way i k))),(1,.var (.ints .u8 32 pub)),(2,.var (.ints .u8 32 (List.replicate 32 0))),(3,.var (.agg [.ints .u8 32 pub,.int .u32 l,.int .u64 t]))]) (fun k => n - k) 0 [(0,0),(1,1),(2,2),(3,3)] [] (Nat.zero_le _) rfl ?_ ?_ ?_ (fun k hk => ?_)
  · simp -implicitDefEqProofs (disch:=omega) only [go_sem,↓reduceIte]
  · simp -implicitDefEqProofs (disch:=omega) only [go_sem,↓reduceIte]
  · simp -implicitDefEqProofs (disch:=omega) only [go_sem,↓reduceIte,climbD]
  simp -implicitDefEqProofs (disch:=omega) only [go_sem,↓reduceIte]
  refine brd (fun h => ?_) (fun h => ?_)
  · have hsr:=shr_nat i k (by omega)
    have hg1:=fun K => getP_map (f:=dg) (getD_some' (row:=way) (i:=k) (by omega)) K
    have hgd:=getD_good hg (show k < way.length by omega)
    have hc:=climbD_good pub l t hx way i k
    have hle : (way.map dg).length = n:=by rw [List.length_map,hn]
    have hd : i / 2 ^ k ≤ i:=Nat.div_le_self _ _
    generalize hq : i / 2 ^ k = q at hsr hd
    have t2 : (q : Int).tmod 2 = (q % 2 : Nat):=by rw [Int.tmod_eq_emod_of_nonneg (by omega)]; omega
    have t3 : (q : Int).tdiv 2 = (q / 2 : Nat):=by rw [Int.tdiv_eq_ediv_of_nonneg (by omega)]; omega
    simp -implicitDefEqProofs (disch:=omega) only [go_sem,↓reduceIte,hsr,hg1,dg,hle,t2,t3]
    refine brd (fun h6 => ?_) (fun h6 => ?_)
    · have e : climbD pub l t x way i (k + 1) = nodeD (climbD pub l t x way i k) (way.getD k []) pub l t k (q / 2):=by rw [climbD,hq,if_pos (by omega)]
      simp -implicitDefEqProofs (disch:=omega) only [go_sem,↓reduceIte,hsr,t2,t3]
      refine call0 (pjoin_spec pub l t hp hl _ _ k (q / 2) hc hgd (by omega) (by omega)) ?_
      simp -implicitDefEqProofs (disch:=omega) only [go_sem,↓reduceIte]
      refine ⟨k + 1,[(0,0),(1,1),(2,2),(3,3)],[],[],by dsimp only; omega,by dsimp only; omega,rfl,?_,?_,?_⟩ <;> simp -implicitDefEqProofs (disch:=omega) only [go_sem,↓reduceIte,e]
    · have e : climbD pub l t x way i (k + 1) = nodeD (way.getD k []) (climbD pub l t x way i k) pub l t k (q / 2):=by rw [climbD,hq,if_neg (by omega)]
      simp -implicitDefEqProofs (disch:=omega) only [go_sem,↓reduceIte,hsr,t2,t3]
      refine call0 (pjoin_spec pub l t hp hl _ _ k (q / 2) hgd hc (by omega) (by omega)) ?_
      simp -implicitDefEqProofs (disch:=omega) only [go_sem,↓reduceIte]
      refine ⟨k + 1,[(0,0),(1,1),(2,2),(3,3)],[],[],by dsimp only; omega,by dsimp only; omega,rfl,?_,?_,?_⟩ <;> simp -implicitDefEqProofs (disch:=omega) only [go_sem,↓reduceIte,e]
  obtain rfl : k = n:=by omega
  simp -implicitDefEqProofs (disch:=omega) only [go_sem,↓reduceIte]
def pw (k : Nat) : Nat:=2 ^ k
theorem pw_succ (k : Nat) : ((pw (k + 1) : Nat) : Int) = (pw k : Int) * 2:=by unfold pw; rw [Nat.pow_succ]; omega
theorem pw_le {k n : Nat} (h : k ≤ n) : pw k ≤ pw n:=Nat.pow_le_pow_right (by decide) h
theorem pw_pos (k : Nat) : 1 ≤ pw k:=Nat.one_le_two_pow
end
end Go.Proofs.YtololahjocfbeaaGreat
