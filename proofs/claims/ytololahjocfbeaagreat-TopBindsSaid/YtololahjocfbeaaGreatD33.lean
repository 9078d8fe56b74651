/- Texts,joined. -/
import Derived.Test.YtololahjocfbeaaGreatD19
import Derived.Test.YtololahjocfbeaaGreatD30
import Derived.Test.YtololahjocfbeaaGreatD31
import Derived.Test.YtololahjocfbeaaGreatD28
namespace Go.Proofs.YtololahjocfbeaaGreat
open Go Go.Sy Go.Proofs.Tryz
set_option maxRecDepth 100000
set_option maxHeartbeats 8000000
set_option linter.unusedSimpArgs false
set_option linter.unusedVariables false
attribute [go_sem] pl141
def secK (master : List Int) (k j : Int) : List Int:=code master (j :: be (IntKind.u64.wrap k) 8)
theorem secK_good (master : List Int) (k j : Int) : goodD (secK master k j):=⟨sumD_len _,sumD_mem _⟩
abbrev secV (master : List Int) (k : Int) : AV:=.agg [.ints .u8 32 (secK master k 1),.ints .u8 32 (secK master k 2),.ints .u8 32 (secK master k 3)]
attribute [go_sem] secV
section
variable (master : List Int) (hm : goodD master) (k : Int)
include hm in
theorem secpart_spec (j : Int) (hj : 0 ≤ j ∧ j < 256) : FnC Tryz.prog 141 [.int .u8 j,.ref 0 [],.ref 1 []] [(0,.var (.ints .u8 32 master)),(1,.var (.int .i64 k))] (.ints .u8 32 (secK master k j)) [(0,.var (.ints .u8 32 master)),(1,.var (.int .i64 k))]:=by
  have h:=code_spec master [[j],be (IntKind.u64.wrap k) 8] 32 hm.1 hm.2 (fun p hp => by
    simp only [List.mem_cons,List.not_mem_nil,or_false] at hp
    rcases hp with rfl | rfl
    · intro x hx; rw [List.mem_singleton] at hx; rw [hx]; exact hj
    · exact be_mem _ _) (by decide) (by simp [cat,be_len]) (by simp)
  have e : cat [[j],be (IntKind.u64.wrap k) 8] = j :: be (IntKind.u64.wrap k) 8:=by simp [cat]
  have eb : [[j],be (IntKind.u64.wrap k) 8].map bsl = [.sl (.ints .u8 1 [j]),.sl (.ints .u8 8 (be (IntKind.u64.wrap k) 8))]:=by
    rw [List.map_cons,List.map_cons,List.map_nil,bsl,bsl,be_len]
    rfl
  rw [e,eb,show [[j],be (IntKind.u64.wrap k) 8].length = 2 from rfl] at h
  have hn:=number_spec (IntKind.u64.wrap k) 8 8 rfl
  have e2 : code master (j :: be (IntKind.u64.wrap k) 8) = secK master k j:=rfl
  rw [e2] at h
  generalize secK master k j = X at *
  refine fnN mix pl141 2 3 [.cell 4 25] Tryz.func141 rfl (by kernel_rfl) (by kernel_rfl) rfl (by kernel_rfl) (by kernel_rfl) (by simp) ?_
  simp -implicitDefEqProofs (disch:=omega) only [go_sem,↓reduceIte]
  refine callF 1 hn ?_
  simp -implicitDefEqProofs (disch:=omega) only [go_sem,↓reduceIte]
  refine callB h ?_ ?_
  · simp -implicitDefEqProofs (disch:=omega) only [go_sem,↓reduceIte]
  simp -implicitDefEqProofs (disch:=omega) only [go_sem,↓reduceIte]
  refine ⟨[(0,0),(1,1)],[],[],rfl,?_,?_,?_⟩ <;> simp -implicitDefEqProofs (disch:=omega) only [go_sem,↓reduceIte]
include hm in
theorem secret_spec : FnC Tryz.prog 87 [.ints .u8 32 master,.int .i64 k] [] (secV master k) []:=by
  have h1:=secpart_spec master hm k 1 (by decide)
  have h2:=secpart_spec master hm k 2 (by decide)
  have h3:=secpart_spec master hm k 3 (by decide)
  unfold secV
  generalize secK master k 1 = X at *
  generalize secK master k 2 = Y at *
  generalize secK master k 3 = Z at *
  refine fn0 mix [] 0 2 [.cell 4 172] Tryz.func87 rfl (by kernel_rfl) (by kernel_rfl) rfl (by kernel_rfl) (by kernel_rfl) (by simp) ?_
  simp -implicitDefEqProofs (disch:=omega) only [go_sem,↓reduceIte]
  refine callG false [(0,0),(1,1)] [(0,0),(1,1)] 3 h1 ?_ ?_
  · simp [keys]
  simp -implicitDefEqProofs (disch:=omega) only [go_sem,↓reduceIte]
  refine callG false [(0,0),(1,1)] [(0,0),(1,1)] 3 h2 ?_ ?_
  · simp [keys]
  simp -implicitDefEqProofs (disch:=omega) only [go_sem,↓reduceIte]
  refine callG false [(0,0),(1,1)] [(0,0),(1,1)] 3 h3 ?_ ?_
  · simp [keys]
  simp -implicitDefEqProofs (disch:=omega) only [go_sem,↓reduceIte]
end
attribute [go_sem] pl160
def leafP (a b : List Int) : List Int:=sumD (0 :: (a ++ b))
theorem leafP_good (a b : List Int) : goodD (leafP a b):=⟨sumD_len _,sumD_mem _⟩
theorem leaf_spec17 (a b : List Int) (ha : goodD a) (hb : goodD b) : FnC Tryz.prog 160 [.agg [.ints .u8 32 a,.ints .u8 32 b]] [] (.ints .u8 32 (leafP a b)) []:=by
  have h1:=sums3 (a:=[0]) (b:=a) (c:=b) (by decide) ha.2 hb.2 (by rw [List.length_singleton,ha.1,hb.1]; decide)
  have l1:=ha.1
  have l2:=hb.1
  refine fn0 mix pl160 0 1 [.cell 2 25] Tryz.func160 rfl (by kernel_rfl) (by kernel_rfl) rfl (by kernel_rfl) (by kernel_rfl) (by simp) ?_
  simp -implicitDefEqProofs (disch:=omega) only [go_sem,↓reduceIte]
  refine callB h1 ?_ ?_
  · simp -implicitDefEqProofs (disch:=omega) only [go_sem,↓reduceIte,bsl,l1,l2]
  simp -implicitDefEqProofs (disch:=omega) only [go_sem,↓reduceIte,leafP]
def hf (d : List Int) (j : Nat) : Int:=d.getD j 0 / 2 + (if j = 0 then 0 else d.getD (j - 1) 0 % 2 * 128)
attribute [go_sem] pl98 pl163
section
variable (root index known : List Int) (hi : goodD index) (hk : goodD known) (W : List (List Int)) (L : Nat) (hW : W.length = L) (hL : L ≤ 9223372036854775807) (hg : ∀ d ∈ W,goodD d)
include hi hk hW hL hg in
theorem leads_spec (x : List Int) (hx : goodD x) : FnC Tryz.prog 159 [.ints .u8 32 x,.ints .u8 32 index,.ints .u8 32 root,.agg [.ints .u8 32 known,.sl (.lst 32 L (W.map dg))]] [] (.bool (decide (pops known = L ∧ climbR index known W x 256 = root))) []:=by
  by_cases hp : pops known = L
  · have e : decide (pops known = L ∧ climbR index known W x 256 = root) = decide (climbR index known W x 256 = root):=by simp [hp]
    rw [e]
    refine fn0 mix [] 0 4 [.tmp 8] Tryz.func159 rfl (by kernel_rfl) (by kernel_rfl) rfl (by kernel_rfl) (by kernel_rfl) (by simp) ?_
    simp -implicitDefEqProofs (disch:=omega) only [go_sem,↓reduceIte]
    refine call0 (climb_ok x index known hx hi hk W L hW hL hg hp) ?_
    simp -implicitDefEqProofs (disch:=omega) only [go_sem,↓reduceIte]
  · rw [decide_eq_false (fun h => hp h.1)]
    refine fn0 mix [] 0 4 [.tmp 8] Tryz.func159 rfl (by kernel_rfl) (by kernel_rfl) rfl (by kernel_rfl) (by kernel_rfl) (by simp) ?_
    simp -implicitDefEqProofs (disch:=omega) only [go_sem,↓reduceIte]
    refine call0 (climb_bad x index known hk W L hW hL hp) ?_
    simp -implicitDefEqProofs (disch:=omega) only [go_sem,↓reduceIte]
include hi hk hW hL hg in
theorem present_spec (c : List Int) (hc : goodD c) : FnC Tryz.prog 98 [.ints .u8 32 root,.ints .u8 32 index,.ints .u8 32 c,.agg [.ints .u8 32 known,.sl (.lst 32 L (W.map dg))]] [] (.bool (decide (pops known = L ∧ climbR index known W (leafP index c) 256 = root))) []:=by
  refine fn0 mix pl98 0 4 [.tmp 8] Tryz.func98 rfl (by kernel_rfl) (by kernel_rfl) rfl (by kernel_rfl) (by kernel_rfl) (by simp) ?_
  simp -implicitDefEqProofs (disch:=omega) only [go_sem,↓reduceIte]
  refine call0 (leaf_spec17 index c hi hc) ?_
  simp -implicitDefEqProofs (disch:=omega) only [go_sem,↓reduceIte]
  refine call0 (leads_spec root index known hi hk W L hW hL hg (leafP index c) (leafP_good _ _)) ?_
  simp -implicitDefEqProofs (disch:=omega) only [go_sem,↓reduceIte]
include hi hk hW hL hg in
theorem absent_spec : FnC Tryz.prog 163 [.ints .u8 32 root,.ints .u8 32 index,.agg [.ints .u8 32 known,.sl (.lst 32 L (W.map dg))]] [] (.bool (decide (pops known = L ∧ climbR index known W (emptyD 0) 256 = root))) []:=by
  have g1 : ∀ K,getP ((empties 257).map dg) 0 K = K (.ints .u8 32 (emptyD 0)):=fun K => getP_map (f:=dg) (empties_get (n:=257) (i:=0) (by omega)) K
  have l1 : ((empties 257).map dg).length = 257:=by rw [List.length_map,empties_len]
  refine fn0 mix pl163 0 3 [.tmp 6] Tryz.func163 rfl (by kernel_rfl) (by kernel_rfl) rfl (by kernel_rfl) (by kernel_rfl) (by simp) ?_
  simp -implicitDefEqProofs (disch:=omega) only [go_sem,↓reduceIte]
  refine callF 1 empty17_spec ?_
  simp -implicitDefEqProofs (disch:=omega) only [go_sem,↓reduceIte,↓g1,l1]
  refine call0 (leads_spec root index known hi hk W L hW hL hg (emptyD 0) (emptyD_good _)) ?_
  simp -implicitDefEqProofs (disch:=omega) only [go_sem,↓reduceIte]
end
theorem logroot_spec (l : List (List Int)) (n : Nat) (hn : l.length = n) (h2 : n ≤ 200) (ht : textsP l) : FnC Tryz.prog 131 [.sl (.lst 1 n (l.map bsl))] [] (.tup [.ints .u8 32 (rg l 0 n),.int .i64 0]) []:=by
  refine fn0 mix [] 0 1 [.cell 2 25,.tmp 3] Tryz.func131 rfl (by kernel_rfl) (by kernel_rfl) rfl (by kernel_rfl) (by kernel_rfl) (by simp) ?_
  simp -implicitDefEqProofs (disch:=omega) only [go_sem,↓reduceIte]
  refine brd (fun h => by omega) (fun h => ?_)
  simp -implicitDefEqProofs (disch:=omega) only [go_sem,↓reduceIte]
  refine call0 (root_spec19 l n hn (by omega) ht) ?_
  simp -implicitDefEqProofs (disch:=omega) only [go_sem,↓reduceIte]
end Go.Proofs.YtololahjocfbeaaGreat
