/- Texts,joined. -/
import Derived.Test.YtololahjocfbeaaGreatD28
import Derived.Test.YtololahjocfbeaaGreatD14
namespace Go.Proofs.YtololahjocfbeaaGreat
open Go Go.Sy Go.Proofs.Tryz
set_option maxRecDepth 100000
set_option maxHeartbeats 8000000
set_option linter.unusedSimpArgs false
set_option linter.unusedVariables false
def kb (known : List Int) (k : Nat) : Bool:=decide ((known.getD (k / 8) 0 / 2 ^ (k % 8)) % 2 = 1)
def cntK (known : List Int) : Nat → Nat
  | 0 => 0
  | k + 1 => cntK known k + (if kb known k = true then 1 else 0)
def sideD (known : List Int) (W : List (List Int)) (k : Nat) : List Int:=if kb known k = true then W.getD (cntK known k) zs else emptyD k
def climbS (index known : List Int) (W : List (List Int)) (k : Nat) (x : List Int) : List Int:=if bitD index k = 0 then nodeL x (sideD known W k) else nodeL (sideD known W k) x
def climbR (index known : List Int) (W : List (List Int)) (x : List Int) : Nat → List Int
  | 0 => x
  | k + 1 => climbS index known W k (climbR index known W x k)
theorem cntK_mono (known : List Int) {a b : Nat} (h : a ≤ b) : cntK known a ≤ cntK known b:=by
  induction h with
  | refl => exact Nat.le_refl _
  | step h ih => rw [cntK]; omega
theorem cntK_byte (known : List Int) (j : Nat) : ((cntK known (8 * j + 8) : Nat) : Int) = (cntK known (8 * j) : Nat) + popc (known.getD j 0):=by
  have e : popc (known.getD j 0) = ((known.getD j 0 / 2 ^ 0) % 2) + (((known.getD j 0 / 2 ^ 1) % 2) + (((known.getD j 0 / 2 ^ 2) % 2) + (((known.getD j 0 / 2 ^ 3) % 2) + (((known.getD j 0 / 2 ^ 4) % 2) + (((known.getD j 0 / 2 ^ 5) % 2) + (((known.getD j 0 / 2 ^ 6) % 2) + ((known.getD j 0 / 2 ^ 7) % 2 + 0))))))):=rfl
  have step : ∀ r,r < 8 → ((cntK known (8 * j + r + 1) : Nat) : Int) = (cntK known (8 * j + r) : Nat) + (known.getD j 0 / 2 ^ r) % 2:=fun r hr => by
    rw [cntK]
    unfold kb
    rw [show (8 * j + r) / 8 = j by omega,show (8 * j + r) % 8 = r by omega]
    by_cases h : (known.getD j 0 / 2 ^ r) % 2 = 1
    · rw [if_pos (by simpa using h),h]; omega
    · rw [if_neg (by simpa using h)]; omega
  have h0:=step 0 (by decide)
  have h1:=step 1 (by decide)
  have h2:=step 2 (by decide)
  have h3:=step 3 (by decide)
  have h4:=step 4 (by decide)
  have h5:=step 5 (by decide)
  have h6:=step 6 (by decide)
  have h7:=step 7 (by decide)
  simp only [Nat.add_assoc,Nat.add_zero,Nat.reduceAdd] at h0 h1 h2 h3 h4 h5 h6 h7
  rw [e]
  omega
theorem cntK_pops (known : List Int) (hk : known.length = 32) : ∀ j,j ≤ 32 → ((cntK known (8 * j) : Nat) : Int) = pops (known.take j)
  | 0,_ => by rw [List.take_zero]; rfl
  | j + 1,h => by
    rw [pops_succ (by omega),← cntK_pops known hk j (by omega),show 8 * (j + 1) = 8 * j + 8 by omega,cntK_byte]
theorem cntK_all {known : List Int} (hk : known.length = 32) : ((cntK known 256 : Nat) : Int) = pops known:=by
  have:=cntK_pops known hk 32 (Nat.le_refl _)
  rw [List.take_of_length_le (by omega)] at this
  exact this
theorem cntK_lt {known : List Int} {k : Nat} (hk : k < 256) (hb : kb known k = true) : cntK known k < cntK known 256:=by
  have:=cntK_mono known (show k + 1 ≤ 256 by omega)
  rw [cntK,if_pos hb] at this
  omega
theorem sideD_good {known : List Int} {W : List (List Int)} (hg : ∀ d ∈ W,goodD d) (hl : cntK known 256 = W.length) {k : Nat} (hk : k < 256) : goodD (sideD known W k):=by
  unfold sideD
  split
  · rename_i hb
    have:=cntK_lt hk hb
    rw [List.getD,List.getElem?_eq_getElem (by omega),Option.getD_some]
    exact hg _ (List.getElem_mem _)
  · exact emptyD_good k
theorem climbS_good (index known : List Int) (W : List (List Int)) (k : Nat) (x : List Int) : goodD (climbS index known W k x):=by
  unfold climbS
  split <;> exact nodeL_good _ _
theorem climbR_good (index known : List Int) (W : List (List Int)) {x : List Int} (hx : goodD x) : ∀ k,goodD (climbR index known W x k)
  | 0 => hx
  | k + 1 => climbS_good _ _ _ _ _
theorem beside_spec (known : List Int) (W : List (List Int)) (L : Nat) : FnC Tryz.prog 212 [.agg [.ints .u8 32 known,.sl (.lst 32 L (W.map dg))]] [] (.fn (.func 240) [.ref 0 []]) [(0,.var (.agg [.ints .u8 32 known,.sl (.lst 32 L (W.map dg))]))]:=by
  refine fnN mix [] 0 1 [.tmp 2] Tryz.func212 rfl (by kernel_rfl) (by kernel_rfl) rfl (by kernel_rfl) (by kernel_rfl) (by simp) ?_
  simp -implicitDefEqProofs (disch:=omega) only [go_sem,↓reduceIte]
  refine ⟨[(0,0)],[],[],rfl,?_,?_,?_⟩ <;> simp -implicitDefEqProofs (disch:=omega) only [go_sem,↓reduceIte]
section
variable (x index known : List Int) (hx : goodD x) (hi : goodD index) (hk : goodD known) (W : List (List Int)) (L : Nat) (hW : W.length = L) (hL : L ≤ 9223372036854775807) (hg : ∀ d ∈ W,goodD d)
include hk hW hL in
theorem climb_bad (hp : pops known ≠ L) : FnC Tryz.prog 165 [.ints .u8 32 x,.ints .u8 32 index,.agg [.ints .u8 32 known,.sl (.lst 32 L (W.map dg))]] [] (.tup [.ints .u8 32 zs,.int .i64 2]) []:=by
  have hw:=whole_spec known hk W L hW hL
  rw [show decide (pops known = (L : Int)) = false by simpa using hp] at hw
  refine fn0 mix [] 0 3 [.cell 6 25,.tmp 7] Tryz.func165 rfl (by kernel_rfl) (by kernel_rfl) rfl (by kernel_rfl) (by kernel_rfl) (by simp) ?_
  simp -implicitDefEqProofs (disch:=omega) only [go_sem,↓reduceIte]
  refine call0 hw ?_
  simp -implicitDefEqProofs (disch:=omega) only [go_sem,↓reduceIte]
  rfl
include hx hi hk hW hL hg in
theorem climb_ok (hp : pops known = L) : FnC Tryz.prog 165 [.ints .u8 32 x,.ints .u8 32 index,.agg [.ints .u8 32 known,.sl (.lst 32 L (W.map dg))]] [] (.tup [.ints .u8 32 (climbR index known W x 256),.int .i64 0]) []:=by
  have hw:=whole_spec known hk W L hW hL
  rw [show decide (pops known = (L : Int)) = true by simpa using hp] at hw
  refine fn_range mix [] (I1:=[(3,.ref 0 []),(4,.ref 1 []),(6,.ref 2 []),(15,.fn (.func 240) [.ref 3 []])]) (J1:=[(0,.var (.ints .u8 32 x)),(1,.var (.ints .u8 32 index)),(2,.var (.ints .u8 32 zs)),(3,.var (.agg [.ints .u8 32 known,.sl (.lst 32 L (W.map dg))]))]) (n1:=4)
    [(3,.ref 0 []),(4,.ref 1 [])] 3 15 16 17 [.cell 6 25,.tmp 7] Tryz.func165 rfl (by kernel_rfl) (by kernel_rfl) rfl (by kernel_rfl) (by kernel_rfl) (by kernel_rfl) (by kernel_rfl) (by kernel_rfl) (by kernel_rfl) (fun _ _ => ?_) ?_ rfl (by kernel_rfl) ?_ (fun l rec xp h1 h2 h3 h4 h5 h6 h7 htr => ?_)
  · simp -implicitDefEqProofs only [callFunc,Sem.run_bind,run_program,Result.andThen_ok,Tryz.func240]
    rfl
  · simp -implicitDefEqProofs (disch:=omega) only [go_sem,↓reduceIte]
    refine call0 hw ?_
    simp -implicitDefEqProofs (disch:=omega) only [go_sem,↓reduceIte]
    refine callF 1 (beside_spec known W L) ?_
    simp -implicitDefEqProofs (disch:=omega) only [go_sem,↓reduceIte]
    refine ⟨[(0,0),(1,1),(2,3),(3,4)],[],[],rfl,?_,?_,?_⟩ <;> simp -implicitDefEqProofs (disch:=omega) only [go_sem,↓reduceIte]
    rfl
  · simp [lk]
  simp only [List.map_cons,List.map_nil,List.cons_append,List.nil_append]
  have hc : cntK known 256 = W.length:=by
    have:=cntK_all hk.1
    rw [hp] at this
    omega
  have rd : ∀ (k : Nat),k < 256 → RunC (YRun Tryz.prog l rec xp) ([.int .i64 k,.ints .u8 32 (sideD known W k)] ++ [.ref 0 [],.ref 1 []]) [(0,.var (.ints .u8 32 (climbR index known W x k))),(1,.var (.ints .u8 32 index))] (.bool true) [(0,.var (.ints .u8 32 (climbR index known W x (k + 1)))),(1,.var (.ints .u8 32 index))]:=fun k hk256 => by
    refine round_of_vc [] (refs:=[.ref 0 [],.ref 1 []]) (tr:=[(3,.ref 0 []),(4,.ref 1 [])]) (k0:=2) (k:=2) (p1:=16) (p2:=17) h1 h2 h3 h4 h5 h6 (by decide) (by decide) (by decide) (by kernel_rfl) (by kernel_rfl) (by kernel_rfl) (by kernel_rfl) (by simp) rfl rfl rfl h7 htr ?_
    have hb:=bit17_spec index k hi
    have gs:=sideD_good hg hc hk256
    have gx:=climbR_good index known W hx k
    have e1 : climbR index known W x (k + 1) = climbS index known W k (climbR index known W x k):=rfl
    rw [e1]
    unfold climbS
    simp -implicitDefEqProofs (disch:=omega) only [go_sem,↓reduceIte]
    refine call0 hb ?_
    simp -implicitDefEqProofs (disch:=omega) only [go_sem,↓reduceIte]
    refine brd (fun h => ?_) (fun h => ?_)
    · rw [if_pos h]
      simp -implicitDefEqProofs (disch:=omega) only [go_sem,↓reduceIte]
      refine call0 (node_spec17 _ _ gx gs) ?_
      simp -implicitDefEqProofs (disch:=omega) only [go_sem,↓reduceIte]
      refine ⟨[(0,0),(1,1)],[],[],rfl,?_,?_,?_⟩ <;> simp -implicitDefEqProofs (disch:=omega) only [go_sem,↓reduceIte]
    · rw [if_neg h]
      simp -implicitDefEqProofs (disch:=omega) only [go_sem,↓reduceIte]
      refine call0 (node_spec17 _ _ gs gx) ?_
      simp -implicitDefEqProofs (disch:=omega) only [go_sem,↓reduceIte]
      refine ⟨[(0,0),(1,1)],[],[],rfl,?_,?_,?_⟩ <;> simp -implicitDefEqProofs (disch:=omega) only [go_sem,↓reduceIte]
  have hIt:=it_of_vc (O:=[(0,.var (.ints .u8 32 x)),(1,.var (.ints .u8 32 index)),(2,.var (.agg [.ints .u8 32 known,.sl (.lst 32 L (W.map dg))]))]) (O':=[(0,.var (.ints .u8 32 (climbR index known W x 256))),(1,.var (.ints .u8 32 index)),(2,.var (.agg [.ints .u8 32 known,.sl (.lst 32 L (W.map dg))]))]) (r:=.tup []) (args:=[.fn (.yield l) [],.ref 2 []]) (refs:=[.ref 0 [],.ref 1 []]) (xp:=xp) (rec:=rec) (l:=l) ((200007,[]) :: []) 3 3 2 [] Tryz.func240 rfl (by kernel_rfl) rfl (by kernel_rfl) (by kernel_rfl) (by simp) rfl rfl rfl rfl h7 (by
    simp -implicitDefEqProofs (disch:=omega) only [go_sem,↓reduceIte]
    refine callF 1 empty17_spec ?_
    simp -implicitDefEqProofs (disch:=omega) only [go_sem,↓reduceIte]
    refine loop (ι:=Nat) 4 (fun i => i ≤ 256) (fun i => [(0,.fn (.yield l) []),(1,.ref 2 []),(3,.int .i64 (cntK known i : Nat)),(7,.osl 3 [] 32 0 256),(8,.int .i64 256),(9,.int .i64 i)]) (fun i => [(0,.var (.ints .u8 32 (climbR index known W x i))),(1,.var (.ints .u8 32 index)),(2,.var (.agg [.ints .u8 32 known,.sl (.lst 32 L (W.map dg))])),(3,.row (.lst 32 257 ((empties 257).map dg)))]) (fun i => 256 - i) 0 [(0,0),(1,1),(2,2),(3,3)] [] (Nat.zero_le _) rfl ?_ ?_ ?_ (fun i hi => ?_)
    · simp -implicitDefEqProofs (disch:=omega) only [go_sem,↓reduceIte]
    · simp -implicitDefEqProofs (disch:=omega) only [go_sem,↓reduceIte]
      rfl
    · simp -implicitDefEqProofs (disch:=omega) only [go_sem,↓reduceIte]
      rfl
    simp -implicitDefEqProofs (disch:=omega) only [go_sem,↓reduceIte]
    refine brd (fun h => ?_) (fun h => ?_)
    · have g1 : ∀ K,getP ((empties 257).map dg) i K = K (.ints .u8 32 (emptyD i)):=fun K => getP_map (f:=dg) (empties_get (n:=257) (i:=i) (by omega)) K
      have l1 : ((empties 257).map dg).length = 257:=by rw [List.length_map,empties_len]
      have t1 : (i : Int).tdiv 8 = ((i / 8 : Nat) : Int):=by rw [Int.tdiv_eq_ediv_of_nonneg (by omega)]; omega
      have t2 : (i : Int).tmod 8 = ((i % 8 : Nat) : Int):=by rw [Int.tmod_eq_emod_of_nonneg (by omega)]; omega
      have hx8 : 0 ≤ known.getD (i / 8) 0 ∧ known.getD (i / 8) 0 < 256:=getD_all' hk.2 (by rw [hk.1]; omega)
      have hr : i % 8 < 8:=by omega
      have hs : ishr .u8 (known.getD (i / 8) 0) (i % 8) = known.getD (i / 8) 0 / 2 ^ (i % 8):=ishr_div _ _ _ (by show i % 8 ≤ 8; omega)
      have hp2 : (1 : Int) ≤ 2 ^ (i % 8):=by exact_mod_cast Nat.one_le_two_pow
      have hq : 0 ≤ known.getD (i / 8) 0 / 2 ^ (i % 8) ∧ known.getD (i / 8) 0 / 2 ^ (i % 8) < 256:=⟨Int.ediv_nonneg hx8.1 (by omega),Int.lt_of_le_of_lt (Int.ediv_le_self _ hx8.1) hx8.2⟩
      have hm : iand .u8 (known.getD (i / 8) 0 / 2 ^ (i % 8)) 1 = (known.getD (i / 8) 0 / 2 ^ (i % 8)) % 2:=iand_mask 1 rfl (by decide) hq.1 (by show _ < 2 ^ 8; omega)
      have hkb : decide ((known.getD (i / 8) 0 / 2 ^ (i % 8)) % 2 = 1) = kb known i:=rfl
      have hi8 : i / 8 < 32:=by omega
      have h08 : (0 : Int) ≤ ((i / 8 : Nat) : Int):=by omega
      have h0r : (0 : Int) ≤ ((i % 8 : Nat) : Int):=by omega
      have hw8 : IntKind.i64.wrap ((i / 8 : Nat) : Int) = ((i / 8 : Nat) : Int):=wrap_i64 (by omega) (by omega)
      have rdi:=rd i (by omega)
      simp only [List.cons_append,List.nil_append] at rdi
      have hcs : cntK known (i + 1) = cntK known i + (if kb known i = true then 1 else 0):=rfl
      have hsd : sideD known W i = if kb known i = true then W.getD (cntK known i) zs else emptyD i:=rfl
      have hmono:=cntK_mono known (show i ≤ 256 by omega)
      simp -implicitDefEqProofs (disch:=omega) only [go_sem,↓reduceIte,↓g1,l1,t1,t2,hw8,hs,hm,hkb]
      refine br (fun hb => ?_) (fun hb => ?_)
      · rw [if_pos hb] at hcs hsd
        have hlt:=cntK_lt (k:=i) (by omega) hb
        have g2 : ∀ K,getP (W.map dg) (cntK known i) K = K (.ints .u8 32 (sideD known W i)):=fun K => getP_map (f:=dg) (l:=W) (i:=cntK known i) (a:=sideD known W i) (by rw [hsd,List.getD,List.getElem?_eq_getElem (by omega),Option.getD_some]) K
        simp -implicitDefEqProofs (disch:=omega) only [go_sem,↓reduceIte,↓g2]
        refine runG false [(0,0),(1,1)] [(0,0),(1,1)] 5 rdi (by simp [keys]) ?_
        simp -implicitDefEqProofs (disch:=omega) only [go_sem,↓reduceIte]
        refine ⟨i + 1,[(0,0),(1,1),(2,2),(3,3)],[],[],by dsimp only; omega,by dsimp only; omega,rfl,?_,?_,?_⟩ <;> simp -implicitDefEqProofs (disch:=omega) only [go_sem,↓reduceIte,hcs]
      · rw [if_neg (by rw [hb]; decide)] at hcs hsd
        rw [hsd] at rdi
        simp -implicitDefEqProofs (disch:=omega) only [go_sem,↓reduceIte]
        refine runG false [(0,0),(1,1)] [(0,0),(1,1)] 5 rdi (by simp [keys]) ?_
        simp -implicitDefEqProofs (disch:=omega) only [go_sem,↓reduceIte]
        refine ⟨i + 1,[(0,0),(1,1),(2,2),(3,3)],[],[],by dsimp only; omega,by dsimp only; omega,rfl,?_,?_,?_⟩ <;> simp -implicitDefEqProofs (disch:=omega) only [go_sem,↓reduceIte,hcs]
    · obtain rfl : i = 256:=by omega
      simp -implicitDefEqProofs (disch:=omega) only [go_sem,↓reduceIte]
      refine ⟨[(0,0),(1,1),(2,2)],[],[],rfl,?_,?_,?_⟩ <;> simp -implicitDefEqProofs (disch:=omega) only [go_sem,↓reduceIte])
  refine runG false [(0,0),(1,1),(2,3)] [(0,0),(1,1),(2,3)] 4 hIt (by simp [keys]) ?_
  simp -implicitDefEqProofs (disch:=omega) only [go_sem,↓reduceIte]
end
end Go.Proofs.YtololahjocfbeaaGreat
