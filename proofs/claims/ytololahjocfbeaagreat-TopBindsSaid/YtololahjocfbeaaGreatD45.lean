/- Texts,joined. -/
import Derived.Test.YtololahjocfbeaaGreatD43
import Derived.Test.YtololahjocfbeaaGreatD33
import Derived.Test.YtololahjocfbeaaGreatD41
namespace Go.Proofs.YtololahjocfbeaaGreat
open Go Go.Sy Go.Proofs.Tryz
set_option maxRecDepth 100000
set_option maxHeartbeats 8000000
set_option linter.unusedSimpArgs false
set_option linter.unusedVariables false
def plHd : List (Nat × Plan):=[(5,[(1,[],none),(2,[1],none),(3,[1],none),(4,[1,2,3],none),(5,[1,2,3],none),(6,[1,2,3,4,5],none),(7,[1,2,3,4,5],none),(8,[],some [36,38,40,42]),(0,[1,2,3,4,5,6,7,8],none),(9,[],some [4]),(10,[],some [5]),(11,[],none)])]
attribute [go_sem] plHd
section
variable (na ma : List Int) (a n : Nat) (b : Int) (y : Dy) (hm : goodD ma) (ha : 1 ≤ a ∧ a ≤ 4) (hn : 1 ≤ n ∧ n ≤ 4)
include hm ha hn in
theorem head_own (k : Nat) (e : Ep) (he : y.es[k]? = some e) (hb : y.es.length ≤ 200) (het : ∀ e ∈ y.es,goodD e.tree) (ix : Nat) (hix : e.ix = ix) (hi : ix < manyD a n) :
    FnC Tryz.prog 50 [.ref 5 [],.int .i64 ((k : Int) + 1)] (dirOW na ma a n b y 6 7 8 9 10 11 12)
      (.tup [.agg [.int .i64 e.key,.int .i64 ((k : Int) + 1),.ints .u8 32 e.tree,.ints .u8 32 (hdF y.es k e.tree)],.agg [.int .i64 ix,.ints .u8 32 (sgR ma e.key ix),.osl 20 [] 2 0 a],.int .i64 0])
      (dirOW na ma a n b y 13 14 15 16 17 18 19 ++ [(20,.row (.lst 2 a ((sgP a n ma e.key ix (headT e.key ((k : Int) + 1) e.tree (hdF y.es k e.tree))).map pt)))]):=by
  have hk : k < y.es.length:=(List.getElem?_eq_some_iff.1 he).1
  have heg : goodD e.tree:=het e (List.mem_of_getElem? he)
  have k1:=epoch_pp na ma a n b y
  have k2:=head_spec na y.es y.es.length rfl (.sl (.lst 64 y.l.length (y.l.map enV))) (restP na ma a n b y) e.key k (by omega) (by omega) (by omega) het e.tree heg
  have k3:=headText_spec e.key ((k : Int) + 1) e.tree (hdF y.es k e.tree)
  have hR : goodD (hdF y.es k e.tree):=hdF_good _ _ _
  have k4:=sign_ownW na ma a n b y hm ha hn e.key ix hi (headT e.key ((k : Int) + 1) e.tree (hdF y.es k e.tree)) 81 (headT_len' _ _ heg.1 hR.1) (headT_mem _ _ heg.2 hR.2) (by decide)
  have g1 : ∀ K,getP (y.es.map epV) k K = K (.agg [.int .i64 e.key,.int .i64 e.ix,.sl (.lst 3 e.puts.length (e.puts.map ptV')),.ints .u8 32 e.tree]):=fun K => getP_map (f:=epV) he K
  have e1 : (k : Int) + 1 - 1 = k:=by omega
  have d1 : decide ((k : Int) + 1 < 1) = false:=decide_eq_false (by omega)
  have d2 : decide ((y.es.length : Int) < (k : Int) + 1) = false:=decide_eq_false (by omega)
  have hle : (y.es.map epV).length = y.es.length:=List.length_map _
  generalize sgP a n ma e.key ix (headT e.key ((k : Int) + 1) e.tree (hdF y.es k e.tree)) = Z at *
  generalize headT e.key ((k : Int) + 1) e.tree (hdF y.es k e.tree) = T at *
  generalize hdF y.es k e.tree = R at *
  rw [hix] at g1
  dsimp only [dirOW,dirOg,List.cons_append,List.nil_append] at k4
  refine fnV mix plHd 6 13 2 [.cell 4 72,.cell 5 41,.tmp 6] Tryz.func50 rfl (by kernel_rfl) (by kernel_rfl) rfl (by kernel_rfl) (by kernel_rfl) (by simp) rfl rfl ?_
  simp -implicitDefEqProofs (disch:=omega) only [go_sem,↓reduceIte,d1,e1]
  refine callB k1 ?_ ?_
  · simp -implicitDefEqProofs (disch:=omega) only [go_sem,↓reduceIte]
  simp -implicitDefEqProofs (disch:=omega) only [go_sem,↓reduceIte,d2,↓g1,hle,e1]
  refine callB k2 ?_ ?_
  · simp -implicitDefEqProofs (disch:=omega) only [go_sem,↓reduceIte]
  simp -implicitDefEqProofs (disch:=omega) only [go_sem,↓reduceIte]
  refine callF 1 k3 ?_
  simp -implicitDefEqProofs (disch:=omega) only [go_sem,↓reduceIte]
  refine callG false [(13,17),(0,0),(1,1),(2,2),(3,3),(4,4),(5,5),(6,6),(7,7),(8,8),(9,9),(10,10),(11,11),(12,12)] [(0,0),(1,1),(2,2),(3,3),(4,4),(5,5),(14,18),(15,19),(16,20),(17,21),(18,22),(19,23),(20,24),(21,25)] 26 k4 ?_ ?_
  · simp [keys]
  simp -implicitDefEqProofs (disch:=omega) only [go_sem,↓reduceIte]
  refine ⟨[(0,0),(1,1),(2,2),(3,3),(4,4),(5,5),(13,18),(14,19),(15,20),(16,21),(17,22),(18,23),(19,24),(20,25)],[],[],rfl,?_,?_,?_⟩ <;> simp -implicitDefEqProofs (disch:=omega) only [go_sem,↓reduceIte]
end
attribute [go_sem] pl102 pl166
def leafTx (p : Bool) (index c : List Int) : List Int:=if p = true then 0 :: (index ++ c) else [2]
def trT (index known : List Int) (W : List (List Int)) (t0 : List Int) : Nat → List Int
  | 0 => t0
  | k + 1 => if bitD index k = 0 then pairL (sumD (trT index known W t0 k)) (sideD known W k) else pairL (sideD known W k) (sumD (trT index known W t0 k))
theorem trT_sum (index known : List Int) (W : List (List Int)) (t0 : List Int) : ∀ k,sumD (trT index known W t0 k) = climbR index known W (sumD t0) k
  | 0 => rfl
  | k + 1 => by
    rw [trT,climbR,climbS,← trT_sum index known W t0 k]
    split <;> rfl
abbrev sdV (p : Bool) (c known : List Int) (L : Nat) (W : List (List Int)) : AV:=.agg [.bool p,.ints .u8 32 c,.agg [.ints .u8 32 known,.sl (.lst 32 L (W.map dg))]]
attribute [go_sem] sdV
attribute [simp] sdV
section
variable (index known : List Int) (hi : goodD index) (hk : goodD known) (W : List (List Int)) (L : Nat) (hW : W.length = L) (hL : L ≤ 1000000) (hg : ∀ d ∈ W,goodD d) (p : Bool) (c : List Int) (hc : goodD c)
include hi hc in
theorem sideLeaf_spec : FnC Tryz.prog 166 [sdV p c known L W,.ints .u8 32 index] [] (.osl 0 [] 1 0 (leafTx p index c).length) [(0,.row (.ints .u8 (leafTx p index c).length (leafTx p index c)))]:=by
  have l1:=hi.1
  have l2:=hc.1
  cases p with
  | false =>
    rw [show leafTx false index c = [2] from rfl]
    refine fnN mix pl166 0 2 [.tmp 4] Tryz.func166 rfl (by kernel_rfl) (by kernel_rfl) rfl (by kernel_rfl) (by kernel_rfl) (by simp) ?_
    simp -implicitDefEqProofs (disch:=omega) only [go_sem,↓reduceIte]
    refine ⟨[(0,2)],[],[],rfl,?_,?_,?_⟩ <;> simp -implicitDefEqProofs (disch:=omega) only [go_sem,↓reduceIte,List.length_singleton]
  | true =>
    rw [show leafTx true index c = 0 :: (index ++ c) from rfl,show (0 :: (index ++ c)).length = 65 by rw [List.length_cons,List.length_append]; omega]
    refine fnN mix pl166 0 2 [.tmp 4] Tryz.func166 rfl (by kernel_rfl) (by kernel_rfl) rfl (by kernel_rfl) (by kernel_rfl) (by simp) ?_
    simp -implicitDefEqProofs (disch:=omega) only [go_sem,↓reduceIte]
    refine ⟨[(0,4)],[],[],rfl,?_,?_,?_⟩ <;> simp -implicitDefEqProofs (disch:=omega) only [go_sem,↓reduceIte,List.cons_append,List.singleton_append]
include hi hc in
theorem leafTx_mem : (leafTx p index c).length ≤ 100 ∧ ∀ x ∈ leafTx p index c,0 ≤ x ∧ x < 256:=by
  unfold leafTx
  have l1:=hi.1
  have l2:=hc.1
  split
  · refine ⟨by rw [List.length_cons,List.length_append]; omega,fun x h => ?_⟩
    rcases List.mem_cons.1 h with rfl | h
    · decide
    · exact app_mem hi.2 hc.2 x h
  · exact ⟨by decide,by decide⟩
theorem trT_mem (t0 : List Int) (hg : ∀ d ∈ W,goodD d) (hc256 : cntK known 256 = W.length) (h0 : t0.length ≤ 100 ∧ ∀ x ∈ t0,0 ≤ x ∧ x < 256) : ∀ k,k ≤ 256 → (trT index known W t0 k).length ≤ 100 ∧ ∀ x ∈ trT index known W t0 k,0 ≤ x ∧ x < 256
  | 0,_ => h0
  | k + 1,hk => by
    have gs:=sideD_good hg hc256 (k:=k) (by omega)
    have gS:=sumD_good (trT index known W t0 k)
    rw [trT]
    split
    · exact ⟨by rw [pair_len gS gs]; decide,pair_mem gS gs⟩
    · exact ⟨by rw [pair_len gs gS]; decide,pair_mem gs gS⟩
include hk in
theorem kbW_spec (i : Nat) (h : i < 256) : (i : Int).tdiv 8 = ((i / 8 : Nat) : Int) ∧ (i : Int).tmod 8 = ((i % 8 : Nat) : Int) ∧ IntKind.i64.wrap ((i / 8 : Nat) : Int) = ((i / 8 : Nat) : Int) ∧ ishr .u8 (known.getD (i / 8) 0) (i % 8) = known.getD (i / 8) 0 / 2 ^ (i % 8) ∧
    decide (iand .u8 (known.getD (i / 8) 0 / 2 ^ (i % 8)) 1 = 1) = kb known i ∧ i / 8 < 32 ∧ (0 : Int) ≤ ((i / 8 : Nat) : Int) ∧ (0 : Int) ≤ ((i % 8 : Nat) : Int):=by
  have hx8 : 0 ≤ known.getD (i / 8) 0 ∧ known.getD (i / 8) 0 < 256:=getD_all' hk.2 (by rw [hk.1]; omega)
  have hp2 : (1 : Int) ≤ 2 ^ (i % 8):=by exact_mod_cast Nat.one_le_two_pow
  have hq : 0 ≤ known.getD (i / 8) 0 / 2 ^ (i % 8) ∧ known.getD (i / 8) 0 / 2 ^ (i % 8) < 256:=⟨Int.ediv_nonneg hx8.1 (by omega),Int.lt_of_le_of_lt (Int.ediv_le_self _ hx8.1) hx8.2⟩
  refine ⟨by rw [Int.tdiv_eq_ediv_of_nonneg (by omega)]; omega,by rw [Int.tmod_eq_emod_of_nonneg (by omega)]; omega,wrap_i64 (by omega) (by omega),ishr_div _ _ _ (by show i % 8 ≤ 8; omega),?_,by omega,by omega,by omega⟩
  rw [show iand .u8 (known.getD (i / 8) 0 / 2 ^ (i % 8)) 1 = (known.getD (i / 8) 0 / 2 ^ (i % 8)) % 2 from iand_mask 1 rfl (by decide) hq.1 (by show _ < 2 ^ 8; omega)]
  rfl
include hi hk hW hL hg hc in
theorem treeTrail_ok (hp : pops known = L) : FnC Tryz.prog 102 [.ints .u8 32 index,sdV p c known L W] [] (.osl 0 [] 1 0 257) [(0,.row (.lst 1 257 (((rowN (trT index known W (leafTx p index c)) 257).reverse).map bsl)))]:=by
  have hcl:=climb_ok zs index known zs_good hi hk W L hW (by omega) hg hp
  have e0:=empty17_spec
  refine fnN mix ((100006,[]) :: pl102) 0 2 [.tmp 4] Tryz.func102 rfl (by kernel_rfl) (by kernel_rfl) rfl (by kernel_rfl) (by kernel_rfl) (by simp) ?_
  simp -implicitDefEqProofs (disch:=omega) only [go_sem,↓reduceIte]
  refine call0 hcl ?_
  simp -implicitDefEqProofs (disch:=omega) only [go_sem,↓reduceIte]
  refine callF 1 (sideLeaf_spec index known hi W L p c hc) ?_
  simp -implicitDefEqProofs (disch:=omega) only [go_sem,↓reduceIte]
  have hc256 : cntK known 256 = W.length:=by
    have:=cntK_all hk.1
    rw [hp] at this
    omega
  generalize hT : trT index known W (leafTx p index c) = T
  have hT0 : T 0 = leafTx p index c:=by rw [← hT]; rfl
  have hTl : ∀ k,k ≤ 256 → (T k).length ≤ 100 ∧ ∀ x ∈ T k,0 ≤ x ∧ x < 256:=fun k => by rw [← hT]; exact trT_mem index known W (leafTx p index c) hg hc256 (leafTx_mem index hi p c hc) k
  have htt:=turnT_spec (rowN T 257) 257 (by unfold rowN; rw [List.length_map,List.length_range]) (by decide)
  rw [← hT0]
  refine cut 3 [(2,.ref 0 []),(3,.ref 1 []),(7,.osl 2 [] 1 0 1),(8,.sl (.lst 32 L (W.map dg)))]
    [(0,.var (.ints .u8 32 index)),(1,.var (sdV p c known L W)),(2,.row (.lst 1 1 [bsl (T 0)]))] [(0,0),(1,1),(2,4)] [] [3] rfl ?_ ?_ ?_ ?_
  · simp -implicitDefEqProofs (disch:=omega) only [go_sem,↓reduceIte]
  · simp -implicitDefEqProofs (disch:=omega) only [go_sem,↓reduceIte]
  · simp -implicitDefEqProofs (disch:=omega) only [go_sem,↓reduceIte,bsl]
  simp -implicitDefEqProofs (disch:=omega) only [go_sem,↓reduceIte]
  refine callF 1 e0 ?_
  simp -implicitDefEqProofs (disch:=omega) only [go_sem,↓reduceIte]
  refine loop (ι:=Nat) 4 (fun i => i ≤ 256) (fun i => [(2,.ref 0 []),(3,.ref 1 []),(7,.osl 2 [] 1 0 (i + 1)),(8,.sl (.lst 32 (L - cntK known i) ((W.drop (cntK known i)).map dg))),(30,.osl 3 [] 32 0 256),(31,.int .i64 256),(32,.int .i64 i)])
    (fun i => [(0,.var (.ints .u8 32 index)),(1,.var (sdV p c known L W)),(2,.row (.lst 1 (i + 1) ((rowN T (i + 1)).map bsl))),(3,.row (.lst 32 257 ((empties 257).map dg)))]) (fun i => 256 - i) 0 [(0,0),(1,1),(2,2),(3,3)] [] (Nat.zero_le _) rfl ?_ ?_ ?_ (fun i hi' => ?_)
  · simp -implicitDefEqProofs (disch:=omega) only [go_sem,↓reduceIte]
  · simp -implicitDefEqProofs (disch:=omega) only [go_sem,↓reduceIte,cntK,List.drop_zero,Nat.sub_zero]
  · simp -implicitDefEqProofs (disch:=omega) only [go_sem,↓reduceIte]
    rfl
  simp -implicitDefEqProofs (disch:=omega) only [go_sem,↓reduceIte]
  refine brd (fun h => ?_) (fun h => ?_)
  · have hkb:=kbW_spec known hk i (by omega)
    obtain ⟨t1,t2,hw8,hs,hm,hi8,h08,h0r⟩:=hkb
    have g1 : ∀ K,getP ((empties 257).map dg) i K = K (.ints .u8 32 (emptyD i)):=fun K => getP_map (f:=dg) (empties_get (n:=257) (i:=i) (by omega)) K
    have l1 : ((empties 257).map dg).length = 257:=by rw [List.length_map,empties_len]
    have hb17:=bit17_spec index i hi
    have hcs : cntK known (i + 1) = cntK known i + (if kb known i = true then 1 else 0):=rfl
    have hsd : sideD known W i = if kb known i = true then W.getD (cntK known i) zs else emptyD i:=rfl
    have hmono:=cntK_mono known (show i ≤ 256 by omega)
    have gs:=sideD_good hg hc256 (k:=i) (by omega)
    have hTi:=hTl i (by omega)
    have gB : ∀ K,getP ((rowN T (i + 1)).map bsl) i K = K (.sl (.ints .u8 (T i).length (T i))):=fun K => getP_map (f:=bsl) (a:=T i) (by unfold rowN; rw [List.getElem?_map,List.getElem?_range (by omega)]; rfl) K
    have lB : ((rowN T (i + 1)).map bsl).length = i + 1:=by rw [List.length_map,rowN,List.length_map,List.length_range]
    have hsm:=sums1 hTi.2 (by omega)
    rw [show bsl (T i) = .sl (.ints .u8 (T i).length (T i)) from rfl] at hsm
    have e1 : T (i + 1) = if bitD index i = 0 then pairL (sumD (T i)) (sideD known W i) else pairL (sideD known W i) (sumD (T i)):=by rw [← hT]; rfl
    have gS:=sumD_good (T i)
    simp -implicitDefEqProofs (disch:=omega) only [go_sem,↓reduceIte,↓g1,l1,t1,t2,hw8,hs,hm]
    refine br (fun hb => ?_) (fun hb => ?_)
    · rw [if_pos hb] at hcs hsd
      have hlt:=cntK_lt (k:=i) (by omega) hb
      have g2 : ∀ K,getP ((W.drop (cntK known i)).map dg) 0 K = K (.ints .u8 32 (sideD known W i)):=fun K => getP_map (f:=dg) (a:=sideD known W i) (by rw [hsd,List.getElem?_drop,Nat.add_zero,List.getD,List.getElem?_eq_getElem (by omega),Option.getD_some]) K
      have l2 : ((W.drop (cntK known i)).map dg).length = L - cntK known i:=by rw [List.length_map,List.length_drop,hW]
      simp -implicitDefEqProofs (disch:=omega) only [go_sem,↓reduceIte,↓g2,l2,↓gB,lB]
      have e3 : List.take (L - (cntK known i + 1)) (List.drop 1 (List.map dg (List.drop (cntK known i) W))) = List.map dg (List.drop (cntK known i + 1) W):=by
        rw [← List.map_drop,List.drop_drop,List.take_of_length_le]
        rw [List.length_map,List.length_drop,hW]
        exact Nat.le_refl _
      refine callB hsm ?_ ?_
      · simp -implicitDefEqProofs (disch:=omega) only [go_sem,↓reduceIte]
      simp -implicitDefEqProofs (disch:=omega) only [go_sem,↓reduceIte]
      refine call0 hb17 ?_
      simp -implicitDefEqProofs (disch:=omega) only [go_sem,↓reduceIte]
      refine brd (fun h2 => ?_) (fun h2 => ?_)
      · rw [if_pos h2] at e1
        simp -implicitDefEqProofs (disch:=omega) only [go_sem,↓reduceIte]
        refine callF 1 (pair23_spec _ _ gS gs) ?_
        simp -implicitDefEqProofs (disch:=omega) only [go_sem,↓reduceIte]
        have eB : (rowN T (i + 1 + 1)).map bsl = (rowN T (i + 1)).map bsl ++ [.sl (.ints .u8 65 (pairL (sumD (T i)) (sideD known W i)))]:=by
          rw [rowN_succ,List.map_append,e1]
          show _ ++ [AV.sl (.ints .u8 (List.length (pairL (sumD (T i)) (sideD known W i))) (pairL (sumD (T i)) (sideD known W i)))] = _
          rw [pair_len gS gs]
        refine ⟨i + 1,[(0,0),(1,1),(2,9),(3,3)],[],[],by dsimp only; omega,by dsimp only; omega,rfl,?_,?_,?_⟩ <;> simp -implicitDefEqProofs (disch:=omega) only [go_sem,↓reduceIte,hcs,Nat.sub_sub,e3,eB]
      · rw [if_neg h2] at e1
        simp -implicitDefEqProofs (disch:=omega) only [go_sem,↓reduceIte]
        refine callF 1 (pair23_spec _ _ gs gS) ?_
        simp -implicitDefEqProofs (disch:=omega) only [go_sem,↓reduceIte]
        have eB : (rowN T (i + 1 + 1)).map bsl = (rowN T (i + 1)).map bsl ++ [.sl (.ints .u8 65 (pairL (sideD known W i) (sumD (T i))))]:=by
          rw [rowN_succ,List.map_append,e1]
          show _ ++ [AV.sl (.ints .u8 (List.length (pairL (sideD known W i) (sumD (T i)))) (pairL (sideD known W i) (sumD (T i))))] = _
          rw [pair_len gs gS]
        refine ⟨i + 1,[(0,0),(1,1),(2,9),(3,3)],[],[],by dsimp only; omega,by dsimp only; omega,rfl,?_,?_,?_⟩ <;> simp -implicitDefEqProofs (disch:=omega) only [go_sem,↓reduceIte,hcs,Nat.sub_sub,e3,eB]
    · rw [if_neg (by rw [hb]; decide),Nat.add_zero] at hcs
      rw [if_neg (by rw [hb]; decide)] at hsd
      rw [hsd] at gs e1
      simp -implicitDefEqProofs (disch:=omega) only [go_sem,↓reduceIte,↓gB,lB]
      refine callB hsm ?_ ?_
      · simp -implicitDefEqProofs (disch:=omega) only [go_sem,↓reduceIte]
      simp -implicitDefEqProofs (disch:=omega) only [go_sem,↓reduceIte]
      refine call0 hb17 ?_
      simp -implicitDefEqProofs (disch:=omega) only [go_sem,↓reduceIte]
      refine brd (fun h2 => ?_) (fun h2 => ?_)
      · rw [if_pos h2] at e1
        simp -implicitDefEqProofs (disch:=omega) only [go_sem,↓reduceIte]
        refine callF 1 (pair23_spec _ _ gS gs) ?_
        simp -implicitDefEqProofs (disch:=omega) only [go_sem,↓reduceIte]
        have eB : (rowN T (i + 1 + 1)).map bsl = (rowN T (i + 1)).map bsl ++ [.sl (.ints .u8 65 (pairL (sumD (T i)) (emptyD i)))]:=by
          rw [rowN_succ,List.map_append,e1]
          show _ ++ [AV.sl (.ints .u8 (List.length (pairL (sumD (T i)) (emptyD i))) (pairL (sumD (T i)) (emptyD i)))] = _
          rw [pair_len gS gs]
        refine ⟨i + 1,[(0,0),(1,1),(2,9),(3,3)],[],[],by dsimp only; omega,by dsimp only; omega,rfl,?_,?_,?_⟩ <;> simp -implicitDefEqProofs (disch:=omega) only [go_sem,↓reduceIte,hcs,eB]
      · rw [if_neg h2] at e1
        simp -implicitDefEqProofs (disch:=omega) only [go_sem,↓reduceIte]
        refine callF 1 (pair23_spec _ _ gs gS) ?_
        simp -implicitDefEqProofs (disch:=omega) only [go_sem,↓reduceIte]
        have eB : (rowN T (i + 1 + 1)).map bsl = (rowN T (i + 1)).map bsl ++ [.sl (.ints .u8 65 (pairL (emptyD i) (sumD (T i))))]:=by
          rw [rowN_succ,List.map_append,e1]
          show _ ++ [AV.sl (.ints .u8 (List.length (pairL (emptyD i) (sumD (T i)))) (pairL (emptyD i) (sumD (T i))))] = _
          rw [pair_len gs gS]
        refine ⟨i + 1,[(0,0),(1,1),(2,9),(3,3)],[],[],by dsimp only; omega,by dsimp only; omega,rfl,?_,?_,?_⟩ <;> simp -implicitDefEqProofs (disch:=omega) only [go_sem,↓reduceIte,hcs,eB]
  obtain rfl : i = 256:=by omega
  simp -implicitDefEqProofs (disch:=omega) only [go_sem,↓reduceIte]
  refine callG false [(0,2)] [(1,4)] 5 htt ?_ ?_
  · simp [keys]
  simp -implicitDefEqProofs (disch:=omega) only [go_sem,↓reduceIte]
  refine ⟨[(0,4)],[],[],rfl,?_,?_,?_⟩ <;> simp -implicitDefEqProofs (disch:=omega) only [go_sem,↓reduceIte]
end
end Go.Proofs.YtololahjocfbeaaGreat
