/- Texts,joined. -/
import Derived.Test.YtololahjocfbeaaGreatD40
import Derived.Test.YtololahjocfbeaaGreatD49
import Derived.Test.YtololahjocfbeaaGreatD50
import Derived.Test.YtololahjocfbeaaGreatD29
import Derived.Test.YtololahjocfbeaaGreatD45
namespace Go.Proofs.YtololahjocfbeaaGreat
open Go Go.Sy Go.Proofs.Tryz
set_option maxRecDepth 100000
set_option maxHeartbeats 8000000
set_option linter.unusedSimpArgs false
set_option linter.unusedVariables false
theorem rec_len1 (k i : Int) (name : List UInt8) (v : Int) (hn : name.length = 1) : (recF k i [⟨name,v,[1]⟩]).length = 46:=by
  simp [recF,bodF,rowb,rowsF,rowP,be_len,bkU_len,hn]
theorem rec_len0 (k i : Int) : (recF k i []).length = 26:=by
  simp [recF,bodF,rowb,rowsF,be_len]
abbrev pA : Pt:=newP [97] []
theorem pA_small : smallPt pA:=⟨⟨by decide,by decide,by decide⟩,by decide,by decide⟩
theorem xN_key : xN.key = 0:=by decide
theorem xN_msg : xN.msg = []:=rfl
theorem toU_ne {x y : List Int} (hx : ∀ z ∈ x,0 ≤ z ∧ z < 256) (hy : ∀ z ∈ y,0 ≤ z ∧ z < 256) (h : x ≠ y) : toU x ≠ toU y:=fun e => h (by rw [← bk_toU hx,← bk_toU hy,e])
def y1N : Dy:={ yN 6 with ps:=[pA] }
section
variable (a n : Nat) (ha : 1 ≤ a ∧ a ≤ 4) (hn : 1 ≤ n ∧ n ≤ 4) (hmy : manyD a n = 2) (na ma : List Int) (hna : goodD na) (hma : goodD ma)
include ha hn hmy hna hma in
theorem two_acts : ∃ (y1 y2 y3 : Dy) (s : Sn) (e : Ep),
    FnC Tryz.prog 17 [.ref 6 [],actC (.sl (.ints .u8 1 [97]))] (wO na ma a n 1 (yN 6) [] 7 8 9 10 11 12 13 14) (.int .i64 0) (wO na ma a n 1 y1 [] 15 16 17 18 19 20 21 22) ∧
    FnC Tryz.prog 17 [.ref 6 [],actP] (wO na ma a n 1 y1 [] 7 8 9 10 11 12 13 14) (.int .i64 0) (wO na ma a n 1 y2 [s] 15 16 17 18 19 20 21 22) ∧
    FnC Tryz.prog 17 [.ref 6 [],actP] (wO na ma a n 1 y2 [s] 7 8 9 10 11 12 13 14) (.int .i64 6) (wO na ma a n 1 y3 [s] 15 16 17 18 19 20 21 22) ∧
    y3.es = [e] ∧ goodD e.tree ∧ e.ix = (0 : Nat) ∧ e.key = 0:=by
  have h97 : ∀ x ∈ ([97] : List Int),0 ≤ x ∧ x < 256:=by decide
  -- a change
  have c0:=change_new na ma hna a n 1 (yN 6) [97] 1 rfl h97 (by decide) (by decide) rfl rfl (fun p hp => by cases hp) (fun p hp => by cases hp) (by decide) (by decide) (fun h => by cases h)
  have w0:=wdo_change na ma a n 1 (yN 6) y1N [] [97] 1 1 0 (wchange_spec na ma a n 1 (yN 6) y1N [] [97] 1 1 0 c0)
  have hns : 5 ≤ 6 ∧ 6 ≤ 64:=by decide
  have cM:=dM_calm (ns:=6) hns
  -- what is published
  have hg : ∀ e ∈ ([] : List En) ++ [pA].map (entF na),goodE e:=fun e he => by
    rw [List.nil_append,List.map_cons,List.map_nil,List.mem_singleton] at he
    rw [he]
    exact entF_good na pA
  have hd : ((([] : List En) ++ [pA].map (entF na)).map (·.1)).Nodup:=by simp
  have hXg:=nodeP_good 256 (srtE _ hg)
  obtain ⟨X,hX⟩ : ∃ X,nodeP 256 (srtE _ hg) = X:=⟨_,rfl⟩
  rw [hX] at hXg
  have hR:=hdF_good [] 0 X
  have hT1:=headT_len' xN.key ((([] : List Ep).length : Int) + 1) hXg.1 hR.1
  have hT1m:=headT_mem xN.key ((([] : List Ep).length : Int) + 1) hXg.2 hR.2
  -- the signer deals
  obtain ⟨D',e1,c1⟩:=cM.repl hns.2 ⟨1,tx xN,false⟩ rfl (tx (dealY xN 2 1 0 (toU (headT xN.key ((([] : List Ep).length : Int) + 1) X (hdF [] 0 X))))) (by rw [tx_len]; show 54 + (toU _).length + 18 ≤ 400; rw [toU_len,hT1]; decide) (by decide)
  have kd:=deal_new (dM 6) (cM.ok hns.2) (by rw [cM.wt]; exact Nat.zero_le _) ⟨1,tx xN,false⟩ rfl (by decide) (by rw [cM.sz]; decide) fN xN 2 1 0 (headT xN.key ((([] : List Ep).length : Int) + 1) X (hdF [] 0 X)) 81 hT1 (by decide) (fun e => by have:=congrArg List.length e; rw [toU_len,hT1,xN_msg] at this; cases this) (by decide) (by decide) (by decide) (by decide)
  rw [e1] at kd
  dsimp only at kd
  rw [if_pos rfl,if_pos rfl,if_pos rfl,decide_eq_false (fun h => h rfl)] at kd
  obtain ⟨T,hT⟩ : ∃ T,headT xN.key ((([] : List Ep).length : Int) + 1) X (hdF [] 0 X) = T:=⟨_,rfl⟩
  rw [hT] at e1 kd hT1 hT1m
  have hxk : (dealY xN 2 1 0 (toU T)).key = xN.key:=rfl
  have hxm : (dealY xN 2 1 0 (toU T)).msg = toU T:=rfl
  generalize dealY xN 2 1 0 (toU T) = x1 at *
  generalize dealF fN xN 2 1 0 = F1 at *
  -- the record is written
  have hL:=rec_len1 xN.key ((0 : Nat) : Int) pA.name pA.ver rfl
  have hpA : (⟨pA.name,pA.ver,[1]⟩ : Pt) = pA:=rfl
  rw [hpA] at hL
  have hA : (allF D' 0 (recF xN.key ((0 : Nat) : Int) [pA])).length = 800:=by
    unfold allF areaF
    simp only [List.length_append,List.length_take,List.length_drop,c1.bl,c1.sz,hL]
    decide
  obtain ⟨D1,e2,o1,D2,e3,c2⟩:=c1.write (i:=4 + 0) hns.2 (by decide) (t:=((allF D' 0 (recF xN.key ((0 : Nat) : Int) [pA])).drop (0 * D'.sz)).take D'.sz) (by rw [List.length_take,List.length_drop,hA,c1.sz]; decide)
  obtain ⟨D3,e4,c3⟩:=c2.replA hns.2 2 (by decide) ⟨0,[],false⟩ rfl (be ((0 + 46 : Nat) : Int) 8) (by rw [be_len]; decide)
  dsimp only at e4
  generalize (⟨0 + 1,be ((0 + 46 : Nat) : Int) 8,false⟩ : SS) = S3 at *
  generalize hS1 : (⟨1 + 1,tx x1,false⟩ : SS) = S1 at *
  have kw:=write_one na ma a n 1 ⟨D',F1,S1,x1,0 + 1,false,⟨0,[],false⟩,[],[],0,[pA],false,[],[]⟩
    (recF xN.key ((0 : Nat) : Int) [pA]) 46 hL (by decide) (c1.ok hns.2) (by dsimp only; rw [c1.sz,c1.bl]; decide) 0 (by dsimp only; rw [c1.sz]) (by dsimp only; rw [c1.sz]) (by dsimp only; rw [c1.sz,c1.bl]; decide) (by dsimp only; rw [c1.wt]; exact Nat.zero_le _)
    D1 D2 D3 S3 e2 o1 e3 (c2.ok hns.2) (by rw [c2.wt]; exact Nat.zero_le _) (by dsimp only; rw [c2.sz,c1.sz]) (by dsimp only; rw [c1.sz]; decide) rfl (Nat.zero_le _) e4
  dsimp only at kw
  have p1:=publish_ok na ma hna a n 1 y1N hma ha hn rfl rfl (cM.ok hns.2) (by show 4 * (dM 6).sz ≤ (dM 6).b.length; rw [cM.sz,cM.bl]; decide) (by decide) (fun e he => by cases he) (fun p hp => by rw [List.mem_singleton.1 hp]; exact pA_small) (by decide)
    (by show (recF xN.key 0 [pA]).length + 0 ≤ (dM 6).b.length - 4 * (dM 6).sz; rw [cM.sz,cM.bl,← hpA,rec_len1 _ _ _ _ rfl]; decide) (by decide) hg hd X hX hXg (fun p hp h => by cases h) (fun p hp h => by cases h) (by simp [y1N])
    xN.key 0 (by rw [hmy]; decide) D' S1 F1 x1 (0 + 1) hxk (by rw [hmy]; show FnC Tryz.prog _ [_,.sl (.ints .u8 81 (headT xN.key ((([] : List Ep).length : Int) + 1) X (hdF [] 0 X)))] _ _ _; rw [hT]; exact kd) 46 hL (by decide) D3 S3 kw
  have w1:=wdo_publish na ma a n 1 y1N _ [] _ 0 (wpublish_ok na ma a n 1 y1N _ [] _ _ X _ _ _ _ a (by unfold sgP; exact partsK_len _ _ _ _ _ _) (Nat.zero_le _) hXg.1 hR.1 p1)
  -- none more
  have hg2 : ∀ e ∈ (([] : List En) ++ [pA].map (entF na)) ++ ([] : List Pt).map (entF na),goodE e:=fun e he => by
    rw [List.map_nil,List.append_nil] at he
    exact hg e he
  have hd2 : (((([] : List En) ++ [pA].map (entF na)) ++ ([] : List Pt).map (entF na)).map (·.1)).Nodup:=by simp
  have hXg2:=nodeP_good 256 (srtE _ hg2)
  obtain ⟨X2,hX2⟩ : ∃ X,nodeP 256 (srtE _ hg2) = X:=⟨_,rfl⟩
  rw [hX2] at hXg2
  obtain ⟨es2,hes2⟩ : ∃ es : List Ep,[] ++ [⟨xN.key,((0 : Nat) : Int),[pA],X⟩] = es:=⟨_,rfl⟩
  have hel : es2.length = 1:=by rw [← hes2]; rfl
  have hR2:=hdF_good es2 es2.length X2
  have hT2:=headT_len' x1.key ((es2.length : Int) + 1) hXg2.1 hR2.1
  have hT2m:=headT_mem x1.key ((es2.length : Int) + 1) hXg2.2 hR2.2
  have hne : toU (headT x1.key ((es2.length : Int) + 1) X2 (hdF es2 es2.length X2)) ≠ x1.msg:=by
    rw [hxm]
    refine toU_ne hT2m hT1m (fun e => ?_)
    rw [← hT,hel] at e
    have:=((headT_inj (by rw [hxk,xN_key]; exact ⟨by decide,by decide⟩) ⟨by decide,by decide⟩ (by rw [xN_key]; exact ⟨by decide,by decide⟩) ⟨by decide,by decide⟩ hXg2.1 hXg.1).1 e).2.1
    exact absurd this (by decide)
  have ks:=deal_spent D3 S1 F1 x1 2 1 1 _ 81 hT2 (by decide) hne (by decide) (by decide)
  have p2:=publish_not na ma hna a n 1 ⟨D3,F1,S1,x1,0 + 1,false,S3,es2,[] ++ [pA].map (entF na),0 + 46,[],false,[] ++ [pA],[] ++ [pA].map oneV⟩ rfl rfl (c3.ok hns.2) (by dsimp only; rw [c3.sz,c3.bl]; decide) (by dsimp only; rw [hel]; decide)
    (fun e he => by dsimp only at he; rw [← hes2,List.nil_append,List.mem_singleton] at he; rw [he]; exact hXg) (fun p hp => by cases hp) (Nat.zero_le _)
    (by dsimp only; rw [rec_len0,c3.sz,c3.bl]; decide) (by simp) hg2 hd2 X2 hX2 hXg2 6 (by decide) (by decide) 0 0 D3 S1 F1 x1 (0 + 1) false (by rw [hmy]; exact ks)
  have w2:=wdo_publish na ma a n 1 _ _ [⟨xN.key,headT xN.key ((([] : List Ep).length : Int) + 1) X (hdF [] 0 X),((0 : Nat) : Int),sgR ma xN.key 0,sgP a n ma xN.key 0 (headT xN.key ((([] : List Ep).length : Int) + 1) X (hdF [] 0 X))⟩] _ 6 (wpublish_not na ma a n 1 _ _ _ 6 (by decide) p2)
  subst hes2
  exact ⟨y1N,_,_,_,⟨xN.key,((0 : Nat) : Int),[pA],X⟩,w0,w1,w2,rfl,hXg,rfl,xN_key⟩
end
section
variable (na ma : List Int) (a n b : Int) (y : Dy) (sg : List Sn)
theorem wdir_spec : FnC Tryz.prog 18 [.ref 6 []] (wO na ma a n b y sg 7 8 9 10 11 12 13 14) (.ref 5 []) (wO na ma a n b y sg 15 16 17 18 19 20 21 22):=by
  refine fnV mix [] 7 15 1 [.tmp 2] Tryz.func18 rfl (by kernel_rfl) (by kernel_rfl) rfl (by kernel_rfl) (by kernel_rfl) (by simp) rfl rfl ?_
  simp -implicitDefEqProofs (disch:=omega) only [go_sem,↓reduceIte]
  refine ⟨[(0,0),(1,1),(2,2),(3,3),(4,4),(5,5),(6,6),(15,7),(16,8),(17,9),(18,10),(19,11),(20,12),(21,13),(22,14)],[],[],rfl,?_,?_,?_⟩ <;> simp -implicitDefEqProofs (disch:=omega) only [go_sem,↓reduceIte]
theorem wsigned_spec (hl : sg.length ≤ 1000) : FnC Tryz.prog 13 [.ref 6 []] (wO na ma a n b y sg 7 8 9 10 11 12 13 14) (.osl 23 [] 36 0 sg.length) (wO na ma a n b y sg 15 16 17 18 19 20 21 22 ++ [(23,.row (.lst 36 sg.length (sg.map snV)))]):=by
  refine fnV mix [] 7 15 1 [.tmp 2] Tryz.func13 rfl (by kernel_rfl) (by kernel_rfl) rfl (by kernel_rfl) (by kernel_rfl) (by simp) rfl rfl ?_
  simp -implicitDefEqProofs (disch:=omega) only [go_sem,↓reduceIte,List.nil_append]
  refine ⟨[(0,0),(1,1),(2,2),(3,3),(4,4),(5,5),(6,6),(15,7),(16,8),(17,9),(18,10),(19,11),(20,12),(21,13),(22,14),(23,16)],[],[],rfl,?_,?_,?_⟩ <;> simp -implicitDefEqProofs (disch:=omega) only [go_sem,↓reduceIte]
end
theorem run_own (na ma : List Int) (a n : Int) (y : Dy) (s : Sn) (c2 : Int) (ns : Nat)
    (h : FnC Tryz.prog 12 [cfgV a n 1 ma na,.int .i64 ns,.int .i64 400,.sl (.lst 5 3 [actC (.sl (.ints .u8 1 [97])),actP,actP])] [] (.tup [.ref 6 [],.osl 15 [] 1 0 3,.int .i64 0]) (wO na ma a n 1 y [s] 7 8 9 10 11 12 13 14 ++ [(15,.row (.ints .i64 3 [0,0,c2]))])) :
    FnC Tryz.prog 12 [cfgV a n 1 ma na,.int .i64 ns,.int .i64 400,.osl 17 [] 5 0 3] [(16,.row (.ints .u8 1 [97])),(17,.row (.arr 5 [actC (.osl 16 [] 1 0 1),actP,actP]))] (.tup [.ref 6 [],.osl 15 [] 1 0 3,.int .i64 0]) (wO na ma a n 1 y [s] 7 8 9 10 11 12 13 14 ++ [(15,.row (.ints .i64 3 [0,0,c2]))]):=by
  refine h.sub [] [] [16,17] rfl ?_ ?_
  · simp -implicitDefEqProofs (disch:=omega) only [go_sem,↓reduceIte]
  · simp -implicitDefEqProofs (disch:=omega) only [go_sem,↓reduceIte]
theorem head_true (ma : List Int) (a n : Nat) (ha : 1 ≤ a ∧ a ≤ 4) (hn : 1 ≤ n ∧ n ≤ 4) (k : Int) (idx : Nat) (hi : idx < manyD a n) (kk ep : Int) (t l : List Int) (h1 : goodD t) (h2 : goodD l) :
    FnC Tryz.prog 51 [.agg [.agg [.int .i64 a,.int .i64 n],.ints .u8 32 (keyR (secK ma k 1) (secK ma k 3) a n),.ints .u8 32 (secK ma k 3)],.agg [.int .i64 kk,.int .i64 ep,.ints .u8 32 t,.ints .u8 32 l],
      .agg [.int .i64 idx,.ints .u8 32 (sgR ma k idx),.sl (.lst 2 a ((sgP a n ma k idx (headT kk ep t l)).map pt))]] [] (.bool true) []:=by
  have hro:=root_own (secK ma k 1) (secK ma k 3) ha hn hi
  have hMg : goodD (msgD (sgR ma k idx) (keyR (secK ma k 1) (secK ma k 3) a n) idx (headT kk ep t l)):=ofD_good _ _ _
  have hvo:=vK_own (seed:=secK ma k 1) (pub:=secK ma k 3) hMg n idx a a (Nat.le_refl _)
  rw [hro _] at hvo
  have hle : (sgP a n ma k idx (headT kk ep t l)).length = a:=partsK_len _ _ _ _ _ _
  have hgp : ∀ p ∈ sgP a n ma k idx (headT kk ep t l),goodPt p:=fun p h => by
    obtain ⟨k,_,rfl⟩:=partsK_mem h
    exact partK_good _ _ _ _
  have hok : ∀ p ∈ sgP a n ma k idx (headT kk ep t l),p.1.length = 67 ∧ p.2.length = n:=fun p h => by
    obtain ⟨k,_,rfl⟩:=partsK_mem h
    exact ⟨rowN_len _ _,wayD_len _ _ _ _ _ _⟩
  have hma:=manyD_le a n
  have hmb : (2 : Nat) ^ ((a : Int) * n).toNat ≤ 2 ^ 16:=Nat.pow_le_pow_right (by decide) (by
    have : ((a : Int) * n) ≤ 16:=by
      have:=Nat.mul_le_mul ha.2 hn.2
      exact_mod_cast this
    omega)
  have v:=head22_spec (keyR (secK ma k 1) (secK ma k 3) a n) (secK ma k 3) (sgR ma k idx) (keyR_good _ _ _ _) (secK_good _ _ _) (rD_good _ _) a n idx (sgP a n ma k idx (headT kk ep t l)) hgp (by rw [hle]; omega) (by omega) kk ep t l h1 h2
  have hd : formedP a n idx (sgP a n ma k idx (headT kk ep t l)) ∧ vK (secK ma k 3) (msgD (sgR ma k idx) (keyR (secK ma k 1) (secK ma k 3) a n) idx (headT kk ep t l)) ((n : Int)).toNat ((idx : Int)).toNat (sgP a n ma k idx (headT kk ep t l)) (sgP a n ma k idx (headT kk ep t l)).length = keyR (secK ma k 1) (secK ma k 3) a n:=by
    refine ⟨⟨by omega,by omega,by omega,fun p h => ⟨(hok p h).1,by have:=(hok p h).2; omega⟩⟩,?_⟩
    rw [hle,Int.toNat_natCast,Int.toNat_natCast]
    exact hvo
  rw [decide_eq_true hd,hle] at v
  exact v
def plWk : List (Nat × Plan):=[(6,[(0,[],none),(1,[],none),(2,[],none),(3,[],none),(4,[],some [57]),(5,[],none),(6,[3,4,5],none),(7,[3,4,5,6],none),(8,[],none),(9,[],none),(10,[],none)])]
attribute [go_sem] plWk
theorem works_spec : FnC Tryz.prog 11 [] [] (.bool true) []:=by
  have hr : rightP ((1 : Nat) : Int) ((1 : Nat) : Int):=by decide
  obtain ⟨y1,y2,y3,s,e,h0,h1,h2,he,heg,hix,hke⟩:=two_acts 1 1 (by decide) (by decide) (by decide) zs zs zs_good zs_good
  have kr:=run_own zs zs _ _ y3 s 6 6 (run_three 6 zs zs _ _ (yN 6) y1 y2 y3 s 6 (wnew_spec 6 (by decide) _ _ zs zs hr) h0 h1 h2)
  have kg:=wsigned_spec zs zs ((1 : Nat) : Int) ((1 : Nat) : Int) 1 y3 [s] (by simp)
  have kd:=wdir_spec zs zs ((1 : Nat) : Int) ((1 : Nat) : Int) 1 y3 [s]
  have kh:=head_own zs zs 1 1 1 y3 zs_good (by decide) (by decide) 0 e (by rw [he]; rfl) (by rw [he]; simp) (fun x hx => by rw [he,List.mem_singleton] at hx; rw [hx]; exact heg) 0 hix (by decide)
  have hR:=hdF_good y3.es 0 e.tree
  have kp:=public_pp zs (bookP zs y3) rfl [.pp (dskP y3.D) [],.pp (sgPP y3 (manyD ((1 : Nat) : Int) ((1 : Nat) : Int)) 1) [],.pp (slPA 2 y3.D y3.S2) [],.int .i64 y3.size,wtP y3.ps,.bool y3.gone] ((1 : Nat) : Int) ((1 : Nat) : Int) 1 zs zs_good hr 0
  have kv:=head_true zs 1 1 (by decide) (by decide) e.key 0 (by decide) e.key (((0 : Nat) : Int) + 1) e.tree (hdF y3.es 0 e.tree) heg hR
  rw [← hke] at kp
  generalize sgP 1 1 zs e.key 0 (headT e.key (((0 : Nat) : Int) + 1) e.tree (hdF y3.es 0 e.tree)) = Z at *
  generalize hdF y3.es 0 e.tree = R at *
  generalize sgR zs e.key 0 = RR at *
  generalize keyR (secK zs e.key 1) (secK zs e.key 3) ((1 : Nat) : Int) ((1 : Nat) : Int) = K at *
  generalize secK zs e.key 3 = K3 at *
  rw [hke] at kp kh kv
  dsimp only [dirOW,dirOg,wO,List.cons_append,List.nil_append,List.length_cons,List.length_nil] at kr kg kd kh
  simp only [Int.natCast_zero,Int.natCast_one,Int.zero_add,Int.cast_ofNat_Int] at kr kg kd kh kp kv
  unfold zs at kr kg kd kh kp
  refine fn0 mix plWk 0 0 [.tmp 0] Tryz.func11 rfl (by kernel_rfl) (by kernel_rfl) rfl (by kernel_rfl) (by kernel_rfl) (by simp) ?_
  simp -implicitDefEqProofs (disch:=omega) only [go_sem,↓reduceIte]
  refine callG false [(16,1),(17,2)] [(0,3),(1,4),(2,5),(3,6),(4,7),(5,8),(6,9),(7,10),(8,11),(9,12),(10,13),(11,14),(12,15),(13,16),(14,17),(15,18)] 19 kr ?_ ?_
  · simp [keys]
  simp -implicitDefEqProofs (disch:=omega) only [go_sem,↓reduceIte]
  refine callG false [(0,3),(1,4),(2,5),(3,6),(4,7),(5,8),(6,9),(7,10),(8,11),(9,12),(10,13),(11,14),(12,15),(13,16),(14,17)] [(0,3),(1,4),(2,5),(3,6),(4,7),(5,8),(6,9),(15,19),(16,20),(17,21),(18,22),(19,23),(20,24),(21,25),(22,26),(23,27)] 28 kg ?_ ?_
  · simp [keys]
  simp -implicitDefEqProofs (disch:=omega) only [go_sem,↓reduceIte]
  refine callG false [(0,3),(1,4),(2,5),(3,6),(4,7),(5,8),(6,9),(7,19),(8,20),(9,21),(10,22),(11,23),(12,24),(13,25),(14,26)] [(0,3),(1,4),(2,5),(3,6),(4,7),(5,8),(6,9),(15,28),(16,29),(17,30),(18,31),(19,32),(20,33),(21,34),(22,35)] 36 kd ?_ ?_
  · simp [keys]
  simp -implicitDefEqProofs (disch:=omega) only [go_sem,↓reduceIte]
  refine callG false [(0,3),(1,4),(2,5),(3,6),(4,7),(5,8),(6,28),(7,29),(8,30),(9,31),(10,32),(11,33),(12,34)] [(0,3),(1,4),(2,5),(3,6),(4,7),(5,8),(13,36),(14,37),(15,38),(16,39),(17,40),(18,41),(19,42),(20,43)] 44 kh ?_ ?_
  · simp [keys]
  simp -implicitDefEqProofs (disch:=omega) only [go_sem,↓reduceIte]
  refine callG false [(0,3),(1,4),(2,5),(3,6),(4,7),(5,8),(6,9),(7,36),(8,37),(9,38),(10,39),(11,40),(12,41),(13,42),(14,35)] [(0,3),(1,4),(2,5),(3,6),(4,7),(5,8),(6,9),(15,46),(16,47),(17,48),(18,49),(19,50),(20,51),(21,52),(22,53)] 54 kd ?_ ?_
  · simp [keys]
  simp -implicitDefEqProofs (disch:=omega) only [go_sem,↓reduceIte]
  refine callB kp ?_ ?_
  · simp -implicitDefEqProofs (disch:=omega) only [go_sem,↓reduceIte]
  simp -implicitDefEqProofs (disch:=omega) only [go_sem,↓reduceIte]
  refine callB kv ?_ ?_
  · simp -implicitDefEqProofs (disch:=omega) only [go_sem,↓reduceIte]
  simp -implicitDefEqProofs (disch:=omega) only [go_sem,↓reduceIte]
end Go.Proofs.YtololahjocfbeaaGreat
