/- Texts,joined. -/
import Derived.Test.YtololahjocfbeaaGreatD42
import Derived.Test.YtololahjocfbeaaGreatD41
namespace Go.Proofs.YtololahjocfbeaaGreat
open Go Go.Sy Go.Proofs.Tryz
set_option maxRecDepth 100000
set_option maxHeartbeats 8000000
set_option linter.unusedSimpArgs false
set_option linter.unusedVariables false
theorem idxM_new {k : MK} : ∀ {ks : List MK},k ∉ ks → idxM ks k = none
  | [],_ => rfl
  | k' :: ks,h => by
    rw [idxM,if_neg (fun e => h (by rw [e]; exact List.mem_cons_self ..)),idxM_new (fun hm => h (List.mem_cons_of_mem _ hm))]
    rfl
theorem getM_new {ks : List MK} {vs : List AV} {k : MK} (h : k ∉ ks) : getM ks vs k = none:=by unfold getM; rw [idxM_new h]
theorem putM_new {ks : List MK} {vs : List AV} {k : MK} {z : AV} (h : k ∉ ks) : putM ks vs k z = (ks ++ [k],vs ++ [z]):=by unfold putM; rw [idxM_new h]
theorem mats_snoc (σ : List (Nat × Nat)) (Z : List Nat) (OF : OO) (v u : AV) : ∀ va : List (List UInt8 × List (List Int)),matsC σ Z OF (va.map vtV ++ [v]) (va.map vtV ++ [u]) = matC σ Z OF v u
  | [] => by simp only [List.map_nil,List.nil_append,matsC,and_true]
  | p :: va => by simp only [List.map_cons,List.cons_append,matsC,vtV,matC,mats_snoc σ Z OF v u va,true_and]
theorem ids_snoc (v : AV) : ∀ va : List (List UInt8 × List (List Int)),idsVs (va.map vtV ++ [v]) = idsV v
  | [] => by simp only [List.map_nil,List.nil_append,idsVs,List.append_nil]
  | p :: va => by simp only [List.map_cons,List.cons_append,idsVs,vtV,idsV,ids_snoc v va,List.nil_append]
attribute [go_sem ↓] mats_snoc ids_snoc
abbrev dirOS (na ma : List Int) (a n b : Int) (y : Dy) (i j e t p q : Nat) : OO :=
  [(0,.var (dskV i j y.D)),(1,.var (fcV y.F)),(2,.var (slV y.S)),(3,.var (sgV 2 1 y.x (manyD a n) b y.next y.sg)),(4,.var (slVA 2 y.S2)),(5,.var (dirV na ma a n b y e t p q (wtP y.ps))),
    (i,.row (.ints .u8 y.D.b.length y.D.b)),(j,.row (.lst 2 y.D.wait.length (y.D.wait.map wtV))),(e,.row (.lst 35 y.es.length (y.es.map epV))),(t,.row (.lst 64 y.l.length (y.l.map enV))),(p,lastO y.la),(q,valsO y.va)]
attribute [go_sem] dirOS
attribute [simp] dirOS
def oneV (p : Pt) : List UInt8 × List (List Int):=(p.name,[p.val])
def addY (y : Dy) (e : Ep) (l' : List En) : Dy:={ y with es:=y.es ++ [e],l:=l',la:=y.la ++ e.puts,va:=y.va ++ e.puts.map oneV }
def plAD : List (Nat × Plan):=[(6,[(0,[],none),(1,[],none),(2,[],none),(3,[],none),(4,[0,1,2,3],none),(5,[0,1,2,3],none),(6,[0,1,2,3,4,5],none),(7,[],some [32])]),(7,[(6,[],none),(7,[],none),(8,[],none),(9,[],none),(10,[6,7,8,9],none),(11,[6,7,8,9],none),(12,[],none),(13,[6,7,8,9,10,11,12],none),(14,[6,7,8,9,10,11,12],none),(15,[6,7,8,9,10,11,12],none),(16,[],some [48,51]),(0,[6,7,8,9,10,11,12,13,14,15,16],none),(1,[6,7,8,9,10,11,12,13,14,15,16],none),(2,[6,7,8,9,10,11,12,13,14,15,16],none),(3,[6,7,8,9,10,11,12,13,14,15,16],none),(4,[6,7,8,9,10,11,12,13,14,15,16,0,1,2,3],none),(5,[6,7,8,9,10,11,12,13,14,15,16,0,1,2,3],none),(17,[],some [39])]),(9,[(1,[],none),(2,[],none),(3,[],none),(4,[],none),(5,[1,2,3,4],none),(6,[1,2,3,4],none),(7,[],some [58,60]),(0,[1,2,3,4,5,6,7],none),(8,[],none),(9,[],none),(10,[],some [63])])]
attribute [go_sem] plAD
section
variable (na ma : List Int) (hna : goodD na) (a n b : Int) (y : Dy)
include hna in
theorem add_new (key ix : Int) (ps : List Pt) (m : Nat) (hm : ps.length = m) (tr : List Int) (hp : ∀ p ∈ ps,goodP p) (hl : y.l.length + m ≤ 256) (hes : y.es.length ≤ 1000)
    (hg : ∀ e ∈ y.l ++ ps.map (entF na),goodE e) (hd : ((y.l ++ ps.map (entF na)).map (·.1)).Nodup)
    (hn1 : ∀ p ∈ ps,p.name ∉ y.la.map (·.name)) (hn2 : ∀ p ∈ ps,p.name ∉ y.va.map (·.1)) (hn3 : (ps.map (·.name)).Nodup) :
    FnC Tryz.prog 81 [.ref 5 [.fld 0 0],.agg [.int .i64 key,.int .i64 ix,.sl (.lst 3 m (ps.map ptV')),.ints .u8 32 tr]] (dirOS na ma a n b y 6 7 8 9 10 11)
      (.tup []) (dirOS na ma a n b (addY y ⟨key,ix,ps,nodeP 256 (srtE (y.l ++ ps.map (entF na)) hg)⟩ (y.l ++ ps.map (entF na))) 12 13 14 15 16 17):=by
  have k1:=bwith_dir na ma hna a n b y ps hp (by omega) (by omega)
  have k2:=root_ok (y.l ++ ps.map (entF na)) (y.l.length + m) (by rw [List.length_append,List.length_map,hm]) hl hg hd
  have hT:=nodeP 256 (srtE (y.l ++ ps.map (entF na)) hg)
  generalize nodeP 256 (srtE (y.l ++ ps.map (entF na)) hg) = X at *
  have hlen : (y.l ++ ps.map (entF na)).length = y.l.length + m:=by rw [List.length_append,List.length_map,hm]
  generalize y.l ++ ps.map (entF na) = L' at *
  subst hm
  unfold addY
  obtain ⟨D,F,S,x,nxt,sg,S2,es,l,size,pw,gone,la,va⟩:=y
  dsimp only at *
  have hle : (ps.map ptV').length = ps.length:=List.length_map _
  refine fnV mix plAD 6 12 2 [] Tryz.func81 rfl (by kernel_rfl) (by kernel_rfl) rfl (by kernel_rfl) (by kernel_rfl) (by simp) rfl rfl ?_
  simp -implicitDefEqProofs (disch:=omega) only [go_sem,↓reduceIte]
  refine callBF 1 k1 ?_ ?_ rfl rfl (pf_rowE _ _)
  · simp -implicitDefEqProofs (disch:=omega) only [go_sem,↓reduceIte]
  simp -implicitDefEqProofs (disch:=omega) only [go_sem,↓reduceIte]
  refine callB k2 ?_ ?_
  · simp -implicitDefEqProofs (disch:=omega) only [go_sem,↓reduceIte]
  simp -implicitDefEqProofs (disch:=omega) only [go_sem,↓reduceIte]
  refine loop (ι:=Nat) 13 (fun i => i ≤ ps.length) (fun i => [(0,.ref 5 [.fld 0 0]),(3,.ref 12 []),(23,.sl (.lst 3 ps.length (ps.map ptV'))),(24,.int .i64 ps.length),(25,.int .i64 i)])
    (fun i => [(0,.var (dskV 6 7 D)),(1,.var (fcV F)),(2,.var (slV S)),(3,.var (sgV 2 1 x (manyD a n) b nxt sg)),(4,.var (slVA 2 S2)),(5,.var (.agg [.agg [.ints .u8 32 na,.osl 8 [] 35 0 es.length,.osl 9 [] 64 0 (l.length + ps.length),.mp 10,.mp 11],cfgV a n b ma na,.ref 0 [],.ref 3 [],.ref 4 [],.int .i64 size,wtP pw,.bool gone])),
      (6,.row (.ints .u8 D.b.length D.b)),(7,.row (.lst 2 D.wait.length (D.wait.map wtV))),(8,.row (.lst 35 es.length (es.map epV))),(9,.row (.lst 64 (l.length + ps.length) (L'.map enV))),(10,lastO (la ++ ps.take i)),(11,valsO (va ++ (ps.take i).map oneV)),
      (12,.var (.agg [.int .i64 key,.int .i64 ix,.sl (.lst 3 ps.length (ps.map ptV')),.ints .u8 32 X]))]) (fun i => ps.length - i) 0 [(0,0),(1,1),(2,2),(3,3),(4,4),(5,5),(6,6),(7,7),(8,8),(9,13),(10,10),(11,11),(12,12)] [] (Nat.zero_le _) rfl ?_ ?_ ?_ (fun i hi => ?_)
  · simp -implicitDefEqProofs (disch:=omega) only [go_sem,↓reduceIte]
  · simp -implicitDefEqProofs (disch:=omega) only [go_sem,↓reduceIte]
  · simp -implicitDefEqProofs (disch:=omega) only [go_sem,↓reduceIte,List.take_zero,List.append_nil,List.map_nil]
  simp -implicitDefEqProofs (disch:=omega) only [go_sem,↓reduceIte]
  refine brd (fun h1 => ?_) (fun h1 => ?_)
  · obtain ⟨p,hx⟩ : ∃ p,ps[i]? = some p:=⟨_,List.getElem?_eq_getElem (by omega)⟩
    have g1 : ∀ K,getP (ps.map ptV') i K = K (.agg [.str p.name,.int .i64 p.ver,.sl (.ints .u8 p.val.length p.val)]):=fun K => getP_map (f:=ptV') hx K
    have nm : ∀ q ∈ ps.take i,q.name ≠ p.name:=fun q hq e => by
      obtain ⟨j,hj,hq⟩:=List.getElem_of_mem hq
      rw [List.length_take] at hj
      rw [List.getElem_take] at hq
      have:=(List.pairwise_iff_getElem.1 hn3) j i (by rw [List.length_map]; omega) (by rw [List.length_map]; omega) (by omega)
      rw [List.getElem_map,List.getElem_map,hq] at this
      have hxi : ps[i]'(by omega) = p:=by rw [List.getElem?_eq_getElem (by omega)] at hx; exact Option.some.inj hx
      rw [hxi] at this
      exact this e
    have hpm:=List.mem_of_getElem? hx
    have n1 : MK.str p.name ∉ (la ++ ps.take i).map fun p => MK.str p.name:=fun h => by
      obtain ⟨q,hq,e⟩:=List.mem_map.1 h
      rcases List.mem_append.1 hq with hq | hq
      · exact hn1 p hpm (List.mem_map.2 ⟨q,hq,MK.str.inj e⟩)
      · exact nm q hq (MK.str.inj e)
    have n2 : MK.str p.name ∉ (va ++ (ps.take i).map oneV).map fun p => MK.str p.1:=fun h => by
      obtain ⟨q,hq,e⟩:=List.mem_map.1 h
      rcases List.mem_append.1 hq with hq | hq
      · exact hn2 p hpm (List.mem_map.2 ⟨q,hq,MK.str.inj e⟩)
      · obtain ⟨r,hr,rfl⟩:=List.mem_map.1 hq
        exact nm r hr (MK.str.inj e)
    have t1 : ps.take (i + 1) = ps.take i ++ [p]:=by rw [List.take_add_one,hx]; rfl
    have hputL : putM ((la ++ ps.take i).map fun p => MK.str p.name) ((la ++ ps.take i).map ptV') (MK.str p.name) (.agg [.str p.name,.int .i64 p.ver,.sl (.ints .u8 p.val.length p.val)]) = ((la ++ ps.take (i + 1)).map fun p => MK.str p.name,(la ++ ps.take (i + 1)).map ptV'):=by
      rw [putM_new n1,t1]
      refine Prod.ext ?_ ?_ <;> simp [ptV']
    have hgetV : getM ((va ++ (ps.take i).map oneV).map fun p => MK.str p.1) ((va ++ (ps.take i).map oneV).map vtV) (MK.str p.name) = none:=getM_new n2
    have hF:=fndC_no hgetV
    have hputV : ∀ z,putM ((va ++ (ps.take i).map oneV).map fun p => MK.str p.1) ((va ++ (ps.take i).map oneV).map vtV) (MK.str p.name) z = ((va ++ (ps.take (i + 1)).map oneV).map fun p => MK.str p.1,(va ++ (ps.take i).map oneV).map vtV ++ [z]):=fun z => by
      rw [putM_new n2,t1]
      refine Prod.ext ?_ ?_ <;> simp [oneV]
    have hV : (va ++ (ps.take (i + 1)).map oneV).map vtV = (va ++ (ps.take i).map oneV).map vtV ++ [.sl (.lst 1 1 [.sl (.ints .u8 p.val.length p.val)])]:=by
      rw [t1,List.map_append (f:=oneV),← List.append_assoc,List.map_append (f:=vtV)]
      rfl
    simp -implicitDefEqProofs (maxSteps:=1000000) (disch:=omega) only [go_sem,↓reduceIte,↓g1,hle,↓hputL,↓hF,↓hputV]
    refine ⟨i + 1,[(0,0),(1,1),(2,2),(3,3),(4,4),(5,5),(6,6),(7,7),(8,8),(9,9),(10,10),(11,11),(12,12)],[],[15],by dsimp only; omega,by dsimp only; omega,rfl,?_,?_,?_⟩ <;> simp -implicitDefEqProofs (disch:=omega) only [go_sem,↓reduceIte,hV]
  · obtain rfl : i = ps.length:=by omega
    rw [List.take_of_length_le (Nat.le_refl _)] at *
    have eR : (es ++ [(⟨key,ix,ps,X⟩ : Ep)]).map epV = es.map epV ++ [.agg [.int .i64 key,.int .i64 ix,.sl (.lst 3 ps.length (ps.map ptV')),.ints .u8 32 X]]:=by rw [List.map_append]; rfl
    have eL : (es ++ [(⟨key,ix,ps,X⟩ : Ep)]).length = es.length + 1:=by rw [List.length_append]; rfl
    simp -implicitDefEqProofs (disch:=omega) only [go_sem,↓reduceIte]
    refine ⟨[(0,0),(1,1),(2,2),(3,3),(4,4),(5,5),(12,6),(13,7),(14,14),(15,9),(16,10),(17,11)],[],[],rfl,?_,?_,?_⟩ <;> simp -implicitDefEqProofs (disch:=omega) only [go_sem,↓reduceIte,eR,eL,hlen]
end
end Go.Proofs.YtololahjocfbeaaGreat
