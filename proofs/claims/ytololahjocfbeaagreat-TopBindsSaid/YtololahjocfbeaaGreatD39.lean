/- Texts,joined. -/
import Derived.Test.YtololahjocfbeaaGreatD38
import Derived.Test.YtololahjocfbeaaGreatD37
import Derived.Test.YtololahjocfbeaaGreatD29
import Derived.Test.YtololahjocfbeaaGreatD11
namespace Go.Proofs.YtololahjocfbeaaGreat
open Go Go.Sy Go.Proofs.Tryz
set_option maxRecDepth 100000
set_option maxHeartbeats 8000000
set_option linter.unusedSimpArgs false
set_option linter.unusedVariables false
def plSG : List (Nat × Plan):=[(1,[(0,[],none),(1,[0],none),(2,[],none),(3,[0,1,2],none),(4,[0,1,2],none),(5,[0,1,2],none),(6,[0,1,2],none),(7,[0,1,2],none),(8,[0,1,2,3,4,5,6,7],none),(9,[],none),(10,[0,1,2,3,4,5,6,7,8,9],none),(11,[0,1,2,3,4,5,6,7,8,9,10],none),(12,[0,1,2,3,4,5,6,7,8,9,10],none),(13,[],some [14,21,22,24]),(14,[],none),(15,[],none),(17,[0,1,2,3,4,5,6,7,8,9,10,11,12,13,14,15],none),(18,[],some [9]),(16,[15,17,18],none),(19,[],none)])]
attribute [go_sem] plSG
def sgR (ma : List Int) (k : Int) (idx : Nat) : List Int:=rD (secK ma k 2) idx
def sgP (a n : Nat) (ma : List Int) (k : Int) (idx : Nat) (text : List Int) : List Part :=
  partsK (secK ma k 1) (secK ma k 3) (msgD (sgR ma k idx) (keyR (secK ma k 1) (secK ma k 3) a n) idx text) n idx a
theorem keyR_good (seed pub : List Int) (a b : Int) : goodD (keyR seed pub a b):=treeD_good (leafD_good pub _ _ seed) _ _ _ _ _
theorem headT_len' (k e : Int) {t l : List Int} (ht : t.length = 32) (hl : l.length = 32) : (headT k e t l).length = 81:=by
  unfold headT nums dcat
  simp [be_len,ht,hl]
theorem hdF_good (es : List Ep) (k : Nat) (tree : List Int) : goodD (hdF es k tree):=rg_good _ _ _
theorem fndC_no {ks : List MK} {vs : List AV} {k : MK} (h : getM ks vs k = none) (z : AV) (K : AV → Bool → Prop) : fndC (getM ks vs k) z K = K z false:=by rw [h]; rfl
structure Dy where
  D : DS
  F : Int × Int × Int
  S : SS
  x : ST
  next : Int
  sg : Bool
  S2 : SS
  es : List Ep
  l : List En
  size : Nat
  ps : List Pt
  gone : Bool
  la : List Pt
  va : List (List UInt8 × List (List Int))
def vtV (p : List UInt8 × List (List Int)) : AV:=.sl (.lst 1 p.2.length (p.2.map bsl))
abbrev lastO (la : List Pt) : OB:=.gm true (la.map fun p => MK.str p.name) (la.map ptV')
abbrev valsO (va : List (List UInt8 × List (List Int))) : OB:=.gm true (va.map fun p => MK.str p.1) (va.map vtV)
abbrev dirV (na ma : List Int) (a n b : Int) (y : Dy) (e t p q : Nat) (W : AV) : AV :=
  .agg [.agg [.ints .u8 32 na,.osl e [] 35 0 y.es.length,.osl t [] 64 0 y.l.length,.mp p,.mp q],cfgV a n b ma na,.ref 0 [],.ref 3 [],.ref 4 [],.int .i64 y.size,W,.bool y.gone]
attribute [go_sem] lastO valsO dirV
abbrev wtP (ps : List Pt) : AV:=.sl (.lst 3 ps.length (ps.map ptV'))
abbrev dirOg (na ma : List Int) (a n b : Int) (y : Dy) (s g z d i j e t p q u : Nat) : OO :=
  [(0,.var (dskV i j y.D)),(1,.var (fcV y.F)),(s,.var (slV y.S)),(g,.var (sgV s 1 y.x (manyD a n) b y.next y.sg)),(z,.var (slVA 2 y.S2)),
    (d,.var (.agg [.agg [.ints .u8 32 na,.osl e [] 35 0 y.es.length,.osl t [] 64 0 y.l.length,.mp p,.mp q],cfgV a n b ma na,.ref 0 [],.ref g [],.ref z [],.int .i64 y.size,.osl u [] 3 0 y.ps.length,.bool y.gone])),
    (i,.row (.ints .u8 y.D.b.length y.D.b)),(j,.row (.lst 2 y.D.wait.length (y.D.wait.map wtV))),(e,.row (.lst 35 y.es.length (y.es.map epV))),(t,.row (.lst 64 y.l.length (y.l.map enV))),(p,lastO y.la),(q,valsO y.va),(u,.row (.lst 3 y.ps.length (y.ps.map ptV')))]
abbrev dirOW (na ma : List Int) (a n b : Int) (y : Dy) (i j e t p q u : Nat) : OO:=dirOg na ma a n b y 2 3 4 5 i j e t p q u
attribute [go_sem] wtP dirOg dirOW
attribute [simp] dirOg dirOW
theorem rens_pts (σ : List (Nat × Nat)) (K : List AV → Prop) : ∀ la : List Pt,rensC σ (la.map ptV') K = K (la.map ptV')
  | [] => by simp only [List.map_nil,rensC]
  | p :: la => by
    simp only [List.map_cons,rensC,ptV',renC]
    exact rens_pts σ (fun ws => K (AV.agg [AV.str p.name,AV.int .i64 p.ver,AV.sl (AV.ints .u8 p.val.length p.val)] :: ws)) la
theorem rens_vts (σ : List (Nat × Nat)) (K : List AV → Prop) : ∀ va : List (List UInt8 × List (List Int)),rensC σ (va.map vtV) K = K (va.map vtV)
  | [] => by simp only [List.map_nil,rensC]
  | p :: va => by
    simp only [List.map_cons,rensC,vtV,renC]
    exact rens_vts σ (fun ws => K (AV.sl (.lst 1 p.2.length (p.2.map bsl)) :: ws)) va
theorem mats_pts (σ : List (Nat × Nat)) (Z : List Nat) (OF : OO) : ∀ la : List Pt,matsC σ Z OF (la.map ptV') (la.map ptV') = True
  | [] => by simp only [List.map_nil,matsC]
  | p :: la => by simp only [List.map_cons,matsC,ptV',matC,mats_pts σ Z OF la,and_true]
theorem mats_vts (σ : List (Nat × Nat)) (Z : List Nat) (OF : OO) : ∀ va : List (List UInt8 × List (List Int)),matsC σ Z OF (va.map vtV) (va.map vtV) = True
  | [] => by simp only [List.map_nil,matsC]
  | p :: va => by simp only [List.map_cons,matsC,vtV,matC,mats_vts σ Z OF va,and_true]
theorem ids_pts : ∀ la : List Pt,idsVs (la.map ptV') = []
  | [] => rfl
  | p :: la => by simp only [List.map_cons,idsVs,ptV',idsV,ids_pts la,List.append_nil]
theorem ids_vts : ∀ va : List (List UInt8 × List (List Int)),idsVs (va.map vtV) = []
  | [] => rfl
  | p :: va => by simp only [List.map_cons,idsVs,vtV,idsV,ids_vts va,List.append_nil]
theorem nids_pts : ∀ la : List Pt,AV.nids (la.map ptV') = true
  | [] => rfl
  | p :: la => by simp only [List.map_cons,AV.nids,ptV',AV.nid,nids_pts la,Bool.and_true]
theorem nids_vts : ∀ va : List (List UInt8 × List (List Int)),AV.nids (va.map vtV) = true
  | [] => rfl
  | p :: va => by simp only [List.map_cons,AV.nids,vtV,AV.nid,nids_vts va,Bool.and_true]
attribute [go_sem ↓] rens_pts rens_vts mats_pts mats_vts ids_pts ids_vts nids_pts nids_vts
abbrev sgPP (y : Dy) (total batch : Int) : AV:=.agg [sgstV y.x,.pp (slP y.D y.S) [],.pp (fcV y.F) [],.int .i64 total,.int .i64 batch,.int .i64 y.next,.bool y.sg]
abbrev bookP (na : List Int) (y : Dy) : AV:=.agg [.ints .u8 32 na,.sl (.lst 35 y.es.length (y.es.map epV)),.sl (.lst 64 y.l.length (y.l.map enV)),.opq,.opq]
abbrev restP (na ma : List Int) (a n b : Int) (y : Dy) : List AV:=[cfgV a n b ma na,.pp (dskP y.D) [],.pp (sgPP y (manyD a n) b) [],.pp (slPA 2 y.D y.S2) [],.int .i64 y.size,wtP y.ps,.bool y.gone]
abbrev dirP (na ma : List Int) (a n b : Int) (y : Dy) : AV:=.agg (bookP na y :: restP na ma a n b y)
attribute [go_sem] sgPP bookP restP dirP
theorem image_pp (D : DS) (h : okD D) : FnC Tryz.prog 35 [.pp (dskP D) []] [] (.osl 0 [] 1 0 D.b.length) [(0,.row (.ints .u8 D.b.length D.b))]:=by
  have hb:=h.bl
  refine fnN mix [] 0 1 [.tmp 2] Tryz.func35 rfl (by kernel_rfl) (by kernel_rfl) rfl (by kernel_rfl) (by kernel_rfl) (by simp) ?_
  simp -implicitDefEqProofs (disch:=omega) only [go_sem,↓reduceIte,List.nil_append]
  refine ⟨[(0,1)],[],[],rfl,?_,?_,?_⟩ <;> simp -implicitDefEqProofs (disch:=omega) only [go_sem,↓reduceIte]
section
variable (na ma : List Int) (a n b : Int) (y : Dy)
theorem stopped_pp : FnC Tryz.prog 70 [.pp (dirP na ma a n b y) []] [] (.bool y.gone) []:=by
  refine fn0 mix [] 0 1 [.tmp 2] Tryz.func70 rfl (by kernel_rfl) (by kernel_rfl) rfl (by kernel_rfl) (by kernel_rfl) (by simp) ?_
  simp -implicitDefEqProofs (disch:=omega) only [go_sem,↓reduceIte]
theorem epoch_pp : FnC Tryz.prog 21 [.pp (dirP na ma a n b y) []] [] (.int .i64 y.es.length) []:=by
  refine fn0 mix [] 0 1 [.tmp 2] Tryz.func21 rfl (by kernel_rfl) (by kernel_rfl) rfl (by kernel_rfl) (by kernel_rfl) (by simp) ?_
  simp -implicitDefEqProofs (disch:=omega) only [go_sem,↓reduceIte]
theorem skey_pp (total batch : Int) : FnC Tryz.prog 72 [.pp (sgPP y total batch) []] [] (.int .i64 y.x.key) []:=by
  refine fn0 mix [] 0 1 [.tmp 2] Tryz.func72 rfl (by kernel_rfl) (by kernel_rfl) rfl (by kernel_rfl) (by kernel_rfl) (by simp) ?_
  simp -implicitDefEqProofs (disch:=omega) only [go_sem,↓reduceIte]
theorem area_pp (bk : AV) (hbk : bk.csz = 36) (rest : List AV) (D : DS) (h : okD D) (h4 : 4 * D.sz ≤ D.b.length) : FnC Tryz.prog 74 [.pp (.agg (bk :: cfgV a n b ma na :: .pp (dskP D) [] :: rest)) []] [] (.osl 0 [] 1 (4 * D.sz) (D.b.length - 4 * D.sz)) [(0,.row (.ints .u8 D.b.length D.b))]:=by
  have hs:=h.sz2
  have hl:=h.bl
  have k1:=image_pp D h
  have k2:=dsize_pp D
  refine fnN mix [] 0 1 [.tmp 2] Tryz.func74 rfl (by kernel_rfl) (by kernel_rfl) rfl (by kernel_rfl) (by kernel_rfl) (by simp) ?_
  simp -implicitDefEqProofs (disch:=omega) only [go_sem,↓reduceIte,hbk]
  refine callBF 1 k1 ?_ ?_
  · simp -implicitDefEqProofs (disch:=omega) only [go_sem,↓reduceIte]
  simp -implicitDefEqProofs (disch:=omega) only [go_sem,↓reduceIte,hbk]
  refine callB k2 ?_ ?_
  · simp -implicitDefEqProofs (disch:=omega) only [go_sem,↓reduceIte]
  have hmin : (min (D.b.length : Int) (4 * D.sz)).toNat = 4 * D.sz:=by omega
  simp -implicitDefEqProofs (disch:=omega) only [go_sem,↓reduceIte,hmin]
  refine ⟨[(0,0)],[],[],rfl,?_,?_,?_⟩ <;> simp -implicitDefEqProofs (disch:=omega) only [go_sem,↓reduceIte]
theorem stop_ok : FnC Tryz.prog 79 [.pp (dirP na ma a n b y) [],.int .i64 0] [] (.int .i64 0) []:=by
  refine fn0 mix [] 0 2 [.tmp 4] Tryz.func79 rfl (by kernel_rfl) (by kernel_rfl) rfl (by kernel_rfl) (by kernel_rfl) (by simp) ?_
  simp -implicitDefEqProofs (disch:=omega) only [go_sem,↓reduceIte]
end
end Go.Proofs.YtololahjocfbeaaGreat
