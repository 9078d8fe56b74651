/- Texts,joined. -/
import Derived.Test.YtololahjocfbeaaGreatD39
namespace Go.Proofs.YtololahjocfbeaaGreat
open Go Go.Sy Go.Proofs.Tryz
set_option maxRecDepth 100000
set_option maxHeartbeats 8000000
set_option linter.unusedSimpArgs false
set_option linter.unusedVariables false
attribute [go_sem] pl28 pl71
theorem pf_ens : ∀ l : List En,AV.pf.pfs (l.map enV) = true
  | [] => rfl
  | e :: l => by
    rw [List.map_cons,AV.pf.pfs,pf_ens l]
    rfl
theorem pf_rowE (n : Nat) (l : List En) : ([((0 : Nat),OB.row (.lst 64 n (l.map enV)))].all fun p => p.2.pf) = true:=by
  show (AV.pf.pfs (l.map enV) && true) = true
  rw [pf_ens]
  rfl
theorem bindex_dir (na ma : List Int) (hna : goodD na) (a n b : Int) (y : Dy) (name : List Int) (m : Nat) (hn : name.length = m) (hm : ∀ x ∈ name,0 ≤ x ∧ x < 256) (v : Int) :
    FnC Tryz.prog 123 [.pp (dirP na ma a n b y) [.fld 0 0],.sl (.ints .u8 m name),.int .i64 v] [] (.ints .u8 32 (idxF na name v)) [] :=
  bindex_spec na hna (.sl (.lst 35 y.es.length (y.es.map epV))) (.sl (.lst 64 y.l.length (y.l.map enV))) (restP na ma a n b y) name m hn hm v
theorem bwith_dir (na ma : List Int) (hna : goodD na) (a n b : Int) (y : Dy) (ps : List Pt) (hp : ∀ p ∈ ps,goodP p) (hb : y.l.length ≤ 100000) (hb2 : ps.length ≤ 100000) :
    FnC Tryz.prog 76 [.pp (dirP na ma a n b y) [.fld 0 0],wtP ps] [] (.osl 0 [] 64 0 (y.l.length + ps.length)) [(0,.row (.lst 64 (y.l.length + ps.length) ((y.l ++ ps.map (entF na)).map enV)))] :=
  bwith_spec na hna (.sl (.lst 35 y.es.length (y.es.map epV))) rfl (restP na ma a n b y) y.l y.l.length rfl ps ps.length rfl hp hb hb2
def newP (name val : List Int) : Pt:=⟨toU name,1,1 :: val⟩
section
variable (na ma : List Int) (hna : goodD na) (a n b : Int) (y : Dy)
include hna in
theorem changed_new (name : List Int) (m : Nat) (hm : name.length = m) (hg : ∀ x ∈ name,0 ≤ x ∧ x < 256) (hml : m ≤ 64) (val : List Int) (vl : Nat) (hvl : val.length = vl) (hv : vl ≤ 64)
    (hgn : getM (y.la.map fun p => MK.str p.name) (y.la.map ptV') (MK.str (toU name)) = none) (hw : ∀ p ∈ y.ps,p.name ≠ toU name) (hp : ∀ p ∈ y.ps,goodP p) (hps : y.ps.length < 16) (hl : y.l.length + y.ps.length < 256)
    (hix : idxF na name 1 ∉ (y.l ++ y.ps.map (entF na)).map (·.1)) :
    FnC Tryz.prog 71 [.ref 5 [],.int .i64 1,.sl (.ints .u8 m name),.sl (.ints .u8 vl val)] (dirOW na ma a n b y 6 7 8 9 10 11 12)
      (.tup [.agg [.str (toU name),.int .i64 1,.osl 20 [] 1 0 (1 + vl)],.int .i64 0]) (dirOW na ma a n b y 13 14 15 16 17 18 19 ++ [(20,.row (.ints .u8 (1 + vl) (1 :: val)))]):=by
  have k1:=bwith_dir na ma hna a n b y y.ps hp (by omega) (by omega)
  have k2:=bindex_dir na ma hna a n b y name m hm hg 1
  have k3:=has_spec (y.l ++ y.ps.map (entF na)) (y.l.length + y.ps.length) (by rw [List.length_append,List.length_map]) (by omega) (idxF na name 1)
  rw [decide_eq_false hix] at k3
  generalize idxF na name 1 = X at *
  obtain ⟨D,F,S,x,nxt,sg,S2,es,l,size,ps,gone,la,va⟩:=y
  dsimp only at *
  have hle : (ps.map ptV').length = ps.length:=List.length_map _
  refine fnV mix pl71 6 13 4 [.cell 8 149,.tmp 9] Tryz.func71 rfl (by kernel_rfl) (by kernel_rfl) rfl (by kernel_rfl) (by kernel_rfl) (by simp) rfl rfl ?_
  simp -implicitDefEqProofs (disch:=omega) only [go_sem,↓reduceIte]
  refine loop (ι:=Nat) 14 (fun i => i ≤ ps.length) (fun i => [(0,.ref 5 []),(1,.int .i64 1),(2,.sl (.ints .u8 m name)),(3,.sl (.ints .u8 vl val)),(8,.ref 13 []),(16,.osl 12 [] 3 0 ps.length),(17,.int .i64 ps.length),(18,.int .i64 i)])
    (fun i => dirOW na ma a n b ⟨D,F,S,x,nxt,sg,S2,es,l,size,ps,gone,la,va⟩ 6 7 8 9 10 11 12 ++ [(13,.var (.agg [.str [],.int .i64 0,.nils]))]) (fun i => ps.length - i) 0 [(0,0),(1,1),(2,2),(3,3),(4,4),(5,5),(6,6),(7,7),(8,8),(9,9),(10,10),(11,11),(12,12),(13,13)] [] (Nat.zero_le _) rfl ?_ ?_ ?_ (fun i hi => ?_)
  · simp -implicitDefEqProofs (disch:=omega) only [go_sem,↓reduceIte]
  · simp -implicitDefEqProofs (disch:=omega) only [go_sem,↓reduceIte]
  · simp -implicitDefEqProofs (disch:=omega) only [go_sem,↓reduceIte,List.cons_append,List.nil_append]
  simp -implicitDefEqProofs (disch:=omega) only [go_sem,↓reduceIte,List.cons_append,List.nil_append]
  refine brd (fun h1 => ?_) (fun h1 => ?_)
  · obtain ⟨p,hx⟩ : ∃ p,ps[i]? = some p:=⟨_,List.getElem?_eq_getElem (by omega)⟩
    have g1 : ∀ K,getP (ps.map ptV') i K = K (.agg [.str p.name,.int .i64 p.ver,.sl (.ints .u8 p.val.length p.val)]):=fun K => getP_map (f:=ptV') hx K
    have hne : decide (p.name = name.map fun x => UInt8.ofNat x.toNat) = false:=decide_eq_false (hw p (List.mem_of_getElem? hx))
    simp -implicitDefEqProofs (disch:=omega) only [go_sem,↓reduceIte,↓g1,hle,hne]
    refine ⟨i + 1,[(0,0),(1,1),(2,2),(3,3),(4,4),(5,5),(6,6),(7,7),(8,8),(9,9),(10,10),(11,11),(12,12),(13,13)],[],[],by dsimp only; omega,by dsimp only; omega,rfl,?_,?_,?_⟩ <;> simp -implicitDefEqProofs (disch:=omega) only [go_sem,↓reduceIte]
  · obtain rfl : i = ps.length:=by omega
    have hgn' : getM (la.map fun p => MK.str p.name) (la.map ptV') (MK.str (name.map fun x => UInt8.ofNat x.toNat)) = none:=hgn
    have hF:=fndC_no hgn'
    simp -implicitDefEqProofs (disch:=omega) only [go_sem,↓reduceIte,↓hF]
    refine callBF 1 k1 ?_ ?_ rfl rfl (pf_rowE _ _)
    · simp -implicitDefEqProofs (disch:=omega) only [go_sem,↓reduceIte]
    simp -implicitDefEqProofs (disch:=omega) only [go_sem,↓reduceIte]
    refine callB k2 ?_ ?_
    · simp -implicitDefEqProofs (disch:=omega) only [go_sem,↓reduceIte]
    simp -implicitDefEqProofs (disch:=omega) only [go_sem,↓reduceIte]
    refine callB k3 ?_ ?_
    · simp -implicitDefEqProofs (disch:=omega) only [go_sem,↓reduceIte]
    simp -implicitDefEqProofs (disch:=omega) only [go_sem,↓reduceIte]
    refine brd (fun h => by omega) (fun h => ?_)
    simp -implicitDefEqProofs (disch:=omega) only [go_sem,↓reduceIte]
    refine brd (fun h => by omega) (fun h => ?_)
    simp -implicitDefEqProofs (disch:=omega) only [go_sem,↓reduceIte]
    refine ⟨[(0,0),(1,1),(2,2),(3,3),(4,4),(5,5),(13,6),(14,7),(15,8),(16,9),(17,10),(18,11),(19,12),(20,17)],[],[],rfl,?_,?_,?_⟩ <;> simp -implicitDefEqProofs (disch:=omega) only [go_sem,↓reduceIte,toU]
include hna in
theorem changed_nil (name : List Int) (m : Nat) (hm : name.length = m) (hg : ∀ x ∈ name,0 ≤ x ∧ x < 256) (hml : m ≤ 64)
    (hgn : getM (y.la.map fun p => MK.str p.name) (y.la.map ptV') (MK.str (toU name)) = none) (hw : ∀ p ∈ y.ps,p.name ≠ toU name) (hp : ∀ p ∈ y.ps,goodP p) (hps : y.ps.length < 16) (hl : y.l.length + y.ps.length < 256)
    (hix : idxF na name 1 ∉ (y.l ++ y.ps.map (entF na)).map (·.1)) :
    FnC Tryz.prog 71 [.ref 5 [],.int .i64 1,.sl (.ints .u8 m name),.nils] (dirOW na ma a n b y 6 7 8 9 10 11 12)
      (.tup [.agg [.str (toU name),.int .i64 1,.osl 20 [] 1 0 1],.int .i64 0]) (dirOW na ma a n b y 13 14 15 16 17 18 19 ++ [(20,.row (.ints .u8 1 [1]))]):=by
  refine (changed_new na ma hna a n b y name m hm hg hml [] 0 rfl (by decide) hgn hw hp hps hl hix).sub [(0,0),(1,1),(2,2),(3,3),(4,4),(5,5),(6,6),(7,7),(8,8),(9,9),(10,10),(11,11),(12,12)] [] [] rfl ?_ ?_
  · simp -implicitDefEqProofs (disch:=omega) only [go_sem,↓reduceIte]
  · simp -implicitDefEqProofs (disch:=omega) only [go_sem,↓reduceIte]
include hna in
theorem change_new (name : List Int) (m : Nat) (hm : name.length = m) (hg : ∀ x ∈ name,0 ≤ x ∧ x < 256) (hm1 : 1 ≤ m) (hml : m ≤ 64) (hgo : y.gone = false)
    (hgn : getM (y.la.map fun p => MK.str p.name) (y.la.map ptV') (MK.str (toU name)) = none) (hw : ∀ p ∈ y.ps,p.name ≠ toU name) (hp : ∀ p ∈ y.ps,goodP p) (hps : y.ps.length < 16) (hl : y.l.length + y.ps.length < 256)
    (hix : idxF na name 1 ∉ (y.l ++ y.ps.map (entF na)).map (·.1)) :
    FnC Tryz.prog 28 [.ref 5 [],.int .i64 1,.sl (.ints .u8 m name),.nils] (dirOW na ma a n b y 6 7 8 9 10 11 12)
      (.int .i64 0) (dirOW na ma a n b { y with ps:=y.ps ++ [newP name []] } 13 14 15 16 17 18 19):=by
  have k1:=stopped_pp na ma a n b y
  rw [hgo] at k1
  have k2:=changed_nil na ma hna a n b y name m hm hg hml hgn hw hp hps hl hix
  have d1 : decide ((m : Int) < 1) = false:=decide_eq_false (by omega)
  have d2 : decide ((64 : Int) < (m : Int)) = false:=decide_eq_false (by omega)
  have eR : (y.ps ++ [newP name []]).map ptV' = y.ps.map ptV' ++ [.agg [.str (toU name),.int .i64 1,.sl (.ints .u8 1 [1])]]:=by rw [List.map_append]; rfl
  have eL : (y.ps ++ [newP name []]).length = y.ps.length + 1:=by rw [List.length_append]; rfl
  obtain ⟨D,F,S,x,nxt,sg,S2,es,l,size,ps,gone,la,va⟩:=y
  dsimp only at *
  generalize ps ++ [newP name []] = ps' at *
  generalize toU name = N at *
  refine fnV mix ((100007,[]) :: pl28) 6 13 4 [.tmp 8] Tryz.func28 rfl (by kernel_rfl) (by kernel_rfl) rfl (by kernel_rfl) (by kernel_rfl) (by simp) rfl rfl ?_
  simp -implicitDefEqProofs (disch:=omega) only [go_sem,↓reduceIte]
  refine brd (fun h => by omega) (fun h => ?_)
  simp -implicitDefEqProofs (disch:=omega) only [go_sem,↓reduceIte]
  refine brd (fun h => by omega) (fun h => ?_)
  simp -implicitDefEqProofs (disch:=omega) only [go_sem,↓reduceIte]
  refine callB k1 ?_ ?_
  · simp -implicitDefEqProofs (disch:=omega) only [go_sem,↓reduceIte]
  simp -implicitDefEqProofs (disch:=omega) only [go_sem,↓reduceIte]
  refine callG false [(0,0),(1,1),(2,2),(3,3),(4,4),(5,5),(6,6),(7,7),(8,8),(9,9),(10,10),(11,11),(12,12)] [(0,0),(1,1),(2,2),(3,3),(4,4),(5,5),(13,13),(14,14),(15,15),(16,16),(17,17),(18,18),(19,19),(20,20)] 21 k2 ?_ ?_
  · simp [keys]
  simp -implicitDefEqProofs (disch:=omega) only [go_sem,↓reduceIte]
  refine Sy.cut 14 [(0,.ref 5 []),(9,.ref 13 []),(10,.int .i64 0)] (dirOW na ma a n b ⟨D,F,S,x,nxt,sg,S2,es,l,size,ps,gone,la,va⟩ 6 7 8 9 10 11 12 ++ [(13,.var (.agg [.str N,.int .i64 1,.sl (.ints .u8 1 [1])]))])
    [(0,0),(1,1),(2,2),(3,3),(4,4),(5,5),(6,13),(7,14),(8,15),(9,16),(10,17),(11,18),(12,19),(13,21)] [] [20] rfl ?_ ?_ ?_ ?_
  · simp -implicitDefEqProofs (disch:=omega) only [go_sem,↓reduceIte]
  · simp -implicitDefEqProofs (disch:=omega) only [go_sem,↓reduceIte]
  · simp -implicitDefEqProofs (disch:=omega) only [go_sem,↓reduceIte,List.cons_append,List.nil_append]
  dsimp only [dirOW,dirOg,List.cons_append,List.nil_append]
  simp -implicitDefEqProofs (disch:=omega) only [go_sem,↓reduceIte]
  refine ⟨[(0,0),(1,1),(2,2),(3,3),(4,4),(5,5),(13,6),(14,7),(15,8),(16,9),(17,10),(18,11),(19,15)],[],[],rfl,?_,?_,?_⟩ <;> simp -implicitDefEqProofs (disch:=omega) only [go_sem,↓reduceIte,eR,eL]
end
end Go.Proofs.YtololahjocfbeaaGreat
