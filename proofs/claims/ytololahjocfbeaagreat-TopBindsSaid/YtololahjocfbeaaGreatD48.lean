/- Texts,joined. -/
import Derived.Test.YtololahjocfbeaaGreatD11
import Derived.Test.YtololahjocfbeaaGreatD41
import Derived.Test.YtololahjocfbeaaGreatD44
namespace Go.Proofs.YtololahjocfbeaaGreat
open Go Go.Sy Go.Proofs.Tryz
set_option maxRecDepth 100000
set_option maxHeartbeats 8000000
set_option linter.unusedSimpArgs false
set_option linter.unusedVariables false
attribute [go_sem] pl16
structure Sn where
  key : Int
  text : List Int
  idx : Int
  r : List Int
  parts : List Part
def snV (s : Sn) : AV:=.agg [.int .i64 s.key,.sl (.ints .u8 s.text.length s.text),.agg [.int .i64 s.idx,.ints .u8 32 s.r,.sl (.lst 2 s.parts.length (s.parts.map pt))]]
abbrev wO (na ma : List Int) (a n b : Int) (y : Dy) (sg : List Sn) (i j e t p q u s : Nat) : OO :=
  [(0,.var (dskV i j y.D)),(1,.var (fcV y.F)),(2,.var (slV y.S)),(3,.var (sgV 2 1 y.x (manyD a n) b y.next y.sg)),(4,.var (slVA 2 y.S2)),(5,.var (dirV na ma a n b y e t p q (.osl u [] 3 0 y.ps.length))),
    (6,.var (.agg [cfgV a n b ma na,.ref 0 [],.ref 1 [],.ref 5 [],.nils,.osl s [] 36 0 sg.length])),
    (i,.row (.ints .u8 y.D.b.length y.D.b)),(j,.row (.lst 2 y.D.wait.length (y.D.wait.map wtV))),(e,.row (.lst 35 y.es.length (y.es.map epV))),(t,.row (.lst 64 y.l.length (y.l.map enV))),(p,lastO y.la),(q,valsO y.va),(u,.row (.lst 3 y.ps.length (y.ps.map ptV'))),
    (s,.row (.lst 36 sg.length (sg.map snV)))]
attribute [go_sem] wO
attribute [simp] wO
def plWo : List (Nat × Plan):=[(1,[(0,[],none),(1,[],none),(2,[],none),(3,[],none),(4,[0,1,2,3],none),(5,[0,1,2,3],none),(6,[0,1,2,3],none),(7,[0,1,2,3],none),(8,[0,1,2,3,4,5,6,7],none),(9,[0,1,2,3,4,5,6,7],none),(10,[0,1,2,3,4,5,6,7],none),(11,[0,1,2,3,4,5,6,7],none),(12,[],some [9,13,17]),(13,[],none),(14,[],none),(15,[14],none),(16,[15],none),(17,[],none)])]
attribute [go_sem] plWo
section
variable (ns : Nat) (hns : 5 ≤ ns ∧ ns ≤ 64) (a n : Int) (ma na : List Int) (hr : rightP a n)
include hns hr in
theorem wopen_new : FnC Tryz.prog 56 [.ref 2 []] [(0,.var (dskV 3 4 (dN ns))),(1,.var (fcV (0,0,0))),(2,.var (.agg [cfgV a n 1 ma na,.ref 0 [],.ref 1 [],.nilp,.nils,.nils])),(3,.row (.ints .u8 (dN ns).b.length (dN ns).b)),(4,.row (.lst 2 (dN ns).wait.length ((dN ns).wait.map wtV)))]
    (.int .i64 0) (dirOg na ma a n 1 (yN ns) 5 6 7 8 9 10 11 12 13 14 15 ++ [(2,.var (.agg [cfgV a n 1 ma na,.ref 0 [],.ref 1 [],.ref 8 [],.nils,.nils]))]):=by
  have k:=open_newN ns hns a n ma na hr
  generalize yN ns = y at *
  generalize dN ns = D at *
  refine fnV mix plWo 3 5 1 [.tmp 2] Tryz.func56 rfl (by kernel_rfl) (by kernel_rfl) rfl (by kernel_rfl) (by kernel_rfl) (by simp) rfl rfl ?_
  simp -implicitDefEqProofs (disch:=omega) only [go_sem,↓reduceIte]
  refine callG false [(0,0),(1,1),(2,3),(3,4)] [(0,0),(1,1),(4,5),(5,6),(6,7),(7,8),(8,9),(9,10),(10,11),(11,12),(12,13),(13,14),(14,15)] 16 k ?_ ?_
  · simp [keys]
  simp -implicitDefEqProofs (disch:=omega) only [go_sem,↓reduceIte]
  refine ⟨[(0,0),(1,1),(2,2),(5,5),(6,6),(7,7),(8,8),(9,9),(10,10),(11,11),(12,12),(13,13),(14,14),(15,15)],[],[],rfl,?_,?_,?_⟩ <;> simp -implicitDefEqProofs (disch:=omega) only [go_sem,↓reduceIte,List.cons_append,List.nil_append]
include hns hr in
theorem wnew_spec : FnC Tryz.prog 16 [cfgV a n 1 ma na,.int .i64 ns,.int .i64 400] [] (.tup [.ref 6 [],.int .i64 0]) (wO na ma a n 1 (yN ns) [] 7 8 9 10 11 12 13 14):=by
  have k1:=new_ok ns 400 (by omega) (by omega) (by decide) (by decide)
  rw [show (⟨400,List.replicate (ns * 400) 0,[],false,false,0,[]⟩ : DS) = dN ns from rfl] at k1
  have k2:=wopen_new ns hns a n ma na hr
  have hps : (yN ns).ps = []:=rfl
  generalize yN ns = y at *
  generalize dN ns = D at *
  refine fnN mix pl16 0 3 [.tmp 6,.tmp 7] Tryz.func16 rfl (by kernel_rfl) (by kernel_rfl) rfl (by kernel_rfl) (by kernel_rfl) (by simp) ?_
  simp -implicitDefEqProofs (disch:=omega) only [go_sem,↓reduceIte]
  refine callF 3 k1 ?_
  simp -implicitDefEqProofs (disch:=omega) only [go_sem,↓reduceIte]
  refine callF 1 new_spec ?_
  simp -implicitDefEqProofs (disch:=omega) only [go_sem,↓reduceIte]
  refine callG false [(0,1),(1,4),(2,5),(3,2),(4,3)] [(0,1),(1,4),(5,6),(6,7),(7,8),(8,9),(9,10),(10,11),(11,12),(12,13),(13,14),(14,15),(15,16),(2,5)] 17 k2 ?_ ?_
  · simp [keys]
  simp -implicitDefEqProofs (disch:=omega) only [go_sem,↓reduceIte]
  refine ⟨[(0,1),(1,4),(2,6),(3,7),(4,8),(5,9),(6,5),(7,10),(8,11),(9,12),(10,13),(11,14),(12,15),(13,16)],[14],[],rfl,?_,?_,?_⟩ <;> simp -implicitDefEqProofs (disch:=omega) only [go_sem,↓reduceIte,List.cons_append,List.nil_append,List.map_nil,List.length_nil]
end
section
variable (na ma : List Int) (a n b : Int) (y y' : Dy) (sg : List Sn)
def plWc : List (Nat × Plan):=[(1,[(0,[],none),(1,[],none),(2,[],none),(3,[],none),(4,[0,1,2,3],none),(5,[0,1,2,3],none),(6,[0,1,2,3,4,5],none),(7,[0,1,2,3,4,5],none),(8,[0,1,2,3,4,5,6,7],none),(9,[0,1,2,3,4,5,6,7],none),(10,[],some [8,10,12,14]),(11,[],none)])]
attribute [go_sem] plWc
theorem wchange_spec (name : List Int) (m : Nat) (k : Int) (e : Int) (hk : FnC Tryz.prog 28 [.ref 5 [],.int .i64 k,.sl (.ints .u8 m name),.nils] (dirOW na ma a n b y 6 7 8 9 10 11 12) (.int .i64 e) (dirOW na ma a n b y' 13 14 15 16 17 18 19)) :
    FnC Tryz.prog 57 [.ref 6 [],.agg [.int .i64 1,.int .i64 k,.sl (.ints .u8 m name),.nils,.nils]] (wO na ma a n b y sg 7 8 9 10 11 12 13 14) (.int .i64 e) (wO na ma a n b y' sg 15 16 17 18 19 20 21 22):=by
  refine fnV mix plWc 7 15 2 [.tmp 4] Tryz.func57 rfl (by kernel_rfl) (by kernel_rfl) rfl (by kernel_rfl) (by kernel_rfl) (by simp) rfl rfl ?_
  simp -implicitDefEqProofs (disch:=omega) only [go_sem,↓reduceIte]
  refine callG false [(0,0),(1,1),(2,2),(3,3),(4,4),(5,5),(6,7),(7,8),(8,9),(9,10),(10,11),(11,12),(12,13)] [(0,0),(1,1),(2,2),(3,3),(4,4),(5,5),(13,16),(14,17),(15,18),(16,19),(17,20),(18,21),(19,22)] 23 hk ?_ ?_
  · simp [keys]
  simp -implicitDefEqProofs (disch:=omega) only [go_sem,↓reduceIte]
  refine ⟨[(0,0),(1,1),(2,2),(3,3),(4,4),(5,5),(6,6),(15,16),(16,17),(17,18),(18,19),(19,20),(20,21),(21,22),(22,14)],[],[],rfl,?_,?_,?_⟩ <;> simp -implicitDefEqProofs (disch:=omega) only [go_sem,↓reduceIte]
def plWp : List (Nat × Plan):=[(3,[(1,[],none),(2,[],none),(3,[],none),(4,[],none),(5,[1,2,3,4],none),(6,[1,2,3,4],none),(7,[1,2,3,4,5,6],none),(8,[1,2,3,4,5,6],none),(9,[1,2,3,4,5,6,7,8],none),(10,[1,2,3,4],none),(11,[1,2,3,4],none),(12,[],some [23,30]),(0,[1,2,3,4,5,6,7,8,9,10,11,12],none),(13,[],none),(14,[],none),(15,[],some [33])])]
attribute [go_sem] plWp
abbrev actP : AV:=.agg [.int .i64 2,.int .i64 0,.nils,.nils,.nils]
attribute [go_sem] actP
theorem wpublish_not (r : Int) (hr : r ≠ 0) (hk : FnC Tryz.prog 29 [.ref 5 []] (dirOW na ma a n b y 6 7 8 9 10 11 12) (.tup [.agg [.int .i64 0,.int .i64 0,.ints .u8 32 zs,.ints .u8 32 zs],.agg [.int .i64 0,.ints .u8 32 zs,.nils],.int .i64 r]) (dirOW na ma a n b y' 13 14 15 16 17 18 19)) :
    FnC Tryz.prog 58 [.ref 6 [],actP] (wO na ma a n b y sg 7 8 9 10 11 12 13 14) (.int .i64 r) (wO na ma a n b y' sg 15 16 17 18 19 20 21 22):=by
  have d1 : decide (r = 0) = false:=decide_eq_false hr
  refine fnV mix plWp 7 15 2 [.tmp 4] Tryz.func58 rfl (by kernel_rfl) (by kernel_rfl) rfl (by kernel_rfl) (by kernel_rfl) (by simp) rfl rfl ?_
  simp -implicitDefEqProofs (disch:=omega) only [go_sem,↓reduceIte]
  refine callG false [(0,0),(1,1),(2,2),(3,3),(4,4),(5,5),(6,7),(7,8),(8,9),(9,10),(10,11),(11,12),(12,13)] [(0,0),(1,1),(2,2),(3,3),(4,4),(5,5),(13,16),(14,17),(15,18),(16,19),(17,20),(18,21),(19,22)] 23 hk ?_ ?_
  · simp [keys]
  simp -implicitDefEqProofs (disch:=omega) only [go_sem,↓reduceIte,d1]
  refine ⟨[(0,0),(1,1),(2,2),(3,3),(4,4),(5,5),(6,6),(15,16),(16,17),(17,18),(18,19),(19,20),(20,21),(21,22),(22,14)],[],[],rfl,?_,?_,?_⟩ <;> simp -implicitDefEqProofs (disch:=omega) only [go_sem,↓reduceIte]
theorem wpublish_ok (key ep : Int) (tr lg : List Int) (ix : Int) (R : List Int) (ps : List Part) (m : Nat) (hm : ps.length = m) (hsl : sg.length ≤ 10000) (ht : tr.length = 32) (hl : lg.length = 32)
    (hk : FnC Tryz.prog 29 [.ref 5 []] (dirOW na ma a n b y 6 7 8 9 10 11 12) (.tup [.agg [.int .i64 key,.int .i64 ep,.ints .u8 32 tr,.ints .u8 32 lg],.agg [.int .i64 ix,.ints .u8 32 R,.osl 20 [] 2 0 m],.int .i64 0]) (dirOW na ma a n b y' 13 14 15 16 17 18 19 ++ [(20,.row (.lst 2 m (ps.map pt)))])) :
    FnC Tryz.prog 58 [.ref 6 [],actP] (wO na ma a n b y sg 7 8 9 10 11 12 13 14) (.int .i64 0) (wO na ma a n b y' (sg ++ [⟨key,headT key ep tr lg,ix,R,ps⟩]) 15 16 17 18 19 20 21 22):=by
  have k8:=headText_spec key ep tr lg
  have hT : (headT key ep tr lg).length = 81:=by unfold headT nums dcat; simp [be_len,ht,hl]
  have eR : (sg ++ [(⟨key,headT key ep tr lg,ix,R,ps⟩ : Sn)]).map snV = sg.map snV ++ [.agg [.int .i64 key,.sl (.ints .u8 81 (headT key ep tr lg)),.agg [.int .i64 ix,.ints .u8 32 R,.sl (.lst 2 m (ps.map pt))]]]:=by
    rw [List.map_append,List.map_cons,List.map_nil,snV]
    dsimp only
    rw [hT,hm]
  have eL : (sg ++ [(⟨key,headT key ep tr lg,ix,R,ps⟩ : Sn)]).length = sg.length + 1:=by rw [List.length_append]; rfl
  generalize headT key ep tr lg = T at *
  refine fnV mix plWp 7 15 2 [.tmp 4] Tryz.func58 rfl (by kernel_rfl) (by kernel_rfl) rfl (by kernel_rfl) (by kernel_rfl) (by simp) rfl rfl ?_
  simp -implicitDefEqProofs (disch:=omega) only [go_sem,↓reduceIte]
  refine callG false [(0,0),(1,1),(2,2),(3,3),(4,4),(5,5),(6,7),(7,8),(8,9),(9,10),(10,11),(11,12),(12,13)] [(0,0),(1,1),(2,2),(3,3),(4,4),(5,5),(13,16),(14,17),(15,18),(16,19),(17,20),(18,21),(19,22),(20,23)] 24 hk ?_ ?_
  · simp [keys]
  simp -implicitDefEqProofs (disch:=omega) only [go_sem,↓reduceIte]
  refine callF 1 k8 ?_
  simp -implicitDefEqProofs (disch:=omega) only [go_sem,↓reduceIte]
  refine ⟨[(0,0),(1,1),(2,2),(3,3),(4,4),(5,5),(6,6),(15,16),(16,17),(17,18),(18,19),(19,20),(20,21),(21,22),(22,28)],[],[],rfl,?_,?_,?_⟩ <;> simp -implicitDefEqProofs (disch:=omega) only [go_sem,↓reduceIte,eR,eL]
theorem do_p1 : putM [] [] (MK.int 1) (.fn (.func 57) []) = ([MK.int 1],[.fn (.func 57) []]):=rfl
theorem do_p2 : putM [MK.int 1] [.fn (.func 57) []] (MK.int 2) (.fn (.func 58) []) = ([MK.int 1,MK.int 2],[.fn (.func 57) [],.fn (.func 58) []]):=rfl
theorem do_p3 : putM [MK.int 1,MK.int 2] [.fn (.func 57) [],.fn (.func 58) []] (MK.int 3) (.fn (.func 59) []) = ([MK.int 1,MK.int 2,MK.int 3],[.fn (.func 57) [],.fn (.func 58) [],.fn (.func 59) []]):=rfl
theorem do_p4 : putM [MK.int 1,MK.int 2,MK.int 3] [.fn (.func 57) [],.fn (.func 58) [],.fn (.func 59) []] (MK.int 4) (.fn (.func 60) []) = ([MK.int 1,MK.int 2,MK.int 3,MK.int 4],[.fn (.func 57) [],.fn (.func 58) [],.fn (.func 59) [],.fn (.func 60) []]):=rfl
theorem do_p5 : putM [MK.int 1,MK.int 2,MK.int 3,MK.int 4] [.fn (.func 57) [],.fn (.func 58) [],.fn (.func 59) [],.fn (.func 60) []] (MK.int 5) (.fn (.func 61) []) = ([MK.int 1,MK.int 2,MK.int 3,MK.int 4,MK.int 5],[.fn (.func 57) [],.fn (.func 58) [],.fn (.func 59) [],.fn (.func 60) [],.fn (.func 61) []]):=rfl
theorem do_p6 : putM [MK.int 1,MK.int 2,MK.int 3,MK.int 4,MK.int 5] [.fn (.func 57) [],.fn (.func 58) [],.fn (.func 59) [],.fn (.func 60) [],.fn (.func 61) []] (MK.int 6) (.fn (.func 62) []) = ([MK.int 1,MK.int 2,MK.int 3,MK.int 4,MK.int 5,MK.int 6],[.fn (.func 57) [],.fn (.func 58) [],.fn (.func 59) [],.fn (.func 60) [],.fn (.func 61) [],.fn (.func 62) []]):=rfl
theorem do_p7 : putM [MK.int 1,MK.int 2,MK.int 3,MK.int 4,MK.int 5,MK.int 6] [.fn (.func 57) [],.fn (.func 58) [],.fn (.func 59) [],.fn (.func 60) [],.fn (.func 61) [],.fn (.func 62) []] (MK.int 7) (.fn (.func 63) []) = ([MK.int 1,MK.int 2,MK.int 3,MK.int 4,MK.int 5,MK.int 6,MK.int 7],[.fn (.func 57) [],.fn (.func 58) [],.fn (.func 59) [],.fn (.func 60) [],.fn (.func 61) [],.fn (.func 62) [],.fn (.func 63) []]):=rfl
theorem do_g1 (z : AV) (K : AV → Bool → Prop) : fndC (getM [MK.int 1,MK.int 2,MK.int 3,MK.int 4,MK.int 5,MK.int 6,MK.int 7] [.fn (.func 57) [],.fn (.func 58) [],.fn (.func 59) [],.fn (.func 60) [],.fn (.func 61) [],.fn (.func 62) [],.fn (.func 63) []] (MK.int 1)) z K = K (.fn (.func 57) []) true:=rfl
theorem do_g2 (z : AV) (K : AV → Bool → Prop) : fndC (getM [MK.int 1,MK.int 2,MK.int 3,MK.int 4,MK.int 5,MK.int 6,MK.int 7] [.fn (.func 57) [],.fn (.func 58) [],.fn (.func 59) [],.fn (.func 60) [],.fn (.func 61) [],.fn (.func 62) [],.fn (.func 63) []] (MK.int 2)) z K = K (.fn (.func 58) []) true:=rfl
theorem wdo_change (name : List Int) (m : Nat) (k e : Int) (hk : FnC Tryz.prog 57 [.ref 6 [],.agg [.int .i64 1,.int .i64 k,.sl (.ints .u8 m name),.nils,.nils]] (wO na ma a n b y sg 7 8 9 10 11 12 13 14) (.int .i64 e) (wO na ma a n b y' sg 15 16 17 18 19 20 21 22)) :
    FnC Tryz.prog 17 [.ref 6 [],.agg [.int .i64 1,.int .i64 k,.sl (.ints .u8 m name),.nils,.nils]] (wO na ma a n b y sg 7 8 9 10 11 12 13 14) (.int .i64 e) (wO na ma a n b y' sg 15 16 17 18 19 20 21 22):=by
  refine fnV mix [] 7 15 2 [.tmp 4] Tryz.func17 rfl (by kernel_rfl) (by kernel_rfl) rfl (by kernel_rfl) (by kernel_rfl) (by simp) rfl rfl ?_
  simp -implicitDefEqProofs (disch:=omega) only [go_sem,↓reduceIte,↓do_p1,↓do_p2,↓do_p3,↓do_p4,↓do_p5,↓do_p6,↓do_p7,↓do_g1,↓do_g2]
  refine callG false [(0,0),(1,1),(2,2),(3,3),(4,4),(5,5),(6,6),(7,7),(8,8),(9,9),(10,10),(11,11),(12,12),(13,13),(14,14)] [(0,0),(1,1),(2,2),(3,3),(4,4),(5,5),(6,6),(15,17),(16,18),(17,19),(18,20),(19,21),(20,22),(21,23),(22,24)] 25 hk ?_ ?_
  · simp [keys]
  simp -implicitDefEqProofs (disch:=omega) only [go_sem,↓reduceIte]
  refine ⟨[(0,0),(1,1),(2,2),(3,3),(4,4),(5,5),(6,6),(15,17),(16,18),(17,19),(18,20),(19,21),(20,22),(21,23),(22,24)],[],[],rfl,?_,?_,?_⟩ <;> simp -implicitDefEqProofs (disch:=omega) only [go_sem,↓reduceIte]
theorem wdo_publish (sg' : List Sn) (e : Int) (hk : FnC Tryz.prog 58 [.ref 6 [],actP] (wO na ma a n b y sg 7 8 9 10 11 12 13 14) (.int .i64 e) (wO na ma a n b y' sg' 15 16 17 18 19 20 21 22)) :
    FnC Tryz.prog 17 [.ref 6 [],actP] (wO na ma a n b y sg 7 8 9 10 11 12 13 14) (.int .i64 e) (wO na ma a n b y' sg' 15 16 17 18 19 20 21 22):=by
  refine fnV mix [] 7 15 2 [.tmp 4] Tryz.func17 rfl (by kernel_rfl) (by kernel_rfl) rfl (by kernel_rfl) (by kernel_rfl) (by simp) rfl rfl ?_
  simp -implicitDefEqProofs (disch:=omega) only [go_sem,↓reduceIte,↓do_p1,↓do_p2,↓do_p3,↓do_p4,↓do_p5,↓do_p6,↓do_p7,↓do_g1,↓do_g2]
  refine callG false [(0,0),(1,1),(2,2),(3,3),(4,4),(5,5),(6,6),(7,7),(8,8),(9,9),(10,10),(11,11),(12,12),(13,13),(14,14)] [(0,0),(1,1),(2,2),(3,3),(4,4),(5,5),(6,6),(15,17),(16,18),(17,19),(18,20),(19,21),(20,22),(21,23),(22,24)] 25 hk ?_ ?_
  · simp [keys]
  simp -implicitDefEqProofs (disch:=omega) only [go_sem,↓reduceIte]
  refine ⟨[(0,0),(1,1),(2,2),(3,3),(4,4),(5,5),(6,6),(15,17),(16,18),(17,19),(18,20),(19,21),(20,22),(21,23),(22,24)],[],[],rfl,?_,?_,?_⟩ <;> simp -implicitDefEqProofs (disch:=omega) only [go_sem,↓reduceIte]
end
end Go.Proofs.YtololahjocfbeaaGreat
