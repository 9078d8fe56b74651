/- Texts,joined. -/
import Derived.Test.YtololahjocfbeaaGreatD46
import Derived.Test.YtololahjocfbeaaGreatD43
namespace Go.Proofs.YtololahjocfbeaaGreat
open Go Go.Sy Go.Proofs.Tryz
set_option maxRecDepth 100000
set_option maxHeartbeats 8000000
set_option linter.unusedSimpArgs false
set_option linter.unusedVariables false
theorem deal_own {f : FuncId} {r : AV} {O' : OO} {n : Nat} {m : List Int} {D : DS} {S : SS} {F : Int × Int × Int} {x : ST} {total batch next : Int} (h : FnC Tryz.prog f [.ref 3 [],.sl (.ints .u8 n m)] (sgO 4 5 D S F x total batch next false) r O') :
    FnC Tryz.prog f [.ref 3 [],.osl 8 [] 1 0 n] ((8,.row (.ints .u8 n m)) :: sgO 4 5 D S F x total batch next false) r O':=by
  refine h.sub [(0,0),(1,1),(2,2),(3,3),(4,4),(5,5)] [] [8] rfl ?_ ?_
  · simp -implicitDefEqProofs (disch:=omega) only [go_sem,↓reduceIte]
  · simp -implicitDefEqProofs (disch:=omega) only [go_sem,↓reduceIte]
def plPb : List (Nat × Plan):=[(3,[(0,[],none),(1,[],none),(2,[],none),(3,[],none),(4,[],none),(5,[0,1,2,3,4],none),(6,[0,1,2,3,4],none),(7,[0,1,2,3,4],none),(8,[0,1,2,3,4],none),(9,[],none),(10,[0,1,2,3,4,5,6,7,8,9],none),(11,[],some [5])]),(4,[(0,[],none),(1,[],none),(2,[],none),(3,[],none),(4,[],none),(5,[],none),(6,[],none),(7,[],none),(8,[],none),(9,[],none),(10,[],none),(11,[8,9,10],none),(12,[10],none),(13,[10],none),(14,[8,9,10,11,12,13],none),(15,[8,9,10,11,12,13],none),(16,[8,9,10,11,12,13],none),(17,[8,9,10,11,12,13],none),(18,[10],none),(19,[],none),(20,[],none)]),(6,[(0,[],none),(1,[],none),(2,[],none),(3,[0,1,2],none),(4,[0,1,2],none),(5,[0,1,2],none),(6,[0,1,2],none),(7,[],none),(8,[],none),(9,[],none),(10,[],none),(12,[],none),(13,[],some [62]),(11,[10,12,13],none)]),(7,[(0,[],none),(1,[0],none),(2,[0],none),(3,[0,1,2],none),(4,[0,1,2],none),(5,[0,1,2],none),(6,[0,1,2],none),(7,[0,1,2],none),(8,[0,1,2],none),(9,[0,1,2],none),(10,[0,1,2,3,4,5,6,7,8,9],none),(11,[0,1,2,3,4,5,6,7,8,9],none),(12,[],none),(13,[0,1,2,3,4,5,6,7,8,9,10,11,12],none),(14,[],some [6])]),(8,[(0,[],none),(1,[],none),(2,[],none),(3,[],none),(4,[0,1,2,3],none),(5,[0,1,2,3],none),(6,[],some [80,82]),(7,[],none),(8,[],none),(9,[8],none),(10,[8,9],none),(11,[9,10],none),(12,[10],none),(13,[],none)]),(19,[(0,[],none),(1,[],none),(2,[],none),(3,[0,1,2],none),(4,[],some [124,125])]),(21,[(1,[],none),(2,[1],none),(3,[1],none),(4,[1,2,3],none),(5,[1,2,3],none),(6,[1,2,3,4,5],none),(7,[1,2,3,4,5],none),(8,[],some [131,133,135,137]),(0,[1,2,3,4,5,6,7,8],none),(9,[],some [2]),(10,[],some [3]),(11,[],none)])]
attribute [go_sem] plPb
section
variable (na ma : List Int) (hna : goodD na) (a n : Nat) (b : Int) (y : Dy)
include hna in
theorem publish_not (hgo : y.gone = false) (hsg : y.sg = false) (ho : okD y.D) (h4 : 4 * y.D.sz ≤ y.D.b.length) (hes : y.es.length < 200) (het : ∀ e ∈ y.es,goodD e.tree) (hps : ∀ p ∈ y.ps,smallPt p) (hpl : y.ps.length ≤ 16)
    (hfit : (recF y.x.key 0 y.ps).length + y.size ≤ y.D.b.length - 4 * y.D.sz) (hl : y.l.length + y.ps.length ≤ 256)
    (hg : ∀ e ∈ y.l ++ y.ps.map (entF na),goodE e) (hd : ((y.l ++ y.ps.map (entF na)).map (·.1)).Nodup) (X : List Int) (hX : nodeP 256 (srtE (y.l ++ y.ps.map (entF na)) hg) = X) (hXg : goodD X)
    (r : Int) (hr : r ≠ 0) (hr9 : r ≠ 9) (r1 r2 : Int) (D' : DS) (S' : SS) (F' : Int × Int × Int) (x' : ST) (nx' : Int) (sg' : Bool)
    (hk : FnC Tryz.prog 78 [.ref 3 [],.sl (.ints .u8 81 (headT y.x.key ((y.es.length : Int) + 1) X (hdF y.es y.es.length X)))] (sgO 4 5 y.D y.S y.F y.x (manyD a n) b y.next false) (.tup [.int .i64 r1,.int .i64 r2,.int .i64 r]) (sgO 6 7 D' S' F' x' (manyD a n) b nx' sg')) :
    FnC Tryz.prog 29 [.ref 5 []] (dirOW na ma a n b y 6 7 8 9 10 11 12)
      (.tup [.agg [.int .i64 0,.int .i64 0,.ints .u8 32 zs,.ints .u8 32 zs],.agg [.int .i64 0,.ints .u8 32 zs,.nils],.int .i64 r])
      (dirOW na ma a n b { y with D:=D',S:=S',F:=F',x:=x',next:=nx',sg:=sg' } 13 14 15 16 17 18 19):=by
  have hbl:=ho.bl
  have hsz:=ho.sz2
  have k1:=stopped_pp na ma a n b y
  rw [hgo] at k1
  have k2:=skey_pp y (manyD a n) b
  have k3:=record_spec y.x.key 0 y.ps y.ps.length rfl hpl hps (List.replicate 32 0)
  have k4:=area_pp na ma a n b (bookP na y) rfl [.pp (sgPP y (manyD a n) b) [],.pp (slPA 2 y.D y.S2) [],.int .i64 y.size,wtP y.ps,.bool y.gone] y.D ho h4
  have k5:=bwith_dir na ma hna a n b y y.ps (fun p h => (hps p h).g) (by omega) (by omega)
  have k6:=root_ok (y.l ++ y.ps.map (entF na)) (y.l.length + y.ps.length) (by rw [List.length_append,List.length_map]) hl hg hd
  rw [hX] at k6
  have k7:=head_spec na y.es y.es.length rfl (.sl (.lst 64 y.l.length (y.l.map enV))) (restP na ma a n b y) y.x.key y.es.length (Nat.le_refl _) hes (by omega) het X hXg
  have k8:=headText_spec y.x.key ((y.es.length : Int) + 1) X (hdF y.es y.es.length X)
  have k9:=deal_own hk
  have d1 : decide (r = 9) = false:=decide_eq_false hr9
  have d2 : decide (r = 0) = false:=decide_eq_false hr
  generalize headT y.x.key ((y.es.length : Int) + 1) X (hdF y.es y.es.length X) = T at *
  generalize hdF y.es y.es.length X = R at *
  obtain ⟨w,hw⟩ : ∃ w,(recF y.x.key 0 y.ps).length = w:=⟨_,rfl⟩
  rw [hw] at k3 hfit
  generalize recF y.x.key 0 y.ps = RR at *
  obtain ⟨D,F,S,x,nxt,sg,S2,es,l,size,pw,gone,la,va⟩:=y
  dsimp only at *
  subst hsg
  have d0 : decide ((200 : Int) ≤ (es.length : Int)) = false:=decide_eq_false (by omega)
  dsimp only [dirOW,dirOg] at *
  refine fnV mix plPb 6 13 1 [.cell 2 72,.cell 3 41,.tmp 4] Tryz.func29 rfl (by kernel_rfl) (by kernel_rfl) rfl (by kernel_rfl) (by kernel_rfl) (by simp) rfl rfl ?_
  simp -implicitDefEqProofs (disch:=omega) only [go_sem,↓reduceIte]
  refine callB k1 ?_ ?_
  · simp -implicitDefEqProofs (disch:=omega) only [go_sem,↓reduceIte]
  simp -implicitDefEqProofs (disch:=omega) only [go_sem,↓reduceIte]
  refine callB k2 ?_ ?_
  · simp -implicitDefEqProofs (disch:=omega) only [go_sem,↓reduceIte]
  simp -implicitDefEqProofs (disch:=omega) only [go_sem,↓reduceIte,d0]
  refine callBF 1 k3 ?_ ?_
  · simp -implicitDefEqProofs (disch:=omega) only [go_sem,↓reduceIte]
  simp -implicitDefEqProofs (disch:=omega) only [go_sem,↓reduceIte]
  refine callBF 1 k4 ?_ ?_
  · simp -implicitDefEqProofs (disch:=omega) only [go_sem,↓reduceIte]
  simp -implicitDefEqProofs (disch:=omega) only [go_sem,↓reduceIte]
  refine brd (fun h => by omega) (fun h => ?_)
  simp -implicitDefEqProofs (disch:=omega) only [go_sem,↓reduceIte]
  refine callBF 1 k5 ?_ ?_ rfl rfl (pf_rowE _ _)
  · simp -implicitDefEqProofs (disch:=omega) only [go_sem,↓reduceIte]
  simp -implicitDefEqProofs (disch:=omega) only [go_sem,↓reduceIte]
  refine callB k6 ?_ ?_
  · simp -implicitDefEqProofs (disch:=omega) only [go_sem,↓reduceIte]
  simp -implicitDefEqProofs (disch:=omega) only [go_sem,↓reduceIte]
  refine callB k7 ?_ ?_
  · simp -implicitDefEqProofs (disch:=omega) only [go_sem,↓reduceIte]
  simp -implicitDefEqProofs (disch:=omega) only [go_sem,↓reduceIte]
  refine callF 1 k8 ?_
  simp -implicitDefEqProofs (disch:=omega) only [go_sem,↓reduceIte]
  refine callG false [(8,20),(0,0),(1,2),(2,1),(3,3),(4,6),(5,7)] [(0,0),(1,2),(2,1),(3,3),(6,21),(7,22)] 23 k9 ?_ ?_
  · simp [keys]
  simp -implicitDefEqProofs (disch:=omega) only [go_sem,↓reduceIte,d1,d2]
  refine ⟨[(0,0),(1,1),(2,2),(3,3),(4,4),(5,5),(13,21),(14,22),(15,8),(16,9),(17,10),(18,11),(19,12)],[],[],rfl,?_,?_,?_⟩ <;> simp -implicitDefEqProofs (disch:=omega) only [go_sem,↓reduceIte,zs]
def plPc : List (Nat × Plan):=(100015,[]) :: [(3,[(0,[],none),(1,[],none),(2,[],none),(3,[],none),(4,[],none),(5,[0,1,2,3,4],none),(6,[0,1,2,3,4],none),(7,[0,1,2,3,4],none),(8,[0,1,2,3,4],none),(9,[],none),(10,[0,1,2,3,4,5,6,7,8,9],none),(11,[],some [5])]),(4,[(0,[],none),(1,[],none),(2,[],none),(3,[],none),(4,[],none),(5,[],none),(6,[],none),(7,[],none),(8,[],none),(9,[],none),(10,[],none),(11,[8,9,10],none),(12,[10],none),(13,[10],none),(14,[8,9,10,11,12,13],none),(15,[8,9,10,11,12,13],none),(16,[8,9,10,11,12,13],none),(17,[8,9,10,11,12,13],none),(18,[10],none),(19,[],none),(20,[],none)]),(6,[(0,[],none),(1,[],none),(2,[],none),(3,[0,1,2],none),(4,[0,1,2],none),(5,[0,1,2],none),(6,[0,1,2],none),(7,[],none),(8,[],none),(9,[],none),(10,[],none),(12,[],none),(13,[],some [62]),(11,[10,12,13],none)]),(7,[(0,[],none),(1,[0],none),(2,[0],none),(3,[0,1,2],none),(4,[0,1,2],none),(5,[0,1,2],none),(6,[0,1,2],none),(7,[0,1,2],none),(8,[0,1,2],none),(9,[0,1,2],none),(10,[0,1,2,3,4,5,6,7,8,9],none),(11,[0,1,2,3,4,5,6,7,8,9],none),(12,[],none),(13,[0,1,2,3,4,5,6,7,8,9,10,11,12],none),(14,[],some [6])]),(8,[(0,[],none),(1,[],none),(2,[],none),(3,[],none),(4,[0,1,2,3],none),(5,[0,1,2,3],none),(6,[],some [80,82]),(7,[],none),(8,[],none),(9,[8],none),(10,[8,9],none),(11,[9,10],none),(12,[10],none),(13,[],none)]),(19,[(0,[],none),(1,[],none),(2,[],none),(3,[0,1,2],none),(4,[],some [124,125])]),(21,[(1,[],none),(2,[1],none),(3,[1],none),(4,[1,2,3],none),(5,[1,2,3],none),(6,[1,2,3,4,5],none),(7,[1,2,3,4,5],none),(8,[],some [131,133,135,137]),(0,[1,2,3,4,5,6,7,8],none),(9,[],some [2]),(10,[],some [3]),(11,[],none)])]
attribute [go_sem] plPc
variable (hm : goodD ma) (ha : 1 ≤ a ∧ a ≤ 4) (hn : 1 ≤ n ∧ n ≤ 4)
include hna hm ha hn in
theorem publish_ok (hgo : y.gone = false) (hsg : y.sg = false) (ho : okD y.D) (h4 : 4 * y.D.sz ≤ y.D.b.length) (hes : y.es.length < 200) (het : ∀ e ∈ y.es,goodD e.tree) (hps : ∀ p ∈ y.ps,smallPt p) (hpl : y.ps.length ≤ 16)
    (hfit : (recF y.x.key 0 y.ps).length + y.size ≤ y.D.b.length - 4 * y.D.sz) (hl : y.l.length + y.ps.length ≤ 256)
    (hg : ∀ e ∈ y.l ++ y.ps.map (entF na),goodE e) (hd : ((y.l ++ y.ps.map (entF na)).map (·.1)).Nodup) (X : List Int) (hX : nodeP 256 (srtE (y.l ++ y.ps.map (entF na)) hg) = X) (hXg : goodD X)
    (hn1 : ∀ p ∈ y.ps,p.name ∉ y.la.map (·.name)) (hn2 : ∀ p ∈ y.ps,p.name ∉ y.va.map (·.1)) (hn3 : (y.ps.map (·.name)).Nodup)
    (r1 : Int) (ix : Nat) (hix : ix < manyD a n) (D' : DS) (S' : SS) (F' : Int × Int × Int) (x' : ST) (nx' : Int) (hx' : x'.key = y.x.key)
    (hk : FnC Tryz.prog 78 [.ref 3 [],.sl (.ints .u8 81 (headT y.x.key ((y.es.length : Int) + 1) X (hdF y.es y.es.length X)))] (sgO 4 5 y.D y.S y.F y.x (manyD a n) b y.next false) (.tup [.int .i64 r1,.int .i64 ix,.int .i64 0]) (sgO 6 7 D' S' F' x' (manyD a n) b nx' false))
    (w : Nat) (hw : (recF y.x.key ix y.ps).length = w) (hwl : y.size + w ≤ 100000) (D3 : DS) (S3 : SS)
    (hW : FnC Tryz.prog 80 [.ref 5 [],.sl (.ints .u8 w (recF y.x.key ix y.ps))] (dirOS na ma a n b { y with D:=D',S:=S',F:=F',x:=x',next:=nx',sg:=false } 6 7 8 9 10 11)
      (.int .i64 0) (dirOS na ma a n b { y with D:=D3,S:=S',F:=F',x:=x',next:=nx',sg:=false,S2:=S3 } 12 13 14 15 16 17)) :
    FnC Tryz.prog 29 [.ref 5 []] (dirOW na ma a n b y 6 7 8 9 10 11 12)
      (.tup [.agg [.int .i64 y.x.key,.int .i64 ((y.es.length : Int) + 1),.ints .u8 32 X,.ints .u8 32 (hdF y.es y.es.length X)],.agg [.int .i64 ix,.ints .u8 32 (sgR ma y.x.key ix),.osl 20 [] 2 0 a],.int .i64 0])
      (dirOW na ma a n b ⟨D3,F',S',x',nx',false,S3,y.es ++ [⟨y.x.key,ix,y.ps,X⟩],y.l ++ y.ps.map (entF na),y.size + w,[],false,y.la ++ y.ps,y.va ++ y.ps.map oneV⟩ 13 14 15 16 17 18 19
        ++ [(20,.row (.lst 2 a ((sgP a n ma y.x.key ix (headT y.x.key ((y.es.length : Int) + 1) X (hdF y.es y.es.length X))).map pt)))]):=by
  have hbl:=ho.bl
  have hsz:=ho.sz2
  have k1:=stopped_pp na ma a n b y
  rw [hgo] at k1
  have k2:=skey_pp y (manyD a n) b
  have k3:=record_spec y.x.key 0 y.ps y.ps.length rfl hpl hps (List.replicate 32 0)
  have k4:=area_pp na ma a n b (bookP na y) rfl [.pp (sgPP y (manyD a n) b) [],.pp (slPA 2 y.D y.S2) [],.int .i64 y.size,wtP y.ps,.bool y.gone] y.D ho h4
  have k5:=bwith_dir na ma hna a n b y y.ps (fun p h => (hps p h).g) (by omega) (by omega)
  have k6:=root_ok (y.l ++ y.ps.map (entF na)) (y.l.length + y.ps.length) (by rw [List.length_append,List.length_map]) hl hg hd
  rw [hX] at k6
  have k7:=head_spec na y.es y.es.length rfl (.sl (.lst 64 y.l.length (y.l.map enV))) (restP na ma a n b y) y.x.key y.es.length (Nat.le_refl _) hes (by omega) het X hXg
  have k8:=headText_spec y.x.key ((y.es.length : Int) + 1) X (hdF y.es y.es.length X)
  have k9:=deal_own hk
  have k3b:=record_spec y.x.key ix y.ps y.ps.length rfl hpl hps X
  rw [hw] at k3b
  have hR:=hdF_good y.es y.es.length X
  have kst:=stop_ok na ma a n b { y with D:=D3,S:=S',F:=F',x:=x',next:=nx',sg:=false,S2:=S3 }
  have ka:=add_new na ma hna a n b { y with D:=D3,S:=S',F:=F',x:=x',next:=nx',sg:=false,S2:=S3,size:=y.size + w } y.x.key ix y.ps y.ps.length rfl X (fun p h => (hps p h).g) hl (by dsimp only; omega) hg hd hn1 hn2 hn3
  rw [hX] at ka
  unfold addY at ka
  dsimp only at ka
  have ks:=sign_nil na ma a n b ⟨D3,F',S',x',nx',false,S3,y.es ++ [⟨y.x.key,ix,y.ps,X⟩],y.l ++ y.ps.map (entF na),y.size + w,[],false,y.la ++ y.ps,y.va ++ y.ps.map oneV⟩ hm ha hn rfl y.x.key ix hix (headT y.x.key ((y.es.length : Int) + 1) X (hdF y.es y.es.length X)) 81 (headT_len' _ _ hXg.1 hR.1) (headT_mem _ _ hXg.2 hR.2) (by decide)
  generalize sgP a n ma y.x.key ix (headT y.x.key ((y.es.length : Int) + 1) X (hdF y.es y.es.length X)) = Z at *
  generalize headT y.x.key ((y.es.length : Int) + 1) X (hdF y.es y.es.length X) = T at *
  generalize hdF y.es y.es.length X = R at *
  generalize sgR ma y.x.key ix = RR at *
  generalize recF y.x.key ix y.ps = B at *
  obtain ⟨w0,hw0⟩ : ∃ w,(recF y.x.key 0 y.ps).length = w:=⟨_,rfl⟩
  rw [hw0] at k3 hfit
  generalize recF y.x.key 0 y.ps = B0 at *
  obtain ⟨D,F,S,x,nxt,sg,S2,es,l,size,pw,gone,la,va⟩:=y
  dsimp only at *
  subst hsg
  subst hgo
  have d0 : decide ((200 : Int) ≤ (es.length : Int)) = false:=decide_eq_false (by omega)
  generalize es ++ [(⟨x.key,ix,pw,X⟩ : Ep)] = es' at *
  generalize l ++ pw.map (entF na) = l' at *
  generalize la ++ pw = la' at *
  generalize va ++ pw.map oneV = va' at *
  dsimp only [dirOW,dirOg,dirOS,dirON,List.cons_append,List.nil_append] at *
  refine fnV mix plPc 6 13 1 [.cell 2 72,.cell 3 41,.tmp 4] Tryz.func29 rfl (by kernel_rfl) (by kernel_rfl) rfl (by kernel_rfl) (by kernel_rfl) (by simp) rfl rfl ?_
  simp -implicitDefEqProofs (disch:=omega) only [go_sem,↓reduceIte]
  refine callB k1 ?_ ?_
  · simp -implicitDefEqProofs (disch:=omega) only [go_sem,↓reduceIte]
  simp -implicitDefEqProofs (disch:=omega) only [go_sem,↓reduceIte]
  refine callB k2 ?_ ?_
  · simp -implicitDefEqProofs (disch:=omega) only [go_sem,↓reduceIte]
  simp -implicitDefEqProofs (disch:=omega) only [go_sem,↓reduceIte,d0]
  refine callBF 1 k3 ?_ ?_
  · simp -implicitDefEqProofs (disch:=omega) only [go_sem,↓reduceIte]
  simp -implicitDefEqProofs (disch:=omega) only [go_sem,↓reduceIte]
  refine callBF 1 k4 ?_ ?_
  · simp -implicitDefEqProofs (disch:=omega) only [go_sem,↓reduceIte]
  simp -implicitDefEqProofs (disch:=omega) only [go_sem,↓reduceIte]
  refine brd (fun h => by omega) (fun h => ?_)
  simp -implicitDefEqProofs (disch:=omega) only [go_sem,↓reduceIte]
  refine callBF 1 k5 ?_ ?_ rfl rfl (pf_rowE _ _)
  · simp -implicitDefEqProofs (disch:=omega) only [go_sem,↓reduceIte]
  simp -implicitDefEqProofs (disch:=omega) only [go_sem,↓reduceIte]
  refine callB k6 ?_ ?_
  · simp -implicitDefEqProofs (disch:=omega) only [go_sem,↓reduceIte]
  simp -implicitDefEqProofs (disch:=omega) only [go_sem,↓reduceIte]
  refine callB k7 ?_ ?_
  · simp -implicitDefEqProofs (disch:=omega) only [go_sem,↓reduceIte]
  simp -implicitDefEqProofs (disch:=omega) only [go_sem,↓reduceIte]
  refine callF 1 k8 ?_
  simp -implicitDefEqProofs (disch:=omega) only [go_sem,↓reduceIte]
  refine callG false [(8,20),(0,0),(1,2),(2,1),(3,3),(4,6),(5,7)] [(0,0),(1,2),(2,1),(3,3),(6,21),(7,22)] 23 k9 ?_ ?_
  · simp [keys]
  simp -implicitDefEqProofs (disch:=omega) only [go_sem,↓reduceIte]
  refine callBF 1 k3b ?_ ?_
  · simp -implicitDefEqProofs (disch:=omega) only [go_sem,↓reduceIte]
  simp -implicitDefEqProofs (disch:=omega) only [go_sem,↓reduceIte]
  refine Sy.cut 16 [(0,.ref 5 []),(2,.ref 12 []),(3,.ref 13 []),(5,.ref 14 []),(6,.ref 15 []),(10,.sl (.ints .u8 w B)),(11,.fb (.func 79) [.ref 5 []])]
    (dirOS na ma a n b ⟨D',F',S',x',nx',false,S2,es,l,size,pw,false,la,va⟩ 6 7 8 9 10 11 ++ [(12,.var (.agg [.int .i64 0,.int .i64 0,.ints .u8 32 (List.replicate 32 0),.ints .u8 32 (List.replicate 32 0)])),(13,.var (.agg [.int .i64 0,.ints .u8 32 (List.replicate 32 0),.nils])),
      (14,.var (.agg [.int .i64 x.key,.int .i64 ix,wtP pw,.ints .u8 32 X])),(15,.var (.agg [.int .i64 x.key,.int .i64 ((es.length : Int) + 1),.ints .u8 32 X,.ints .u8 32 R]))])
    [(0,0),(1,1),(2,2),(3,3),(4,4),(5,5),(6,21),(7,22),(8,8),(9,9),(10,10),(11,11),(12,13),(13,14),(14,15),(15,19)] [] [12,23] rfl ?_ ?_ ?_ ?_
  · simp -implicitDefEqProofs (disch:=omega) only [go_sem,↓reduceIte]
  · simp -implicitDefEqProofs (disch:=omega) only [go_sem,↓reduceIte]
  · simp -implicitDefEqProofs (disch:=omega) only [go_sem,↓reduceIte,List.cons_append,List.nil_append]
  dsimp only [dirOS,List.cons_append,List.nil_append]
  simp -implicitDefEqProofs (disch:=omega) only [go_sem,↓reduceIte]
  refine callG false [(0,0),(1,1),(2,2),(3,3),(4,4),(5,5),(6,6),(7,7),(8,8),(9,9),(10,10),(11,11)] [(0,0),(1,1),(2,2),(3,3),(4,4),(5,5),(12,16),(13,17),(14,18),(15,19),(16,20),(17,21)] 22 hW ?_ ?_
  · simp [keys]
  simp -implicitDefEqProofs (disch:=omega) only [go_sem,↓reduceIte]
  refine callB kst ?_ ?_
  · simp -implicitDefEqProofs (disch:=omega) only [go_sem,↓reduceIte]
  simp -implicitDefEqProofs (disch:=omega) only [go_sem,↓reduceIte]
  refine callG false [(0,0),(1,1),(2,2),(3,3),(4,4),(5,5),(6,16),(7,17),(8,18),(9,19),(10,20),(11,21)] [(0,0),(1,1),(2,2),(3,3),(4,4),(5,5),(12,22),(13,23),(14,24),(15,25),(16,26),(17,27)] 28 ka ?_ ?_
  · simp [keys]
  simp -implicitDefEqProofs (disch:=omega) only [go_sem,↓reduceIte]
  refine callF 1 k8 ?_
  simp -implicitDefEqProofs (disch:=omega) only [go_sem,↓reduceIte]
  refine callG false [(12,28),(0,0),(1,1),(2,2),(3,3),(4,4),(5,5),(6,22),(7,23),(8,24),(9,25),(10,26),(11,27)] [(0,0),(1,1),(2,2),(3,3),(4,4),(5,5),(14,29),(15,30),(16,31),(17,32),(18,33),(19,34),(20,35),(21,36)] 37 ks ?_ ?_
  · simp [keys]
  simp -implicitDefEqProofs (disch:=omega) only [go_sem,↓reduceIte]
  refine ⟨[(0,0),(1,1),(2,2),(3,3),(4,4),(5,5),(13,29),(14,30),(15,31),(16,32),(17,33),(18,34),(19,35),(20,36)],[],[],rfl,?_,?_,?_⟩ <;> simp -implicitDefEqProofs (disch:=omega) only [go_sem,↓reduceIte]
end
end Go.Proofs.YtololahjocfbeaaGreat
