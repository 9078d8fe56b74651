/- Texts,joined. -/
import Derived.Test.YtololahjocfbeaaGreatD39
import Derived.Test.YtololahjocfbeaaGreatD13
import Derived.Test.YtololahjocfbeaaGreatD30
import Derived.Test.YtololahjocfbeaaGreatD33
import Derived.Test.YtololahjocfbeaaGreatD40
import Derived.Test.YtololahjocfbeaaGreatD41
namespace Go.Proofs.YtololahjocfbeaaGreat
open Go Go.Sy Go.Proofs.Tryz
set_option maxRecDepth 100000
set_option maxHeartbeats 8000000
set_option linter.unusedSimpArgs false
set_option linter.unusedVariables false
section
variable (na ma : List Int) (a n : Nat) (b : Int) (y : Dy) (hm : goodD ma) (ha : 1 ≤ a ∧ a ≤ 4) (hn : 1 ≤ n ∧ n ≤ 4)
include hm ha hn in
theorem sign_slW (k : Int) (idx : Nat) (hi : idx < manyD a n) (text : List Int) (tl : Nat) (htl : text.length = tl) (htx : ∀ x ∈ text,0 ≤ x ∧ x < 256) (hc : tl ≤ 100000) :
    FnC Tryz.prog 82 [.ref 5 [],.int .i64 k,.int .i64 idx,.sl (.ints .u8 tl text)] (dirOW na ma a n b y 6 7 8 9 10 11 12)
      (.agg [.int .i64 idx,.ints .u8 32 (sgR ma k idx),.osl 21 [] 2 0 a]) (dirOW na ma a n b y 14 15 16 17 18 19 20 ++ [(21,.row (.lst 2 a ((sgP a n ma k idx text).map pt)))]):=by
  have hr : rightP a n:=by unfold rightP; omega
  have k1:=public_pp na (bookP na y) rfl [.pp (dskP y.D) [],.pp (sgPP y (manyD a n) b) [],.pp (slPA 2 y.D y.S2) [],.int .i64 y.size,wtP y.ps,.bool y.gone] a n b ma hm hr k
  have k2:=secret_spec ma hm k
  have k3:=sign_own_spec (secK ma k 1) (secK ma k 2) (secK ma k 3) (keyR (secK ma k 1) (secK ma k 3) a n) (secK ma k 3) (secK_good _ _ _) (secK_good _ _ _) (secK_good _ _ _) (keyR_good _ _ _ _) a n idx text tl htl ha hn hi htx hc
  rw [show rD (secK ma k 2) idx = sgR ma k idx from rfl] at k3
  rw [show partsK (secK ma k 1) (secK ma k 3) (msgD (sgR ma k idx) (keyR (secK ma k 1) (secK ma k 3) a n) idx text) n idx a = sgP a n ma k idx text from rfl] at k3
  unfold secV at k2
  generalize sgP a n ma k idx text = Z at *
  generalize sgR ma k idx = R at *
  generalize keyR (secK ma k 1) (secK ma k 3) a n = X at *
  generalize secK ma k 1 = s1 at *
  generalize secK ma k 2 = s2 at *
  generalize secK ma k 3 = s3 at *
  refine fnV mix plSG 6 13 4 [.cell 8 41] Tryz.func82 rfl (by kernel_rfl) (by kernel_rfl) rfl (by kernel_rfl) (by kernel_rfl) (by simp) rfl rfl ?_
  simp -implicitDefEqProofs (disch:=omega) only [go_sem,↓reduceIte]
  refine callB k1 ?_ ?_
  · simp -implicitDefEqProofs (disch:=omega) only [go_sem,↓reduceIte]
  simp -implicitDefEqProofs (disch:=omega) only [go_sem,↓reduceIte]
  refine call0 k2 ?_
  simp -implicitDefEqProofs (disch:=omega) only [go_sem,↓reduceIte]
  refine callG false [(0,14)] [(0,15)] 16 k3 ?_ ?_
  · simp [keys]
  simp -implicitDefEqProofs (disch:=omega) only [go_sem,↓reduceIte]
  refine ⟨[(0,0),(1,1),(2,2),(3,3),(4,4),(5,5),(14,6),(15,7),(16,8),(17,9),(18,10),(19,11),(20,12),(21,15)],[],[],rfl,?_,?_,?_⟩ <;> simp -implicitDefEqProofs (disch:=omega) only [go_sem,↓reduceIte]
include hm ha hn in
theorem sign_ownW (k : Int) (idx : Nat) (hi : idx < manyD a n) (text : List Int) (tl : Nat) (htl : text.length = tl) (htx : ∀ x ∈ text,0 ≤ x ∧ x < 256) (hc : tl ≤ 100000) :
    FnC Tryz.prog 82 [.ref 5 [],.int .i64 k,.int .i64 idx,.osl 13 [] 1 0 tl] ((13,.row (.ints .u8 tl text)) :: dirOW na ma a n b y 6 7 8 9 10 11 12)
      (.agg [.int .i64 idx,.ints .u8 32 (sgR ma k idx),.osl 21 [] 2 0 a]) (dirOW na ma a n b y 14 15 16 17 18 19 20 ++ [(21,.row (.lst 2 a ((sgP a n ma k idx text).map pt)))]):=by
  refine (sign_slW na ma a n b y hm ha hn k idx hi text tl htl htx hc).sub [(0,0),(1,1),(2,2),(3,3),(4,4),(5,5),(6,6),(7,7),(8,8),(9,9),(10,10),(11,11),(12,12)] [] [13] rfl ?_ ?_
  · simp -implicitDefEqProofs (disch:=omega) only [go_sem,↓reduceIte]
  · simp -implicitDefEqProofs (disch:=omega) only [go_sem,↓reduceIte]
abbrev dirON (na ma : List Int) (a n b : Int) (y : Dy) (i j e t p q : Nat) : OO :=
  [(0,.var (dskV i j y.D)),(1,.var (fcV y.F)),(2,.var (slV y.S)),(3,.var (sgV 2 1 y.x (manyD a n) b y.next y.sg)),(4,.var (slVA 2 y.S2)),(5,.var (dirV na ma a n b y e t p q .nils)),
    (i,.row (.ints .u8 y.D.b.length y.D.b)),(j,.row (.lst 2 y.D.wait.length (y.D.wait.map wtV))),(e,.row (.lst 35 y.es.length (y.es.map epV))),(t,.row (.lst 64 y.l.length (y.l.map enV))),(p,lastO y.la),(q,valsO y.va)]
attribute [go_sem] dirON
attribute [simp] dirON
include hm ha hn in
theorem sign_nil (hps : y.ps = []) (k : Int) (idx : Nat) (hi : idx < manyD a n) (text : List Int) (tl : Nat) (htl : text.length = tl) (htx : ∀ x ∈ text,0 ≤ x ∧ x < 256) (hc : tl ≤ 100000) :
    FnC Tryz.prog 82 [.ref 5 [],.int .i64 k,.int .i64 idx,.osl 12 [] 1 0 tl] ((12,.row (.ints .u8 tl text)) :: dirON na ma a n b y 6 7 8 9 10 11)
      (.agg [.int .i64 idx,.ints .u8 32 (sgR ma k idx),.osl 21 [] 2 0 a]) (dirOW na ma a n b y 14 15 16 17 18 19 20 ++ [(21,.row (.lst 2 a ((sgP a n ma k idx text).map pt)))]):=by
  refine (sign_ownW na ma a n b y hm ha hn k idx hi text tl htl htx hc).sub [(13,12),(0,0),(1,1),(2,2),(3,3),(4,4),(5,5),(6,6),(7,7),(8,8),(9,9),(10,10),(11,11)] [12] [] rfl ?_ ?_
  · simp -implicitDefEqProofs (disch:=omega) only [go_sem,↓reduceIte]
  · simp -implicitDefEqProofs (disch:=omega) only [go_sem,↓reduceIte,hps,List.map_nil,List.length_nil]
end
theorem toU_inj {x y : List Int} (hx : ∀ z ∈ x,0 ≤ z ∧ z < 256) (hy : ∀ z ∈ y,0 ≤ z ∧ z < 256) (h : x ≠ y) : (x.map fun z => UInt8.ofNat z.toNat) ≠ y.map fun z => UInt8.ofNat z.toNat:=by
  intro e
  apply h
  have k : ∀ {l : List Int},(∀ z ∈ l,0 ≤ z ∧ z < 256) → (l.map fun z => UInt8.ofNat z.toNat).map (fun u => (u.toNat : Int)) = l:=fun {l} hl => by
    rw [List.map_map]
    conv => rhs; rw [← List.map_id l]
    refine List.map_congr_left fun z hz => ?_
    have:=hl z hz
    show ((UInt8.ofNat z.toNat).toNat : Int) = z
    rw [UInt8.toNat_ofNat']
    omega
  rw [← k hx,← k hy,e]
theorem unlike_ok (x y : List Int) (n m : Nat) (hn : x.length = n) (hm : y.length = m) (hnl : n ≤ 100000) (hml : m ≤ 100000) (hx : ∀ z ∈ x,0 ≤ z ∧ z < 256) (hy : ∀ z ∈ y,0 ≤ z ∧ z < 256) (h : x ≠ y) (hs : sumD x = sumD y) :
    FnC Tryz.prog 43 [.sl (.ints .u8 n x),.sl (.ints .u8 m y),.bool true] [] (.bool true) []:=by
  have k1:=refsum_spec x hx (by omega)
  have k2:=refsum_spec y hy (by omega)
  rw [hn] at k1
  rw [hm] at k2
  have d1 : decide ((x.map fun z => UInt8.ofNat z.toNat) = y.map fun z => UInt8.ofNat z.toNat) = false:=decide_eq_false (toU_inj hx hy h)
  have d2 : decide (sumD x = sumD y) = true:=decide_eq_true hs
  generalize sumD x = X at *
  generalize sumD y = Y at *
  refine fn0 mix [] 0 3 [.tmp 6] Tryz.func43 rfl (by kernel_rfl) (by kernel_rfl) rfl (by kernel_rfl) (by kernel_rfl) (by simp) ?_
  simp -implicitDefEqProofs (disch:=omega) only [go_sem,↓reduceIte,d1]
  refine call0 k1 ?_
  simp -implicitDefEqProofs (disch:=omega) only [go_sem,↓reduceIte]
  refine call0 k2 ?_
  simp -implicitDefEqProofs (disch:=omega) only [go_sem,↓reduceIte,d2]
end Go.Proofs.YtololahjocfbeaaGreat
