/- Texts,joined. -/
import Derived.Test.YtololahjocfbeaaGreatD44
namespace Go.Proofs.YtololahjocfbeaaGreat
open Go Go.Sy Go.Proofs.Tryz
set_option maxRecDepth 100000
set_option maxHeartbeats 8000000
set_option linter.unusedSimpArgs false
set_option linter.unusedVariables false
def areaF (D : DS) : List Int:=(D.b.drop (4 * D.sz)).take (D.b.length - 4 * D.sz)
def allF (D : DS) (size : Nat) (t : List Int) : List Int:=(areaF D).take size ++ (t ++ (areaF D).drop (size + t.length))
def pick4 {α : Type} (a b c d : α) : Nat → α
  | 0 => a
  | 1 => b
  | 2 => c
  | _ + 3 => d
theorem pick4_0 {α : Type} (a b c d : α) : pick4 a b c d 0 = a:=rfl
theorem pick4_1 {α : Type} (a b c d : α) : pick4 a b c d 1 = b:=rfl
theorem pick4_2 {α : Type} (a b c d : α) : pick4 a b c d 2 = c:=rfl
theorem pick4_3 {α : Type} (a b c d : α) : pick4 a b c d 3 = d:=rfl
def plWr : List (Nat × Plan):=(100006,[]) :: [(9,[(0,[],none),(1,[],none),(2,[],none),(3,[],none),(4,[0,1,2,3],none),(5,[0,1,2,3],none),(6,[0,1,2,3,4,5],none),(7,[0,1,2,3,4,5,6],none),(8,[0,1,2,3,4,5,6,7],none),(9,[0,1,2,3,4,5,6],none),(10,[0,1,2,3,4,5,6,7,8,9],none),(11,[0,1,2,3,4,5,6,7,8,9],none),(12,[0,1,2,3,4,5,6,7,8,9,10,11],none),(13,[0,1,2,3,4,5,6,7,8,9],none),(14,[0,1,2,3,4,5],none),(15,[],some [54,56,65]),(16,[],none)]),(15,[(0,[],none),(1,[],none),(2,[],none),(3,[],none),(4,[0,1,2,3],none),(5,[0,1,2,3],none),(6,[0,1,2,3],none),(7,[0,1,2,3],none),(8,[0,1,2,3,4,5,6,7],none),(9,[0,1,2,3,4,5,6,7],none),(10,[0,1,2,3],none),(11,[0,1,2,3],none),(12,[0,1,2,3],none),(13,[],some [81,90]),(14,[],none)])]
attribute [go_sem] plWr
section
variable (na ma : List Int) (a n b : Int) (y : Dy)
theorem write_one (t : List Int) (L : Nat) (hL : t.length = L) (hL1 : 1 ≤ L) (ho : okD y.D) (h4 : 4 * y.D.sz + y.size + L ≤ y.D.b.length) (c : Nat) (hc1 : y.size / y.D.sz = c) (hc2 : (y.size + L - 1) / y.D.sz = c) (hc3 : (4 + c + 1) * y.D.sz ≤ y.D.b.length)
    (hw0 : y.D.wait.length ≤ 1000) (D1 D2 D3 : DS) (S3 : SS) (hw : writeD y.D ((4 + c : Nat) : Int) (((allF y.D y.size t).drop (c * y.D.sz)).take y.D.sz) = (0,D1)) (ho1 : okD D1) (hs : syncD D1 = (0,D2)) (ho2 : okD D2) (hw2 : D2.wait.length ≤ 1000) (hz2 : D2.sz = y.D.sz) (hz : 26 ≤ y.D.sz)
    (hg : y.S2.gone = false) (hT : y.S2.turn ≤ 4611686018427387000) (hr : replDA 2 D2 y.S2 (be ((y.size + L : Nat) : Int) 8) = (0,D3,S3)) :
    FnC Tryz.prog 80 [.ref 5 [],.sl (.ints .u8 L t)] (dirOS na ma a n b y 6 7 8 9 10 11)
      (.int .i64 0) (dirOS na ma a n b { y with D:=D3,S2:=S3 } 12 13 14 15 16 17):=by
  have k1:=dsize_pp y.D
  have k2:=area_pp na ma a n b (bookP na y) rfl [.pp (sgPP y (manyD a n) b) [],.pp (slPA 2 y.D y.S2) [],.int .i64 y.size,wtP y.ps,.bool y.gone] y.D ho (by omega)
  have k3:=dwrite_spec y.D ho (by omega) ((4 + c : Nat) : Int) (((allF y.D y.size t).drop (c * y.D.sz)).take y.D.sz)
  have k4:=sync_spec D1 ho1
  have k5:=number_spec ((y.size + L : Nat) : Int) 8 8 rfl
  have k6:=replace_ownA 2 D2 ho2 (by omega) y.S2 hg (by decide) hT (be ((y.size + L : Nat) : Int) 8) 8 (be_len _ _) (by omega)
  rw [hs] at k4
  rw [hr] at k6
  have hsz:=ho.sz2
  have hsz1:=ho.sz1
  have hbl:=ho.bl
  have hA : (areaF y.D).length = y.D.b.length - 4 * y.D.sz:=by
    unfold areaF
    rw [List.length_take,List.length_drop]
    omega
  have hall : (allF y.D y.size t).length = y.D.b.length - 4 * y.D.sz:=by
    unfold allF
    simp only [List.length_append,List.length_take,List.length_drop,hA]
    omega
  have hcs : (c + 1) * y.D.sz ≤ y.D.b.length - 4 * y.D.sz:=by
    have : (4 + c + 1) * y.D.sz = 4 * y.D.sz + (c + 1) * y.D.sz:=by rw [Nat.add_assoc,Nat.add_mul]
    omega
  have hX : (((allF y.D y.size t).drop (c * y.D.sz)).take y.D.sz).length = y.D.sz:=by
    rw [List.length_take,List.length_drop,hall]
    rw [Nat.add_mul,Nat.one_mul] at hcs
    omega
  replace k3:=k3 y.D.sz hX (by omega)
  rw [hw] at k3
  dsimp only at k3 k4 k6
  have hcl : c + 1 ≤ (c + 1) * y.D.sz:=Nat.le_mul_of_pos_right _ hsz1
  have hAll : allF y.D y.size t = (areaF y.D).take y.size ++ (t ++ (areaF y.D).drop (y.size + L)):=by unfold allF; rw [hL]
  have hsub : ∀ lo len κ,subC (.ints .u8 y.D.b.length y.D.b) lo len κ = (lo + len ≤ y.D.b.length ∧ κ (.ints .u8 len ((y.D.b.drop lo).take len))):=fun lo len κ => subC_len .u8 _ _ lo len κ rfl
  have hAe : (y.D.b.drop (4 * y.D.sz)).take (y.D.b.length - 4 * y.D.sz) = areaF y.D:=rfl
  obtain ⟨q,hq⟩ : ∃ q,c * y.D.sz = q:=⟨_,rfl⟩
  rw [Nat.add_mul,Nat.one_mul,hq] at hcs hcl
  have hc9 : c ≤ 32768:=by omega
  rw [hq] at k3
  have p1 : (c : Int) * (y.D.sz : Int) = (q : Int):=by rw [← hq,Int.natCast_mul]
  have p2 : ((c : Int) + 1) * (y.D.sz : Int) = (q : Int) + (y.D.sz : Int):=by rw [Int.add_mul,p1,Int.one_mul]
  have hsubA : ∀ lo len κ,subC (.ints .u8 (y.D.b.length - 4 * y.D.sz) (allF y.D y.size t)) lo len κ = (lo + len ≤ y.D.b.length - 4 * y.D.sz ∧ κ (.ints .u8 len (((allF y.D y.size t).drop lo).take len))):=fun lo len κ => subC_len .u8 _ _ lo len κ hall
  rw [show ((4 + c : Nat) : Int) = 4 + (c : Int) by omega] at k3
  rw [Int.natCast_add] at k5 k6
  have q1 : ((y.size : Nat) : Int).tdiv (y.D.sz : Int) = (c : Int):=by rw [← Int.ofNat_tdiv,hc1]
  have q2 : ((y.size : Int) + (L : Int) - 1).tdiv (y.D.sz : Int) = (c : Int):=by
    rw [show (y.size : Int) + (L : Int) - 1 = ((y.size + L - 1 : Nat) : Int) by omega,← Int.ofNat_tdiv,hc2]
  obtain ⟨D,F,S,x,nxt,sg,S2,es,l,size,pw,gone,la,va⟩:=y
  dsimp only at *
  generalize allF D size t = All at *
  generalize areaF D = Ar at *
  refine fnV mix plWr 6 12 2 [.tmp 4] Tryz.func80 rfl (by kernel_rfl) (by kernel_rfl) rfl (by kernel_rfl) (by kernel_rfl) (by simp) rfl rfl ?_
  simp -implicitDefEqProofs (disch:=omega) only [go_sem,↓reduceIte]
  refine callB k1 ?_ ?_
  · simp -implicitDefEqProofs (disch:=omega) only [go_sem,↓reduceIte]
  simp -implicitDefEqProofs (disch:=omega) only [go_sem,↓reduceIte,q1,q2]
  refine callBF 1 k2 ?_ ?_
  · simp -implicitDefEqProofs (disch:=omega) only [go_sem,↓reduceIte]
  simp -implicitDefEqProofs (disch:=omega) only [go_sem,↓reduceIte,↓hsub,hAe,← hAll]
  refine brd (fun h => by omega) (fun h => ?_)
  simp -implicitDefEqProofs (disch:=omega) only [go_sem,↓reduceIte,← hAll]
  refine brd (fun h => ?_) (fun h => by omega)
  simp -implicitDefEqProofs (disch:=omega) only [go_sem,↓reduceIte,← hAll]
  refine Sy.cut 12 [(0,.ref 5 []),(1,.sl (.ints .u8 L t)),(5,.int .i64 D.sz),(6,.int .i64 c),(7,.int .i64 c),(8,.sl (.ints .u8 (D.b.length - 4 * D.sz) All))] (dirOS na ma a n b ⟨D,F,S,x,nxt,sg,S2,es,l,size,pw,gone,la,va⟩ 6 7 8 9 10 11)
    [(0,0),(1,1),(2,2),(3,3),(4,4),(5,5),(6,6),(7,7),(8,8),(9,9),(10,10),(11,11)] [] [14] rfl ?_ ?_ ?_ ?_
  · simp -implicitDefEqProofs (disch:=omega) only [go_sem,↓reduceIte]
  · simp -implicitDefEqProofs (disch:=omega) only [go_sem,↓reduceIte]
  · simp -implicitDefEqProofs (disch:=omega) only [go_sem,↓reduceIte]
  dsimp only [dirOS]
  simp -implicitDefEqProofs (disch:=omega) only [go_sem,↓reduceIte]
  refine loop (ι:=Nat) 12 (fun i => i ≤ 1) (fun i => [(0,.ref 5 []),(1,.sl (.ints .u8 L t)),(5,.int .i64 D.sz),(7,.int .i64 c),(8,.sl (.ints .u8 (D.b.length - 4 * D.sz) All)),(9,.int .i64 ((c : Int) + (i : Int)))])
    (fun i => dirOS na ma a n b ⟨pick4 D D1 D1 D1 i,F,S,x,nxt,sg,S2,es,l,size,pw,gone,la,va⟩ 6 7 8 9 10 11) (fun i => 1 - i) 0 [(0,0),(1,1),(2,2),(3,3),(4,4),(5,5),(6,6),(7,7),(8,8),(9,9),(10,10),(11,11)] [] (Nat.zero_le _) rfl ?_ ?_ ?_ (fun i hi => ?_)
  · simp -implicitDefEqProofs (disch:=omega) only [go_sem,↓reduceIte]
  · simp -implicitDefEqProofs (disch:=omega) only [go_sem,↓reduceIte,Int.natCast_zero,Int.add_zero]
  · simp -implicitDefEqProofs (disch:=omega) only [go_sem,↓reduceIte,pick4_0]
  rcases (show i = 0 ∨ i = 1 by omega) with rfl | rfl
  · simp only [Int.natCast_zero,Int.add_zero]
    dsimp only [dirOS,pick4_0]
    simp -implicitDefEqProofs (disch:=omega) only [go_sem,↓reduceIte]
    refine brd (fun h => ?_) (fun h => by omega)
    have f2 : ((q : Int) + (D.sz : Int)).toNat = q + D.sz:=by omega
    have f3 : q + D.sz - q = D.sz:=by omega
    simp -implicitDefEqProofs (disch:=omega) only [go_sem,↓reduceIte,p1,p2,f2,f3,↓hsubA]
    refine callG false [(0,0),(1,6),(2,7)] [(0,0),(3,12),(4,13)] 14 k3 ?_ ?_
    · simp [keys]
    simp -implicitDefEqProofs (disch:=omega) only [go_sem,↓reduceIte]
    refine ⟨1,[(0,0),(1,1),(2,2),(3,3),(4,4),(5,5),(6,12),(7,13),(8,8),(9,9),(10,10),(11,11)],[],[],by dsimp only; omega,by dsimp only; omega,rfl,?_,?_,?_⟩ <;> simp -implicitDefEqProofs (disch:=omega) only [go_sem,↓reduceIte,pick4_1]
  · dsimp only [dirOS,pick4_1]
    simp -implicitDefEqProofs (disch:=omega) only [go_sem,↓reduceIte]
    refine brd (fun h => by omega) (fun h => ?_)
    simp -implicitDefEqProofs (disch:=omega) only [go_sem,↓reduceIte]
    refine callG false [(0,0),(1,6),(2,7)] [(0,0),(3,12),(4,13)] 14 k4 ?_ ?_
    · simp [keys]
    simp -implicitDefEqProofs (disch:=omega) only [go_sem,↓reduceIte]
    refine callF 1 k5 ?_
    simp -implicitDefEqProofs (disch:=omega) only [go_sem,↓reduceIte]
    refine callG false [(6,14),(0,0),(1,4),(2,12),(3,13)] [(0,0),(1,4),(4,15),(5,16)] 17 k6 ?_ ?_
    · simp [keys]
    simp -implicitDefEqProofs (disch:=omega) only [go_sem,↓reduceIte]
    refine ⟨[(0,0),(1,1),(2,2),(3,3),(4,4),(5,5),(12,15),(13,16),(14,8),(15,9),(16,10),(17,11)],[],[],rfl,?_,?_,?_⟩ <;> simp -implicitDefEqProofs (disch:=omega) only [go_sem,↓reduceIte]
end
end Go.Proofs.YtololahjocfbeaaGreat
