/- Texts,joined. -/
import Derived.Test.YtololahjocfbeaaGreatD16
import Derived.Test.YtololahjocfbeaaGreatD15
import Derived.Test.YtololahjocfbeaaGreatD11
namespace Go.Proofs.YtololahjocfbeaaGreat
open Go Go.Sy Go.Proofs.Tryz
set_option maxRecDepth 100000
set_option maxHeartbeats 8000000
set_option linter.unusedSimpArgs false
set_option linter.unusedVariables false
attribute [go_sem] pl138 pl183
theorem write_any_own (D : DS) (h : okD D) (hw : D.wait.length ≤ 90000) (i : Int) (t : List Int) (n : Nat) (hn : t.length = n) (hnl : n ≤ 9223372036854775807) :
    FnC Tryz.prog 136 [.ref 0 [],.int .i64 i,.osl 5 [] 1 0 n] ((5,.row (.ints .u8 n t)) :: dskO 1 2 D) (.int .i64 (writeD D i t).1) (dskO 3 4 (writeD D i t).2):=by
  refine (dwrite_spec D h hw i t n hn hnl).sub [(0,0),(1,1),(2,2)] [] [5] rfl ?_ ?_
  · simp -implicitDefEqProofs (disch:=omega) only [go_sem,↓reduceIte]
  · simp -implicitDefEqProofs (disch:=omega) only [go_sem,↓reduceIte]
def replD (D : DS) (S : SS) (b : List Int) : Int × DS × SS :=
  if (writeD D ((S.turn + 1) % 2 : Nat) (sectorL D.sz (S.turn + 1) b)).1 = 0 then
    (if (syncD (writeD D ((S.turn + 1) % 2 : Nat) (sectorL D.sz (S.turn + 1) b)).2).1 = 0 then (0,(syncD (writeD D ((S.turn + 1) % 2 : Nat) (sectorL D.sz (S.turn + 1) b)).2).2,{ S with turn:=S.turn + 1,text:=b })
    else ((syncD (writeD D ((S.turn + 1) % 2 : Nat) (sectorL D.sz (S.turn + 1) b)).2).1,(syncD (writeD D ((S.turn + 1) % 2 : Nat) (sectorL D.sz (S.turn + 1) b)).2).2,{ S with gone:=true }))
  else ((writeD D ((S.turn + 1) % 2 : Nat) (sectorL D.sz (S.turn + 1) b)).1,(writeD D ((S.turn + 1) % 2 : Nat) (sectorL D.sz (S.turn + 1) b)).2,{ S with gone:=true })
theorem writeD_okD {D : DS} (h : okD D) (hw : D.wait.length ≤ 90000) (i : Int) (t : List Int) : okD (writeD D i t).2:=by
  unfold writeD
  split
  · exact h
  split
  · rename_i c
    obtain ⟨I,rfl,hI⟩:=there_at h c.1
    rw [Int.toNat_natCast]
    have o1:=okD_wait h hw hI c.2
    dsimp only
    generalize { D with wait:=D.wait ++ [(I,t)] } = D1 at *
    unfold failedD
    split
    · exact crashD_ok o1 _
    · exact ⟨o1.sz1,o1.sz2,o1.bl,o1.wl,o1.kl,o1.wt⟩
  · exact h
theorem replace_spec (D : DS) (h : okD D) (hw : D.wait.length ≤ 90000) (S : SS) (hg : S.gone = false) (hT : S.turn ≤ 4611686018427387000) (b : List Int) (n : Nat) (hn : b.length = n) (hl : n + 18 ≤ D.sz) :
    FnC Tryz.prog 138 [.ref 1 [],.sl (.ints .u8 n b)] (slO 2 3 D S) (.int .i64 (replD D S b).1) (slO 4 5 (replD D S b).2.1 (replD D S b).2.2):=by
  have h2:=h.sz2
  obtain ⟨T,t,g⟩:=S
  dsimp only at hg hT
  subst hg
  have e1 : decide ((D.sz : Int) - 18 < (n : Int)) = false:=decide_eq_false (by omega)
  have k1:=room_spec D h ⟨T,t,false⟩
  have k2:=sector_pp D h ⟨T,t,false⟩ (T + 1) (by omega) b n hn hl
  have hsl:=sectorL_len (z:=D.sz) (T:=T + 1) (t:=b) (by omega)
  have k3:=write_any_own D h hw ((T + 1) % 2 : Nat) (sectorL D.sz (T + 1) b) D.sz hsl (by omega)
  have hok1:=writeD_okD h hw ((T + 1) % 2 : Nat) (sectorL D.sz (T + 1) b)
  have k4:=sync_spec _ hok1
  have tm : ((T : Int) + 1).tmod 2 = ((T + 1) % 2 : Nat):=by rw [Int.tmod_eq_emod_of_nonneg (by omega)]; omega
  unfold replD
  dsimp only
  generalize sectorL D.sz (T + 1) b = X at *
  have hj : (T + 1) % 2 ≤ 1:=by omega
  generalize (T + 1) % 2 = j at *
  generalize writeD D j X = R at *
  obtain ⟨w1,D1⟩:=R
  dsimp only at k3 k4 hok1 ⊢
  generalize syncD D1 = Y at *
  obtain ⟨y1,D2⟩:=Y
  dsimp only at k4 ⊢
  refine fnV mix pl138 2 4 2 [.tmp 4] Tryz.func138 rfl (by kernel_rfl) (by kernel_rfl) rfl (by kernel_rfl) (by kernel_rfl) (by simp) rfl rfl ?_
  simp -implicitDefEqProofs (disch:=omega) only [go_sem,↓reduceIte]
  refine callG false [(0,0),(1,1),(2,2),(3,3)] [(0,0),(1,1),(4,4),(5,5)] 6 k1 ?_ ?_
  · simp [keys]
  simp -implicitDefEqProofs (disch:=omega) only [go_sem,↓reduceIte,e1]
  refine callBF 1 k2 ?_ ?_
  · simp -implicitDefEqProofs (disch:=omega) only [go_sem,↓reduceIte]
  simp -implicitDefEqProofs (disch:=omega) only [go_sem,↓reduceIte,tm]
  refine callG false [(5,6),(0,0),(1,4),(2,5)] [(0,0),(3,9),(4,10)] 11 k3 ?_ ?_
  · simp [keys]
  by_cases c1 : w1 = 0
  · rw [if_pos c1]
    have d1 : decide (w1 = 0) = true:=decide_eq_true c1
    simp -implicitDefEqProofs (disch:=omega) only [go_sem,↓reduceIte,d1]
    refine callG false [(0,0),(1,9),(2,10)] [(0,0),(3,11),(4,12)] 13 k4 ?_ ?_
    · simp [keys]
    by_cases c2 : y1 = 0
    · rw [if_pos c2]
      have d2 : decide (y1 = 0) = true:=decide_eq_true c2
      simp -implicitDefEqProofs (disch:=omega) only [go_sem,↓reduceIte,d2,List.nil_append]
      refine ⟨[(0,0),(1,1),(4,11),(5,12)],[],[14],rfl,?_,?_,?_⟩ <;> simp -implicitDefEqProofs (disch:=omega) only [go_sem,↓reduceIte,hn]
    · rw [if_neg c2]
      have d2 : decide (y1 = 0) = false:=decide_eq_false c2
      simp -implicitDefEqProofs (disch:=omega) only [go_sem,↓reduceIte,d2]
      refine ⟨[(0,0),(1,1),(4,11),(5,12)],[],[],rfl,?_,?_,?_⟩ <;> simp -implicitDefEqProofs (disch:=omega) only [go_sem,↓reduceIte]
  · rw [if_neg c1]
    have d1 : decide (w1 = 0) = false:=decide_eq_false c1
    simp -implicitDefEqProofs (disch:=omega) only [go_sem,↓reduceIte,d1]
    refine ⟨[(0,0),(1,1),(4,9),(5,10)],[],[],rfl,?_,?_,?_⟩ <;> simp -implicitDefEqProofs (disch:=omega) only [go_sem,↓reduceIte]
theorem repl_calm {D : DS} (ho : D.off = false) (hs : D.set = false) (hw : D.wait = []) (S : SS) (b : List Int) (hi : thereD D ((S.turn + 1) % 2 : Nat)) (hl : b.length + 18 ≤ D.sz) :
    replD D S b = (0,{ D with b:=putB D.sz D.b ((S.turn + 1) % 2) (sectorL D.sz (S.turn + 1) b) D.sz,wait:=[],left:=IntKind.i64.wrap (IntKind.i64.wrap (D.left - 1) - 1) },{ S with turn:=S.turn + 1,text:=b }):=by
  have hsl:=sectorL_len (z:=D.sz) (T:=S.turn + 1) (t:=b) hl
  obtain ⟨sz,B,W,off,set,left,kp⟩:=D
  dsimp only at ho hs hw hsl ⊢
  subst ho; subst hs; subst hw
  have e1 : writeD ⟨sz,B,[],false,false,left,kp⟩ ((S.turn + 1) % 2 : Nat) (sectorL sz (S.turn + 1) b) = (0,⟨sz,B,[((S.turn + 1) % 2,sectorL sz (S.turn + 1) b)],false,false,IntKind.i64.wrap (left - 1),kp⟩):=by
    unfold writeD
    rw [if_neg (fun h => by cases h),if_pos ⟨hi,hsl⟩,Int.toNat_natCast,failed_calm rfl]
    rfl
  have e2 : syncD ⟨sz,B,[((S.turn + 1) % 2,sectorL sz (S.turn + 1) b)],false,false,IntKind.i64.wrap (left - 1),kp⟩ = (0,⟨sz,putB sz B ((S.turn + 1) % 2) (sectorL sz (S.turn + 1) b) sz,[],false,false,IntKind.i64.wrap (IntKind.i64.wrap (left - 1) - 1),kp⟩):=by
    unfold syncD
    rw [if_neg (fun h => by cases h),failed_calm rfl,if_neg (fun h => by cases h)]
    rfl
  unfold replD
  rw [e1,if_pos rfl,e2,if_pos rfl]
theorem replace_own (D : DS) (h : okD D) (hw : D.wait.length ≤ 90000) (S : SS) (hg : S.gone = false) (hT : S.turn ≤ 4611686018427387000) (b : List Int) (n : Nat) (hn : b.length = n) (hl : n + 18 ≤ D.sz) :
    FnC Tryz.prog 138 [.ref 1 [],.osl 6 [] 1 0 n] ((6,.row (.ints .u8 n b)) :: slO 2 3 D S) (.int .i64 (replD D S b).1) (slO 4 5 (replD D S b).2.1 (replD D S b).2.2):=by
  refine (replace_spec D h hw S hg hT b n hn hl).sub [(0,0),(1,1),(2,2),(3,3)] [] [6] rfl ?_ ?_
  · simp -implicitDefEqProofs (disch:=omega) only [go_sem,↓reduceIte]
  · simp -implicitDefEqProofs (disch:=omega) only [go_sem,↓reduceIte]
def inact (z T : Nat) (c : List Int) : Prop:=c.getD (z - 1) 0 = (((T - 1) % 256 : Nat) : Int) ∧ (c.take 8 = be (T + 1 : Nat) 8 ∨ c.drop (z - 8) = be (T - 1 : Nat) 8)
structure Cont (z T : Nat) (t b : List Int) : Prop where
  z1 : 18 ≤ z
  z2 : z ≤ 512
  T1 : T ≤ 1000
  tl : t.length + 18 ≤ z
  t0 : T = 0 → t = []
  bl : b.length = 2 * z
  bb : ∀ x ∈ b,0 ≤ x ∧ x < 256
  act : chunk z b (T % 2) = sectorL z T t
  ina : inact z T (chunk z b ((T + 1) % 2))
structure Inv (z T : Nat) (t : List Int) (D : DS) : Prop where
  d : okD D
  s : D.sz = z
  o : D.off = false
  w : D.wait = []
  c : Cont z T t D.b
attribute [go_sem] pl180
def bkU (s : List UInt8) : List Int:=s.map fun x => (x.toNat : Int)
theorem bkU_len (s : List UInt8) : (bkU s).length = s.length:=List.length_map _
theorem toU_bk (s : List UInt8) : toU (bkU s) = s:=by
  unfold toU bkU
  rw [List.map_map]
  conv => rhs; rw [← List.map_id s]
  apply List.map_congr_left
  intro x _
  simp
theorem bkU_mem (s : List UInt8) : ∀ x ∈ bkU s,0 ≤ x ∧ x < 256:=by
  intro x hx
  obtain ⟨y,_,rfl⟩:=List.mem_map.1 hx
  have:=y.toNat_lt
  omega
theorem bk_toU {l : List Int} (h : ∀ x ∈ l,0 ≤ x ∧ x < 256) : bkU (toU l) = l:=by
  unfold toU bkU
  rw [List.map_map]
  conv => rhs; rw [← List.map_id l]
  apply List.map_congr_left
  intro x hx
  have:=h x hx
  simp only [Function.comp,id_eq,UInt8.toNat_ofNat']
  omega
def numB (n : Int) : List Int:=be (IntKind.u64.wrap n) 8
theorem numB_len (n : Int) : (numB n).length = 8:=be_len _ _
def rowL (l : List Int) (m : List UInt8) : List (List Int):=l.map numB ++ [bkU m]
def rowS (l : List Int) (m : List UInt8) : List Int:=rowb 6 (rowL l m)
theorem rowL_len {l : List Int} (hl : l.length = 5) (m : List UInt8) : (rowL l m).length = 6:=by
  unfold rowL; rw [List.length_append,List.length_map,hl]; rfl
theorem rowL_mem {l : List Int} {m : List UInt8} {b : List Int} (hb : b ∈ rowL l m) : b.length ≤ max 8 m.length ∧ ∀ x ∈ b,0 ≤ x ∧ x < 256:=by
  unfold rowL at hb
  rcases List.mem_append.1 hb with hb | hb
  · obtain ⟨n,_,rfl⟩:=List.mem_map.1 hb
    rw [numB_len]
    exact ⟨by omega,be_mem _ _⟩
  · rw [List.mem_singleton] at hb; subst hb
    rw [bkU_len]
    exact ⟨by omega,bkU_mem m⟩
theorem rowS_len {l : List Int} (hl : l.length = 5) (m : List UInt8) : (rowS l m).length = 54 + m.length:=by
  match l,hl with
  | [a,b,c,d,e],_ =>
    unfold rowS rowL rowb
    simp only [List.map_cons,List.map_nil,List.cons_append,List.nil_append,List.flatMap_cons,List.flatMap_nil,List.length_append,be_len,numB_len,bkU_len,List.length_nil]
    omega
theorem rowS_mem {l : List Int} {m : List UInt8} : ∀ x ∈ rowS l m,0 ≤ x ∧ x < 256:=by
  intro x hx
  unfold rowS rowb at hx
  rcases List.mem_append.1 hx with hx | hx
  · exact be_mem _ _ x hx
  · obtain ⟨b,hb,hx⟩:=List.mem_flatMap.1 hx
    rcases List.mem_append.1 hx with hx | hx
    · exact be_mem _ _ x hx
    · exact (rowL_mem hb).2 x hx
theorem row_spec (m : List UInt8) (hm : m.length ≤ 1000) (l : List Int) (hl : l.length = 5) : FnC Tryz.prog 198 [.str m,.sl (.ints .i64 5 l)] [] (.osl 0 [] 1 0 (54 + m.length)) [(0,.row (.ints .u8 (54 + m.length) (rowS l m)))]:=by
  have hr:=rowS_len hl m
  have hp:=prow_spec (rowL l m) (by rw [rowL_len hl]; decide) (fun b hb => by have:=(rowL_mem hb).1; omega)
  rw [rowL_len hl] at hp
  have er : rowb 6 (rowL l m) = rowS l m:=rfl
  rw [er,hr] at hp
  refine fnN mix [] 0 2 [.tmp 4] Tryz.func198 rfl (by kernel_rfl) (by kernel_rfl) rfl (by kernel_rfl) (by kernel_rfl) (by simp) ?_
  simp -implicitDefEqProofs (disch:=omega) only [go_sem,↓reduceIte]
  refine loop (ι:=Nat) 1 (fun i => i ≤ 5) (fun i => [(0,.str m),(10,.sl (.ints .i64 5 l)),(11,.int .i64 5),(12,.int .i64 i),(5,.osl 0 [] 1 0 i)]) (fun i => [(0,.row (.lst 1 i ((l.take i).map fun n => bsl (numB n))))]) (fun i => 5 - i) 0 [] [0] (Nat.zero_le _) rfl ?_ ?_ ?_ (fun i hi => ?_)
  · simp -implicitDefEqProofs (disch:=omega) only [go_sem,↓reduceIte]
  · simp -implicitDefEqProofs (disch:=omega) only [go_sem,↓reduceIte]
  · simp -implicitDefEqProofs (disch:=omega) only [go_sem,↓reduceIte,List.take_zero,List.map_nil]
  simp -implicitDefEqProofs (disch:=omega) only [go_sem,↓reduceIte]
  refine brd (fun h => ?_) (fun h => ?_)
  · have ht : (l.take (i + 1)) = l.take i ++ [l.getD i 0]:=by
      rw [List.take_add_one]
      simp only [List.getD,List.getElem?_eq_getElem (show i < l.length by omega),Option.getD_some,Option.toList_some]
    simp -implicitDefEqProofs (disch:=omega) only [go_sem,↓reduceIte]
    refine callF 1 (number_spec _ 8 8 rfl) ?_
    simp -implicitDefEqProofs (disch:=omega) only [go_sem,↓reduceIte]
    refine ⟨i + 1,[(0,3)],[],[],by dsimp only; omega,by dsimp only; omega,rfl,?_,?_,?_⟩ <;> simp -implicitDefEqProofs (disch:=omega) only [go_sem,↓reduceIte,ht,List.map_append,List.map_cons,List.map_nil,bsl,numB,be_len]
  obtain rfl : i = 5:=by omega
  have ht5 : l.take 5 = l:=List.take_of_length_le (by omega)
  have el : l.map (fun n => bsl (numB n)) ++ [bsl (bkU m)] = (rowL l m).map bsl:=by
    unfold rowL; rw [List.map_append,List.map_map]; rfl
  have em : bsl (bkU m) = .sl (.ints .u8 m.length (m.map fun x => (x.toNat : Int))):=by
    unfold bsl; rw [bkU_len]; rfl
  rw [em] at el
  rw [ht5]
  simp -implicitDefEqProofs (disch:=omega) only [go_sem,↓reduceIte]
  refine callBF 1 hp ?_ ?_
  · simp -implicitDefEqProofs (disch:=omega) only [go_sem,↓reduceIte,el]
  simp -implicitDefEqProofs (disch:=omega) only [go_sem,↓reduceIte]
  refine ⟨[(0,4)],[],[],rfl,?_,?_,?_⟩ <;> simp -implicitDefEqProofs (disch:=omega) only [go_sem,↓reduceIte]
theorem numB_of {n : Int} (h0 : 0 ≤ n) (h1 : n ≤ 4611686018427387904) : ofb (numB n) = n:=by
  unfold numB
  rw [u64_mod,ofb_be,show (256 : Int) ^ 8 = 18446744073709551616 by decide]; omega
theorem getL {l : List Int} (hl : l.length = 5) (m : List UInt8) {i : Nat} (hi : i < 5) (K : AV → Prop) : getP ((rowL l m).map bsl) i K = K (.sl (.ints .u8 8 (numB (l.getD i 0)))):=by
  have e : (rowL l m)[i]? = some (numB (l.getD i 0)):=by
    unfold rowL
    rw [List.getElem?_append_left (by rw [List.length_map]; omega),List.getElem?_map]
    simp only [List.getD,List.getElem?_eq_getElem (show i < l.length by omega),Option.map_some,Option.getD_some]
  rw [getP_map (f:=bsl) e K,bsl,numB_len]
theorem getL5 {l : List Int} (hl : l.length = 5) (m : List UInt8) (K : AV → Prop) : getP ((rowL l m).map bsl) 5 K = K (.sl (.ints .u8 m.length (bkU m))):=by
  have e : (rowL l m)[5]? = some (bkU m):=by
    unfold rowL
    rw [List.getElem?_append_right (by rw [List.length_map]; omega),List.length_map,hl]
    rfl
  rw [getP_map (f:=bsl) e K,bsl,bkU_len]
theorem set_next {l : List Int} (hl : l.length = 5) {i : Nat} (hi : i < 5) : (l.take i ++ List.replicate (5 - i) 0).set i (l.getD i 0) = l.take (i + 1) ++ List.replicate (5 - (i + 1)) 0:=by
  match l,hl with
  | [a,b,c,d,e],_ =>
    match i,hi with
    | 0,_ => rfl
    | 1,_ => rfl
    | 2,_ => rfl
    | 3,_ => rfl
    | 4,_ => rfl
theorem read_row (a0 a1 a2 a3 a4 : Int) (m : List UInt8) (hm : m.length ≤ 200) (hb : ∀ x ∈ [a0,a1,a2,a3,a4],0 ≤ x ∧ x ≤ 4611686018427387904) :
    FnC Tryz.prog 180 [.sl (.ints .u8 (54 + m.length) (rowS [a0,a1,a2,a3,a4] m))] [] (.tup [.agg [.int .i64 a0,.int .i64 a1,.int .i64 a2,.agg [.int .i64 a3,.int .i64 a4,.str m]],.bool true]) []:=by
  have hl : [a0,a1,a2,a3,a4].length = 5:=rfl
  have hr:=rowS_len hl m
  have hS : split (rowS [a0,a1,a2,a3,a4] m) = some (rowL [a0,a1,a2,a3,a4] m,[]):=by
    have h:=split_rowb (rowL [a0,a1,a2,a3,a4] m) (by rw [rowL_len hl]; decide) (fun b hb => by have:=(rowL_mem hb).1; omega)
    rw [rowL_len hl] at h
    exact h
  have k:=split_spec (rowS [a0,a1,a2,a3,a4] m) (.tup [.sl (.lst 1 6 ((rowL [a0,a1,a2,a3,a4] m).map bsl)),.int .i64 0]) (by rw [hS]; simp only [splitR,↓reduceIte,rowL_len hl]) rowS_mem (by rw [hr]; omega)
  rw [hr] at k
  have g5:=fun K => getL5 hl m K
  have tb : toU (bkU m) = m:=toU_bk m
  unfold toU at tb
  have hle : ((rowL [a0,a1,a2,a3,a4] m).map bsl).length = 6:=by rw [List.length_map,rowL_len hl]
  refine fn0 mix pl180 0 1 [.cell 2 214,.tmp 3] Tryz.func180 rfl (by kernel_rfl) (by kernel_rfl) rfl (by kernel_rfl) (by kernel_rfl) (by simp) ?_
  simp -implicitDefEqProofs (disch:=omega) only [go_sem,↓reduceIte]
  have d200 : decide (200 < (m.length : Int)) = false:=decide_eq_false (by omega)
  refine call0 k ?_
  simp -implicitDefEqProofs (disch:=omega) only [go_sem,↓reduceIte,↓g5,hle,d200]
  refine loop (ι:=Nat) 2 (fun i => i ≤ 5) (fun i => [(2,.ref 0 []),(6,.ref 1 []),(4,.sl (.lst 1 6 ((rowL [a0,a1,a2,a3,a4] m).map bsl))),(30,.int .i64 i)])
    (fun i => [(0,.var (.agg [.int .i64 0,.int .i64 0,.int .i64 0,.agg [.int .i64 0,.int .i64 0,.str []]])),(1,.var (.ints .i64 5 ([a0,a1,a2,a3,a4].take i ++ List.replicate (5 - i) 0)))]) (fun i => 5 - i) 0 [(0,0),(1,1)] [] (Nat.zero_le _) rfl ?_ ?_ ?_ (fun i hi => ?_)
  · simp -implicitDefEqProofs (disch:=omega) only [go_sem,↓reduceIte]
  · simp -implicitDefEqProofs (disch:=omega) only [go_sem,↓reduceIte]
  · simp -implicitDefEqProofs (disch:=omega) only [go_sem,↓reduceIte,List.take_zero,List.nil_append]
  simp -implicitDefEqProofs (disch:=omega) only [go_sem,↓reduceIte]
  refine brd (fun h => ?_) (fun h => ?_)
  · have hi5 : i < 5:=by omega
    have gi:=fun K => getL hl m hi5 K
    have hsn:=set_next hl hi5
    have hbi:=getD_all' hb (show i < [a0,a1,a2,a3,a4].length from hi5)
    generalize [a0,a1,a2,a3,a4] = l at *
    have kp:=pof_spec (numB (l.getD i 0)) (by rw [numB_len]; decide) (be_mem _ _)
    rw [numB_len,numB_of hbi.1 hbi.2] at kp
    generalize l.getD i 0 = v at *
    have d1 : decide (4611686018427387904 < v) = false:=decide_eq_false (by omega)
    simp -implicitDefEqProofs (disch:=omega) only [go_sem,↓reduceIte,↓gi,hle]
    refine call0 kp ?_
    simp -implicitDefEqProofs (disch:=omega) only [go_sem,↓reduceIte,↓gi,hle,d1]
    refine ⟨i + 1,[(0,0),(1,1)],[],[],by dsimp only; omega,by dsimp only; omega,rfl,?_,?_,?_⟩ <;> simp -implicitDefEqProofs (disch:=omega) only [go_sem,↓reduceIte,hsn]
  obtain rfl : i = 5:=by omega
  simp -implicitDefEqProofs (disch:=omega) only [go_sem,↓reduceIte,↓g5,hle,List.take_succ_cons,List.take_zero,tb,List.getD_cons_zero,List.getD_cons_succ,List.nil_append,List.cons_append]
end Go.Proofs.YtololahjocfbeaaGreat
