/- Texts,joined. -/
import Derived.Test.YtololahjocfbeaaGreatD11
import Derived.Test.YtololahjocfbeaaGreatD09
import Derived.Test.YtololahjocfbeaaGreatD20
namespace Go.Proofs.YtololahjocfbeaaGreat
open Go Go.Sy Go.Proofs.Tryz
set_option maxRecDepth 100000
set_option maxHeartbeats 8000000
set_option linter.unusedSimpArgs false
set_option linter.unusedVariables false
attribute [go_sem] pl174 pl222
def goodD (d : List Int) : Prop:=d.length = 32 ∧ ∀ x ∈ d,0 ≤ x ∧ x < 256
def goodW (ws : List Int) : Prop:=ws.length = 8 ∧ ∀ w ∈ ws,0 ≤ w ∧ w < 4294967296
theorem goodW.set {ws : List Int} (h : goodW ws) (i : Nat) {x : Int} (hx : 0 ≤ x ∧ x < 4294967296) : goodW (ws.set i x):=by
  refine ⟨by rw [List.length_set]; exact h.1,fun y hy => ?_⟩
  rcases List.mem_or_eq_of_mem_set hy with hy | rfl
  · exact h.2 y hy
  · exact hx
theorem ofD_good (n : Int) (k m : List Int) : goodD (ofD n k m):=⟨ofD_len _ _ _,ofD_mem _ _ _⟩
theorem maskD_good {a b : List Int} (ha : goodD a) (hb : goodD b) : goodD (maskD a b):=⟨maskD_len ha.1 hb.1,maskD_mem ha.2 hb.2⟩
def keyW (pub ws : List Int) (w : Nat) : List Int:=ofD 3 pub (bytesA (ws.set 7 w))
def joinD (a b pub ws : List Int) : List Int:=ofD 1 (keyW pub ws 0) (maskD a (keyW pub ws 1) ++ maskD b (keyW pub ws 2))
theorem joinD_good (a b pub ws : List Int) : goodD (joinD a b pub ws):=ofD_good _ _ _
theorem keyW_good (pub ws : List Int) (w : Nat) : goodD (keyW pub ws w):=ofD_good _ _ _
def z32' : List Int:=List.replicate 32 0
def keysW (pub ws : List Int) : Nat → List (List Int)
  | 0 => []
  | n + 1 => keysW pub ws n ++ [keyW pub ws n]
theorem keysW_len (pub ws : List Int) : ∀ n,(keysW pub ws n).length = n
  | 0 => rfl
  | n + 1 => by simp [keysW,keysW_len pub ws n]
theorem set_mid' {α : Type} (a : List α) (x y : α) (n i : Nat) (h : a.length = i) : (a ++ List.replicate (n + 1) x).set i y = (a ++ [y]) ++ List.replicate n x:=by
  rw [List.set_append_right _ _ (by omega),h,Nat.sub_self,List.replicate_succ,List.set_cons_zero,List.append_assoc]
  rfl
theorem join_spec09 (a b pub ws : List Int) (ha : goodD a) (hb : goodD b) (hp : goodD pub) (hw : goodW ws) : FnC Tryz.prog 222 [.ints .u8 32 a,.ints .u8 32 b,.ints .u8 32 pub,.ints .u32 8 ws] [] (.ints .u8 32 (joinD a b pub ws)) []:=by
  have k0:=keyW_good pub ws 0
  have k1:=keyW_good pub ws 1
  have k2:=keyW_good pub ws 2
  refine fn0 mix pl222 0 4 [.cell 8 25] Tryz.func222 rfl (by kernel_rfl) (by kernel_rfl) rfl (by kernel_rfl) (by kernel_rfl) (by simp) ?_
  simp -implicitDefEqProofs (disch:=omega) only [go_sem,↓reduceIte]
  refine loop (ι:=Nat) 6 (fun i => i ≤ 3) (fun i => [(4,.ref 0 []),(5,.ref 1 []),(6,.ref 2 []),(7,.ref 3 []),(8,.ref 4 []),(9,.ref 5 []),(11,.int .i64 i)])
    (fun i => [(0,.var (.ints .u8 32 a)),(1,.var (.ints .u8 32 b)),(2,.var (.ints .u8 32 pub)),(3,.var (.ints .u32 8 ws)),(4,.var (.ints .u8 32 (List.replicate 32 0))),(5,.var (.lst 32 3 ((keysW pub ws i ++ List.replicate (3 - i) z32').map dg)))])
    (fun i => 3 - i) 0 [(0,0),(1,1),(2,2),(3,3),(4,4),(5,5)] [] (Nat.zero_le _) rfl ?_ ?_ ?_ (fun i hi => ?_)
  · simp -implicitDefEqProofs (disch:=omega) only [go_sem,↓reduceIte]
  · simp -implicitDefEqProofs (disch:=omega) only [go_sem,↓reduceIte]
  · simp -implicitDefEqProofs (disch:=omega) only [go_sem,↓reduceIte,keysW,List.map_replicate,dg,z32']
  simp -implicitDefEqProofs (disch:=omega) only [go_sem,↓reduceIte]
  refine brd (fun h => ?_) (fun h => ?_)
  · have hcl:=keysW_len pub ws i
    have hle : ((keysW pub ws i ++ List.replicate (3 - i) z32').map dg).length = 3:=by simp [hcl]; omega
    have hgi : (keysW pub ws i ++ List.replicate (3 - i) z32')[i]? = some z32':=by
      rw [List.getElem?_append_right (by omega),hcl,Nat.sub_self,List.getElem?_replicate,if_pos (by omega)]
    have hg:=fun K => getP_map (f:=dg) hgi K
    have hset : ((keysW pub ws i ++ List.replicate (3 - i) z32').map dg).set i (.ints .u8 32 (keyW pub ws i)) = (keysW pub ws (i + 1) ++ List.replicate (3 - (i + 1)) z32').map dg:=by
      rw [keysW,← set_mid' (keysW pub ws i) z32' (keyW pub ws i) (3 - (i + 1)) i hcl,show 3 - (i + 1) + 1 = 3 - i by omega,List.map_set]
      rfl
    have hw7:=hw.set 7 (x:=(i : Int)) (by omega)
    have hk : ofD 3 pub (bytesA (ws.set 7 i)) = keyW pub ws i:=rfl
    simp -implicitDefEqProofs (disch:=omega) only [go_sem,↓reduceIte]
    refine call0 (for_spec ws i) ?_
    simp -implicitDefEqProofs (disch:=omega) only [go_sem,↓reduceIte]
    refine call0 (atk_spec pub (ws.set 7 i) hp.1 hp.2 hw7.1 hw7.2) ?_
    rw [hk]
    simp -implicitDefEqProofs (disch:=omega) only [go_sem,↓reduceIte,hle,hg,dg,hset]
    refine ⟨i + 1,[(0,0),(1,1),(2,2),(3,3),(4,4),(5,5)],[],[],by dsimp only; omega,by dsimp only; omega,rfl,?_,?_,?_⟩ <;> simp -implicitDefEqProofs (disch:=omega) only [go_sem,↓reduceIte]
  obtain rfl : i = 3:=by omega
  have e3 : (keysW pub ws 3 ++ List.replicate (3 - 3) z32').map dg = [.ints .u8 32 (keyW pub ws 0),.ints .u8 32 (keyW pub ws 1),.ints .u8 32 (keyW pub ws 2)]:=rfl
  rw [e3]
  simp -implicitDefEqProofs (disch:=omega) only [go_sem,↓reduceIte]
  refine call0 (mask_spec a _ ha.1 k1.1) ?_
  simp -implicitDefEqProofs (disch:=omega) only [go_sem,↓reduceIte]
  refine call0 (mask_spec b _ hb.1 k2.1) ?_
  simp -implicitDefEqProofs (disch:=omega) only [go_sem,↓reduceIte]
  have m1:=maskD_good ha k1
  have m2:=maskD_good hb k2
  refine call0 (h_spec _ _ _ k0.1 m1.1 m2.1 k0.2 m1.2 m2.2) ?_
  simp -implicitDefEqProofs (disch:=omega) only [go_sem,↓reduceIte,joinD]
def adrL (ws : List Int) (lv i : Nat) : List Int:=((ws.set 5 lv).set 6 i).set 7 0
theorem adrL_good {ws : List Int} (h : goodW ws) {lv i : Nat} (h1 : lv < 4294967296) (h2 : i < 4294967296) : goodW (adrL ws lv i):=((h.set 5 (by omega)).set 6 (by omega)).set 7 (by omega)
def joins (pub ws : List Int) (lv : Nat) (row : List (List Int)) : Nat → List (List Int)
  | 0 => []
  | n + 1 => joins pub ws lv row n ++ [joinD (row.getD (2 * n) []) (row.getD (2 * n + 1) []) pub (adrL ws lv n)]
theorem joins_len (pub ws : List Int) (lv : Nat) (row : List (List Int)) : ∀ n,(joins pub ws lv row n).length = n
  | 0 => rfl
  | n + 1 => by simp [joins,joins_len pub ws lv row n]
theorem joins_good (pub ws : List Int) (lv : Nat) (row : List (List Int)) : ∀ n,∀ d ∈ joins pub ws lv row n,goodD d
  | 0,d,h => by cases h
  | n + 1,d,h => by
    rcases List.mem_append.1 h with h | h
    · exact joins_good pub ws lv row n d h
    · rw [List.mem_singleton] at h; subst h; exact joinD_good _ _ _ _
def nextR (pub ws : List Int) (lv : Nat) (row : List (List Int)) : List (List Int) :=
  if row.length % 2 = 1 then joins pub ws lv row (row.length / 2) ++ [row.getD (row.length - 1) []] else joins pub ws lv row (row.length / 2)
theorem nextR_len (pub ws : List Int) (lv : Nat) (row : List (List Int)) : (nextR pub ws lv row).length = (row.length + 1) / 2:=by
  unfold nextR
  split
  · rw [List.length_append,joins_len,List.length_singleton]; omega
  · rw [joins_len]; omega
theorem getD_good {row : List (List Int)} (h : ∀ d ∈ row,goodD d) {i : Nat} (hi : i < row.length) : goodD (row.getD i []):=by
  simp only [List.getD,List.getElem?_eq_getElem hi,Option.getD_some]
  exact h _ (List.getElem_mem hi)
theorem nextR_good (pub ws : List Int) (lv : Nat) {row : List (List Int)} (h : ∀ d ∈ row,goodD d) : ∀ d ∈ nextR pub ws lv row,goodD d:=by
  intro d hd
  unfold nextR at hd
  split at hd
  · rcases List.mem_append.1 hd with hd | hd
    · exact joins_good _ _ _ _ _ d hd
    · rw [List.mem_singleton] at hd; subst hd; exact getD_good h (by omega)
  · exact joins_good _ _ _ _ _ d hd
def upD (pub ws : List Int) : Nat → Nat → List (List Int) → List Int
  | 0,_,row => row.getD 0 []
  | f + 1,lv,row => if row.length ≤ 1 then row.getD 0 [] else upD pub ws f (lv + 1) (nextR pub ws lv row)
theorem upD_fuel (pub ws : List Int) : ∀ (f g lv : Nat) (row : List (List Int)),row.length ≤ f + 1 → row.length ≤ g + 1 → upD pub ws f lv row = upD pub ws g lv row
  | 0,0,_,_,_,_ => rfl
  | 0,g + 1,lv,row,h,_ => by rw [upD,upD,if_pos (by omega)]
  | f + 1,0,lv,row,_,h => by rw [upD,upD,if_pos (by omega)]
  | f + 1,g + 1,lv,row,h1,h2 => by
    rw [upD,upD]
    by_cases h : row.length ≤ 1
    · rw [if_pos h,if_pos h]
    · rw [if_neg h,if_neg h]
      have:=nextR_len pub ws lv row
      exact upD_fuel pub ws f g (lv + 1) _ (by omega) (by omega)
def compressD (pub ws : List Int) (row : List (List Int)) : List Int:=upD pub ws row.length 0 row
theorem upD_good (pub ws : List Int) : ∀ (f lv : Nat) {row : List (List Int)},1 ≤ row.length → (∀ d ∈ row,goodD d) → goodD (upD pub ws f lv row)
  | 0,_,row,h1,h => getD_good h (by omega)
  | f + 1,lv,row,h1,h => by
    rw [upD]
    split
    · exact getD_good h (by omega)
    · exact upD_good pub ws f (lv + 1) (by rw [nextR_len]; omega) (nextR_good pub ws lv h)
theorem compressD_good (pub ws : List Int) {row : List (List Int)} (h1 : 1 ≤ row.length) (h : ∀ d ∈ row,goodD d) : goodD (compressD pub ws row):=upD_good pub ws _ _ h1 h
theorem getD_some' {row : List (List Int)} {i : Nat} (h : i < row.length) : row[i]? = some (row.getD i []):=by
  simp only [List.getD,List.getElem?_eq_getElem h,Option.getD_some]
theorem wr_get {C P : List (List Int)} {i j : Nat} {d : List Int} (hi : i ≤ P.length) (hij : i ≤ j) (hj : C[j]? = some d) : (P.take i ++ C.drop i)[j]? = some d:=by
  rw [List.getElem?_append_right (by rw [List.length_take]; omega),List.length_take,List.getElem?_drop,← hj]
  congr 1; omega
theorem wr_set {C P : List (List Int)} {i : Nat} {d : List Int} (hd : P[i]? = some d) (hC : i < C.length) : ((P.take i ++ C.drop i).map dg).set i (dg d) = (P.take (i + 1) ++ C.drop (i + 1)).map dg:=by
  have hi : i < P.length:=by
    apply Classical.byContradiction; intro h
    rw [List.getElem?_eq_none (by omega)] at hd; cases hd
  have ht : (P.take i).length = i:=by rw [List.length_take]; omega
  have e : (P.take i ++ C.drop i).set i d = P.take (i + 1) ++ C.drop (i + 1):=by
    rw [List.drop_eq_getElem_cons hC,List.set_append_right _ _ (by omega),ht,Nat.sub_self,List.set_cons_zero,List.take_add_one,hd,List.append_assoc]
    rfl
  rw [← e,List.map_set]
theorem joins_at (pub ws : List Int) (lv : Nat) (row : List (List Int)) : ∀ (n i : Nat),i < n → (joins pub ws lv row n)[i]? = some (joinD (row.getD (2 * i) []) (row.getD (2 * i + 1) []) pub (adrL ws lv i))
  | n + 1,i,h => by
    by_cases e : i = n
    · subst e
      rw [joins,List.getElem?_append_right (by rw [joins_len]; exact Nat.le_refl _),joins_len,Nat.sub_self]
      rfl
    · rw [joins,List.getElem?_append_left (by rw [joins_len]; omega)]
      exact joins_at pub ws lv row n i (by omega)
theorem joins_pre {pub ws : List Int} {lv : Nat} {row row' : List (List Int)} : ∀ (n : Nat),(∀ i,i < 2 * n → row.getD i [] = row'.getD i []) → joins pub ws lv row n = joins pub ws lv row' n
  | 0,_ => rfl
  | n + 1,h => by
    rw [joins,joins,joins_pre n (fun i hi => h i (by omega)),h (2 * n) (by omega),h (2 * n + 1) (by omega)]
theorem take_getD {C : List (List Int)} {m i : Nat} (h : i < m) : (C.take m).getD i [] = C.getD i []:=by
  simp only [List.getD,List.getElem?_take,if_pos h]
def nextC (pub ws : List Int) (lv : Nat) (C : List (List Int)) (m : Nat) : List (List Int) :=
  if m % 2 = 1 then ((joins pub ws lv C (m / 2)) ++ C.drop (m / 2)).set (m / 2) (C.getD (m - 1) []) else joins pub ws lv C (m / 2) ++ C.drop (m / 2)
theorem nextC_len (pub ws : List Int) (lv : Nat) {C : List (List Int)} {m : Nat} (h : m ≤ C.length) : (nextC pub ws lv C m).length = C.length:=by
  unfold nextC
  split
  · rw [List.length_set,List.length_append,joins_len,List.length_drop]; omega
  · rw [List.length_append,joins_len,List.length_drop]; omega
theorem nextC_take (pub ws : List Int) (lv : Nat) {C : List (List Int)} {m : Nat} (h : m ≤ C.length) (h1 : 1 ≤ m) : (nextC pub ws lv C m).take ((m + 1) / 2) = nextR pub ws lv (C.take m):=by
  have hl : (C.take m).length = m:=by rw [List.length_take]; omega
  have hj : joins pub ws lv (C.take m) (m / 2) = joins pub ws lv C (m / 2):=joins_pre _ fun i hi => take_getD (by omega)
  have hjl:=joins_len pub ws lv C (m / 2)
  unfold nextC nextR
  rw [hl,hj]
  split
  · rename_i ho
    have hd : C.drop (m / 2) = C[m / 2]'(by omega) :: C.drop (m / 2 + 1):=List.drop_eq_getElem_cons (by omega)
    rw [hd,List.set_append_right _ _ (by omega),hjl,Nat.sub_self,List.set_cons_zero,show (m + 1) / 2 = m / 2 + 1 by omega,take_getD (show m - 1 < m by omega)]
    have e : joins pub ws lv C (m / 2) ++ C.getD (m - 1) [] :: C.drop (m / 2 + 1) = (joins pub ws lv C (m / 2) ++ [C.getD (m - 1) []]) ++ C.drop (m / 2 + 1):=by rw [List.append_assoc]; rfl
    rw [e,List.take_append_of_le_length (by rw [List.length_append,hjl,List.length_singleton]; exact Nat.le_refl _),List.take_of_length_le (by rw [List.length_append,hjl,List.length_singleton]; exact Nat.le_refl _)]
  · rw [show (m + 1) / 2 = m / 2 by omega,List.take_append_of_le_length (by omega),List.take_of_length_le (by omega)]
theorem nextC_good (pub ws : List Int) (lv : Nat) {C : List (List Int)} {m : Nat} (h : m ≤ C.length) (h1 : 1 ≤ m) (hg : ∀ d ∈ C,goodD d) : ∀ d ∈ nextC pub ws lv C m,goodD d:=by
  have base : ∀ d ∈ joins pub ws lv C (m / 2) ++ C.drop (m / 2),goodD d:=fun d hd => by
    rcases List.mem_append.1 hd with hd | hd
    · exact joins_good _ _ _ _ _ d hd
    · exact hg d (List.mem_of_mem_drop hd)
  intro d hd
  unfold nextC at hd
  split at hd
  · rcases List.mem_or_eq_of_mem_set hd with hd | rfl
    · exact base d hd
    · exact getD_good hg (by omega)
  · exact base d hd
theorem compress_spec09 (pub ws : List Int) (row : List (List Int)) (n : Nat) (hp : goodD pub) (hw : goodW ws) (hn : row.length = n) (h1 : 1 ≤ n) (h2 : n ≤ 67) (hg : ∀ d ∈ row,goodD d) :
    FnC Tryz.prog 174 [.sl (.lst 32 n (row.map dg)),.ints .u8 32 pub,.ints .u32 8 ws] [] (.tup [.ints .u8 32 (compressD pub ws row),.int .i64 0]) []:=by
  have hdn : (List.replicate n (AV.ints .u8 32 (List.replicate 32 0))).drop n = []:=List.drop_of_length_le (by rw [List.length_replicate]; exact Nat.le_refl _)
  refine fn0 mix pl174 0 3 [.cell 6 25,.tmp 7] Tryz.func174 rfl (by kernel_rfl) (by kernel_rfl) rfl (by kernel_rfl) (by kernel_rfl) (by simp) ?_
  simp -implicitDefEqProofs (disch:=omega) only [go_sem,↓reduceIte]
  refine brd (fun h => by omega) (fun h => ?_)
  simp -implicitDefEqProofs (disch:=omega) only [go_sem,↓reduceIte]
  refine brd (fun h => by omega) (fun h => ?_)
  simp -implicitDefEqProofs (disch:=omega) only [go_sem,↓reduceIte]
  refine brd (fun h => by omega) (fun h => ?_)
  simp -implicitDefEqProofs (disch:=omega) only [go_sem,↓reduceIte,hdn]
  refine loop (ι:=Nat × Nat × List (List Int)) 4 (fun s => s.1 + s.2.1 ≤ n + 1 ∧ 1 ≤ s.2.1 ∧ s.2.1 ≤ n ∧ s.2.2.length = n ∧ (∀ d ∈ s.2.2,goodD d) ∧ upD pub ws s.2.1 s.1 (s.2.2.take s.2.1) = compressD pub ws row)
    (fun s => [(4,.ref 0 []),(5,.ref 1 []),(6,.ref 2 []),(7,.int .i64 0),(8,.osl 3 [] 32 0 s.2.1),(9,.int .u32 s.1)])
    (fun s => [(0,.var (.ints .u8 32 pub)),(1,.var (.ints .u32 8 ws)),(2,.var (.ints .u8 32 (List.replicate 32 0))),(3,.row (.lst 32 n (s.2.2.map dg)))]) (fun s => s.2.1) (0,n,row) [(0,0),(1,1),(2,2),(3,3)] []
    ⟨(show 0 + n ≤ n + 1 by omega),h1,Nat.le_refl _,hn,hg,by show upD pub ws n 0 (row.take n) = _; rw [List.take_of_length_le (by omega),compressD,hn]⟩ rfl ?_ ?_ ?_ (fun s hs => ?_)
  · simp -implicitDefEqProofs (disch:=omega) only [go_sem,↓reduceIte]
  · simp -implicitDefEqProofs (disch:=omega) only [go_sem,↓reduceIte]
  · simp -implicitDefEqProofs (disch:=omega) only [go_sem,↓reduceIte]
  obtain ⟨lv,m,C⟩:=s
  obtain ⟨q1,q2,q3,q4,q5,q6⟩:=hs
  dsimp only at q1 q2 q3 q4 q5 q6 ⊢
  simp -implicitDefEqProofs (disch:=omega) only [go_sem,↓reduceIte]
  refine brd (fun h => ?_) (fun h => ?_)
  · have d2 : (m : Int).tdiv 2 = (m / 2 : Nat):=by rw [Int.tdiv_eq_ediv_of_nonneg (by omega)]; omega
    have t2 : (m : Int).tmod 2 = (m % 2 : Nat):=by rw [Int.tmod_eq_emod_of_nonneg (by omega)]; omega
    simp -implicitDefEqProofs (disch:=omega) only [go_sem,↓reduceIte,d2]
    have hjl:=joins_len pub ws lv C (m / 2)
    refine loop (ι:=Nat) 4 (fun i => i ≤ m / 2) (fun i => [(4,.ref 0 []),(5,.ref 1 []),(6,.ref 2 []),(7,.int .i64 0),(8,.osl 3 [] 32 0 m),(9,.int .u32 lv),(10,.int .i64 (m / 2 : Nat)),(35,.int .i64 (m / 2 : Nat)),(36,.int .i64 i)])
      (fun i => [(0,.var (.ints .u8 32 pub)),(1,.var (.ints .u32 8 ws)),(2,.var (.ints .u8 32 (List.replicate 32 0))),(3,.row (.lst 32 n (((joins pub ws lv C (m / 2)).take i ++ C.drop i).map dg)))]) (fun i => m / 2 - i) 0 [(0,0),(1,1),(2,2),(3,3)] [] (Nat.zero_le _) rfl ?_ ?_ ?_ (fun i hi => ?_)
    · simp -implicitDefEqProofs (disch:=omega) only [go_sem,↓reduceIte]
    · simp -implicitDefEqProofs (disch:=omega) only [go_sem,↓reduceIte]
    · simp -implicitDefEqProofs (disch:=omega) only [go_sem,↓reduceIte,List.take_zero,List.drop_zero,List.nil_append]
    simp -implicitDefEqProofs (disch:=omega) only [go_sem,↓reduceIte]
    refine brd (fun h5 => ?_) (fun h5 => ?_)
    · have ga:=fun K => getP_map (f:=dg) (wr_get (C:=C) (P:=joins pub ws lv C (m / 2)) (i:=i) (j:=2 * i) (by omega) (by omega) (getD_some' (by omega))) K
      have gb:=fun K => getP_map (f:=dg) (wr_get (C:=C) (P:=joins pub ws lv C (m / 2)) (i:=i) (j:=2 * i + 1) (by omega) (by omega) (getD_some' (by omega))) K
      have hwl : (((joins pub ws lv C (m / 2)).take i ++ C.drop i).map dg).length = n:=by rw [List.length_map,List.length_append,List.length_take,List.length_drop]; omega
      obtain ⟨d,hd⟩ : ∃ d,(((joins pub ws lv C (m / 2)).take i ++ C.drop i)[i]? = some d):=⟨_,wr_get (by omega) (Nat.le_refl _) (getD_some' (by omega))⟩
      have gc:=fun K => getP_map (f:=dg) hd K
      have hset:=wr_set (joins_at pub ws lv C (m / 2) i (by omega)) (show i < C.length by omega)
      have hga:=getD_good q5 (show 2 * i < C.length by omega)
      have hgb:=getD_good q5 (show 2 * i + 1 < C.length by omega)
      have i1 : (2 * (i : Int)).toNat = 2 * i:=by omega
      have i2 : (2 * (i : Int) + 1).toNat = 2 * i + 1:=by omega
      have hs : ((ws.set 5 lv).set 6 i).set 7 0 = adrL ws lv i:=rfl
      simp only [dg] at hset
      simp -implicitDefEqProofs (disch:=omega) only [go_sem,↓reduceIte,i1,i2,hwl,ga,gb,dg]
      refine call0 (at_spec ws lv i) ?_
      rw [hs]
      simp -implicitDefEqProofs (disch:=omega) only [go_sem,↓reduceIte]
      refine call0 (join_spec09 _ _ pub _ hga hgb hp (adrL_good hw (by omega) (by omega))) ?_
      simp -implicitDefEqProofs (disch:=omega) only [go_sem,↓reduceIte,hwl,gc,dg,hset]
      refine ⟨i + 1,[(0,0),(1,1),(2,2),(3,3)],[],[],by dsimp only; omega,by dsimp only; omega,rfl,?_,?_,?_⟩ <;> simp -implicitDefEqProofs (disch:=omega) only [go_sem,↓reduceIte]
    obtain rfl : i = m / 2:=by omega
    have hle : lv + 1 < 4294967296:=by omega
    rw [List.take_of_length_le (by omega)]
    simp -implicitDefEqProofs (disch:=omega) only [go_sem,↓reduceIte,t2]
    have hnc:=nextC_len pub ws lv (C:=C) (m:=m) (by omega)
    have hnt:=nextC_take pub ws lv (C:=C) (m:=m) (by omega) q2
    have hng:=nextC_good pub ws lv (C:=C) (m:=m) (by omega) q2 q5
    have hup : upD pub ws ((m + 1) / 2) (lv + 1) ((nextC pub ws lv C m).take ((m + 1) / 2)) = compressD pub ws row:=by
      rw [← q6,hnt]
      obtain ⟨f,hf⟩ : ∃ f,m = f + 1:=⟨m - 1,by omega⟩
      have hl : (C.take m).length = m:=by rw [List.length_take]; omega
      have key : ∀ k : Nat,k = f + 1 → ∀ R : List (List Int),1 < R.length → upD pub ws k lv R = upD pub ws f (lv + 1) (nextR pub ws lv R):=by
        intro k hk R hR; subst hk; rw [upD,if_neg (by omega)]
      have this:=key m hf (C.take m) (by omega)
      rw [this]
      exact upD_fuel _ _ _ _ _ _ (by rw [nextR_len,hl]; omega) (by rw [nextR_len,hl]; omega)
    refine brd (fun h6 => ?_) (fun h6 => ?_)
    · have en : nextC pub ws lv C m = ((joins pub ws lv C (m / 2)) ++ C.drop (m / 2)).set (m / 2) (C.getD (m - 1) []):=by unfold nextC; rw [if_pos (by omega)]
      have gl:=fun K => getP_map (f:=dg) (wr_get (C:=C) (P:=joins pub ws lv C (m / 2)) (i:=m / 2) (j:=m - 1) (by omega) (by omega) (getD_some' (by omega))) K
      have gh:=fun K => getP_map (f:=dg) (wr_get (C:=C) (P:=joins pub ws lv C (m / 2)) (i:=m / 2) (j:=m / 2) (by omega) (Nat.le_refl _) (getD_some' (by omega))) K
      rw [List.take_of_length_le (show (joins pub ws lv C (m / 2)).length ≤ m / 2 by omega)] at gl gh
      have hwl : ((joins pub ws lv C (m / 2) ++ C.drop (m / 2)).map dg).length = n:=by rw [List.length_map,List.length_append,List.length_drop]; omega
      have i5 : ((m : Int) - 1).toNat = m - 1:=by omega
      have hset : ((joins pub ws lv C (m / 2) ++ C.drop (m / 2)).map dg).set (m / 2) (.ints .u8 32 (C.getD (m - 1) [])) = (nextC pub ws lv C m).map dg:=by rw [en,List.map_set]; rfl
      have em : (m + 1) / 2 = m / 2 + 1:=by omega
      rw [em] at hup
      have i6 : (((m / 2 : Nat) : Int) + 1).toNat = m / 2 + 1:=by omega
      simp -implicitDefEqProofs (disch:=omega) only [go_sem,↓reduceIte,i5,i6,hwl,gl,gh,dg,hset]
      refine ⟨(lv + 1,m / 2 + 1,nextC pub ws lv C m),[(0,0),(1,1),(2,2),(3,3)],[],[],⟨by dsimp only; omega,by dsimp only; omega,by dsimp only; omega,by dsimp only; omega,hng,hup⟩,by dsimp only; omega,rfl,?_,?_,?_⟩ <;> simp -implicitDefEqProofs (disch:=omega) only [go_sem,↓reduceIte]
    · have en : nextC pub ws lv C m = joins pub ws lv C (m / 2) ++ C.drop (m / 2):=by unfold nextC; rw [if_neg (by omega)]
      have em : (m + 1) / 2 = m / 2:=by omega
      rw [em] at hup
      simp -implicitDefEqProofs (disch:=omega) only [go_sem,↓reduceIte,← en]
      refine ⟨(lv + 1,m / 2,nextC pub ws lv C m),[(0,0),(1,1),(2,2),(3,3)],[],[],⟨by dsimp only; omega,by dsimp only; omega,by dsimp only; omega,by dsimp only; omega,hng,hup⟩,by dsimp only; omega,rfl,?_,?_,?_⟩ <;> simp -implicitDefEqProofs (disch:=omega) only [go_sem,↓reduceIte,en]
  · obtain rfl : m = 1:=by omega
    have g0:=fun K => getP_map (f:=dg) (getD_some' (row:=C) (i:=0) (by omega)) K
    have e : upD pub ws 1 lv (C.take 1) = C.getD 0 []:=by
      rw [upD,if_pos (by rw [List.length_take]; omega),take_getD (by decide)]
    rw [e] at q6
    rw [← q6]
    simp -implicitDefEqProofs (disch:=omega) only [go_sem,↓reduceIte,g0,dg,List.length_map,q4]
    omega
theorem digests_of {bs : Nat} {x : AV} (h : TD.has (.sl bs (.arr 32 (.int .u8))) x) : ∃ ds : List (List Int),x = .sl (.lst 32 ds.length (ds.map dg)) ∧ (∀ d ∈ ds,goodD d) ∧ ds.length ≤ 9223372036854775807:=by
  simp only [TD.has,TD.ik,TD.cs] at h
  obtain ⟨es,rfl,_,hl,he⟩:=h
  obtain ⟨ds,rfl,hd⟩:=ex_map' (f:=dg) (Q:=goodD) (es:=es) (fun x hx => by
    obtain ⟨xs,rfl,h1,h2⟩:=he x hx
    exact ⟨xs,rfl,h1,fun y hy => wf_u8 (h2 y hy)⟩)
  exact ⟨ds,by simp,hd,by rw [List.length_map] at hl; exact hl⟩
attribute [go_sem] pl219 pl234 pl261
def rowN (f : Nat → List Int) (n : Nat) : List (List Int):=(List.range n).map f
theorem rowN_len (f : Nat → List Int) (n : Nat) : (rowN f n).length = n:=by simp [rowN]
theorem rowN_succ (f : Nat → List Int) (n : Nat) : rowN f (n + 1) = rowN f n ++ [f n]:=by simp [rowN,List.range_succ]
theorem rowN_at (f : Nat → List Int) {n i : Nat} (h : i < n) : (rowN f n)[i]? = some (f i):=by simp [rowN,h]
theorem rowN_congr {f g : Nat → List Int} {n : Nat} (h : ∀ i,i < n → f i = g i) : rowN f n = rowN g n:=List.map_congr_left fun i hi => h i (List.mem_range.1 hi)
theorem rowN_good {f : Nat → List Int} {n : Nat} (h : ∀ i,i < n → goodD (f i)) : ∀ d ∈ rowN f n,goodD d:=by
  intro d hd
  obtain ⟨i,hi,rfl⟩:=List.mem_map.1 hd
  exact h i (List.mem_range.1 hi)
theorem rowN_getD (f : Nat → List Int) {n i : Nat} (h : i < n) : (rowN f n).getD i [] = f i:=by simp [List.getD,rowN_at f h]
def secD (seed ws : List Int) (i : Nat) : List Int:=ofD 3 seed (bytesA (adrL ws i 0))
theorem secD_good (seed ws : List Int) (i : Nat) : goodD (secD seed ws i):=ofD_good _ _ _
theorem runD_good {x : List Int} (h : goodD x) (pub ws : List Int) (i : Int) (n : Nat) : goodD (runD pub ws x i n):=⟨runD_len h.1 _ _ _ _,runD_mem h.2 _ _ _ _⟩
def pubD (seed pub ws : List Int) (i : Nat) : List Int:=runD pub (adrL ws i 0) (secD seed ws i) 0 15
def dgt (m : List Int) (i : Nat) : Nat:=((digs m).getD i 0).toNat
def signD (m seed pub ws : List Int) (i : Nat) : List Int:=runD pub (adrL ws i 0) (secD seed ws i) 0 (dgt m i)
def leadD (l : List (List Int)) (m pub ws : List Int) (i : Nat) : List Int:=runD pub (adrL ws i 0) (l.getD i []) (dgt m i) (15 - dgt m i)
theorem dgt_int {m : List Int} (hm : goodD m) {i : Nat} (h : i < 67) : (digs m).getD i 0 = (dgt m i : Int) ∧ dgt m i ≤ 15:=by
  have hl:=digs_len hm.1
  have hx:=getD_all' (digs_mem hm.2) (show i < (digs m).length by omega)
  unfold dgt
  omega
theorem pubD_good (seed pub ws : List Int) (i : Nat) : goodD (pubD seed pub ws i):=runD_good (secD_good _ _ _) _ _ _ _
theorem signD_good (m seed pub ws : List Int) (i : Nat) : goodD (signD m seed pub ws i):=runD_good (secD_good _ _ _) _ _ _ _
theorem lead_sign {m : List Int} (hm : goodD m) (seed pub ws : List Int) {i : Nat} (h : i < 67) : leadD (rowN (signD m seed pub ws) 67) m pub ws i = pubD seed pub ws i:=by
  have hd:=(dgt_int hm h).2
  have j:=runD_join pub (adrL ws i 0) (secD seed ws i) 0 (dgt m i) (15 - dgt m i)
  unfold leadD pubD
  rw [rowN_getD _ h,signD]
  rw [Int.zero_add] at j
  rw [j]
  congr 1; omega
theorem wrun_spec (x pub ws : List Int) (a b : Nat) (hab : a ≤ b) (hb : b ≤ 15) (hx : goodD x) (hp : goodD pub) (hw : goodW ws) : FnC Tryz.prog 220 [.ints .u8 32 x,.int .i64 a,.int .i64 b,.ints .u8 32 pub,.ints .u32 8 ws] [] (.ints .u8 32 (runD pub ws x a (b - a))) []:=by
  have h:=run_spec x pub ws a (b - a) (by omega) (by omega) hx.1 hx.2 hp.1 hp.2 hw.1 hw.2
  have e : (b : Int) - a = ((b - a : Nat) : Int):=by omega
  refine fn0 mix [] 0 5 [.cell 10 25] Tryz.func220 rfl (by kernel_rfl) (by kernel_rfl) rfl (by kernel_rfl) (by kernel_rfl) (by simp) ?_
  simp -implicitDefEqProofs (disch:=omega) only [go_sem,↓reduceIte]
  rw [e]
  refine call0 h ?_
  simp -implicitDefEqProofs (disch:=omega) only [go_sem,↓reduceIte]
theorem each2_spec (ws seed pub : List Int) (f : Nat → List Int) (hf : ∀ i : Nat,i < 67 → FnC Tryz.prog 261 [.int .i64 i,.ints .u32 8 (adrL ws i 0),.ref 0 [],.ref 1 []] [(0,.var (.ints .u8 32 seed)),(1,.var (.ints .u8 32 pub))] (.ints .u8 32 (f i)) [(0,.var (.ints .u8 32 seed)),(1,.var (.ints .u8 32 pub))]) :
    FnC Tryz.prog 218 [.ints .u32 8 ws,.fn (.func 261) [.ref 0 [],.ref 1 []]] [(0,.var (.ints .u8 32 seed)),(1,.var (.ints .u8 32 pub))] (.osl 2 [] 32 0 67) [(0,.var (.ints .u8 32 seed)),(1,.var (.ints .u8 32 pub)),(2,.row (.lst 32 67 ((rowN f 67).map dg)))]:=by
  refine fnN mix [] 2 2 [.tmp 4] Tryz.func218 rfl (by kernel_rfl) (by kernel_rfl) rfl (by kernel_rfl) (by kernel_rfl) (by simp) ?_
  simp -implicitDefEqProofs (disch:=omega) only [go_sem,↓reduceIte]
  refine loop (ι:=Nat) 4 (fun i => i ≤ 67) (fun i => [(1,.fn (.func 261) [.ref 0 [],.ref 1 []]),(2,.ref 2 []),(5,.osl 3 [] 32 0 67),(9,.int .i64 67),(10,.int .i64 i)])
    (fun i => [(0,.var (.ints .u8 32 seed)),(1,.var (.ints .u8 32 pub)),(2,.var (.ints .u32 8 ws)),(3,.row (.lst 32 67 ((rowN f i ++ List.replicate (67 - i) z32').map dg)))]) (fun i => 67 - i) 0 [(0,0),(1,1),(2,2),(3,3)] [] (Nat.zero_le _) rfl ?_ ?_ ?_ (fun i hi => ?_)
  · simp -implicitDefEqProofs (disch:=omega) only [go_sem,↓reduceIte]
  · simp -implicitDefEqProofs (disch:=omega) only [go_sem,↓reduceIte]
  · simp -implicitDefEqProofs (disch:=omega) only [go_sem,↓reduceIte,rowN,List.range_zero,List.map_replicate,dg,z32']
  simp -implicitDefEqProofs (disch:=omega) only [go_sem,↓reduceIte]
  refine brd (fun h => ?_) (fun h => ?_)
  · have hcl:=rowN_len f i
    have hle : ((rowN f i ++ List.replicate (67 - i) z32').map dg).length = 67:=by simp [hcl]; omega
    have hgi : (rowN f i ++ List.replicate (67 - i) z32')[i]? = some z32':=by
      rw [List.getElem?_append_right (by omega),hcl,Nat.sub_self,List.getElem?_replicate,if_pos (by omega)]
    have hg:=fun K => getP_map (f:=dg) hgi K
    have hset : ((rowN f i ++ List.replicate (67 - i) z32').map dg).set i (.ints .u8 32 (f i)) = (rowN f (i + 1) ++ List.replicate (67 - (i + 1)) z32').map dg:=by
      rw [rowN_succ,← set_mid' (rowN f i) z32' (f i) (67 - (i + 1)) i hcl,show 67 - (i + 1) + 1 = 67 - i by omega,List.map_set]
      rfl
    have hs : ((ws.set 5 i).set 6 0).set 7 0 = adrL ws i 0:=rfl
    simp -implicitDefEqProofs (disch:=omega) only [go_sem,↓reduceIte]
    refine call0 (at_spec ws i 0) ?_
    rw [hs]
    simp -implicitDefEqProofs (disch:=omega) only [go_sem,↓reduceIte]
    refine callG false [(0,0),(1,1)] [(0,0),(1,1)] 4 (hf i (by omega)) ?_ ?_
    · simp [keys]
    simp -implicitDefEqProofs (disch:=omega) only [go_sem,↓reduceIte,hle,hg,dg,hset]
    refine ⟨i + 1,[(0,0),(1,1),(2,2),(3,3)],[],[],by dsimp only; omega,by dsimp only; omega,rfl,?_,?_,?_⟩ <;> simp -implicitDefEqProofs (disch:=omega) only [go_sem,↓reduceIte]
  obtain rfl : i = 67:=by omega
  simp -implicitDefEqProofs (disch:=omega) only [go_sem,↓reduceIte]
  refine ⟨[(0,0),(1,1),(2,3)],[],[],rfl,?_,?_,?_⟩ <;> simp -implicitDefEqProofs (disch:=omega) only [go_sem,↓reduceIte,Nat.sub_self,List.append_nil]
theorem each3_spec (ws seed dl pub : List Int) (f : Nat → List Int) (hf : ∀ i : Nat,i < 67 → FnC Tryz.prog 234 [.int .i64 i,.ints .u32 8 (adrL ws i 0),.ref 0 [],.ref 1 [],.ref 2 []] [(0,.var (.ints .u8 32 seed)),(1,.var (.ints .i64 67 dl)),(2,.var (.ints .u8 32 pub))] (.ints .u8 32 (f i)) [(0,.var (.ints .u8 32 seed)),(1,.var (.ints .i64 67 dl)),(2,.var (.ints .u8 32 pub))]) :
    FnC Tryz.prog 218 [.ints .u32 8 ws,.fn (.func 234) [.ref 0 [],.ref 1 [],.ref 2 []]] [(0,.var (.ints .u8 32 seed)),(1,.var (.ints .i64 67 dl)),(2,.var (.ints .u8 32 pub))] (.osl 3 [] 32 0 67) [(0,.var (.ints .u8 32 seed)),(1,.var (.ints .i64 67 dl)),(2,.var (.ints .u8 32 pub)),(3,.row (.lst 32 67 ((rowN f 67).map dg)))]:=by
  refine fnN mix [] 3 2 [.tmp 4] Tryz.func218 rfl (by kernel_rfl) (by kernel_rfl) rfl (by kernel_rfl) (by kernel_rfl) (by simp) ?_
  simp -implicitDefEqProofs (disch:=omega) only [go_sem,↓reduceIte]
  refine loop (ι:=Nat) 5 (fun i => i ≤ 67) (fun i => [(1,.fn (.func 234) [.ref 0 [],.ref 1 [],.ref 2 []]),(2,.ref 3 []),(5,.osl 4 [] 32 0 67),(9,.int .i64 67),(10,.int .i64 i)])
    (fun i => [(0,.var (.ints .u8 32 seed)),(1,.var (.ints .i64 67 dl)),(2,.var (.ints .u8 32 pub)),(3,.var (.ints .u32 8 ws)),(4,.row (.lst 32 67 ((rowN f i ++ List.replicate (67 - i) z32').map dg)))]) (fun i => 67 - i) 0 [(0,0),(1,1),(2,2),(3,3),(4,4)] [] (Nat.zero_le _) rfl ?_ ?_ ?_ (fun i hi => ?_)
  · simp -implicitDefEqProofs (disch:=omega) only [go_sem,↓reduceIte]
  · simp -implicitDefEqProofs (disch:=omega) only [go_sem,↓reduceIte]
  · simp -implicitDefEqProofs (disch:=omega) only [go_sem,↓reduceIte,rowN,List.range_zero,List.map_replicate,dg,z32']
  simp -implicitDefEqProofs (disch:=omega) only [go_sem,↓reduceIte]
  refine brd (fun h => ?_) (fun h => ?_)
  · have hcl:=rowN_len f i
    have hle : ((rowN f i ++ List.replicate (67 - i) z32').map dg).length = 67:=by simp [hcl]; omega
    have hgi : (rowN f i ++ List.replicate (67 - i) z32')[i]? = some z32':=by
      rw [List.getElem?_append_right (by omega),hcl,Nat.sub_self,List.getElem?_replicate,if_pos (by omega)]
    have hg:=fun K => getP_map (f:=dg) hgi K
    have hset : ((rowN f i ++ List.replicate (67 - i) z32').map dg).set i (.ints .u8 32 (f i)) = (rowN f (i + 1) ++ List.replicate (67 - (i + 1)) z32').map dg:=by
      rw [rowN_succ,← set_mid' (rowN f i) z32' (f i) (67 - (i + 1)) i hcl,show 67 - (i + 1) + 1 = 67 - i by omega,List.map_set]
      rfl
    have hs : ((ws.set 5 i).set 6 0).set 7 0 = adrL ws i 0:=rfl
    simp -implicitDefEqProofs (disch:=omega) only [go_sem,↓reduceIte]
    refine call0 (at_spec ws i 0) ?_
    rw [hs]
    simp -implicitDefEqProofs (disch:=omega) only [go_sem,↓reduceIte]
    refine callG false [(0,0),(1,1),(2,2)] [(0,0),(1,1),(2,2)] 5 (hf i (by omega)) ?_ ?_
    · simp [keys]
    simp -implicitDefEqProofs (disch:=omega) only [go_sem,↓reduceIte,hle,hg,dg,hset]
    refine ⟨i + 1,[(0,0),(1,1),(2,2),(3,3),(4,4)],[],[],by dsimp only; omega,by dsimp only; omega,rfl,?_,?_,?_⟩ <;> simp -implicitDefEqProofs (disch:=omega) only [go_sem,↓reduceIte]
  obtain rfl : i = 67:=by omega
  simp -implicitDefEqProofs (disch:=omega) only [go_sem,↓reduceIte]
  refine ⟨[(0,0),(1,1),(2,2),(3,4)],[],[],rfl,?_,?_,?_⟩ <;> simp -implicitDefEqProofs (disch:=omega) only [go_sem,↓reduceIte,Nat.sub_self,List.append_nil]
theorem each4_spec (ws : List Int) (l : List (List Int)) (dl pub : List Int) (f : Nat → List Int) (hf : ∀ i : Nat,i < 67 → FnC Tryz.prog 219 [.int .i64 i,.ints .u32 8 (adrL ws i 0),.ref 0 [],.ref 1 [],.ref 2 []] [(0,.var (.sl (.lst 32 67 (l.map dg)))),(1,.var (.ints .i64 67 dl)),(2,.var (.ints .u8 32 pub))] (.ints .u8 32 (f i)) [(0,.var (.sl (.lst 32 67 (l.map dg)))),(1,.var (.ints .i64 67 dl)),(2,.var (.ints .u8 32 pub))]) :
    FnC Tryz.prog 218 [.ints .u32 8 ws,.fn (.func 219) [.ref 0 [],.ref 1 [],.ref 2 []]] [(0,.var (.sl (.lst 32 67 (l.map dg)))),(1,.var (.ints .i64 67 dl)),(2,.var (.ints .u8 32 pub))] (.osl 3 [] 32 0 67) [(0,.var (.sl (.lst 32 67 (l.map dg)))),(1,.var (.ints .i64 67 dl)),(2,.var (.ints .u8 32 pub)),(3,.row (.lst 32 67 ((rowN f 67).map dg)))]:=by
  refine fnN mix [] 3 2 [.tmp 4] Tryz.func218 rfl (by kernel_rfl) (by kernel_rfl) rfl (by kernel_rfl) (by kernel_rfl) (by simp) ?_
  simp -implicitDefEqProofs (disch:=omega) only [go_sem,↓reduceIte]
  refine loop (ι:=Nat) 5 (fun i => i ≤ 67) (fun i => [(1,.fn (.func 219) [.ref 0 [],.ref 1 [],.ref 2 []]),(2,.ref 3 []),(5,.osl 4 [] 32 0 67),(9,.int .i64 67),(10,.int .i64 i)])
    (fun i => [(0,.var (.sl (.lst 32 67 (l.map dg)))),(1,.var (.ints .i64 67 dl)),(2,.var (.ints .u8 32 pub)),(3,.var (.ints .u32 8 ws)),(4,.row (.lst 32 67 ((rowN f i ++ List.replicate (67 - i) z32').map dg)))]) (fun i => 67 - i) 0 [(0,0),(1,1),(2,2),(3,3),(4,4)] [] (Nat.zero_le _) rfl ?_ ?_ ?_ (fun i hi => ?_)
  · simp -implicitDefEqProofs (disch:=omega) only [go_sem,↓reduceIte]
  · simp -implicitDefEqProofs (disch:=omega) only [go_sem,↓reduceIte]
  · simp -implicitDefEqProofs (disch:=omega) only [go_sem,↓reduceIte,rowN,List.range_zero,List.map_replicate,dg,z32']
  simp -implicitDefEqProofs (disch:=omega) only [go_sem,↓reduceIte]
  refine brd (fun h => ?_) (fun h => ?_)
  · have hcl:=rowN_len f i
    have hle : ((rowN f i ++ List.replicate (67 - i) z32').map dg).length = 67:=by simp [hcl]; omega
    have hgi : (rowN f i ++ List.replicate (67 - i) z32')[i]? = some z32':=by
      rw [List.getElem?_append_right (by omega),hcl,Nat.sub_self,List.getElem?_replicate,if_pos (by omega)]
    have hg:=fun K => getP_map (f:=dg) hgi K
    have hset : ((rowN f i ++ List.replicate (67 - i) z32').map dg).set i (.ints .u8 32 (f i)) = (rowN f (i + 1) ++ List.replicate (67 - (i + 1)) z32').map dg:=by
      rw [rowN_succ,← set_mid' (rowN f i) z32' (f i) (67 - (i + 1)) i hcl,show 67 - (i + 1) + 1 = 67 - i by omega,List.map_set]
      rfl
    have hs : ((ws.set 5 i).set 6 0).set 7 0 = adrL ws i 0:=rfl
    simp -implicitDefEqProofs (disch:=omega) only [go_sem,↓reduceIte]
    refine call0 (at_spec ws i 0) ?_
    rw [hs]
    simp -implicitDefEqProofs (disch:=omega) only [go_sem,↓reduceIte]
    refine callG false [(0,0),(1,1),(2,2)] [(0,0),(1,1),(2,2)] 5 (hf i (by omega)) ?_ ?_
    · simp [keys]
    simp -implicitDefEqProofs (disch:=omega) only [go_sem,↓reduceIte,hle,hg,dg,hset]
    refine ⟨i + 1,[(0,0),(1,1),(2,2),(3,3),(4,4)],[],[],by dsimp only; omega,by dsimp only; omega,rfl,?_,?_,?_⟩ <;> simp -implicitDefEqProofs (disch:=omega) only [go_sem,↓reduceIte]
  obtain rfl : i = 67:=by omega
  simp -implicitDefEqProofs (disch:=omega) only [go_sem,↓reduceIte]
  refine ⟨[(0,0),(1,1),(2,2),(3,4)],[],[],rfl,?_,?_,?_⟩ <;> simp -implicitDefEqProofs (disch:=omega) only [go_sem,↓reduceIte,Nat.sub_self,List.append_nil]
section
variable (seed pub m ws : List Int) (hs : goodD seed) (hp : goodD pub) (hm : goodD m) (hw : goodW ws)
include hs hp hw in
theorem wpublic_spec : FnC Tryz.prog 237 [.ints .u8 32 seed,.ints .u8 32 pub,.ints .u32 8 ws] [] (.osl 0 [] 32 0 67) [(0,.row (.lst 32 67 ((rowN (pubD seed pub ws) 67).map dg)))]:=by
  have hf : ∀ i : Nat,i < 67 → FnC Tryz.prog 261 [.int .i64 i,.ints .u32 8 (adrL ws i 0),.ref 0 [],.ref 1 []] [(0,.var (.ints .u8 32 seed)),(1,.var (.ints .u8 32 pub))] (.ints .u8 32 (pubD seed pub ws i)) [(0,.var (.ints .u8 32 seed)),(1,.var (.ints .u8 32 pub))]:=fun i hi => by
    have ha:=adrL_good hw (lv:=i) (i:=0) (by omega) (by decide)
    have hr:=wrun_spec (secD seed ws i) pub (adrL ws i 0) 0 15 (by decide) (by decide) (secD_good _ _ _) hp ha
    simp only [Int.natCast_zero,Int.cast_ofNat_Int,Nat.sub_zero] at hr
    have e : ofD 3 seed (bytesA (adrL ws i 0)) = secD seed ws i:=rfl
    refine fnN mix pl261 2 4 [.cell 6 25] Tryz.func261 rfl (by kernel_rfl) (by kernel_rfl) rfl (by kernel_rfl) (by kernel_rfl) (by simp) ?_
    simp -implicitDefEqProofs (disch:=omega) only [go_sem,↓reduceIte]
    refine call0 (atk_spec seed (adrL ws i 0) hs.1 hs.2 ha.1 ha.2) ?_
    rw [e]
    simp -implicitDefEqProofs (disch:=omega) only [go_sem,↓reduceIte]
    refine call0 hr ?_
    simp -implicitDefEqProofs (disch:=omega) only [go_sem,↓reduceIte]
    refine ⟨[(0,0),(1,1)],[],[],rfl,?_,?_,?_⟩ <;> simp -implicitDefEqProofs (disch:=omega) only [go_sem,↓reduceIte,pubD]
  refine fnN mix [] 0 3 [.tmp 6] Tryz.func237 rfl (by kernel_rfl) (by kernel_rfl) rfl (by kernel_rfl) (by kernel_rfl) (by simp) ?_
  simp -implicitDefEqProofs (disch:=omega) only [go_sem,↓reduceIte]
  refine callG false [(0,0),(1,1)] [(0,0),(1,1),(2,3)] 4 (each2_spec ws seed pub _ hf) ?_ ?_
  · simp [keys]
  simp -implicitDefEqProofs (disch:=omega) only [go_sem,↓reduceIte]
  refine ⟨[(0,3)],[],[],rfl,?_,?_,?_⟩ <;> simp -implicitDefEqProofs (disch:=omega) only [go_sem,↓reduceIte]
include hs hp hm hw in
theorem wsign_spec : FnC Tryz.prog 203 [.ints .u8 32 m,.ints .u8 32 seed,.ints .u8 32 pub,.ints .u32 8 ws] [] (.osl 0 [] 32 0 67) [(0,.row (.lst 32 67 ((rowN (signD m seed pub ws) 67).map dg)))]:=by
  have hf : ∀ i : Nat,i < 67 → FnC Tryz.prog 234 [.int .i64 i,.ints .u32 8 (adrL ws i 0),.ref 0 [],.ref 1 [],.ref 2 []] [(0,.var (.ints .u8 32 seed)),(1,.var (.ints .i64 67 (digs m))),(2,.var (.ints .u8 32 pub))] (.ints .u8 32 (signD m seed pub ws i)) [(0,.var (.ints .u8 32 seed)),(1,.var (.ints .i64 67 (digs m))),(2,.var (.ints .u8 32 pub))]:=fun i hi => by
    have ha:=adrL_good hw (lv:=i) (i:=0) (by omega) (by decide)
    obtain ⟨d1,d2⟩:=dgt_int hm hi
    have hr:=wrun_spec (secD seed ws i) pub (adrL ws i 0) 0 (dgt m i) (Nat.zero_le _) d2 (secD_good _ _ _) hp ha
    simp only [Int.natCast_zero,Nat.sub_zero] at hr
    have e : ofD 3 seed (bytesA (adrL ws i 0)) = secD seed ws i:=rfl
    refine fnN mix pl234 3 5 [.cell 7 25] Tryz.func234 rfl (by kernel_rfl) (by kernel_rfl) rfl (by kernel_rfl) (by kernel_rfl) (by simp) ?_
    simp -implicitDefEqProofs (disch:=omega) only [go_sem,↓reduceIte]
    refine call0 (atk_spec seed (adrL ws i 0) hs.1 hs.2 ha.1 ha.2) ?_
    rw [e]
    simp -implicitDefEqProofs (disch:=omega) only [go_sem,↓reduceIte,d1]
    refine call0 hr ?_
    simp -implicitDefEqProofs (disch:=omega) only [go_sem,↓reduceIte]
    refine ⟨[(0,0),(1,1),(2,2)],[],[],rfl,?_,?_,?_⟩ <;> simp -implicitDefEqProofs (disch:=omega) only [go_sem,↓reduceIte,signD]
  refine fnN mix [] 0 4 [.tmp 8] Tryz.func203 rfl (by kernel_rfl) (by kernel_rfl) rfl (by kernel_rfl) (by kernel_rfl) (by simp) ?_
  simp -implicitDefEqProofs (disch:=omega) only [go_sem,↓reduceIte]
  refine call0 (of_spec m hm.1 hm.2) ?_
  simp -implicitDefEqProofs (disch:=omega) only [go_sem,↓reduceIte]
  refine callG false [(0,1),(1,4),(2,2)] [(0,1),(1,4),(2,2),(3,5)] 6 (each3_spec ws seed (digs m) pub _ hf) ?_ ?_
  · simp [keys]
  simp -implicitDefEqProofs (disch:=omega) only [go_sem,↓reduceIte]
  refine ⟨[(0,5)],[],[],rfl,?_,?_,?_⟩ <;> simp -implicitDefEqProofs (disch:=omega) only [go_sem,↓reduceIte]
include hp hm hw in
theorem wfrom_spec (l : List (List Int)) (hl : l.length = 67) (hg : ∀ d ∈ l,goodD d) : FnC Tryz.prog 172 [.sl (.lst 32 67 (l.map dg)),.ints .u8 32 m,.ints .u8 32 pub,.ints .u32 8 ws] [] (.tup [.osl 0 [] 32 0 67,.int .i64 0]) [(0,.row (.lst 32 67 ((rowN (leadD l m pub ws) 67).map dg)))]:=by
  have hf : ∀ i : Nat,i < 67 → FnC Tryz.prog 219 [.int .i64 i,.ints .u32 8 (adrL ws i 0),.ref 0 [],.ref 1 [],.ref 2 []] [(0,.var (.sl (.lst 32 67 (l.map dg)))),(1,.var (.ints .i64 67 (digs m))),(2,.var (.ints .u8 32 pub))] (.ints .u8 32 (leadD l m pub ws i)) [(0,.var (.sl (.lst 32 67 (l.map dg)))),(1,.var (.ints .i64 67 (digs m))),(2,.var (.ints .u8 32 pub))]:=fun i hi => by
    have ha:=adrL_good hw (lv:=i) (i:=0) (by omega) (by decide)
    obtain ⟨d1,d2⟩:=dgt_int hm hi
    have hgl:=fun K => getP_map (f:=dg) (getD_some' (row:=l) (i:=i) (by omega)) K
    have hr:=wrun_spec (l.getD i []) pub (adrL ws i 0) (dgt m i) 15 d2 (by decide) (getD_good hg (by omega)) hp ha
    simp only [Int.cast_ofNat_Int] at hr
    have hle : (l.map dg).length = 67:=by rw [List.length_map,hl]
    refine fnN mix pl219 3 5 [.cell 7 25] Tryz.func219 rfl (by kernel_rfl) (by kernel_rfl) rfl (by kernel_rfl) (by kernel_rfl) (by simp) ?_
    simp -implicitDefEqProofs (disch:=omega) only [go_sem,↓reduceIte,d1,hgl,dg,hle]
    refine call0 hr ?_
    simp -implicitDefEqProofs (disch:=omega) only [go_sem,↓reduceIte]
    refine ⟨[(0,0),(1,1),(2,2)],[],[],rfl,?_,?_,?_⟩ <;> simp -implicitDefEqProofs (disch:=omega) only [go_sem,↓reduceIte,leadD]
  refine fnN mix [] 0 4 [.tmp 8,.tmp 9] Tryz.func172 rfl (by kernel_rfl) (by kernel_rfl) rfl (by kernel_rfl) (by kernel_rfl) (by simp) ?_
  simp -implicitDefEqProofs (disch:=omega) only [go_sem,↓reduceIte]
  refine call0 (of_spec m hm.1 hm.2) ?_
  simp -implicitDefEqProofs (disch:=omega) only [go_sem,↓reduceIte]
  refine callG false [(0,0),(1,4),(2,2)] [(0,0),(1,4),(2,2),(3,5)] 6 (each4_spec ws l (digs m) pub _ hf) ?_ ?_
  · simp [keys]
  simp -implicitDefEqProofs (disch:=omega) only [go_sem,↓reduceIte]
  refine ⟨[(0,5)],[],[],rfl,?_,?_,?_⟩ <;> simp -implicitDefEqProofs (disch:=omega) only [go_sem,↓reduceIte]
theorem wfrom_bad_spec (l : List (List Int)) (n : Nat) (hn : n ≠ 67) : FnC Tryz.prog 172 [.sl (.lst 32 n (l.map dg)),.ints .u8 32 m,.ints .u8 32 pub,.ints .u32 8 ws] [] (.tup [.nils,.int .i64 1]) []:=by
  refine fn0 mix [] 0 4 [.tmp 8,.tmp 9] Tryz.func172 rfl (by kernel_rfl) (by kernel_rfl) rfl (by kernel_rfl) (by kernel_rfl) (by simp) ?_
  simp -implicitDefEqProofs (disch:=omega) only [go_sem,↓reduceIte]
  refine brd (fun h => by omega) (fun h => ?_)
  simp -implicitDefEqProofs (disch:=omega) only [go_sem,↓reduceIte]
end
end Go.Proofs.YtololahjocfbeaaGreat
