/- Texts,joined. -/
import Derived.Test.YtololahjocfbeaaGreatD27
import Derived.Test.YtololahjocfbeaaGreatD09
namespace Go.Proofs.YtololahjocfbeaaGreat
open Go Go.Sy Go.Proofs.Tryz
set_option maxRecDepth 100000
set_option maxHeartbeats 8000000
set_option linter.unusedSimpArgs false
set_option linter.unusedVariables false
attribute [go_sem] pl140
def treeD (f : Nat → List Int) (pub : List Int) (l t : Int) : Nat → Nat → List Int
  | 0,i => f i
  | k + 1,i => nodeD (treeD f pub l t k (2 * i)) (treeD f pub l t k (2 * i + 1)) pub l t k i
def stackN (f : Nat → List Int) (pub : List Int) (l t : Int) : Nat → List Nd
  | 0 => []
  | k + 1 => addN pub l t (stackN f pub l t k) (stackN f pub l t k).length ⟨f k,0,k⟩
def wayK (f : Nat → List Int) (pub : List Int) (l t : Int) (leaf n : Nat) : Nat → List (List Int)
  | 0 => List.replicate n z32'
  | k + 1 => wayN pub l t leaf (stackN f pub l t k) (stackN f pub l t k).length ⟨f k,0,k⟩ (seeD leaf (wayK f pub l t leaf n k) ⟨f k,0,k⟩)
def wayD (f : Nat → List Int) (pub : List Int) (l t : Int) (i n : Nat) : List (List Int):=(List.range n).map fun k => treeD f pub l t k (sib (i / 2 ^ k))
theorem wayD_len (f : Nat → List Int) (pub : List Int) (l t : Int) (i n : Nat) : (wayD f pub l t i n).length = n:=by simp [wayD]
theorem treeD_good {f : Nat → List Int} (h : ∀ i,goodD (f i)) (pub : List Int) (l t : Int) : ∀ k i,goodD (treeD f pub l t k i)
  | 0,i => h i
  | k + 1,i => nodeD_good _ _ _ _ _ _ _
theorem wayD_good {f : Nat → List Int} (h : ∀ i,goodD (f i)) (pub : List Int) (l t : Int) (i n : Nat) : ∀ d ∈ wayD f pub l t i n,goodD d:=by
  intro d hd
  obtain ⟨k,_,rfl⟩:=List.mem_map.1 hd
  exact treeD_good h _ _ _ _ _
theorem stack_end (f : Nat → List Int) (pub : List Int) (l t : Int) {n : Nat} (h1 : 1 ≤ n) (h4 : n ≤ 4) : stackN f pub l t (pw n) = [⟨treeD f pub l t n 0,n,0⟩]:=by
  obtain rfl | rfl | rfl | rfl : n = 1 ∨ n = 2 ∨ n = 3 ∨ n = 4:=by omega
  all_goals kernel_rfl
theorem way_end1 (f : Nat → List Int) (pub : List Int) (l t : Int) {i : Nat} (h : i < 2) : wayK f pub l t i 1 (pw 1) = wayD f pub l t i 1:=by
  obtain rfl | rfl : i = 0 ∨ i = 1:=by omega
  all_goals kernel_rfl
theorem way_end2 (f : Nat → List Int) (pub : List Int) (l t : Int) {i : Nat} (h : i < 4) : wayK f pub l t i 2 (pw 2) = wayD f pub l t i 2:=by
  obtain rfl | rfl | rfl | rfl : i = 0 ∨ i = 1 ∨ i = 2 ∨ i = 3:=by omega
  all_goals kernel_rfl
theorem way_end3 (f : Nat → List Int) (pub : List Int) (l t : Int) {i : Nat} (h : i < 8) : wayK f pub l t i 3 (pw 3) = wayD f pub l t i 3:=by
  obtain rfl | rfl | rfl | rfl | rfl | rfl | rfl | rfl : i = 0 ∨ i = 1 ∨ i = 2 ∨ i = 3 ∨ i = 4 ∨ i = 5 ∨ i = 6 ∨ i = 7:=by omega
  all_goals kernel_rfl
theorem way_end4 (f : Nat → List Int) (pub : List Int) (l t : Int) {i : Nat} (h : i < 16) : wayK f pub l t i 4 (pw 4) = wayD f pub l t i 4:=by
  obtain rfl | rfl | rfl | rfl | rfl | rfl | rfl | rfl | rfl | rfl | rfl | rfl | rfl | rfl | rfl | rfl : i = 0 ∨ i = 1 ∨ i = 2 ∨ i = 3 ∨ i = 4 ∨ i = 5 ∨ i = 6 ∨ i = 7 ∨ i = 8 ∨ i = 9 ∨ i = 10 ∨ i = 11 ∨ i = 12 ∨ i = 13 ∨ i = 14 ∨ i = 15:=by omega
  all_goals kernel_rfl
theorem way_end (f : Nat → List Int) (pub : List Int) (l t : Int) {n i : Nat} (h1 : 1 ≤ n) (h4 : n ≤ 4) (h : i < pw n) : wayK f pub l t i n (pw n) = wayD f pub l t i n:=by
  obtain rfl | rfl | rfl | rfl : n = 1 ∨ n = 2 ∨ n = 3 ∨ n = 4:=by omega
  · exact way_end1 f pub l t h
  · exact way_end2 f pub l t h
  · exact way_end3 f pub l t h
  · exact way_end4 f pub l t h
def okS (ws : List Nd) : Prop:=∀ x ∈ ws,goodN x
theorem addN_ok (pub : List Int) (l t : Int) (ws : List Nd) (hws : okS ws) : ∀ (r : Nat) (nd : Nd),r ≤ ws.length → goodN nd → nd.lv + r ≤ 90 → okS (addN pub l t ws r nd) ∧ (addN pub l t ws r nd).length ≤ r + 1
  | 0,nd,_,h,_ => ⟨by intro x hx; simp only [addN,List.mem_singleton] at hx; subst hx; exact h,by simp [addN]⟩
  | r + 1,nd,hr,h,hb => by
    rw [addN]
    split
    · next e =>
      have:=addN_ok pub l t ws hws r (upN pub l t (ws.getD r nd0) nd) (by omega) ⟨nodeD_good _ _ _ _ _ _ _,by show nd.lv + 1 < 100; omega,by show nd.at_ / 2 < 1000; have:=h.2.2; omega⟩ (by show nd.lv + 1 + r ≤ 90; omega)
      exact ⟨this.1,by omega⟩
    · refine ⟨fun x hx => ?_,by rw [List.length_append,List.length_take,List.length_singleton]; omega⟩
      rcases List.mem_append.1 hx with hy | hy
      · exact hws x (List.mem_of_mem_take hy)
      · rw [List.mem_singleton] at hy; subst hy; exact h
theorem stackN_ok {f : Nat → List Int} (h : ∀ i,goodD (f i)) (pub : List Int) (l t : Int) : ∀ k,k ≤ 80 → okS (stackN f pub l t k) ∧ (stackN f pub l t k).length ≤ k
  | 0,_ => ⟨fun x hx => absurd hx List.not_mem_nil,Nat.le_refl _⟩
  | k + 1,hk => by
    obtain ⟨h1,h2⟩:=stackN_ok h pub l t k (by omega)
    have:=addN_ok pub l t (stackN f pub l t k) h1 (stackN f pub l t k).length ⟨f k,0,k⟩ (Nat.le_refl _) ⟨h k,(by decide : 0 < 100),by show k < 1000; omega⟩ (by show 0 + _ ≤ 90; omega)
    exact ⟨this.1,by show (addN _ _ _ _ _ _).length ≤ _; omega⟩
theorem wayN_len (pub : List Int) (l t : Int) (leaf : Nat) (ws : List Nd) : ∀ (r : Nat) (nd : Nd) (w : List (List Int)),(wayN pub l t leaf ws r nd w).length = w.length
  | 0,nd,w => rfl
  | r + 1,nd,w => by
    rw [wayN]
    split
    · rw [wayN_len,seeD_len]
    · rfl
theorem wayK_len (f : Nat → List Int) (pub : List Int) (l t : Int) (leaf n : Nat) : ∀ k,(wayK f pub l t leaf n k).length = n
  | 0 => by simp [wayK]
  | k + 1 => by rw [wayK,wayN_len,seeD_len,wayK_len f pub l t leaf n k]
def waitA (f : Nat → List Int) (pub : List Int) (l t : Int) : Nat → AV
  | 0 => .nils
  | k + 1 => .osl 4 [] 34 0 (stackN f pub l t (k + 1)).length
def waitO (f : Nat → List Int) (pub : List Int) (l t : Int) : Nat → OO
  | 0 => []
  | k + 1 => [(4,.row (.lst 34 (stackN f pub l t (k + 1)).length ((stackN f pub l t (k + 1)).map ndV)))]
section
variable (pub seed key : List Int) (l t : Int) (hp : goodD pub) (hs : goodD seed) (hl : 0 ≤ l ∧ l < 4294967296)
include hp hl hs in
theorem build_spec (n i : Nat) (h1 : 1 ≤ n) (h4 : n ≤ 4) (hi : i < pw n) : FnC Tryz.prog 140 [.agg [.ints .u8 32 seed,.ints .u8 32 key,.ints .u8 32 pub],.int .u32 l,.int .u64 t,.int .i64 n,.int .i64 i] []
    (.tup [.ints .u8 32 (treeD (leafD pub seed l t) pub l t n 0),.osl 0 [] 32 0 n,.int .i64 0]) [(0,.row (.lst 32 n ((wayD (leafD pub seed l t) pub l t i n).map dg)))]:=by
  have hse:=stack_end (leafD pub seed l t) pub l t h1 h4
  have hwe:=way_end (leafD pub seed l t) pub l t h1 h4 hi
  have hfg:=leafD_good pub l t seed
  have hpw : pw n ≤ 16:=pw_le h4
  have hpp:=pw_pos n
  have hsh : ishl .i64 1 n = (pw n : Int):=by
    obtain rfl | rfl | rfl | rfl : n = 1 ∨ n = 2 ∨ n = 3 ∨ n = 4:=by omega
    all_goals decide
  generalize hf : leafD pub seed l t = f at *
  refine fnN mix pl140 0 5 [.cell 10 25,.tmp 11,.tmp 12] Tryz.func140 rfl (by kernel_rfl) (by kernel_rfl) rfl (by kernel_rfl) (by kernel_rfl) (by simp) ?_
  simp -implicitDefEqProofs (disch:=omega) only [go_sem,↓reduceIte,hsh]
  refine brd (fun h => by omega) (fun h => ?_)
  simp -implicitDefEqProofs (disch:=omega) only [go_sem,↓reduceIte,hsh]
  refine brd (fun h => by omega) (fun h => ?_)
  simp -implicitDefEqProofs (disch:=omega) only [go_sem,↓reduceIte,hsh]
  refine brd (fun h => by omega) (fun h => ?_)
  simp -implicitDefEqProofs (disch:=omega) only [go_sem,↓reduceIte,hsh]
  refine brd (fun h => by omega) (fun h => ?_)
  simp -implicitDefEqProofs (disch:=omega) only [go_sem,↓reduceIte,hsh]
  refine loop (ι:=Nat) 5 (fun k => k ≤ pw n) (fun k => [(1,.int .u32 l),(2,.int .u64 t),(5,.ref 0 []),(10,.ref 1 []),(13,.ref 3 []),(43,.int .i64 (pw n)),(44,.int .i64 k)])
    (fun k => [(0,.var (.agg [.ints .u8 32 seed,.ints .u8 32 key,.ints .u8 32 pub])),(1,.var (.ints .u8 32 (List.replicate 32 0))),(2,.row (.lst 32 n ((wayK f pub l t i n k).map dg))),
      (3,.var (.agg [.agg [.ints .u8 32 pub,.int .u32 l,.int .u64 t],waitA f pub l t k,.int .i64 i,.osl 2 [] 32 0 n]))] ++ waitO f pub l t k) (fun k => pw n - k) 0 [(0,0),(1,1),(2,2),(3,3)] [] (Nat.zero_le _) rfl ?_ ?_ ?_ (fun k hk => ?_)
  · simp -implicitDefEqProofs (disch:=omega) only [go_sem,↓reduceIte]
  · simp -implicitDefEqProofs (disch:=omega) only [go_sem,↓reduceIte]
  · simp -implicitDefEqProofs (disch:=omega) only [go_sem,↓reduceIte,waitA,waitO,List.cons_append,List.nil_append,List.append_nil,wayK,List.map_replicate,dg,z32']
  have hlf:=leaf_spec pub l t hp hl seed key k hs (by omega)
  rw [hf] at hlf
  have hok:=stackN_ok hfg pub l t k (by omega)
  have hwl:=wayK_len f pub l t i n k
  have e1 : wayK f pub l t i n (k + 1) = wayN pub l t i (stackN f pub l t k) (stackN f pub l t k).length ⟨f k,0,k⟩ (seeD i (wayK f pub l t i n k) ⟨f k,0,k⟩):=rfl
  have e2 : stackN f pub l t (k + 1) = addN pub l t (stackN f pub l t k) (stackN f pub l t k).length ⟨f k,0,k⟩:=rfl
  obtain _ | k:=k
  · simp -implicitDefEqProofs (disch:=omega) only [go_sem,↓reduceIte,waitA,waitO,List.cons_append,List.nil_append,List.append_nil]
    refine brd (fun h => ?_) (fun h => by omega)
    simp -implicitDefEqProofs (disch:=omega) only [go_sem,↓reduceIte]
    refine call0 hlf ?_
    simp -implicitDefEqProofs (disch:=omega) only [go_sem,↓reduceIte]
    refine callG false [(0,3),(1,2)] [(0,3),(1,5),(2,6)] 7 (add0_spec pub l t i n _ hwl h4 (by omega) ⟨f 0,0,0⟩) ?_ ?_
    · simp [keys]
    simp -implicitDefEqProofs (disch:=omega) only [go_sem,↓reduceIte]
    have s1 : stackN f pub l t 1 = [⟨f 0,0,0⟩]:=rfl
    have w1 : wayK f pub l t i n 1 = seeD i (wayK f pub l t i n 0) ⟨f 0,0,0⟩:=rfl
    refine ⟨1,[(0,0),(1,1),(2,5),(3,3),(4,6)],[],[],by dsimp only; omega,by dsimp only; omega,rfl,?_,?_,?_⟩ <;> simp -implicitDefEqProofs (disch:=omega) only [go_sem,↓reduceIte,waitA,waitO,s1,w1,List.length_singleton]
  · simp -implicitDefEqProofs (disch:=omega) only [go_sem,↓reduceIte,waitA,waitO,List.cons_append,List.nil_append,List.append_nil]
    refine brd (fun h => ?_) (fun h => ?_)
    · simp -implicitDefEqProofs (disch:=omega) only [go_sem,↓reduceIte]
      refine call0 hlf ?_
      simp -implicitDefEqProofs (disch:=omega) only [go_sem,↓reduceIte]
      refine callG false [(0,3),(1,2),(2,4)] [(0,3),(1,5),(2,6)] 7 (add1_spec pub l t i n hp hl h4 (by omega) _ hwl ⟨f (k + 1),0,k + 1⟩ (stackN f pub l t (k + 1)) _ rfl (by show 0 + _ ≤ 90; omega) ⟨hfg _,(by decide : 0 < 100),by show k + 1 < 1000; omega⟩ hok.1) ?_ ?_
      · simp [keys]
      simp -implicitDefEqProofs (disch:=omega) only [go_sem,↓reduceIte]
      refine ⟨k + 1 + 1,[(0,0),(1,1),(2,5),(3,3),(4,6)],[],[],by dsimp only; omega,by dsimp only; omega,rfl,?_,?_,?_⟩ <;> simp -implicitDefEqProofs (disch:=omega) only [go_sem,↓reduceIte,waitA,waitO,e1,e2]
    · have hk1 : k + 1 = pw n:=by omega
      have ev0 : ndV ⟨treeD f pub l t n 0,n,0⟩ = .agg [.ints .u8 32 (treeD f pub l t n 0),.int .i64 n,.int .i64 ((0 : Nat) : Int)]:=rfl
      rw [hk1,hse,hwe,List.map_cons,List.map_nil,ev0,List.length_singleton]
      simp -implicitDefEqProofs (disch:=omega) only [go_sem,↓reduceIte]
      refine ⟨[(0,2)],[],[],rfl,?_,?_,?_⟩ <;> simp -implicitDefEqProofs (disch:=omega) only [go_sem,↓reduceIte,hf]
end
theorem climb_way (f : Nat → List Int) (pub : List Int) (l t : Int) (i n : Nat) : ∀ k,k ≤ n → climbD pub l t (f i) (wayD f pub l t i n) i k = treeD f pub l t k (i / 2 ^ k)
  | 0,_ => by rw [climbD,Nat.pow_zero,Nat.div_one]; rfl
  | k + 1,hk => by
    have e0 : i / 2 ^ (k + 1) = i / 2 ^ k / 2:=by rw [Nat.pow_succ,Nat.div_div_eq_div_mul]
    have hw : (wayD f pub l t i n).getD k [] = treeD f pub l t k (sib (i / 2 ^ k)):=rowN_getD (fun k => treeD f pub l t k (sib (i / 2 ^ k))) (by omega)
    rw [climbD,climb_way f pub l t i n k (by omega),hw,e0]
    generalize i / 2 ^ k = q
    split
    · next h =>
      have e1 : sib q = 2 * (q / 2) + 1:=by unfold sib; rw [if_pos h]; omega
      have e2 : treeD f pub l t k q = treeD f pub l t k (2 * (q / 2)):=by congr 1; omega
      rw [e1,e2]; rfl
    · next h =>
      have e1 : sib q = 2 * (q / 2):=by unfold sib; rw [if_neg h]; omega
      have e2 : treeD f pub l t k q = treeD f pub l t k (2 * (q / 2) + 1):=by congr 1; omega
      rw [e1,e2]; rfl
attribute [go_sem] pl49 pl139
def keyR (seed pub : List Int) (a b : Int) : List Int:=treeD (leafD pub seed (a - 1) 0) pub (a - 1) 0 b.toNat 0
section
variable (seed key pub : List Int) (a b : Int) (hs : goodD seed) (hp : goodD pub)
include hs hp in
theorem key_spec (hr : rightP a b) : FnC Tryz.prog 86 [.agg [.int .i64 a,.int .i64 b],.agg [.ints .u8 32 seed,.ints .u8 32 key,.ints .u8 32 pub]] [] (.tup [.agg [.agg [.int .i64 a,.int .i64 b],.ints .u8 32 (keyR seed pub a b),.ints .u8 32 pub],.int .i64 0]) []:=by
  have hr':=hr
  unfold rightP at hr'
  unfold keyR
  obtain ⟨n,rfl⟩:=Int.eq_ofNat_of_zero_le (show 0 ≤ b by omega)
  have hb:=build_spec pub seed key (a - 1) 0 hp hs (by omega) n 0 (by omega) (by omega) (pw_pos n)
  rw [Int.toNat_natCast]
  rw [Int.natCast_zero] at hb
  refine fn0 mix [] 0 2 [.cell 4 80,.tmp 5] Tryz.func86 rfl (by kernel_rfl) (by kernel_rfl) rfl (by kernel_rfl) (by kernel_rfl) (by simp) ?_
  simp -implicitDefEqProofs (disch:=omega) only [go_sem,↓reduceIte]
  refine call0 (right_spec11 a n) ?_
  rw [decide_eq_true hr]
  simp -implicitDefEqProofs (disch:=omega) only [go_sem,↓reduceIte]
  refine callF 1 hb ?_
  simp -implicitDefEqProofs (disch:=omega) only [go_sem,↓reduceIte]
end
end Go.Proofs.YtololahjocfbeaaGreat
