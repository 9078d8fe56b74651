/- Texts,joined. -/
import Derived.Test.YtololahjocfbeaaGreatD09
import Derived.Test.YtololahjocfbeaaGreatD19
import Derived.Test.YtololahjocfbeaaGreatD25
namespace Go.Proofs.YtololahjocfbeaaGreat
open Go Go.Sy Go.Proofs.Tryz
set_option maxRecDepth 100000
set_option maxHeartbeats 8000000
set_option linter.unusedSimpArgs false
set_option linter.unusedVariables false
attribute [go_sem] pl148 pl177
def leafL (b : List Int) : List Int:=sumD (0 :: b)
def nodeL (a b : List Int) : List Int:=sumD (1 :: (a ++ b))
theorem leafL_good (b : List Int) : goodD (leafL b):=⟨sumD_len _,sumD_mem _⟩
theorem nodeL_good (a b : List Int) : goodD (nodeL a b):=⟨sumD_len _,sumD_mem _⟩
def isHalf (n k : Nat) : Prop:=(∃ j,k = pw j) ∧ k < n ∧ n ≤ 2 * k
theorem pw_mono {i j : Nat} (h : pw i < pw j) : i < j:=by
  apply Nat.lt_of_not_le
  intro hle
  have:=pw_le hle
  omega
theorem half_one {n k k' : Nat} (h : isHalf n k) (h' : isHalf n k') : k = k':=by
  obtain ⟨⟨i,rfl⟩,h1,h2⟩:=h
  obtain ⟨⟨j,rfl⟩,h3,h4⟩:=h'
  have e1 : pw (i + 1) = 2 * pw i:=by unfold pw; rw [Nat.pow_succ]; omega
  have e2 : pw (j + 1) = 2 * pw j:=by unfold pw; rw [Nat.pow_succ]; omega
  have h5:=pw_mono (show pw i < pw (j + 1) by omega)
  have h6:=pw_mono (show pw j < pw (i + 1) by omega)
  rw [show i = j by omega]
def halfF : Nat → Nat → Nat → Nat
  | 0,k,_ => k
  | f + 1,k,n => if 2 * k < n then halfF f (2 * k) n else k
theorem half_is : ∀ (f n j : Nat),n ≤ f + pw j → pw j < n → isHalf n (halfF f (pw j) n)
  | 0,n,j,h,h' => by omega
  | f + 1,n,j,h,h' => by
    have e : pw (j + 1) = 2 * pw j:=by unfold pw; rw [Nat.pow_succ]; omega
    have:=pw_pos j
    rw [halfF]
    by_cases c : 2 * pw j < n
    · rw [if_pos c,← e]
      exact half_is f n (j + 1) (by omega) (by omega)
    · rw [if_neg c]
      exact ⟨⟨j,rfl⟩,h',by omega⟩
def halfN (n : Nat) : Nat:=halfF n 1 n
theorem halfN_is {n : Nat} (h : 2 ≤ n) : isHalf n (halfN n):=half_is n n 0 (by have : pw 0 = 1:=rfl; omega) (by have : pw 0 = 1:=rfl; omega)
theorem halfN_eq {n k : Nat} (h : isHalf n k) (h2 : 2 ≤ n) : halfN n = k:=half_one (halfN_is h2) h
theorem halfN_lt {n : Nat} (h : 2 ≤ n) : 1 ≤ halfN n ∧ halfN n < n:=by
  obtain ⟨⟨j,e⟩,h1,h2⟩:=halfN_is h
  omega
theorem leaf_spec19 (b : List Int) (n : Nat) (hn : b.length = n) (hb : ∀ x ∈ b,0 ≤ x ∧ x < 256) (hl : n ≤ 100000) : FnC Tryz.prog 226 [.sl (.ints .u8 n b)] [] (.ints .u8 32 (leafL b)) []:=by
  have h1:=sums2 (a:=[0]) (b:=b) (by decide) hb (by rw [List.length_singleton]; omega)
  refine fn0 mix [] 0 1 [.cell 2 25] Tryz.func226 rfl (by kernel_rfl) (by kernel_rfl) rfl (by kernel_rfl) (by kernel_rfl) (by simp) ?_
  simp -implicitDefEqProofs (disch:=omega) only [go_sem,↓reduceIte]
  refine callB h1 ?_ ?_
  · simp -implicitDefEqProofs (disch:=omega) only [go_sem,↓reduceIte,bsl,hn]
  simp -implicitDefEqProofs (disch:=omega) only [go_sem,↓reduceIte,leafL]
theorem node_spec17 (a b : List Int) (ha : goodD a) (hb : goodD b) : FnC Tryz.prog 148 [.ints .u8 32 a,.ints .u8 32 b] [] (.ints .u8 32 (nodeL a b)) []:=by
  have h1:=sums3 (a:=[1]) (b:=a) (c:=b) (by decide) ha.2 hb.2 (by rw [List.length_singleton,ha.1,hb.1]; decide)
  have l1:=ha.1
  have l2:=hb.1
  refine fn0 mix pl148 0 2 [.cell 4 25] Tryz.func148 rfl (by kernel_rfl) (by kernel_rfl) rfl (by kernel_rfl) (by kernel_rfl) (by simp) ?_
  simp -implicitDefEqProofs (disch:=omega) only [go_sem,↓reduceIte]
  refine callB h1 ?_ ?_
  · simp -implicitDefEqProofs (disch:=omega) only [go_sem,↓reduceIte,bsl,l1,l2]
  simp -implicitDefEqProofs (disch:=omega) only [go_sem,↓reduceIte,nodeL]
def rg (l : List (List Int)) (a n : Nat) : List Int :=
  if h0 : n = 0 then List.replicate 32 0 else if h1 : n = 1 then leafL (l.getD a []) else
    have h2:=halfN_lt (show 2 ≤ n by omega)
    nodeL (rg l a (halfN n)) (rg l (a + halfN n) (n - halfN n))
termination_by n
theorem rg_good (l : List (List Int)) : ∀ a n,goodD (rg l a n):=by
  intro a n
  rw [rg]
  split
  · exact ⟨rfl,by decide⟩
  · split
    · exact leafL_good _
    · exact nodeL_good _ _
theorem rg_two (l : List (List Int)) (a : Nat) {n : Nat} (h : 2 ≤ n) : rg l a n = nodeL (rg l a (halfN n)) (rg l (a + halfN n) (n - halfN n)):=by
  rw [rg,dif_neg (by omega),dif_neg (by omega)]
theorem rg_zero (l : List (List Int)) (a : Nat) : rg l a 0 = List.replicate 32 0:=by rw [rg,dif_pos rfl]
theorem rg_one (l : List (List Int)) (a : Nat) : rg l a 1 = leafL (l.getD a []):=by rw [rg,dif_neg (by decide),dif_pos rfl]
def textsP (l : List (List Int)) : Prop:=∀ b ∈ l,(∀ x ∈ b,0 ≤ x ∧ x < 256) ∧ b.length ≤ 100000
theorem textsP_at {l : List (List Int)} (h : textsP l) {i : Nat} (hi : i < l.length) : (∀ x ∈ l.getD i [],0 ≤ x ∧ x < 256) ∧ (l.getD i []).length ≤ 100000:=by
  simp only [List.getD,List.getElem?_eq_getElem hi,Option.getD_some]
  exact h _ (List.getElem_mem hi)
theorem getB_map {l : List (List Int)} {i : Nat} (h : i < l.length) (K : AV → Prop) : getP (l.map bsl) i K = K (.sl (.ints .u8 (l.getD i []).length (l.getD i []))):=by
  refine getP_map (f:=bsl) ?_ K
  simp only [List.getD,List.getElem?_eq_getElem h,Option.getD_some]
abbrev Wh:=List Int × Nat
def whV (w : Wh) : AV:=.agg [.ints .u8 32 w.1,.int .i64 w.2]
def blk (l : List (List Int)) : Nat → Nat → List Int
  | 0,q => leafL (l.getD q [])
  | k + 1,q => nodeL (blk l k (2 * q)) (blk l k (2 * q + 1))
theorem blk_good (l : List (List Int)) : ∀ k q,goodD (blk l k q)
  | 0,q => leafL_good _
  | k + 1,q => nodeL_good _ _
theorem halfN_pw (k : Nat) : halfN (pw (k + 1)) = pw k:=by
  have e : pw (k + 1) = 2 * pw k:=by unfold pw; rw [Nat.pow_succ]; omega
  have:=pw_pos k
  exact halfN_eq ⟨⟨k,rfl⟩,by omega,by omega⟩ (by omega)
theorem rg_blk (l : List (List Int)) : ∀ k q,rg l (q * pw k) (pw k) = blk l k q
  | 0,q => by rw [show pw 0 = 1 by rfl,rg_one,Nat.mul_one]; rfl
  | k + 1,q => by
    have e : pw (k + 1) = 2 * pw k:=by unfold pw; rw [Nat.pow_succ]; omega
    have hp:=pw_pos k
    rw [rg_two l _ (by omega),halfN_pw,blk,← rg_blk l k (2 * q),← rg_blk l k (2 * q + 1)]
    have e1 : q * pw (k + 1) = 2 * q * pw k:=by rw [e,← Nat.mul_assoc,Nat.mul_comm q 2]
    have e2 : q * pw (k + 1) + pw k = (2 * q + 1) * pw k:=by rw [e1,Nat.add_mul,Nat.one_mul]
    rw [e2,e1,show pw (k + 1) - pw k = pw k by omega]
def revS (l : List (List Int)) (lv q : Nat) : List Wh :=
  if h : q = 0 then [] else if q % 2 = 1 then (blk l lv (q - 1),pw lv) :: revS l (lv + 1) (q / 2) else revS l (lv + 1) (q / 2)
termination_by q
theorem revS_zero (l : List (List Int)) (lv : Nat) : revS l lv 0 = []:=by rw [revS,dif_pos rfl]
theorem revS_odd (l : List (List Int)) (lv : Nat) {q : Nat} (h : q % 2 = 1) : revS l lv q = (blk l lv (q - 1),pw lv) :: revS l (lv + 1) (q / 2):=by rw [revS,dif_neg (by omega),if_pos h]
theorem revS_even (l : List (List Int)) (lv : Nat) {q : Nat} (h : q % 2 = 0) : revS l lv q = revS l (lv + 1) (q / 2):=by
  by_cases h0 : q = 0
  · subst h0; rw [revS_zero,Nat.zero_div,revS_zero]
  · rw [revS,dif_neg h0,if_neg (by omega)]
theorem revS_len (l : List (List Int)) : ∀ (f lv q : Nat),q ≤ f → (revS l lv q).length ≤ q:=by
  intro f
  induction f with
  | zero =>
    intro lv q h
    obtain rfl : q = 0:=by omega
    rw [revS_zero]; exact Nat.le_refl _
  | succ f ih =>
    intro lv q h
    by_cases h0 : q = 0
    · subst h0; rw [revS_zero]; exact Nat.le_refl _
    by_cases h1 : q % 2 = 1
    · rw [revS_odd l lv h1,List.length_cons]
      have:=ih (lv + 1) (q / 2) (by omega)
      omega
    · rw [revS_even l lv (by omega)]
      have:=ih (lv + 1) (q / 2) (by omega)
      omega
theorem revS_good (l : List (List Int)) : ∀ (f lv q : Nat),q ≤ f → ∀ w ∈ revS l lv q,goodD w.1 ∧ pw lv ≤ w.2:=by
  intro f
  induction f with
  | zero =>
    intro lv q h w hw
    obtain rfl : q = 0:=by omega
    rw [revS_zero] at hw; exact absurd hw List.not_mem_nil
  | succ f ih =>
    intro lv q h w hw
    by_cases h0 : q = 0
    · subst h0; rw [revS_zero] at hw; exact absurd hw List.not_mem_nil
    by_cases h1 : q % 2 = 1
    · rw [revS_odd l lv h1] at hw
      rcases List.mem_cons.1 hw with rfl | hw
      · exact ⟨blk_good _ _ _,Nat.le_refl _⟩
      · have:=ih (lv + 1) (q / 2) (by omega) w hw
        exact ⟨this.1,Nat.le_trans (pw_le (by omega)) this.2⟩
    · rw [revS_even l lv (by omega)] at hw
      have:=ih (lv + 1) (q / 2) (by omega) w hw
      exact ⟨this.1,Nat.le_trans (pw_le (by omega)) this.2⟩
def foldW (l : List (List Int)) (N : Nat) : List Wh → Option (List Int) → List Int
  | [],none => List.replicate 32 0
  | [],some d => d
  | w :: ws,none => foldW l N ws (some w.1)
  | w :: ws,some d => foldW l N ws (some (nodeL w.1 d))
def tailO (l : List (List Int)) (a N : Nat) : Option (List Int):=if a = N then none else some (rg l a (N - a))
theorem fold_law (l : List (List Int)) (N : Nat) : ∀ (f lv q : Nat),q ≤ f → q * pw lv ≤ N → N < (q + 1) * pw lv → foldW l N (revS l lv q) (tailO l (q * pw lv) N) = rg l 0 N:=by
  intro f
  have z0 : foldW l N [] (tailO l 0 N) = rg l 0 N:=by
    unfold tailO
    by_cases c : 0 = N
    · rw [if_pos c,← c,rg_zero]; rfl
    · rw [if_neg c,Nat.sub_zero]; rfl
  induction f with
  | zero =>
    intro lv q h h1 h2
    obtain rfl : q = 0:=by omega
    rw [revS_zero,Nat.zero_mul]; exact z0
  | succ f ih =>
    intro lv q h h1 h2
    have e : pw (lv + 1) = 2 * pw lv:=by unfold pw; rw [Nat.pow_succ]; omega
    by_cases h0 : q = 0
    · subst h0; rw [revS_zero,Nat.zero_mul]; exact z0
    by_cases hq : q % 2 = 1
    · obtain ⟨m,rfl⟩ : ∃ m,q = 2 * m + 1:=⟨q / 2,by omega⟩
      have e1 : (2 * m + 1) / 2 = m:=by omega
      have e2 : 2 * m + 1 - 1 = 2 * m:=by omega
      have m1 : (2 * m + 1) * pw lv = m * pw (lv + 1) + pw lv:=by rw [e,Nat.add_mul,Nat.one_mul,Nat.mul_comm 2 m,Nat.mul_assoc]
      have m2 : (2 * m + 1 + 1) * pw lv = m * pw (lv + 1) + 2 * pw lv:=by rw [Nat.add_mul,m1]; omega
      have m3 : (m + 1) * pw (lv + 1) = m * pw (lv + 1) + 2 * pw lv:=by rw [Nat.add_mul,Nat.one_mul,e]
      have m4 : 2 * m * pw lv = m * pw (lv + 1):=by rw [e,Nat.mul_comm 2 m,Nat.mul_assoc]
      rw [revS_odd l lv hq,e1,e2]
      have hr:=ih (lv + 1) m (by omega) (by omega) (by omega)
      have hb : blk l lv (2 * m) = rg l (m * pw (lv + 1)) (pw lv):=by rw [← rg_blk l lv (2 * m),m4]
      rw [← hr]
      have hp:=pw_pos lv
      unfold tailO
      rw [if_neg (show ¬ m * pw (lv + 1) = N by omega),m1]
      by_cases c : m * pw (lv + 1) + pw lv = N
      · rw [if_pos c]
        show foldW l N _ (some (blk l lv (2 * m))) = _
        rw [hb,show N - m * pw (lv + 1) = pw lv by omega]
      · rw [if_neg c]
        show foldW l N _ (some (nodeL (blk l lv (2 * m)) _)) = _
        have hh : halfN (N - m * pw (lv + 1)) = pw lv:=halfN_eq ⟨⟨lv,rfl⟩,by omega,by omega⟩ (by omega)
        rw [rg_two l (m * pw (lv + 1)) (n:=N - m * pw (lv + 1)) (by omega),hh,hb,show N - (m * pw (lv + 1) + pw lv) = N - m * pw (lv + 1) - pw lv by omega]
    · obtain ⟨m,rfl⟩ : ∃ m,q = 2 * m:=⟨q / 2,by omega⟩
      have e1 : 2 * m / 2 = m:=by omega
      have m4 : 2 * m * pw lv = m * pw (lv + 1):=by rw [e,Nat.mul_comm 2 m,Nat.mul_assoc]
      have m5 : (2 * m + 1) * pw lv = m * pw (lv + 1) + pw lv:=by rw [Nat.add_mul,Nat.one_mul,m4]
      have m3 : (m + 1) * pw (lv + 1) = m * pw (lv + 1) + 2 * pw lv:=by rw [Nat.add_mul,Nat.one_mul,e]
      have hr:=ih (lv + 1) m (by omega) (by omega) (by omega)
      rw [revS_even l lv (by omega),e1,m4]
      exact hr
theorem getW_map {ws : List Wh} {i : Nat} {w : Wh} (h : ws[i]? = some w) (K : AV → Prop) : getP (ws.map whV) i K = K (.agg [.ints .u8 32 w.1,.int .i64 w.2]):=getP_map (f:=whV) h K
theorem rev_last (w : Wh) (ws : List Wh) : (w :: ws).reverse[ws.length]? = some w:=by
  rw [List.reverse_cons,List.getElem?_append_right (by rw [List.length_reverse]; exact Nat.le_refl _),List.length_reverse,Nat.sub_self]; rfl
theorem root_spec19 (l : List (List Int)) (n : Nat) (hn : l.length = n) (h2 : n ≤ 1000) (ht : textsP l) : FnC Tryz.prog 177 [.sl (.lst 1 n (l.map bsl))] [] (.ints .u8 32 (rg l 0 n)) []:=by
  have hle : (l.map bsl).length = n:=by rw [List.length_map,hn]
  refine fn0 mix pl177 0 1 [.cell 2 25] Tryz.func177 rfl (by kernel_rfl) (by kernel_rfl) rfl (by kernel_rfl) (by kernel_rfl) (by simp) ?_
  simp -implicitDefEqProofs (disch:=omega) only [go_sem,↓reduceIte]
  refine loop (ι:=Nat) 2 (fun i => i ≤ n) (fun i => [(2,.ref 0 []),(3,.osl 1 [] 33 0 (revS l 0 i).length),(10,.sl (.lst 1 n (l.map bsl))),(11,.int .i64 n),(12,.int .i64 i)])
    (fun i => [(0,.var (.ints .u8 32 (List.replicate 32 0))),(1,.row (.lst 33 (revS l 0 i).length ((revS l 0 i).reverse.map whV)))]) (fun i => n - i) 0 [(0,0)] [1] (Nat.zero_le _) rfl ?_ ?_ ?_ (fun i hi => ?_)
  · simp -implicitDefEqProofs (disch:=omega) only [go_sem,↓reduceIte]
  · simp -implicitDefEqProofs (disch:=omega) only [go_sem,↓reduceIte,revS_zero,List.length_nil]
  · simp -implicitDefEqProofs (disch:=omega) only [go_sem,↓reduceIte,revS_zero,List.length_nil,List.reverse_nil,List.map_nil]
  simp -implicitDefEqProofs (disch:=omega) only [go_sem,↓reduceIte]
  refine brd (fun h => ?_) (fun h => ?_)
  · have hg:=fun K => getB_map (l:=l) (i:=i) (by omega) K
    obtain ⟨t1,t2⟩:=textsP_at ht (show i < l.length by omega)
    have hrl:=revS_len l i 0 i (Nat.le_refl _)
    have hrg:=revS_good l i 0 i (Nat.le_refl _)
    obtain ⟨m,hm0⟩ : ∃ m,m = (revS l 0 i).length:=⟨_,rfl⟩
    obtain ⟨ws,hws⟩ : ∃ ws,ws = (revS l 0 i).reverse:=⟨_,rfl⟩
    have hm : ws.length = m:=by rw [hws,List.length_reverse,hm0]
    rw [← hws,← hm0]
    simp -implicitDefEqProofs (disch:=omega) only [go_sem,↓reduceIte,hg,hle]
    refine call0 (leaf_spec19 _ _ rfl t1 t2) ?_
    have eb0 : leafL (l.getD i []) = blk l 0 i:=rfl
    rw [eb0]
    simp -implicitDefEqProofs (disch:=omega) only [go_sem,↓reduceIte]
    refine loop (ι:=Nat × Nat × Nat) 3 (fun k => (k.2.1 + 1) * pw k.1 = i + 1 ∧ k.2.2 ≤ m ∧ k.2.2 = (revS l k.1 k.2.1).length ∧ ws.take k.2.2 = (revS l k.1 k.2.1).reverse ∧ revS l 0 (i + 1) = revS l k.1 (k.2.1 + 1))
      (fun k => [(2,.ref 0 []),(3,.osl 1 [] 33 0 k.2.2),(6,.ref 2 []),(10,.sl (.lst 1 n (l.map bsl))),(11,.int .i64 n),(12,.int .i64 i)])
      (fun k => [(0,.var (.ints .u8 32 (List.replicate 32 0))),(1,.row (.lst 33 m (ws.map whV))),(2,.var (.agg [.ints .u8 32 (blk l k.1 k.2.1),.int .i64 (pw k.1)]))]) (fun k => k.2.1) (0,i,m) [(0,0),(1,1),(2,2)] []
      ⟨by show (i + 1) * 1 = i + 1; omega,Nat.le_refl _,hm0,by show ws.take m = _; rw [List.take_of_length_le (by omega),hws],rfl⟩ rfl ?_ ?_ ?_ (fun k hk => ?_)
    · simp -implicitDefEqProofs (disch:=omega) only [go_sem,↓reduceIte]
    · simp -implicitDefEqProofs (disch:=omega) only [go_sem,↓reduceIte]
    · simp -implicitDefEqProofs (disch:=omega) only [go_sem,↓reduceIte,show pw 0 = 1 by rfl]
    obtain ⟨lv,q,r⟩:=k
    obtain ⟨q1,q2,q3,q6,q7⟩:=hk
    dsimp only at q1 q2 q3 q6 q7 ⊢
    have hpw : pw lv ≤ i + 1:=by rw [← q1]; exact Nat.le_mul_of_pos_left _ (by omega)
    have hqi : q ≤ i:=by
      have:=pw_pos lv
      have : (q + 1) * 1 ≤ (q + 1) * pw lv:=Nat.mul_le_mul_left _ this
      omega
    by_cases hq : q % 2 = 1
    · rw [revS_odd l lv hq] at q3 q6
      rw [List.length_cons] at q3
      obtain ⟨r,rfl⟩ : ∃ r',r = r' + 1:=⟨r - 1,by omega⟩
      have hrr : r = (revS l (lv + 1) (q / 2)).length:=by omega
      have hgi : ws[r]? = some (blk l lv (q - 1),pw lv):=by
        have:=rev_last (blk l lv (q - 1),pw lv) (revS l (lv + 1) (q / 2))
        rw [← q6,← hrr,List.getElem?_take] at this
        simpa using this
      have hg0:=fun K => getW_map hgi K
      have i1 : (r : Int) + 1 - 1 = r:=by omega
      have i2 : (r : Int).toNat = r:=Int.toNat_natCast r
      have hg2 : ∀ K,getP (ws.map whV) (r : Int).toNat K = K (.agg [.ints .u8 32 (blk l lv (q - 1)),.int .i64 (pw lv)]):=fun K => by rw [i2,hg0]
      have hg3 : ∀ K,getP (ws.map whV) ((r : Int) + 1 - 1).toNat K = K (.agg [.ints .u8 32 (blk l lv (q - 1)),.int .i64 (pw lv)]):=fun K => by rw [i1,hg2]
      have hlw : (ws.map whV).length = m:=by rw [List.length_map,hm]
      have e1 : decide ((0 : Int) < (r : Int) + 1) = true:=decide_eq_true (by omega)
      simp -implicitDefEqProofs (disch:=omega) only [go_sem,↓reduceIte,e1,i1,↓hg0,↓hg2,↓hg3,hlw]
      have ec : nodeL (blk l lv (q - 1)) (blk l lv q) = blk l (lv + 1) (q / 2):=by
        rw [blk]; congr 2 <;> congr 1 <;> omega
      have ep : 2 * (pw lv : Int) = (pw (lv + 1) : Int):=by rw [pw_succ]; omega
      have e4 : pw (lv + 1) = 2 * pw lv:=by have:=pw_succ lv; omega
      have hno:=node_spec17 (blk l lv (q - 1)) (blk l lv q) (blk_good _ _ _) (blk_good _ _ _)
      rw [ec] at hno
      refine call0 hno ?_
      simp -implicitDefEqProofs (disch:=omega) only [go_sem,↓reduceIte,ep]
      have b1 : (q / 2 + 1) * pw (lv + 1) = i + 1:=by
        rw [← q1,e4,← Nat.mul_assoc]; congr 1; omega
      have b2 : r ≤ m:=by omega
      have b3 : ws.take r = (revS l (lv + 1) (q / 2)).reverse:=by
        have : (ws.take (r + 1)).take r = ws.take r:=by rw [List.take_take]; congr 1; omega
        rw [← this,q6,List.reverse_cons,List.take_append_of_le_length (by rw [List.length_reverse]; omega),List.take_of_length_le (by rw [List.length_reverse]; omega)]
      have b4 : revS l 0 (i + 1) = revS l (lv + 1) (q / 2 + 1):=by
        rw [q7,revS_even l lv (by omega)]; congr 1; omega
      refine ⟨(lv + 1,q / 2,r),[(0,0),(1,1),(2,2)],[],[],⟨b1,b2,hrr,b3,b4⟩,by dsimp only; omega,rfl,?_,?_,?_⟩ <;> simp -implicitDefEqProofs (disch:=omega) only [go_sem,↓reduceIte]
    · have q8 : revS l 0 (i + 1) = (blk l lv q,pw lv) :: revS l lv q:=by
        rw [q7,revS_odd l lv (by omega),revS_even l lv (q:=q) (by omega),show q + 1 - 1 = q by omega,show (q + 1) / 2 = q / 2 by omega]
      have q7:=q8
      obtain _ | r:=r
      · simp -implicitDefEqProofs (disch:=omega) only [go_sem,↓reduceIte]
        by_cases hr : m = 0
        · have ews : ws = (revS l lv q).reverse:=by rw [← q6,List.take_of_length_le (by omega)]
          have ea : (ws ++ [(blk l lv q,pw lv)]).map whV = ws.map whV ++ [.agg [.ints .u8 32 (blk l lv q),.int .i64 (pw lv)]]:=by rw [List.map_append]; rfl
          have eb : (revS l 0 (i + 1)).reverse = ws ++ [(blk l lv q,pw lv)]:=by rw [q7,List.reverse_cons,ews]
          have el : (revS l 0 (i + 1)).length = 0 + 1:=by rw [← List.length_reverse,eb,List.length_append,List.length_singleton]; omega
          simp -implicitDefEqProofs (disch:=omega) only [go_sem,↓reduceIte,hr]
          refine ⟨i + 1,[(0,0),(1,4)],[],[],by dsimp only; omega,by dsimp only; omega,rfl,?_,?_,?_⟩ <;> simp -implicitDefEqProofs (disch:=omega) only [go_sem,↓reduceIte,eb,ea,el,hr,whV]
        · have hr2 : ¬ 0 = m:=fun h => hr h.symm
          have ea : (ws.take 0 ++ [(blk l lv q,pw lv)]).map whV = (ws.map whV).take 0 ++ [.agg [.ints .u8 32 (blk l lv q),.int .i64 (pw lv)]]:=by rw [List.map_append,List.map_take]; rfl
          have eb : (revS l 0 (i + 1)).reverse = ws.take 0 ++ [(blk l lv q,pw lv)]:=by rw [q7,List.reverse_cons,q6]
          have el : (revS l 0 (i + 1)).length = 0 + 1:=by rw [← List.length_reverse,eb,List.length_append,List.length_singleton,List.length_take]; omega
          simp -implicitDefEqProofs (disch:=omega) only [go_sem,↓reduceIte,hr,hr2]
          refine ⟨i + 1,[(0,0),(1,4)],[],[],by dsimp only; omega,by dsimp only; omega,rfl,?_,?_,?_⟩ <;> simp -implicitDefEqProofs (disch:=omega) only [go_sem,↓reduceIte,eb,ea,el,hr,whV]
      · have hgt:=revS_good l q (lv + 1) (q / 2) (by omega)
        rw [← revS_even l lv (by omega)] at hgt
        obtain ⟨w,rest,hwr⟩ : ∃ w rest,revS l lv q = w :: rest:=by
          cases hh : revS l lv q with
          | nil => rw [hh] at q3; simp at q3
          | cons w rest => exact ⟨w,rest,rfl⟩
        have hw2:=(hgt w (by rw [hwr]; exact List.mem_cons_self ..)).2
        have hrl2 : r = rest.length:=by rw [hwr,List.length_cons] at q3; omega
        have hgi : ws[r]? = some w:=by
          have:=rev_last w rest
          rw [← hwr,← q6,← hrl2,List.getElem?_take] at this
          simpa using this
        have hg0:=fun K => getW_map hgi K
        have i1 : (r : Int) + 1 - 1 = r:=by omega
        have i2 : (r : Int).toNat = r:=Int.toNat_natCast r
        have hg2 : ∀ K,getP (ws.map whV) (r : Int).toNat K = K (.agg [.ints .u8 32 w.1,.int .i64 w.2]):=fun K => by rw [i2,hg0]
        have hg3 : ∀ K,getP (ws.map whV) ((r : Int) + 1 - 1).toNat K = K (.agg [.ints .u8 32 w.1,.int .i64 w.2]):=fun K => by rw [i1,hg2]
        have hlw : (ws.map whV).length = m:=by rw [List.length_map,hm]
        have e1 : decide ((0 : Int) < (r : Int) + 1) = true:=decide_eq_true (by omega)
        have e4 : pw (lv + 1) = 2 * pw lv:=by have:=pw_succ lv; omega
        have hpp:=pw_pos lv
        have e5 : decide ((w.2 : Int) = (pw lv : Int)) = false:=decide_eq_false (by omega)
        simp -implicitDefEqProofs (disch:=omega) only [go_sem,↓reduceIte,e1,i1,↓hg0,↓hg2,↓hg3,hlw,e5]
        by_cases hr : m = r + 1
        · have ews : ws = (revS l lv q).reverse:=by rw [← q6,List.take_of_length_le (by omega)]
          have ea : (ws ++ [(blk l lv q,pw lv)]).map whV = ws.map whV ++ [.agg [.ints .u8 32 (blk l lv q),.int .i64 (pw lv)]]:=by rw [List.map_append]; rfl
          have eb : (revS l 0 (i + 1)).reverse = ws ++ [(blk l lv q,pw lv)]:=by rw [q7,List.reverse_cons,ews]
          have el : (revS l 0 (i + 1)).length = r + 1 + 1:=by rw [← List.length_reverse,eb,List.length_append,List.length_singleton]; omega
          simp -implicitDefEqProofs (disch:=omega) only [go_sem,↓reduceIte,hr]
          refine ⟨i + 1,[(0,0),(1,4)],[],[],by dsimp only; omega,by dsimp only; omega,rfl,?_,?_,?_⟩ <;> simp -implicitDefEqProofs (disch:=omega) only [go_sem,↓reduceIte,eb,ea,el,hr,whV]
        · have hr2 : ¬ r + 1 = m:=fun h => hr h.symm
          have ea : (ws.take (r + 1) ++ [(blk l lv q,pw lv)]).map whV = (ws.map whV).take (r + 1) ++ [.agg [.ints .u8 32 (blk l lv q),.int .i64 (pw lv)]]:=by rw [List.map_append,List.map_take]; rfl
          have eb : (revS l 0 (i + 1)).reverse = ws.take (r + 1) ++ [(blk l lv q,pw lv)]:=by rw [q7,List.reverse_cons,q6]
          have el : (revS l 0 (i + 1)).length = r + 1 + 1:=by rw [← List.length_reverse,eb,List.length_append,List.length_singleton,List.length_take]; omega
          simp -implicitDefEqProofs (disch:=omega) only [go_sem,↓reduceIte,hr,hr2]
          refine ⟨i + 1,[(0,0),(1,4)],[],[],by dsimp only; omega,by dsimp only; omega,rfl,?_,?_,?_⟩ <;> simp -implicitDefEqProofs (disch:=omega) only [go_sem,↓reduceIte,eb,ea,el,hr,whV]
  · obtain rfl : n = i:=by omega
    have hfl:=fold_law l n n 0 n (Nat.le_refl _) (by rw [show pw 0 = 1 by rfl]; omega) (by rw [show pw 0 = 1 by rfl]; omega)
    have ht0 : tailO l (n * pw 0) n = none:=by unfold tailO; rw [if_pos (by rw [show pw 0 = 1 by rfl]; omega)]
    rw [ht0] at hfl
    have hrl:=revS_len l n 0 n (Nat.le_refl _)
    have hrg:=revS_good l n 0 n (Nat.le_refl _)
    generalize hS : revS l 0 n = S at *
    simp -implicitDefEqProofs (disch:=omega) only [go_sem,↓reduceIte]
    refine loop (ι:=Nat × List Int) 3 (fun k => k.1 ≤ S.length ∧ goodD k.2 ∧ foldW l n (S.drop k.1) (if k.1 = 0 then none else some k.2) = rg l 0 n ∧ (k.1 = 0 → k.2 = List.replicate 32 0))
      (fun k => [(2,.ref 0 []),(3,.osl 1 [] 33 0 S.length),(8,.ref 2 []),(9,.int .i64 ((S.length : Int) - 1 - k.1))])
      (fun k => [(0,.var (.ints .u8 32 (List.replicate 32 0))),(1,.row (.lst 33 S.length (S.reverse.map whV))),(2,.var (.ints .u8 32 k.2))]) (fun k => S.length - k.1) (0,List.replicate 32 0) [(0,0),(1,1),(2,2)] []
      ⟨Nat.zero_le _,⟨rfl,by decide⟩,by rw [if_pos rfl,List.drop_zero]; exact hfl,fun _ => rfl⟩ rfl ?_ ?_ ?_ (fun k hk => ?_)
    · simp -implicitDefEqProofs (disch:=omega) only [go_sem,↓reduceIte]
    · simp -implicitDefEqProofs (disch:=omega) only [go_sem,↓reduceIte]
    · simp -implicitDefEqProofs (disch:=omega) only [go_sem,↓reduceIte]
    obtain ⟨c,o⟩:=k
    obtain ⟨k1,k2,k3,k4⟩:=hk
    dsimp only at k1 k2 k3 k4 ⊢
    simp -implicitDefEqProofs (disch:=omega) only [go_sem,↓reduceIte]
    refine brd (fun hc => ?_) (fun hc => ?_)
    · have hcl : c < S.length:=by omega
      obtain ⟨w,hw⟩ : ∃ w,S[c]? = some w:=⟨_,List.getElem?_eq_getElem hcl⟩
      have hwm:=hrg w (List.mem_of_getElem? hw)
      have hd : S.drop c = w :: S.drop (c + 1):=by
        rw [List.drop_eq_getElem_cons hcl]
        rw [List.getElem?_eq_getElem hcl] at hw
        rw [Option.some.inj hw]
      have hri : S.reverse[S.length - 1 - c]? = some w:=by
        rw [List.getElem?_reverse (by omega),show S.length - 1 - (S.length - 1 - c) = c by omega,hw]
      have hg0:=fun K => getW_map hri K
      have i2 : ((S.length : Int) - 1 - c).toNat = S.length - 1 - c:=by omega
      have hg2 : ∀ K,getP (S.reverse.map whV) ((S.length : Int) - 1 - c).toNat K = K (.agg [.ints .u8 32 w.1,.int .i64 w.2]):=fun K => by rw [i2,hg0]
      have hlw : (S.reverse.map whV).length = S.length:=by rw [List.length_map,List.length_reverse]
      have i3 : (S.length : Int) - 1 - c - 1 = (S.length : Int) - 1 - ((c : Int) + 1):=by omega
      rw [hd] at k3
      by_cases h0 : c = 0
      · subst h0
        rw [if_pos rfl] at k3
        have e6 : decide ((S.length : Int) - 1 - (0 : Nat) = (S.length : Int) - 1) = true:=decide_eq_true (by omega)
        have hg4 : ∀ K,getP (S.reverse.map whV) ((S.length : Int) - 1).toNat K = K (.agg [.ints .u8 32 w.1,.int .i64 w.2]):=fun K => by
          have:=hg2 K
          rw [Int.natCast_zero,Int.sub_zero] at this
          exact this
        have i4 : ((S.length : Int) - 1).toNat < S.length:=by omega
        simp -implicitDefEqProofs (disch:=omega) only [go_sem,↓reduceIte,e6,↓hg0,↓hg2,↓hg4,hlw]
        have b3 : foldW l n (S.drop (0 + 1)) (if 0 + 1 = 0 then none else some w.1) = rg l 0 n:=by rw [if_neg (by decide)]; exact k3
        have i5 : (S.length : Int) - 1 - 1 = (S.length : Int) - 1 - 1:=rfl
        refine ⟨(0 + 1,w.1),[(0,0),(1,1),(2,2)],[],[],⟨hcl,hwm.1,b3,fun h => by cases h⟩,by dsimp only; omega,rfl,?_,?_,?_⟩ <;> simp -implicitDefEqProofs (disch:=omega) only [go_sem,↓reduceIte]
      · rw [if_neg h0] at k3
        have e6 : decide ((S.length : Int) - 1 - c = (S.length : Int) - 1) = false:=decide_eq_false (by omega)
        simp -implicitDefEqProofs (disch:=omega) only [go_sem,↓reduceIte,e6,↓hg0,↓hg2,hlw]
        refine call0 (node_spec17 w.1 o hwm.1 k2) ?_
        simp -implicitDefEqProofs (disch:=omega) only [go_sem,↓reduceIte]
        have b3 : foldW l n (S.drop (c + 1)) (if c + 1 = 0 then none else some (nodeL w.1 o)) = rg l 0 n:=by rw [if_neg (by omega)]; exact k3
        refine ⟨(c + 1,nodeL w.1 o),[(0,0),(1,1),(2,2)],[],[],⟨hcl,nodeL_good _ _,b3,fun h => by omega⟩,by dsimp only; omega,rfl,?_,?_,?_⟩ <;> simp -implicitDefEqProofs (disch:=omega) only [go_sem,↓reduceIte,i3]
    · obtain rfl : c = S.length:=by omega
      rw [List.drop_length] at k3
      have ho : o = rg l 0 n:=by
        by_cases h0 : S.length = 0
        · rw [if_pos h0] at k3
          rw [← k3,k4 h0]; rfl
        · rw [if_neg h0] at k3
          exact k3
      simp -implicitDefEqProofs (disch:=omega) only [go_sem,↓reduceIte,ho]
attribute [go_sem] pl128
def emptyD : Nat → List Int
  | 0 => sumD [2]
  | k + 1 => nodeL (emptyD k) (emptyD k)
theorem emptyD_good : ∀ k,goodD (emptyD k)
  | 0 => ⟨sumD_len _,sumD_mem _⟩
  | k + 1 => nodeL_good _ _
def empties (n : Nat) : List (List Int):=(List.range n).map emptyD
theorem empties_len (n : Nat) : (empties n).length = n:=by simp [empties]
theorem empties_succ (n : Nat) : empties (n + 1) = empties n ++ [emptyD n]:=by simp [empties,List.range_succ]
theorem empties_get {n i : Nat} (h : i < n) : (empties n)[i]? = some (emptyD i):=by simp [empties,h]
theorem sums117 {a : List Int} (ha : ∀ x ∈ a,0 ≤ x ∧ x < 256) (hn : a.length ≤ 1000000) : FnC Tryz.prog 167 [.sl (.lst 1 1 [bsl a])] [] (.ints .u8 32 (sumD a)) []:=by
  have h:=sums_spec [a] (fun p hp => by rw [List.mem_singleton] at hp; subst hp; exact ha) (by simpa [cat] using hn) (by simp)
  simpa [cat] using h
def emT (i : Nat) : List (List Int):=empties i ++ List.replicate (257 - i) zs
theorem emT_len {i : Nat} (h : i ≤ 257) : (emT i).length = 257:=by unfold emT; rw [List.length_append,empties_len,List.length_replicate]; omega
theorem emT_0 : List.replicate 257 (AV.ints .u8 32 (List.replicate 32 0)) = (emT 0).map dg:=by
  unfold emT
  rw [show empties 0 = [] from rfl,List.nil_append,List.map_replicate]
  rfl
theorem emT_set {i : Nat} (h : i < 257) : ((emT i).map dg).set i (.ints .u8 32 (emptyD i)) = (emT (i + 1)).map dg:=by
  unfold emT
  rw [empties_succ,show 257 - i = (257 - (i + 1)) + 1 by omega,List.replicate_succ,List.map_append,List.map_cons,List.map_append,List.map_append,List.map_cons,List.map_nil,List.set_append_right _ _ (by rw [List.length_map,empties_len]; exact Nat.le_refl _),List.length_map,empties_len,Nat.sub_self,List.set_cons_zero,List.append_assoc]
  rfl
theorem emT_old {i j : Nat} (h : j < i) (K : AV → Prop) : getP ((emT i).map dg) j K = K (.ints .u8 32 (emptyD j)):=by
  refine getP_map (f:=dg) (a:=emptyD j) ?_ K
  unfold emT
  rw [List.getElem?_append_left (by rw [empties_len]; exact h),empties_get h]
theorem emT_new {i : Nat} (h : i < 257) (K : AV → Prop) : getP ((emT i).map dg) i K = K (.ints .u8 32 zs):=by
  refine getP_map (f:=dg) (a:=zs) ?_ K
  unfold emT
  rw [List.getElem?_append_right (by rw [empties_len]; exact Nat.le_refl _),empties_len,Nat.sub_self,List.getElem?_replicate,if_pos (by omega)]
theorem emT_end : emT 257 = empties 257:=by unfold emT; rw [Nat.sub_self,List.replicate_zero,List.append_nil]
theorem empty17_spec : FnC Tryz.prog 128 [] [] (.osl 0 [] 32 0 257) [(0,.row (.lst 32 257 ((empties 257).map dg)))]:=by
  have h2:=sums117 (a:=[2]) (by decide) (by decide)
  have e0:=emT_0
  have g0:=fun K => emT_new (i:=0) (by omega) K
  have s0:=emT_set (i:=0) (by omega)
  have l0 : ((emT 0).map dg).length = 257:=by rw [List.length_map,emT_len (by omega)]
  have z0 : sumD [2] = emptyD 0:=rfl
  rw [← emT_end]
  refine fnN mix pl128 0 0 [.tmp 0] Tryz.func128 rfl (by kernel_rfl) (by kernel_rfl) rfl (by kernel_rfl) (by kernel_rfl) (by simp) ?_
  simp -implicitDefEqProofs (disch:=omega) only [go_sem,↓reduceIte,e0]
  refine callB h2 ?_ ?_
  · simp -implicitDefEqProofs (disch:=omega) only [go_sem,↓reduceIte,bsl,List.length_singleton,List.length_cons,List.length_nil]
  simp -implicitDefEqProofs (disch:=omega) only [go_sem,↓reduceIte,e0,↓g0,s0,l0,z0]
  refine loop (ι:=Nat) 1 (fun i => i ≤ 256) (fun i => [(1,.osl 0 [] 32 0 257),(9,.int .i64 i)]) (fun i => [(0,.row (.lst 32 257 ((emT (i + 1)).map dg)))]) (fun i => 256 - i) 0 [(0,0)] [] (Nat.zero_le _) rfl ?_ ?_ ?_ (fun i hi => ?_)
  · simp -implicitDefEqProofs (disch:=omega) only [go_sem,↓reduceIte]
  · simp -implicitDefEqProofs (disch:=omega) only [go_sem,↓reduceIte]
  · simp -implicitDefEqProofs (disch:=omega) only [go_sem,↓reduceIte]
  simp -implicitDefEqProofs (disch:=omega) only [go_sem,↓reduceIte]
  refine brd (fun h => ?_) (fun h => ?_)
  · have g1:=fun K => emT_old (i:=i + 1) (j:=i) (by omega) K
    have g2:=fun K => emT_new (i:=i + 1) (by omega) K
    have s1:=emT_set (i:=i + 1) (by omega)
    have l1 : ((emT (i + 1)).map dg).length = 257:=by rw [List.length_map,emT_len (by omega)]
    have hn:=node_spec17 (emptyD i) (emptyD i) (emptyD_good i) (emptyD_good i)
    have en : nodeL (emptyD i) (emptyD i) = emptyD (i + 1):=rfl
    rw [en] at hn
    have ti : ((i : Int) + 1).toNat = i + 1:=by omega
    simp -implicitDefEqProofs (disch:=omega) only [go_sem,↓reduceIte,↓g1,l1]
    refine call0 hn ?_
    simp -implicitDefEqProofs (disch:=omega) only [go_sem,↓reduceIte,↓g1,↓g2,s1,l1,ti]
    refine ⟨i + 1,[(0,0)],[],[],by dsimp only; omega,by dsimp only; omega,rfl,?_,?_,?_⟩ <;> simp -implicitDefEqProofs (disch:=omega) only [go_sem,↓reduceIte]
  obtain rfl : i = 256:=by omega
  simp -implicitDefEqProofs (disch:=omega) only [go_sem,↓reduceIte]
  refine ⟨[(0,0)],[],[],rfl,?_,?_,?_⟩ <;> simp -implicitDefEqProofs (disch:=omega) only [go_sem,↓reduceIte]
def bitD (d : List Int) (k : Int) : Int:=if 0 ≤ k ∧ k < 256 then (d.getD (31 - (k / 8).toNat) 0 / 2 ^ (k % 8).toNat) % 2 else 0
theorem bit17_spec (d : List Int) (k : Int) (hd : goodD d) : FnC Tryz.prog 168 [.ints .u8 32 d,.int .i64 k] [] (.int .i64 (bitD d k)) []:=by
  unfold bitD
  refine fn0 mix [] 0 2 [.tmp 4] Tryz.func168 rfl (by kernel_rfl) (by kernel_rfl) rfl (by kernel_rfl) (by kernel_rfl) (by simp) ?_
  simp -implicitDefEqProofs (disch:=omega) only [go_sem,↓reduceIte]
  refine brd (fun h => ?_) (fun h => ?_)
  · rw [if_neg (by omega)]
    simp -implicitDefEqProofs (disch:=omega) only [go_sem,↓reduceIte]
  simp -implicitDefEqProofs (disch:=omega) only [go_sem,↓reduceIte]
  refine brd (fun h2 => ?_) (fun h2 => ?_)
  · rw [if_neg (by omega)]
    simp -implicitDefEqProofs (disch:=omega) only [go_sem,↓reduceIte]
  rw [if_pos (by omega)]
  obtain ⟨k,rfl⟩:=Int.eq_ofNat_of_zero_le (show 0 ≤ k by omega)
  have t1 : (255 - (k : Int)).tdiv 8 = ((31 - k / 8 : Nat) : Int):=by rw [Int.tdiv_eq_ediv_of_nonneg (by omega)]; omega
  have t2 : (7 : Int) - (255 - (k : Int)).tmod 8 = ((k % 8 : Nat) : Int):=by rw [Int.tmod_eq_emod_of_nonneg (by omega)]; omega
  have e1 : ((k : Int) / 8).toNat = k / 8:=by omega
  have e2 : ((k : Int) % 8).toNat = k % 8:=by omega
  rw [e1,e2]
  have hx : 0 ≤ d.getD (31 - k / 8) 0 ∧ d.getD (31 - k / 8) 0 < 256:=getD_all' hd.2 (by rw [hd.1]; omega)
  have hr : k % 8 < 8:=by omega
  have hs : ishr .u8 (d.getD (31 - k / 8) 0) (k % 8) = d.getD (31 - k / 8) 0 / 2 ^ (k % 8):=ishr_div _ _ _ (by show k % 8 ≤ 8; omega)
  have hp : (1 : Int) ≤ 2 ^ (k % 8):=by exact_mod_cast Nat.one_le_two_pow
  have hq : 0 ≤ d.getD (31 - k / 8) 0 / 2 ^ (k % 8) ∧ d.getD (31 - k / 8) 0 / 2 ^ (k % 8) < 256:=⟨Int.ediv_nonneg hx.1 (by omega),Int.lt_of_le_of_lt (Int.ediv_le_self _ hx.1) hx.2⟩
  generalize d.getD (31 - k / 8) 0 / 2 ^ (k % 8) = v at *
  have hm : iand .i64 v 1 = v % 2:=iand_mask 1 rfl (by decide) hq.1 (by show v < 2 ^ 64; omega)
  have hj : 31 - k / 8 < 32:=by omega
  generalize 31 - k / 8 = j at *
  generalize k % 8 = r at *
  have hr0 : (0 : Int) ≤ (r : Int):=by omega
  simp -implicitDefEqProofs (disch:=omega) only [go_sem,↓reduceIte,t1,t2,hs,hm,hr0]
  exact hj
def popc (x : Int) : Int:=((List.range 8).map fun r => (x / 2 ^ r) % 2).sum
theorem popc_le {x : Int} (h : 0 ≤ x ∧ x < 256) : 0 ≤ popc x ∧ popc x ≤ 8:=by
  have e : popc x = ((x / 2 ^ 0) % 2) + (((x / 2 ^ 1) % 2) + (((x / 2 ^ 2) % 2) + (((x / 2 ^ 3) % 2) + (((x / 2 ^ 4) % 2) + (((x / 2 ^ 5) % 2) + (((x / 2 ^ 6) % 2) + ((x / 2 ^ 7) % 2 + 0))))))):=rfl
  rw [e]
  omega
theorem ones_spec (x : Int) (h : 0 ≤ x ∧ x < 256) : FnC Tryz.prog 239 [.int .u8 x] [] (.int .i64 (popc x)) []:=by
  refine fn0 mix [] 0 1 [.tmp 2] Tryz.func239 rfl (by kernel_rfl) (by kernel_rfl) rfl (by kernel_rfl) (by kernel_rfl) (by simp) ?_
  simp -implicitDefEqProofs (disch:=omega) only [go_sem,↓reduceIte]
  obtain ⟨n,rfl⟩:=Int.eq_ofNat_of_zero_le h.1
  have hn : n < 256:=by omega
  clear h
  refine ⟨?_,congrArg (AV.int .i64) ?_⟩
  · revert n
    decide +kernel
  · revert n
    decide +kernel
def pops (d : List Int) : Int:=(d.map popc).sum
theorem pops_succ {d : List Int} {i : Nat} (h : i < d.length) : pops (d.take (i + 1)) = pops (d.take i) + popc (d.getD i 0):=by
  unfold pops
  rw [List.take_add_one,List.getElem?_eq_getElem h]
  simp only [Option.toList_some,List.map_append,List.map_cons,List.map_nil,List.sum_append,List.sum_cons,List.sum_nil,List.getD,List.getElem?_eq_getElem h,Option.getD_some,Int.add_zero]
theorem pops_le {d : List Int} (hd : ∀ x ∈ d,0 ≤ x ∧ x < 256) : 0 ≤ pops d ∧ pops d ≤ 8 * d.length:=by
  unfold pops
  induction d with
  | nil => exact ⟨Int.le_refl _,Int.le_refl _⟩
  | cons x d ih =>
    have h1:=popc_le (hd x (List.mem_cons_self ..))
    have h2:=ih (fun y hy => hd y (List.mem_cons_of_mem _ hy))
    rw [List.map_cons,List.sum_cons,List.length_cons]
    omega
theorem whole_spec (known : List Int) (hk : goodD known) (W : List (List Int)) (L : Nat) (hW : W.length = L) (hL : L ≤ 9223372036854775807) :
    FnC Tryz.prog 211 [.agg [.ints .u8 32 known,.sl (.lst 32 L (W.map dg))]] [] (.bool (decide (pops known = L))) []:=by
  refine fn0 mix [] 0 1 [.tmp 2] Tryz.func211 rfl (by kernel_rfl) (by kernel_rfl) rfl (by kernel_rfl) (by kernel_rfl) (by simp) ?_
  simp -implicitDefEqProofs (disch:=omega) only [go_sem,↓reduceIte]
  refine loop (ι:=Nat) 1 (fun i => i ≤ 32) (fun i => [(1,.ref 0 []),(3,.int .i64 (pops (known.take i))),(7,.ints .u8 32 known),(8,.int .i64 i)]) (fun i => [(0,.var (.agg [.ints .u8 32 known,.sl (.lst 32 L (W.map dg))]))]) (fun i => 32 - i) 0 [(0,0)] [] (Nat.zero_le _) rfl ?_ ?_ ?_ (fun i hi => ?_)
  · simp -implicitDefEqProofs (disch:=omega) only [go_sem,↓reduceIte]
  · simp -implicitDefEqProofs (disch:=omega) only [go_sem,↓reduceIte,List.take_zero,pops,List.map_nil,List.sum_nil]
  · simp -implicitDefEqProofs (disch:=omega) only [go_sem,↓reduceIte]
  simp -implicitDefEqProofs (disch:=omega) only [go_sem,↓reduceIte]
  refine brd (fun h => ?_) (fun h => ?_)
  · have hs:=pops_succ (d:=known) (i:=i) (by rw [hk.1]; omega)
    have hx:=getD_all' hk.2 (i:=i) (by rw [hk.1]; omega)
    have hp:=pops_le (d:=known.take i) (fun x h => hk.2 x (List.mem_of_mem_take h))
    have hlt : (known.take i).length ≤ 32:=by rw [List.length_take]; omega
    have hc:=popc_le hx
    simp -implicitDefEqProofs (disch:=omega) only [go_sem,↓reduceIte]
    refine call0 (ones_spec _ hx) ?_
    simp -implicitDefEqProofs (disch:=omega) only [go_sem,↓reduceIte]
    refine ⟨i + 1,[(0,0)],[],[],by dsimp only; omega,by dsimp only; omega,rfl,?_,?_,?_⟩ <;> simp -implicitDefEqProofs (disch:=omega) only [go_sem,↓reduceIte,hs]
  obtain rfl : i = 32:=by omega
  have e : known.take 32 = known:=List.take_of_length_le (by rw [hk.1]; exact Nat.le_refl _)
  rw [e]
  simp -implicitDefEqProofs (disch:=omega) only [go_sem,↓reduceIte]
end Go.Proofs.YtololahjocfbeaaGreat
