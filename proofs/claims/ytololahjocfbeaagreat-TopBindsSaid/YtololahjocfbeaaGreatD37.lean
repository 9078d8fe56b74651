/- Texts,joined. -/
import Derived.Test.YtololahjocfbeaaGreatD13
import Derived.Test.YtololahjocfbeaaGreatD19
import Derived.Test.YtololahjocfbeaaGreatD35
namespace Go.Proofs.YtololahjocfbeaaGreat
open Go Go.Sy Go.Proofs.Tryz
set_option maxRecDepth 100000
set_option maxHeartbeats 8000000
set_option linter.unusedSimpArgs false
set_option linter.unusedVariables false
attribute [go_sem] pl139
section
variable (seed key pub root pub' : List Int) (hs : goodD seed) (hk : goodD key) (hp : goodD pub) (ht : goodD root)
include hs hk hp ht in
theorem sign_own_spec (a n idx : Nat) (text : List Int) (tl : Nat) (htl : text.length = tl) (ha : 1 ≤ a ∧ a ≤ 4) (hn : 1 ≤ n ∧ n ≤ 4) (hi : idx < manyD a n) (htx : ∀ x ∈ text,0 ≤ x ∧ x < 256) (hc : tl ≤ 100000) :
    FnC Tryz.prog 139 [.agg [.agg [.int .i64 a,.int .i64 n],.ints .u8 32 root,.ints .u8 32 pub'],.agg [.ints .u8 32 seed,.ints .u8 32 key,.ints .u8 32 pub],.int .i64 idx,.osl 0 [] 1 0 1] [(0,.row (.arr 1 [.sl (.ints .u8 tl text)]))]
      (.tup [.agg [.int .i64 idx,.ints .u8 32 (rD key idx),.osl 0 [] 2 0 a],.int .i64 0]) [(0,.row (.lst 2 a ((partsK seed pub (msgD (rD key idx) root idx text) n idx a).map pt)))]:=by
  have hr : rightP a n:=by unfold rightP; omega
  have hm6:=manyD_le (a : Int) n
  refine fnV mix pl139 0 1 4 [.cell 8 41,.tmp 9] Tryz.func139 rfl (by kernel_rfl) (by kernel_rfl) rfl (by kernel_rfl) (by kernel_rfl) (by simp) rfl rfl ?_
  simp -implicitDefEqProofs (disch:=omega) only [go_sem,↓reduceIte]
  refine call0 (right_spec11 a n) ?_
  rw [decide_eq_true hr]
  simp -implicitDefEqProofs (disch:=omega) only [go_sem,↓reduceIte]
  refine brd (fun h => by omega) (fun h => ?_)
  simp -implicitDefEqProofs (disch:=omega) only [go_sem,↓reduceIte]
  refine call0 (many_spec a n) ?_
  simp -implicitDefEqProofs (disch:=omega) only [go_sem,↓reduceIte]
  refine brd (fun h => by omega) (fun h => ?_)
  simp -implicitDefEqProofs (disch:=omega) only [go_sem,↓reduceIte]
  refine callF 1 (number_spec idx 32 32 rfl) ?_
  simp -implicitDefEqProofs (disch:=omega) only [go_sem,↓reduceIte]
  refine callB (prf_spec key (be idx 32) 32 hk.1 (be_len _ _) (by decide) hk.2 (be_mem _ _)) ?_ ?_
  · simp -implicitDefEqProofs (disch:=omega) only [go_sem,↓reduceIte]
  have er : ofD 3 key (be idx 32) = rD key idx:=rfl
  have hct : cat [text] = text:=by simp [cat]
  have hto:=told_spec .nils a n (rD key idx) root pub' idx [text] (rD_good _ _) ht (by intro p hx; rw [List.mem_singleton] at hx; subst hx; exact htx) (by rw [hct]; omega) (by simp) (by omega)
  have hb1 : [text].map bsl = [.sl (.ints .u8 tl text)]:=by rw [List.map_cons,List.map_nil,bsl,htl]
  rw [hct,List.length_singleton,hb1] at hto
  rw [er]
  simp -implicitDefEqProofs (disch:=omega) only [go_sem,↓reduceIte]
  refine callB hto ?_ ?_
  · simp -implicitDefEqProofs (disch:=omega) only [go_sem,↓reduceIte]
  simp -implicitDefEqProofs (disch:=omega) only [go_sem,↓reduceIte]
  refine callF 1 (begin_spec a n idx hn.1 hn.2 (by omega)) ?_
  simp -implicitDefEqProofs (disch:=omega) only [go_sem,↓reduceIte]
  generalize hM : msgD (rD key idx) root idx text = M
  have hMg : goodD M:=by rw [← hM]; exact ofD_good _ _ _
  refine loop (ι:=Nat) 7 (fun k => k ≤ a) (fun k => [(4,.ref 0 []),(5,.ref 1 []),(8,.ref 2 []),(9,.int .i64 0),(10,.ref 3 []),(11,.ref 4 []),(12,.ref 5 []),(53,.int .i64 a),(54,.int .i64 k)])
    (fun k => [(0,.var (.agg [.agg [.int .i64 a,.int .i64 n],.ints .u8 32 root,.ints .u8 32 pub'])),(1,.var (.agg [.ints .u8 32 seed,.ints .u8 32 key,.ints .u8 32 pub])),(2,.var (.agg [.int .i64 0,.ints .u8 32 (List.replicate 32 0),.nils])),
      (3,.var (.agg [.int .i64 idx,.ints .u8 32 (rD key idx),outA k])),(4,.var (.ints .u8 32 (mK seed pub M n idx k))),(5,.var (.agg [.agg [.int .u32 k,.int .u64 (atN n idx (k + 1)),.int .i64 ((atN n idx k % pw n : Nat) : Int)],.agg [.int .i64 a,.int .i64 n]]))] ++ outO seed pub M n idx k)
    (fun k => a - k) 0 [(0,1),(1,2),(2,3),(3,5),(4,6),(5,7)] [] (Nat.zero_le _) rfl ?_ ?_ ?_ (fun k hk => ?_)
  · simp -implicitDefEqProofs (disch:=omega) only [go_sem,↓reduceIte]
  · simp -implicitDefEqProofs (disch:=omega) only [go_sem,↓reduceIte]
  · simp -implicitDefEqProofs (disch:=omega) only [go_sem,↓reduceIte,outA,outO,List.cons_append,List.nil_append,List.append_nil,mK,atN]
  have hle:=atN_le n idx (k + 1)
  have hle0:=atN_le n idx k
  have hpp:=pw_pos n
  have hp4 : pw n ≤ pw 4:=pw_le hn.2
  have hp5 : pw 4 = 16:=rfl
  have hlf : atN n idx k % pw n < pw n:=Nat.mod_lt _ (by omega)
  have hmk:=mK_good seed pub hMg n idx k
  have hb:=build_spec pub seed key k (atN n idx (k + 1) : Nat) hp hs (by omega) n (atN n idx k % pw n) hn.1 hn.2 hlf
  have hbw:=base_good (l:=(k : Int)) (k:=0) (f:=((atN n idx k % pw n : Nat) : Int)) (atN n idx (k + 1) : Nat) (by omega) (by decide) (by omega)
  have hws:=wsign_spec seed pub (mK seed pub M n idx k) _ hs hp hmk hbw
  have hso:=spot_spec (k : Int) (atN n idx (k + 1) : Nat) ((atN n idx k % pw n : Nat) : Int) (by omega)
  have hup:=up_spec11 (k : Int) a ((atN n idx k % pw n : Nat) : Int) n (atN n idx (k + 1)) hn.1 hn.2 (by omega) (by omega)
  have e1 : treeD (leafD pub seed k (atN n idx (k + 1) : Nat)) pub k (atN n idx (k + 1) : Nat) n 0 = mK seed pub M n idx (k + 1):=rfl
  have e2 : atN n idx (k + 1) / pw n = atN n idx (k + 1 + 1):=rfl
  have ep : (partsK seed pub M n idx (k + 1)).map pt = (partsK seed pub M n idx k).map pt ++ [pt (partK seed pub M n idx k)]:=by rw [partsK,List.map_append]; rfl
  have eq : pt (partK seed pub M n idx k) = .agg [.sl (.lst 32 67 ((rowN (signD (mK seed pub M n idx k) seed pub (base k (atN n idx (k + 1) : Nat) 0 ((atN n idx k % pw n : Nat) : Int))) 67).map dg)),.sl (.lst 32 n ((wayD (leafD pub seed k (atN n idx (k + 1) : Nat)) pub k (atN n idx (k + 1) : Nat) (atN n idx k % pw n) n).map dg))]:=by
    unfold pt partK; dsimp only; rw [rowN_len,wayD_len]
  rw [e1] at hb
  rw [e2] at hup
  obtain _ | k:=k
  · simp -implicitDefEqProofs (disch:=omega) only [go_sem,↓reduceIte,outA,outO,List.cons_append,List.nil_append,List.append_nil]
    refine brd (fun h => ?_) (fun h => by omega)
    simp -implicitDefEqProofs (disch:=omega) only [go_sem,↓reduceIte]
    refine callF 1 hb ?_
    simp -implicitDefEqProofs (disch:=omega) only [go_sem,↓reduceIte]
    refine call0 hso ?_
    simp -implicitDefEqProofs (disch:=omega) only [go_sem,↓reduceIte]
    refine callF 1 hws ?_
    simp -implicitDefEqProofs (disch:=omega) only [go_sem,↓reduceIte]
    refine callG false [(0,5)] [(0,5)] 13 hup ?_ ?_
    · simp [keys]
    simp -implicitDefEqProofs (disch:=omega) only [go_sem,↓reduceIte]
    have p1 : (partsK seed pub M n idx 1).map pt = [pt (partK seed pub M n idx 0)]:=rfl
    simp only [Int.natCast_zero,Nat.zero_add] at eq
    refine ⟨1,[(0,0),(1,1),(2,2),(3,3),(4,4),(5,5),(6,11)],[],[],by dsimp only; omega,by dsimp only; omega,rfl,?_,?_,?_⟩ <;> simp -implicitDefEqProofs (disch:=omega) only [go_sem,↓reduceIte,outA,outO,p1,eq]
  · simp -implicitDefEqProofs (disch:=omega) only [go_sem,↓reduceIte,outA,outO,List.cons_append,List.nil_append,List.append_nil]
    refine brd (fun h => ?_) (fun h => ?_)
    · simp -implicitDefEqProofs (disch:=omega) only [go_sem,↓reduceIte]
      refine callF 1 hb ?_
      simp -implicitDefEqProofs (disch:=omega) only [go_sem,↓reduceIte]
      refine call0 hso ?_
      simp -implicitDefEqProofs (disch:=omega) only [go_sem,↓reduceIte]
      refine callF 1 hws ?_
      simp -implicitDefEqProofs (disch:=omega) only [go_sem,↓reduceIte]
      refine callG false [(0,5)] [(0,5)] 13 hup ?_ ?_
      · simp [keys]
      simp -implicitDefEqProofs (disch:=omega) only [go_sem,↓reduceIte]
      refine ⟨k + 1 + 1,[(0,0),(1,1),(2,2),(3,3),(4,4),(5,5),(6,11)],[],[],by dsimp only; omega,by dsimp only; omega,rfl,?_,?_,?_⟩ <;> simp -implicitDefEqProofs (disch:=omega) only [go_sem,↓reduceIte,outA,outO,ep,eq]
    · obtain rfl : a = k + 1:=by omega
      simp -implicitDefEqProofs (disch:=omega) only [go_sem,↓reduceIte]
      refine ⟨[(0,6)],[],[],rfl,?_,?_,?_⟩ <;> simp -implicitDefEqProofs (disch:=omega) only [go_sem,↓reduceIte,hM]
end
theorem partsK_at (seed pub m : List Int) (n idx : Nat) : ∀ (a k : Nat),k < a → (partsK seed pub m n idx a)[k]? = some (partK seed pub m n idx k)
  | a + 1,k,h => by
    rw [partsK]
    by_cases e : k = a
    · subst e; rw [List.getElem?_append_right (by rw [partsK_len]; omega),partsK_len,Nat.sub_self]; rfl
    · rw [List.getElem?_append_left (by rw [partsK_len]; omega)]; exact partsK_at seed pub m n idx a k (by omega)
theorem partK_good {seed pub : List Int} (m : List Int) (n idx k : Nat) : goodPt (partK seed pub m n idx k) :=
  ⟨rowN_good fun i _ => signD_good _ _ _ _ _,wayD_good (leafD_good pub _ _ seed) _ _ _ _ _⟩
theorem partsK_mem {seed pub m : List Int} {n idx : Nat} {p : Part} : ∀ {a : Nat},p ∈ partsK seed pub m n idx a → ∃ k,k < a ∧ p = partK seed pub m n idx k
  | 0,h => absurd h List.not_mem_nil
  | a + 1,h => by
    rcases List.mem_append.1 h with h | h
    · obtain ⟨k,hk,e⟩:=partsK_mem h
      exact ⟨k,by omega,e⟩
    · rw [List.mem_singleton] at h
      exact ⟨a,by omega,h⟩
theorem vK_own {seed pub m : List Int} (hm : goodD m) (n idx a : Nat) : ∀ k,k ≤ a → vK pub m n idx (partsK seed pub m n idx a) k = mK seed pub m n idx k
  | 0,_ => rfl
  | k + 1,h => by
    have hg : (partsK seed pub m n idx a).getD k ([],[]) = partK seed pub m n idx k:=by simp only [List.getD,partsK_at seed pub m n idx a k (by omega),Option.getD_some]
    have hmk:=mK_good seed pub hm n idx k
    rw [vK,vK_own hm n idx a k (by omega),hg]
    have e1 : ledD pub (mK seed pub m n idx k) k (atN n idx (k + 1) : Nat) (atN n idx k % pw n) (partK seed pub m n idx k) = leafD pub seed k (atN n idx (k + 1) : Nat) (atN n idx k % pw n):=by
      unfold ledD leafD partK
      dsimp only
      congr 1
      exact rowN_congr (f:=leadD (rowN (signD (mK seed pub m n idx k) seed pub (base k (atN n idx (k + 1) : Nat) 0 ((atN n idx k % pw n : Nat) : Int))) 67) (mK seed pub m n idx k) pub (base k (atN n idx (k + 1) : Nat) 0 ((atN n idx k % pw n : Nat) : Int))) fun i hi => lead_sign hmk seed pub _ hi
    unfold overD
    rw [e1]
    have hw : (partK seed pub m n idx k).2 = wayD (leafD pub seed k (atN n idx (k + 1) : Nat)) pub k (atN n idx (k + 1) : Nat) (atN n idx k % pw n) n:=rfl
    rw [hw,climb_way _ _ _ _ _ _ n (Nat.le_refl _)]
    have hlt : atN n idx k % pw n < 2 ^ n:=Nat.mod_lt _ (Nat.two_pow_pos n)
    rw [Nat.div_eq_of_lt hlt]
    rfl
theorem atN_div (n idx : Nat) : ∀ k,atN n idx k = idx / 2 ^ (k * n)
  | 0 => by simp [atN]
  | k + 1 => by
    rw [atN,atN_div n idx k,Nat.div_div_eq_div_mul,pw,← Nat.pow_add,show k * n + n = (k + 1) * n by rw [Nat.add_mul]; omega]
theorem root_own (seed pub : List Int) {a n idx : Nat} (ha : 1 ≤ a ∧ a ≤ 4) (hn : 1 ≤ n ∧ n ≤ 4) (hi : idx < manyD a n) (m : List Int) : mK seed pub m n idx a = keyR seed pub a n:=by
  obtain ⟨k,rfl⟩ : ∃ k,a = k + 1:=⟨a - 1,by omega⟩
  have h0 : atN n idx (k + 1) = 0:=by
    rw [atN_div]
    apply Nat.div_eq_of_lt
    have hr : rightP ((k + 1 : Nat) : Int) n:=by unfold rightP; omega
    rw [manyD,if_pos hr] at hi
    have e : (((k + 1 : Nat) : Int) * (n : Int)).toNat = (k + 1) * n:=by rw [← Int.natCast_mul,Int.toNat_natCast]
    rw [e] at hi
    exact hi
  show rootK seed pub n idx k = _
  unfold rootK keyR
  rw [h0,Int.toNat_natCast,show ((k + 1 : Nat) : Int) - 1 = (k : Int) by omega]
  rfl
end Go.Proofs.YtololahjocfbeaaGreat
