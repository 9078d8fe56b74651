/- Texts,joined. -/
import Derived.Test.YtololahjocfbeaaGreatD45
namespace Go.Proofs.YtololahjocfbeaaGreat
open Go Go.Sy Go.Proofs.Tryz
set_option maxRecDepth 100000
set_option maxHeartbeats 8000000
set_option linter.unusedSimpArgs false
set_option linter.unusedVariables false
attribute [go_sem] pl47 pl102
def shownP (p : Bool) (root index c known : List Int) (W : List (List Int)) : Prop:=pops known = W.length ∧ climbR index known W (sumD (leafTx p index c)) 256 = root
instance (p : Bool) (root index c known : List Int) (W : List (List Int)) : Decidable (shownP p root index c known W):=by unfold shownP; infer_instance
def unlikeP (p p' : Bool) (c c' : List Int) : Prop:=p ≠ p' ∨ (p = true ∧ c ≠ c')
instance (p p' : Bool) (c c' : List Int) : Decidable (unlikeP p p' c c'):=by unfold unlikeP; infer_instance
theorem leafTx_ne {p p' : Bool} {index c c' : List Int} (hi : goodD index) (hc : goodD c) (hc' : goodD c') (h : unlikeP p p' c c') : leafTx p index c ≠ leafTx p' index c':=by
  intro e
  cases p <;> cases p'
  · rcases h with h | h
    · exact h rfl
    · cases h.1
  · have:=congrArg List.length e
    rw [show leafTx false index c = [2] from rfl,show leafTx true index c' = 0 :: (index ++ c') from rfl,List.length_singleton,List.length_cons,List.length_append,hi.1,hc'.1] at this
    omega
  · have:=congrArg List.length e
    rw [show leafTx true index c = 0 :: (index ++ c) from rfl,show leafTx false index c' = [2] from rfl,List.length_singleton,List.length_cons,List.length_append,hi.1,hc.1] at this
    omega
  · rcases h with h | h
    · exact h rfl
    · exact h.2 (List.append_cancel_left (List.cons.inj e).2)
theorem tree_found {index known known' : List Int} {W W' : List (List Int)} {t0 t0' : List Int} (hg : ∀ d ∈ W,goodD d) (hg' : ∀ d ∈ W',goodD d) (hc : cntK known 256 = W.length) (hc' : cntK known' 256 = W'.length) (hne : t0 ≠ t0') :
    ∀ k,k ≤ 256 → sumD (trT index known W t0 k) = sumD (trT index known' W' t0' k) → Found (rowN (trT index known W t0) (k + 1)).reverse (rowN (trT index known' W' t0') (k + 1)).reverse
  | 0,_,h => by
    rw [rowN_succ,rowN_succ,List.reverse_append,List.reverse_append]
    exact found_head h (fun e => absurd e hne)
  | k + 1,hk,h => by
    rw [rowN_succ _ (k + 1),rowN_succ _ (k + 1),List.reverse_append,List.reverse_append]
    refine found_head h (fun e => tree_found hg hg' hc hc' hne k (by omega) ?_)
    have g1:=sideD_good hg hc (k:=k) (by omega)
    have g2:=sideD_good hg' hc' (k:=k) (by omega)
    rw [trT,trT] at e
    split at e
    · exact (pair_inj_right e (by rw [g1.1,g2.1])).1
    · exact (pair_inj_left e (by rw [g1.1,g2.1])).2
section
variable (index known : List Int) (hi : goodD index) (hk : goodD known) (W : List (List Int)) (L : Nat) (hW : W.length = L) (hL : L ≤ 1000000) (hg : ∀ d ∈ W,goodD d) (p : Bool) (c : List Int) (hc : goodD c)
include hi hk hW hL hg hc in
theorem sideShown_spec (root : List Int) : FnC Tryz.prog 101 [sdV p c known L W,.ints .u8 32 root,.ints .u8 32 index] [] (.bool (decide (shownP p root index c known W))) []:=by
  have h1:=present_spec root index known hi hk W L hW (by omega) hg c hc
  have h2:=absent_spec root index known hi hk W L hW (by omega) hg
  cases p with
  | true =>
    rw [show decide (pops known = L ∧ climbR index known W (leafP index c) 256 = root) = decide (shownP true root index c known W) from decide_eq_decide.2 (by unfold shownP; rw [hW]; rfl)] at h1
    refine fn0 mix [] 0 3 [.tmp 6] Tryz.func101 rfl (by kernel_rfl) (by kernel_rfl) rfl (by kernel_rfl) (by kernel_rfl) (by simp) ?_
    simp -implicitDefEqProofs (disch:=omega) only [go_sem,↓reduceIte]
    refine call0 h1 ?_
    simp -implicitDefEqProofs (disch:=omega) only [go_sem,↓reduceIte]
  | false =>
    rw [show decide (pops known = L ∧ climbR index known W (emptyD 0) 256 = root) = decide (shownP false root index c known W) from decide_eq_decide.2 (by unfold shownP; rw [hW]; rfl)] at h2
    refine fn0 mix [] 0 3 [.tmp 6] Tryz.func101 rfl (by kernel_rfl) (by kernel_rfl) rfl (by kernel_rfl) (by kernel_rfl) (by simp) ?_
    simp -implicitDefEqProofs (disch:=omega) only [go_sem,↓reduceIte]
    refine call0 h2 ?_
    simp -implicitDefEqProofs (disch:=omega) only [go_sem,↓reduceIte]
end
section
variable (root index : List Int) (hi : goodD index) (p p' : Bool) (c c' known known' : List Int) (hc : goodD c) (hc' : goodD c') (hk : goodD known) (hk' : goodD known') (W W' : List (List Int)) (L L' : Nat) (hW : W.length = L) (hW' : W'.length = L') (hL : L ≤ 1000000) (hL' : L' ≤ 1000000) (hg : ∀ d ∈ W,goodD d) (hg' : ∀ d ∈ W',goodD d)
theorem unlike_cases {p p' : Bool} {c c' : List Int} (h : unlikeP p p' c c') : (p = false ∧ p' = true) ∨ (p = true ∧ p' = false) ∨ (p = true ∧ p' = true ∧ c ≠ c'):=by
  cases p <;> cases p'
  · rcases h with h | h
    · exact absurd rfl h
    · cases h.1
  · exact .inl ⟨rfl,rfl⟩
  · exact .inr (.inl ⟨rfl,rfl⟩)
  · rcases h with h | h
    · exact absurd rfl h
    · exact .inr (.inr ⟨rfl,rfl,h.2⟩)
theorem like_cases {p p' : Bool} {c c' : List Int} (h : ¬ unlikeP p p' c c') : (p = false ∧ p' = false) ∨ (p = true ∧ p' = true ∧ c = c'):=by
  cases p <;> cases p'
  · exact .inl ⟨rfl,rfl⟩
  · exact absurd (.inl (by decide)) h
  · exact absurd (.inl (by decide)) h
  · exact .inr ⟨rfl,rfl,Classical.byContradiction fun e => h (.inr ⟨rfl,e⟩)⟩
theorem xff : (false == false) = true:=rfl
theorem xtt : (true == true) = true:=rfl
theorem bft : (false == true) = false:=rfl
theorem btf : (true == false) = false:=rfl
include hi hc hc' hk hk' hW hW' hL hL' hg hg' in
theorem trees_none (h : ¬ (unlikeP p p' c c' ∧ shownP p root index c known W ∧ shownP p' root index c' known' W')) :
    FnC Tryz.prog 47 [.ints .u8 32 root,.ints .u8 32 index,sdV p c known L W,sdV p' c' known' L' W'] [] (.tup [.nils,.nils,.bool false]) []:=by
  have s1:=sideShown_spec index known hi hk W L hW hL hg p c hc root
  have s2:=sideShown_spec index known' hi hk' W' L' hW' hL' hg' p' c' hc' root
  by_cases hu : unlikeP p p' c c'
  · by_cases h1 : shownP p root index c known W
    · have h2 : ¬ shownP p' root index c' known' W':=fun h2 => h ⟨hu,h1,h2⟩
      rw [decide_eq_true h1] at s1
      rw [decide_eq_false h2] at s2
      rcases unlike_cases hu with ⟨rfl,rfl⟩ | ⟨rfl,rfl⟩ | ⟨rfl,rfl,hcc⟩
      · skip
        refine fn0 mix pl47 0 4 [.tmp 8,.tmp 9,.tmp 10] Tryz.func47 rfl (by kernel_rfl) (by kernel_rfl) rfl (by kernel_rfl) (by kernel_rfl) (by simp) ?_
        simp -implicitDefEqProofs (disch:=omega) only [go_sem,↓reduceIte,xff,xtt,bft,btf]
        refine call0 s1 ?_
        simp -implicitDefEqProofs (disch:=omega) only [go_sem,↓reduceIte]
        refine call0 s2 ?_
        simp -implicitDefEqProofs (disch:=omega) only [go_sem,↓reduceIte]
      · skip
        refine fn0 mix pl47 0 4 [.tmp 8,.tmp 9,.tmp 10] Tryz.func47 rfl (by kernel_rfl) (by kernel_rfl) rfl (by kernel_rfl) (by kernel_rfl) (by simp) ?_
        simp -implicitDefEqProofs (disch:=omega) only [go_sem,↓reduceIte,xff,xtt,bft,btf]
        refine call0 s1 ?_
        simp -implicitDefEqProofs (disch:=omega) only [go_sem,↓reduceIte]
        refine call0 s2 ?_
        simp -implicitDefEqProofs (disch:=omega) only [go_sem,↓reduceIte]
      · have hd:=decide_eq_false hcc
        refine fn0 mix pl47 0 4 [.tmp 8,.tmp 9,.tmp 10] Tryz.func47 rfl (by kernel_rfl) (by kernel_rfl) rfl (by kernel_rfl) (by kernel_rfl) (by simp) ?_
        simp -implicitDefEqProofs (disch:=omega) only [go_sem,↓reduceIte,xff,xtt,bft,btf,hd]
        refine call0 s1 ?_
        simp -implicitDefEqProofs (disch:=omega) only [go_sem,↓reduceIte]
        refine call0 s2 ?_
        simp -implicitDefEqProofs (disch:=omega) only [go_sem,↓reduceIte]
    · rw [decide_eq_false h1] at s1
      rcases unlike_cases hu with ⟨rfl,rfl⟩ | ⟨rfl,rfl⟩ | ⟨rfl,rfl,hcc⟩
      · skip
        refine fn0 mix pl47 0 4 [.tmp 8,.tmp 9,.tmp 10] Tryz.func47 rfl (by kernel_rfl) (by kernel_rfl) rfl (by kernel_rfl) (by kernel_rfl) (by simp) ?_
        simp -implicitDefEqProofs (disch:=omega) only [go_sem,↓reduceIte,xff,xtt,bft,btf]
        refine call0 s1 ?_
        simp -implicitDefEqProofs (disch:=omega) only [go_sem,↓reduceIte]
      · skip
        refine fn0 mix pl47 0 4 [.tmp 8,.tmp 9,.tmp 10] Tryz.func47 rfl (by kernel_rfl) (by kernel_rfl) rfl (by kernel_rfl) (by kernel_rfl) (by simp) ?_
        simp -implicitDefEqProofs (disch:=omega) only [go_sem,↓reduceIte,xff,xtt,bft,btf]
        refine call0 s1 ?_
        simp -implicitDefEqProofs (disch:=omega) only [go_sem,↓reduceIte]
      · have hd:=decide_eq_false hcc
        refine fn0 mix pl47 0 4 [.tmp 8,.tmp 9,.tmp 10] Tryz.func47 rfl (by kernel_rfl) (by kernel_rfl) rfl (by kernel_rfl) (by kernel_rfl) (by simp) ?_
        simp -implicitDefEqProofs (disch:=omega) only [go_sem,↓reduceIte,xff,xtt,bft,btf,hd]
        refine call0 s1 ?_
        simp -implicitDefEqProofs (disch:=omega) only [go_sem,↓reduceIte]
  · rcases like_cases hu with ⟨rfl,rfl⟩ | ⟨rfl,rfl,hcc⟩
    · refine fn0 mix pl47 0 4 [.tmp 8,.tmp 9,.tmp 10] Tryz.func47 rfl (by kernel_rfl) (by kernel_rfl) rfl (by kernel_rfl) (by kernel_rfl) (by simp) ?_
      simp -implicitDefEqProofs (disch:=omega) only [go_sem,↓reduceIte,xff,xtt,bft,btf]
    · have hd:=decide_eq_true hcc
      refine fn0 mix pl47 0 4 [.tmp 8,.tmp 9,.tmp 10] Tryz.func47 rfl (by kernel_rfl) (by kernel_rfl) rfl (by kernel_rfl) (by kernel_rfl) (by simp) ?_
      simp -implicitDefEqProofs (disch:=omega) only [go_sem,↓reduceIte,xff,xtt,bft,btf,hd]
include hi hc hc' hk hk' hW hW' hL hL' hg hg' in
theorem trees_ok (hu : unlikeP p p' c c') (h1 : shownP p root index c known W) (h2 : shownP p' root index c' known' W') :
    ∃ x y,x ≠ y ∧ sumD x = sumD y ∧ (∀ z ∈ x,0 ≤ z ∧ z < 256) ∧ (∀ z ∈ y,0 ≤ z ∧ z < 256) ∧ x.length ≤ 100000 ∧ y.length ≤ 100000 ∧
    FnC Tryz.prog 47 [.ints .u8 32 root,.ints .u8 32 index,sdV p c known L W,sdV p' c' known' L' W'] [] (.tup [.osl 0 [] 1 0 x.length,.osl 1 [] 1 0 y.length,.bool true])
      [(0,.row (.ints .u8 x.length x)),(1,.row (.ints .u8 y.length y))]:=by
  have s1:=sideShown_spec index known hi hk W L hW hL hg p c hc root
  have s2:=sideShown_spec index known' hi hk' W' L' hW' hL' hg' p' c' hc' root
  rw [decide_eq_true h1] at s1
  rw [decide_eq_true h2] at s2
  have t1:=treeTrail_ok index known hi hk W L hW hL hg p c hc (by rw [h1.1,hW])
  have t2:=treeTrail_ok index known' hi hk' W' L' hW' hL' hg' p' c' hc' (by rw [h2.1,hW'])
  have k1 : cntK known 256 = W.length:=by have:=cntK_all hk.1; rw [h1.1] at this; omega
  have k2 : cntK known' 256 = W'.length:=by have:=cntK_all hk'.1; rw [h2.1] at this; omega
  have hfo:=tree_found hg hg' k1 k2 (leafTx_ne hi hc hc' hu) 256 (Nat.le_refl _) (by rw [trT_sum,trT_sum,h1.2,h2.2])
  have m1 : ∀ k,k ≤ 256 → (trT index known W (leafTx p index c) k).length ≤ 100 ∧ ∀ x ∈ trT index known W (leafTx p index c) k,0 ≤ x ∧ x < 256:=trT_mem index known W _ hg k1 (leafTx_mem index hi p c hc)
  have m2 : ∀ k,k ≤ 256 → (trT index known' W' (leafTx p' index c') k).length ≤ 100 ∧ ∀ x ∈ trT index known' W' (leafTx p' index c') k,0 ≤ x ∧ x < 256:=trT_mem index known' W' _ hg' k2 (leafTx_mem index hi p' c' hc')
  generalize trT index known W (leafTx p index c) = T at *
  generalize trT index known' W' (leafTx p' index c') = T' at *
  have n1 : ∀ t ∈ (rowN T 257).reverse,t.length ≤ 100000 ∧ ∀ y ∈ t,0 ≤ y ∧ y < 256:=fun t ht => by
    rw [List.mem_reverse,rowN,List.mem_map] at ht
    obtain ⟨k,hk,rfl⟩:=ht
    have:=m1 k (by have:=List.mem_range.1 hk; omega)
    exact ⟨by omega,this.2⟩
  have n2 : ∀ t ∈ (rowN T' 257).reverse,t.length ≤ 100000 ∧ ∀ y ∈ t,0 ≤ y ∧ y < 256:=fun t ht => by
    rw [List.mem_reverse,rowN,List.mem_map] at ht
    obtain ⟨k,hk,rfl⟩:=ht
    have:=m2 k (by have:=List.mem_range.1 hk; omega)
    exact ⟨by omega,this.2⟩
  have el1 : (rowN T 257).reverse.length = 257:=by rw [List.length_reverse,rowN,List.length_map,List.length_range]
  have el2 : (rowN T' 257).reverse.length = 257:=by rw [List.length_reverse,rowN,List.length_map,List.length_range]
  obtain ⟨q,hq,hs⟩:=hfo
  have ex:=n1 _ (getD_mem hq.1)
  have ey:=n2 _ (getD_mem hq.2.1)
  have hpt:=part_some _ _ 257 257 q el1 el2 (by omega) (by omega) (fun t ht => (n1 t ht).2) (fun t ht => (n2 t ht).2) ex.1 ey.1 hq
  refine ⟨_,_,hq.2.2.2,hs,ex.2,ey.2,ex.1,ey.1,?_⟩
  generalize (rowN T 257).reverse.getD q [] = x at *
  generalize (rowN T' 257).reverse.getD q [] = y at *
  generalize (rowN T 257).reverse = R at *
  generalize (rowN T' 257).reverse = R' at *
  rcases unlike_cases hu with ⟨rfl,rfl⟩ | ⟨rfl,rfl⟩ | ⟨rfl,rfl,hcc⟩
  · skip
    refine fnN mix pl47 0 4 [.tmp 8,.tmp 9,.tmp 10] Tryz.func47 rfl (by kernel_rfl) (by kernel_rfl) rfl (by kernel_rfl) (by kernel_rfl) (by simp) ?_
    simp -implicitDefEqProofs (disch:=omega) only [go_sem,↓reduceIte,xff,xtt,bft,btf]
    refine call0 s1 ?_
    simp -implicitDefEqProofs (disch:=omega) only [go_sem,↓reduceIte]
    refine call0 s2 ?_
    simp -implicitDefEqProofs (disch:=omega) only [go_sem,↓reduceIte]
    refine callF 1 t1 ?_
    simp -implicitDefEqProofs (disch:=omega) only [go_sem,↓reduceIte]
    refine callF 1 t2 ?_
    simp -implicitDefEqProofs (disch:=omega) only [go_sem,↓reduceIte]
    refine callBF 2 hpt ?_ ?_
    · simp -implicitDefEqProofs (disch:=omega) only [go_sem,↓reduceIte]
    simp -implicitDefEqProofs (disch:=omega) only [go_sem,↓reduceIte]
    refine ⟨[(0,6),(1,7)],[],[],rfl,?_,?_,?_⟩ <;> simp -implicitDefEqProofs (disch:=omega) only [go_sem,↓reduceIte]
  · skip
    refine fnN mix pl47 0 4 [.tmp 8,.tmp 9,.tmp 10] Tryz.func47 rfl (by kernel_rfl) (by kernel_rfl) rfl (by kernel_rfl) (by kernel_rfl) (by simp) ?_
    simp -implicitDefEqProofs (disch:=omega) only [go_sem,↓reduceIte,xff,xtt,bft,btf]
    refine call0 s1 ?_
    simp -implicitDefEqProofs (disch:=omega) only [go_sem,↓reduceIte]
    refine call0 s2 ?_
    simp -implicitDefEqProofs (disch:=omega) only [go_sem,↓reduceIte]
    refine callF 1 t1 ?_
    simp -implicitDefEqProofs (disch:=omega) only [go_sem,↓reduceIte]
    refine callF 1 t2 ?_
    simp -implicitDefEqProofs (disch:=omega) only [go_sem,↓reduceIte]
    refine callBF 2 hpt ?_ ?_
    · simp -implicitDefEqProofs (disch:=omega) only [go_sem,↓reduceIte]
    simp -implicitDefEqProofs (disch:=omega) only [go_sem,↓reduceIte]
    refine ⟨[(0,6),(1,7)],[],[],rfl,?_,?_,?_⟩ <;> simp -implicitDefEqProofs (disch:=omega) only [go_sem,↓reduceIte]
  · have hd:=decide_eq_false hcc
    refine fnN mix pl47 0 4 [.tmp 8,.tmp 9,.tmp 10] Tryz.func47 rfl (by kernel_rfl) (by kernel_rfl) rfl (by kernel_rfl) (by kernel_rfl) (by simp) ?_
    simp -implicitDefEqProofs (disch:=omega) only [go_sem,↓reduceIte,xff,xtt,bft,btf,hd]
    refine call0 s1 ?_
    simp -implicitDefEqProofs (disch:=omega) only [go_sem,↓reduceIte]
    refine call0 s2 ?_
    simp -implicitDefEqProofs (disch:=omega) only [go_sem,↓reduceIte]
    refine callF 1 t1 ?_
    simp -implicitDefEqProofs (disch:=omega) only [go_sem,↓reduceIte]
    refine callF 1 t2 ?_
    simp -implicitDefEqProofs (disch:=omega) only [go_sem,↓reduceIte]
    refine callBF 2 hpt ?_ ?_
    · simp -implicitDefEqProofs (disch:=omega) only [go_sem,↓reduceIte]
    simp -implicitDefEqProofs (disch:=omega) only [go_sem,↓reduceIte]
    refine ⟨[(0,6),(1,7)],[],[],rfl,?_,?_,?_⟩ <;> simp -implicitDefEqProofs (disch:=omega) only [go_sem,↓reduceIte]
end
section
variable (root index : List Int) (hi : goodD index) (c known : List Int) (hc : goodD c) (hk : goodD known) (W : List (List Int)) (L : Nat) (hW : W.length = L) (hL : L ≤ 1000000) (hg : ∀ d ∈ W,goodD d)
include hi hk hW hL hg
end
end Go.Proofs.YtololahjocfbeaaGreat
