/- Texts,joined. -/
import Derived.Test.YtololahjocfbeaaGreatD25
namespace Go.Proofs.YtololahjocfbeaaGreat
open Go Go.Sy Go.Proofs.Tryz
set_option maxRecDepth 100000
set_option maxHeartbeats 8000000
set_option linter.unusedSimpArgs false
set_option linter.unusedVariables false
attribute [go_sem] pl204 pl236
def sib (q : Nat) : Nat:=if q % 2 = 0 then q + 1 else q - 1
theorem xor_sib (q : Nat) (h : q < 1000) : q ^^^ 1 = sib q:=(by decide +kernel : ∀ q,q < 1000 → q ^^^ 1 = sib q) q h
theorem sib_le (q : Nat) : sib q ≤ q + 1:=by unfold sib; split <;> omega
theorem ixor_sib (q : Nat) (h : q < 1000) : ixor .i64 (q : Int) 1 = (sib q : Int):=by
  rw [ixor_nat (k:=.i64) (by omega) (by show (q : Int) < 2 ^ 64; omega) (by decide) (by decide)]
  have e : (q : Int).toNat ^^^ (1 : Int).toNat = sib q:=by rw [Int.toNat_natCast,show (1 : Int).toNat = 1 by rfl,xor_sib q h]
  rw [e]
  have:=sib_le q
  exact wrap_i64 (by omega) (by omega)
structure Nd where
  d : List Int
  lv : Nat
  at_ : Nat
def ndV (n : Nd) : AV:=.agg [.ints .u8 32 n.d,.int .i64 n.lv,.int .i64 n.at_]
def seeD (leaf : Nat) (way : List (List Int)) (n : Nd) : List (List Int) :=
  if n.lv < way.length ∧ n.at_ = sib (leaf / 2 ^ n.lv) then way.set n.lv n.d else way
section
variable (pub : List Int) (l t : Int) (leaf n : Nat) (way : List (List Int)) (hn : way.length = n) (hn4 : n ≤ 4) (hleaf : leaf < 1000)
include hn hn4 hleaf in
theorem see0_spec (nd : Nd) : FnC Tryz.prog 236 [.ref 0 [],.agg [.ints .u8 32 nd.d,.int .i64 nd.lv,.int .i64 nd.at_]]
    [(0,.var (.agg [.agg [.ints .u8 32 pub,.int .u32 l,.int .u64 t],.nils,.int .i64 leaf,.osl 1 [] 32 0 n])),(1,.row (.lst 32 n (way.map dg)))] (.tup [])
    [(0,.var (.agg [.agg [.ints .u8 32 pub,.int .u32 l,.int .u64 t],.nils,.int .i64 leaf,.osl 1 [] 32 0 n])),(1,.row (.lst 32 n ((seeD leaf way nd).map dg)))]:=by
  refine fnN mix pl236 2 2 [] Tryz.func236 rfl (by kernel_rfl) (by kernel_rfl) rfl (by kernel_rfl) (by kernel_rfl) (by simp) ?_
  simp -implicitDefEqProofs (disch:=omega) only [go_sem,↓reduceIte]
  by_cases c1 : nd.lv < n
  · have hsr:=shr_nat leaf nd.lv (by omega)
    have hx:=ixor_sib (leaf / 2 ^ nd.lv) (Nat.lt_of_le_of_lt (Nat.div_le_self _ _) hleaf)
    have hle : (way.map dg).length = n:=by rw [List.length_map,hn]
    have d1 : decide ((nd.lv : Int) < n) = true:=decide_eq_true (by omega)
    simp -implicitDefEqProofs (disch:=omega) only [go_sem,↓reduceIte,d1,hsr,hx]
    refine brd (fun h => ?_) (fun h => ?_)
    · have e : seeD leaf way nd = way.set nd.lv nd.d:=by unfold seeD; rw [if_pos ⟨by omega,by omega⟩]
      have es : (way.set nd.lv nd.d).map dg = (way.map dg).set nd.lv (.ints .u8 32 nd.d):=List.map_set
      have hg:=fun K => getP_map (f:=dg) (getD_some' (row:=way) (i:=nd.lv) (by omega)) K
      simp -implicitDefEqProofs (disch:=omega) only [go_sem,↓reduceIte,hle,hg,dg]
      refine ⟨[(0,0),(1,1)],[],[],rfl,?_,?_,?_⟩ <;> simp -implicitDefEqProofs (disch:=omega) only [go_sem,↓reduceIte,e,es]
    · have e : seeD leaf way nd = way:=by unfold seeD; rw [if_neg (by omega)]
      simp -implicitDefEqProofs (disch:=omega) only [go_sem,↓reduceIte]
      refine ⟨[(0,0),(1,1)],[],[],rfl,?_,?_,?_⟩ <;> simp -implicitDefEqProofs (disch:=omega) only [go_sem,↓reduceIte,e]
  · have d1 : decide ((nd.lv : Int) < n) = false:=decide_eq_false (by omega)
    have e : seeD leaf way nd = way:=by unfold seeD; rw [if_neg (by omega)]
    simp -implicitDefEqProofs (disch:=omega) only [go_sem,↓reduceIte,d1]
    refine ⟨[(0,0),(1,1)],[],[],rfl,?_,?_,?_⟩ <;> simp -implicitDefEqProofs (disch:=omega) only [go_sem,↓reduceIte,e]
include hn hn4 hleaf in
theorem see1_spec (nd : Nd) (ws : List Nd) (m r : Nat) : FnC Tryz.prog 236 [.ref 0 [],.agg [.ints .u8 32 nd.d,.int .i64 nd.lv,.int .i64 nd.at_]]
    [(0,.var (.agg [.agg [.ints .u8 32 pub,.int .u32 l,.int .u64 t],.osl 2 [] 34 0 r,.int .i64 leaf,.osl 1 [] 32 0 n])),(1,.row (.lst 32 n (way.map dg))),(2,.row (.lst 34 m (ws.map ndV)))] (.tup [])
    [(0,.var (.agg [.agg [.ints .u8 32 pub,.int .u32 l,.int .u64 t],.osl 2 [] 34 0 r,.int .i64 leaf,.osl 1 [] 32 0 n])),(1,.row (.lst 32 n ((seeD leaf way nd).map dg))),(2,.row (.lst 34 m (ws.map ndV)))]:=by
  refine fnN mix pl236 3 2 [] Tryz.func236 rfl (by kernel_rfl) (by kernel_rfl) rfl (by kernel_rfl) (by kernel_rfl) (by simp) ?_
  simp -implicitDefEqProofs (disch:=omega) only [go_sem,↓reduceIte]
  by_cases c1 : nd.lv < n
  · have hsr:=shr_nat leaf nd.lv (by omega)
    have hx:=ixor_sib (leaf / 2 ^ nd.lv) (Nat.lt_of_le_of_lt (Nat.div_le_self _ _) hleaf)
    have hle : (way.map dg).length = n:=by rw [List.length_map,hn]
    have d1 : decide ((nd.lv : Int) < n) = true:=decide_eq_true (by omega)
    simp -implicitDefEqProofs (disch:=omega) only [go_sem,↓reduceIte,d1,hsr,hx]
    refine brd (fun h => ?_) (fun h => ?_)
    · have e : seeD leaf way nd = way.set nd.lv nd.d:=by unfold seeD; rw [if_pos ⟨by omega,by omega⟩]
      have es : (way.set nd.lv nd.d).map dg = (way.map dg).set nd.lv (.ints .u8 32 nd.d):=List.map_set
      have hg:=fun K => getP_map (f:=dg) (getD_some' (row:=way) (i:=nd.lv) (by omega)) K
      simp -implicitDefEqProofs (disch:=omega) only [go_sem,↓reduceIte,hle,hg,dg]
      refine ⟨[(0,0),(1,1),(2,2)],[],[],rfl,?_,?_,?_⟩ <;> simp -implicitDefEqProofs (disch:=omega) only [go_sem,↓reduceIte,e,es]
    · have e : seeD leaf way nd = way:=by unfold seeD; rw [if_neg (by omega)]
      simp -implicitDefEqProofs (disch:=omega) only [go_sem,↓reduceIte]
      refine ⟨[(0,0),(1,1),(2,2)],[],[],rfl,?_,?_,?_⟩ <;> simp -implicitDefEqProofs (disch:=omega) only [go_sem,↓reduceIte,e]
  · have d1 : decide ((nd.lv : Int) < n) = false:=decide_eq_false (by omega)
    have e : seeD leaf way nd = way:=by unfold seeD; rw [if_neg (by omega)]
    simp -implicitDefEqProofs (disch:=omega) only [go_sem,↓reduceIte,d1]
    refine ⟨[(0,0),(1,1),(2,2)],[],[],rfl,?_,?_,?_⟩ <;> simp -implicitDefEqProofs (disch:=omega) only [go_sem,↓reduceIte,e]
end
def upN (pub : List Int) (l t : Int) (a b : Nd) : Nd:=⟨nodeD a.d b.d pub l t b.lv (b.at_ / 2),b.lv + 1,b.at_ / 2⟩
def nd0 : Nd:=⟨[],0,0⟩
def addN (pub : List Int) (l t : Int) (ws : List Nd) : Nat → Nd → List Nd
  | 0,nd => [nd]
  | r + 1,nd => if (ws.getD r nd0).lv = nd.lv then addN pub l t ws r (upN pub l t (ws.getD r nd0) nd) else ws.take (r + 1) ++ [nd]
def wayN (pub : List Int) (l t : Int) (leaf : Nat) (ws : List Nd) : Nat → Nd → List (List Int) → List (List Int)
  | 0,_,w => w
  | r + 1,nd,w => if (ws.getD r nd0).lv = nd.lv then wayN pub l t leaf ws r (upN pub l t (ws.getD r nd0) nd) (seeD leaf w (upN pub l t (ws.getD r nd0) nd)) else w
theorem seeD_len (leaf : Nat) (w : List (List Int)) (nd : Nd) : (seeD leaf w nd).length = w.length:=by
  unfold seeD; split <;> simp
def goodN (n : Nd) : Prop:=goodD n.d ∧ n.lv < 100 ∧ n.at_ < 1000
theorem getN_map {ws : List Nd} {i : Nat} (h : i < ws.length) (K : AV → Prop) : getP (ws.map ndV) i K = K (.agg [.ints .u8 32 (ws.getD i nd0).d,.int .i64 (ws.getD i nd0).lv,.int .i64 (ws.getD i nd0).at_]):=by
  refine getP_map (f:=ndV) ?_ K
  simp only [List.getD,List.getElem?_eq_getElem h,Option.getD_some]
theorem getN_good {ws : List Nd} (h : ∀ n ∈ ws,goodN n) {i : Nat} (hi : i < ws.length) : goodN (ws.getD i nd0):=by
  simp only [List.getD,List.getElem?_eq_getElem hi,Option.getD_some]
  exact h _ (List.getElem_mem hi)
section
variable (pub : List Int) (l t : Int) (leaf n : Nat) (way : List (List Int)) (hp : goodD pub) (hl : 0 ≤ l ∧ l < 4294967296) (hn : way.length = n) (hn4 : n ≤ 4) (hleaf : leaf < 1000)
include hn hn4 hleaf in
theorem add0_spec (nd : Nd) : FnC Tryz.prog 204 [.ref 0 [],.agg [.ints .u8 32 nd.d,.int .i64 nd.lv,.int .i64 nd.at_]]
    [(0,.var (.agg [.agg [.ints .u8 32 pub,.int .u32 l,.int .u64 t],.nils,.int .i64 leaf,.osl 1 [] 32 0 n])),(1,.row (.lst 32 n (way.map dg)))] (.tup [])
    [(0,.var (.agg [.agg [.ints .u8 32 pub,.int .u32 l,.int .u64 t],.osl 2 [] 34 0 1,.int .i64 leaf,.osl 1 [] 32 0 n])),(1,.row (.lst 32 n ((seeD leaf way nd).map dg))),(2,.row (.lst 34 1 ([nd].map ndV)))]:=by
  refine fnV mix pl204 1 2 2 [] Tryz.func204 rfl (by kernel_rfl) (by kernel_rfl) rfl (by kernel_rfl) (by kernel_rfl) (by simp) rfl rfl ?_
  simp -implicitDefEqProofs (disch:=omega) only [go_sem,↓reduceIte]
  refine callG false [(0,0),(1,1)] [(0,0),(1,3)] 4 (see0_spec pub l t leaf n way hn hn4 hleaf nd) ?_ ?_
  · simp [keys]
  simp -implicitDefEqProofs (disch:=omega) only [go_sem,↓reduceIte]
  refine loop (ι:=Nat) 3 (fun k => k = 0) (fun k => [(0,.ref 0 []),(3,.ref 2 [])])
    (fun k => [(0,.var (.agg [.agg [.ints .u8 32 pub,.int .u32 l,.int .u64 t],.nils,.int .i64 leaf,.osl 1 [] 32 0 n])),(1,.row (.lst 32 n ((seeD leaf way nd).map dg))),(2,.var (.agg [.ints .u8 32 nd.d,.int .i64 nd.lv,.int .i64 nd.at_]))]) (fun k => 0) 0 [(0,0),(1,3),(2,2)] [] rfl rfl ?_ ?_ ?_ (fun k hk => ?_)
  · simp -implicitDefEqProofs (disch:=omega) only [go_sem,↓reduceIte]
  · simp -implicitDefEqProofs (disch:=omega) only [go_sem,↓reduceIte]
  · simp -implicitDefEqProofs (disch:=omega) only [go_sem,↓reduceIte]
  simp -implicitDefEqProofs (disch:=omega) only [go_sem,↓reduceIte]
  refine ⟨[(0,0),(1,1),(2,4)],[],[],rfl,?_,?_,?_⟩ <;> simp -implicitDefEqProofs (disch:=omega) only [go_sem,↓reduceIte,ndV]
include hp hl hn4 hleaf in
theorem add1_spec (way : List (List Int)) (hn : way.length = n) (nd : Nd) (ws : List Nd) (m : Nat) (hm : ws.length = m) (h10 : nd.lv + m ≤ 90) (hnd : goodN nd) (hws : ∀ n ∈ ws,goodN n) : FnC Tryz.prog 204 [.ref 0 [],.agg [.ints .u8 32 nd.d,.int .i64 nd.lv,.int .i64 nd.at_]]
    [(0,.var (.agg [.agg [.ints .u8 32 pub,.int .u32 l,.int .u64 t],.osl 2 [] 34 0 m,.int .i64 leaf,.osl 1 [] 32 0 n])),(1,.row (.lst 32 n (way.map dg))),(2,.row (.lst 34 m (ws.map ndV)))] (.tup [])
    [(0,.var (.agg [.agg [.ints .u8 32 pub,.int .u32 l,.int .u64 t],.osl 2 [] 34 0 (addN pub l t ws m nd).length,.int .i64 leaf,.osl 1 [] 32 0 n])),(1,.row (.lst 32 n ((wayN pub l t leaf ws m nd (seeD leaf way nd)).map dg))),(2,.row (.lst 34 (addN pub l t ws m nd).length ((addN pub l t ws m nd).map ndV)))]:=by
  generalize hA : addN pub l t ws m nd = A
  generalize hW : wayN pub l t leaf ws m nd (seeD leaf way nd) = W
  refine fnV mix pl204 1 3 2 [] Tryz.func204 rfl (by kernel_rfl) (by kernel_rfl) rfl (by kernel_rfl) (by kernel_rfl) (by simp) rfl rfl ?_
  simp -implicitDefEqProofs (disch:=omega) only [go_sem,↓reduceIte]
  refine callG false [(0,0),(1,1),(2,2)] [(0,0),(1,4),(2,5)] 6 (see1_spec pub l t leaf n way hn hn4 hleaf nd ws m m) ?_ ?_
  · simp [keys]
  simp -implicitDefEqProofs (disch:=omega) only [go_sem,↓reduceIte]
  refine loop (ι:=Nat × Nd × List (List Int)) 4 (fun k => k.1 ≤ m ∧ k.2.1.lv + k.1 ≤ 90 ∧ goodN k.2.1 ∧ k.2.2.length = n ∧ addN pub l t ws k.1 k.2.1 = A ∧ wayN pub l t leaf ws k.1 k.2.1 k.2.2 = W) (fun k => [(0,.ref 0 []),(3,.ref 3 [])])
    (fun k => [(0,.var (.agg [.agg [.ints .u8 32 pub,.int .u32 l,.int .u64 t],.osl 2 [] 34 0 k.1,.int .i64 leaf,.osl 1 [] 32 0 n])),(1,.row (.lst 32 n (k.2.2.map dg))),(2,.row (.lst 34 m (ws.map ndV))),(3,.var (.agg [.ints .u8 32 k.2.1.d,.int .i64 k.2.1.lv,.int .i64 k.2.1.at_]))]) (fun k => k.1) (m,nd,seeD leaf way nd) [(0,0),(1,4),(2,5),(3,3)] [] ⟨Nat.le_refl _,h10,hnd,by rw [seeD_len,hn],hA,hW⟩ rfl ?_ ?_ ?_ (fun k hk => ?_)
  · simp -implicitDefEqProofs (disch:=omega) only [go_sem,↓reduceIte]
  · simp -implicitDefEqProofs (disch:=omega) only [go_sem,↓reduceIte]
  · simp -implicitDefEqProofs (disch:=omega) only [go_sem,↓reduceIte]
  obtain ⟨r,x,w⟩:=k
  obtain ⟨q1,q2,q3,q4,q5,q6⟩:=hk
  dsimp only at q1 q2 q3 q4 q5 q6 ⊢
  clear hA hW
  obtain _ | r:=r
  · rw [addN] at q5
    rw [wayN] at q6
    have q5 : ws.take 0 ++ [x] = A:=q5
    simp -implicitDefEqProofs (disch:=omega) only [go_sem,↓reduceIte]
    by_cases hr : m = 0
    · have et : ws.take (0) = ws:=List.take_of_length_le (by omega)
      have ea : (ws ++ [x]).map ndV = ws.map ndV ++ [.agg [.ints .u8 32 x.d,.int .i64 x.lv,.int .i64 x.at_]]:=by rw [List.map_append]; rfl
      have el : (ws ++ [x]).length = 0 + 1:=by rw [List.length_append,List.length_singleton]; omega
      rw [et] at q5
      subst q5 q6
      simp -implicitDefEqProofs (disch:=omega) only [go_sem,↓reduceIte,hr]
      refine ⟨[(0,0),(1,1),(2,5)],[],[],rfl,?_,?_,?_⟩ <;> simp -implicitDefEqProofs (disch:=omega) only [go_sem,↓reduceIte,ea,el,hr,ndV]
    · have ea : (ws.take (0) ++ [x]).map ndV = (ws.map ndV).take (0) ++ [.agg [.ints .u8 32 x.d,.int .i64 x.lv,.int .i64 x.at_]]:=by rw [List.map_append,List.map_take]; rfl
      have hr2 : ¬ 0 = m:=fun h => hr h.symm
      have el : (ws.take (0) ++ [x]).length = 0 + 1:=by rw [List.length_append,List.length_singleton,List.length_take]; omega
      subst q5 q6
      simp -implicitDefEqProofs (disch:=omega) only [go_sem,↓reduceIte,hr,hr2]
      refine ⟨[(0,0),(1,1),(2,5)],[],[],rfl,?_,?_,?_⟩ <;> simp -implicitDefEqProofs (disch:=omega) only [go_sem,↓reduceIte,ea,el,hr,ndV]
  · have hg:=fun K => getN_map (ws:=ws) (i:=r) (by omega) K
    have hgd:=getN_good hws (show r < ws.length by omega)
    have hle : (ws.map ndV).length = m:=by rw [List.length_map,hm]
    have e1 : decide ((0 : Int) < (r : Int) + 1) = true:=decide_eq_true (by omega)
    have i1 : (r : Int) + 1 - 1 = r:=by omega
    have i2 : (r : Int).toNat = r:=Int.toNat_natCast r
    have hg2 : ∀ K,getP (ws.map ndV) (r : Int).toNat K = K (.agg [.ints .u8 32 (ws.getD r nd0).d,.int .i64 (ws.getD r nd0).lv,.int .i64 (ws.getD r nd0).at_]):=fun K => by rw [i2,hg]
    have hg3 : ∀ K,getP (ws.map ndV) ((r : Int) + 1 - 1).toNat K = K (.agg [.ints .u8 32 (ws.getD r nd0).d,.int .i64 (ws.getD r nd0).lv,.int .i64 (ws.getD r nd0).at_]):=fun K => by rw [i1,hg2]
    rw [addN] at q5
    rw [wayN] at q6
    simp -implicitDefEqProofs (disch:=omega) only [go_sem,↓reduceIte,e1,i1,↓hg,↓hg2,↓hg3,hle]
    refine brd (fun h => ?_) (fun h => ?_)
    · have e2 : (ws.getD r nd0).lv = x.lv:=by omega
      have t3 : (x.at_ : Int).tdiv 2 = (x.at_ / 2 : Nat):=by rw [Int.tdiv_eq_ediv_of_nonneg (by omega)]; omega
      obtain ⟨x1,x2,x3⟩:=q3
      rw [if_pos e2] at q5 q6
      generalize hu : upN pub l t (ws.getD r nd0) x = u at q5 q6
      have u1 : nodeD (ws.getD r nd0).d x.d pub l t x.lv (x.at_ / 2) = u.d:=by rw [← hu]; rfl
      have u2 : (x.lv : Int) + 1 = (u.lv : Int):=by rw [← hu]; show (x.lv : Int) + 1 = ((x.lv + 1 : Nat) : Int); omega
      have u3 : x.at_ / 2 = u.at_:=by rw [← hu]; rfl
      have hj:=pjoin_spec pub l t hp hl (ws.getD r nd0).d x.d x.lv (x.at_ / 2) hgd.1 x1 (by omega) (by omega)
      have ug : goodN u:=by
        rw [← hu]
        exact ⟨nodeD_good _ _ _ _ _ _ _,by show x.lv + 1 < 100; omega,by show x.at_ / 2 < 1000; omega⟩
      rw [u1] at hj
      simp -implicitDefEqProofs (disch:=omega) only [go_sem,↓reduceIte,e1,i1,↓hg,↓hg2,↓hg3,hle,i2,t3]
      refine call0 hj ?_
      simp -implicitDefEqProofs (disch:=omega) only [go_sem,↓reduceIte,t3,u2,u3]
      refine callG false [(0,0),(1,1),(2,2)] [(0,0),(1,5),(2,6)] 7 (see1_spec pub l t leaf n w q4 hn4 hleaf u ws m r) ?_ ?_
      · simp [keys]
      simp -implicitDefEqProofs (disch:=omega) only [go_sem,↓reduceIte]
      have lu : u.lv + r ≤ 90:=by omega
      have lw : (seeD leaf w u).length = n:=by rw [seeD_len,q4]
      refine ⟨(r,u,seeD leaf w u),[(0,0),(1,5),(2,6),(3,3)],[],[],⟨by dsimp only; omega,lu,ug,lw,q5,q6⟩,by dsimp only; omega,rfl,?_,?_,?_⟩ <;> simp -implicitDefEqProofs (disch:=omega) only [go_sem,↓reduceIte]
    · rw [if_neg (by omega)] at q5 q6
      simp -implicitDefEqProofs (disch:=omega) only [go_sem,↓reduceIte]
      by_cases hr : m = r + 1
      · have et : ws.take (r + 1) = ws:=List.take_of_length_le (by omega)
        have ea : (ws ++ [x]).map ndV = ws.map ndV ++ [.agg [.ints .u8 32 x.d,.int .i64 x.lv,.int .i64 x.at_]]:=by rw [List.map_append]; rfl
        have el : (ws ++ [x]).length = r + 1 + 1:=by rw [List.length_append,List.length_singleton]; omega
        rw [et] at q5
        subst q5 q6
        simp -implicitDefEqProofs (disch:=omega) only [go_sem,↓reduceIte,hr]
        refine ⟨[(0,0),(1,1),(2,5)],[],[],rfl,?_,?_,?_⟩ <;> simp -implicitDefEqProofs (disch:=omega) only [go_sem,↓reduceIte,ea,el,hr,ndV]
      · have ea : (ws.take (r + 1) ++ [x]).map ndV = (ws.map ndV).take (r + 1) ++ [.agg [.ints .u8 32 x.d,.int .i64 x.lv,.int .i64 x.at_]]:=by rw [List.map_append,List.map_take]; rfl
        have hr2 : ¬ r + 1 = m:=fun h => hr h.symm
        have el : (ws.take (r + 1) ++ [x]).length = r + 1 + 1:=by rw [List.length_append,List.length_singleton,List.length_take]; omega
        subst q5 q6
        simp -implicitDefEqProofs (disch:=omega) only [go_sem,↓reduceIte,hr,hr2]
        refine ⟨[(0,0),(1,1),(2,5)],[],[],rfl,?_,?_,?_⟩ <;> simp -implicitDefEqProofs (disch:=omega) only [go_sem,↓reduceIte,ea,el,hr,ndV]
end
end Go.Proofs.YtololahjocfbeaaGreat
