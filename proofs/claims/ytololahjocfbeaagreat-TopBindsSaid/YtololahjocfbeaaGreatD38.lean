/- Texts,joined. -/
import Derived.Test.YtololahjocfbeaaGreatD34
import Derived.Test.YtololahjocfbeaaGreatD21
import Derived.Test.YtololahjocfbeaaGreatD36
import Derived.Test.YtololahjocfbeaaGreatD09
import Derived.Test.YtololahjocfbeaaGreatD33
namespace Go.Proofs.YtololahjocfbeaaGreat
open Go Go.Sy Go.Proofs.Tryz
set_option maxRecDepth 100000
set_option maxHeartbeats 8000000
set_option linter.unusedSimpArgs false
set_option linter.unusedVariables false
attribute [go_sem] pl130
structure Pt where
  name : List UInt8
  ver : Int
  val : List Int
def ptV' (p : Pt) : AV:=.agg [.str p.name,.int .i64 p.ver,.sl (.ints .u8 p.val.length p.val)]
structure goodP (p : Pt) : Prop where
  nl : p.name.length ≤ 1000000
  vl : p.val.length ≤ 1000000
  vm : ∀ x ∈ p.val,0 ≤ x ∧ x < 256
def idxF (na name : List Int) (v : Int) : List Int:=if namedP name v then fromD (nonceD na name v) name v else zs
def nonF (na name : List Int) (v : Int) : List Int:=if namedP name v then nonceD na name v else zs
def comF (na index val : List Int) : List Int:=if val.length ≤ 64 then madeD (saltD na index val) val else zs
def salF (na index val : List Int) : List Int:=if val.length ≤ 64 then saltD na index val else zs
theorem idxF_good (na name : List Int) (v : Int) : goodD (idxF na name v):=by unfold idxF; split; exact ⟨sumD_len _,sumD_mem _⟩; exact zs_good
theorem comF_good (na index val : List Int) : goodD (comF na index val):=by unfold comF; split; exact ⟨sumD_len _,sumD_mem _⟩; exact zs_good
def entF (na : List Int) (p : Pt) : En:=(idxF na (bkU p.name) p.ver,comF na (idxF na (bkU p.name) p.ver) p.val)
theorem entF_good (na : List Int) (p : Pt) : goodE (entF na p):=⟨idxF_good _ _ _,comF_good _ _ _⟩
section
variable (na : List Int) (hna : goodD na)
include hna in
theorem indexF_spec (name : List Int) (n : Nat) (hn : name.length = n) (hm : ∀ x ∈ name,0 ≤ x ∧ x < 256) (v : Int) : ∃ e : Int,FnC Tryz.prog 144 [.ints .u8 32 na,.sl (.ints .u8 n name),.int .i64 v] [] (.tup [.ints .u8 32 (idxF na name v),.ints .u8 32 (nonF na name v),.int .i64 e]) []:=by
  unfold idxF nonF
  by_cases h : namedP name v
  · rw [if_pos h,if_pos h]
    exact ⟨0,index16_ok (key:=na) (name:=name) (v:=v) (n:=n) hn h hna.1 hna.2 hm⟩
  · rw [if_neg h,if_neg h]
    exact ⟨1,index16_bad (key:=na) (name:=name) (v:=v) (n:=n) hn h⟩
include hna in
theorem valueF_spec (index : List Int) (hi : goodD index) (val : List Int) (n : Nat) (hn : val.length = n) (hm : ∀ x ∈ val,0 ≤ x ∧ x < 256) : ∃ e : Int,FnC Tryz.prog 196 [.ints .u8 32 na,.ints .u8 32 index,.sl (.ints .u8 n val)] [] (.tup [.ints .u8 32 (comF na index val),.ints .u8 32 (salF na index val),.int .i64 e]) []:=by
  unfold comF salF
  by_cases h : val.length ≤ 64
  · rw [if_pos h,if_pos h]
    exact ⟨0,value16_ok (key:=na) (index:=index) (value:=val) (n:=n) hn (by omega) hna.1 hna.2 hi.1 hi.2 hm⟩
  · rw [if_neg h,if_neg h]
    exact ⟨1,value16_bad (key:=na) (index:=index) (value:=val) (n:=n) hn (by omega)⟩
abbrev bkP (E L : AV) (rest : List AV) : AV:=.pp (.agg (.agg [.ints .u8 32 na,E,L,.opq,.opq] :: rest)) [.fld 0 0]
include hna in
theorem bindex_spec (E L : AV) (rest : List AV) (name : List Int) (n : Nat) (hn : name.length = n) (hm : ∀ x ∈ name,0 ≤ x ∧ x < 256) (v : Int) : FnC Tryz.prog 123 [bkP na E L rest,.sl (.ints .u8 n name),.int .i64 v] [] (.ints .u8 32 (idxF na name v)) []:=by
  obtain ⟨e,k⟩:=indexF_spec na hna name n hn hm v
  generalize idxF na name v = X at *
  generalize nonF na name v = Y at *
  refine fn0 mix [] 0 3 [.cell 6 25] Tryz.func123 rfl (by kernel_rfl) (by kernel_rfl) rfl (by kernel_rfl) (by kernel_rfl) (by simp) ?_
  simp -implicitDefEqProofs (disch:=omega) only [go_sem,↓reduceIte]
  refine call0 k ?_
  simp -implicitDefEqProofs (disch:=omega) only [go_sem,↓reduceIte]
include hna in
theorem bentry_spec (E L : AV) (rest : List AV) (p : Pt) (hp : goodP p) : FnC Tryz.prog 130 [bkP na E L rest,ptV' p] [] (.tup [.agg [.ints .u8 32 (entF na p).1,.ints .u8 32 (entF na p).2],.ints .u8 32 (nonF na (bkU p.name) p.ver),.ints .u8 32 (salF na (entF na p).1 p.val)]) []:=by
  obtain ⟨e1,k1⟩:=indexF_spec na hna (bkU p.name) p.name.length (bkU_len _) (bkU_mem _) p.ver
  obtain ⟨e2,k2⟩:=valueF_spec na hna (entF na p).1 (entF_good na p).1 p.val p.val.length rfl hp.vm
  rw [show comF na (entF na p).1 p.val = (entF na p).2 from rfl] at k2
  rw [show idxF na (bkU p.name) p.ver = (entF na p).1 from rfl] at k1
  have h1:=hp.nl
  have h2:=hp.vl
  unfold ptV'
  generalize entF na p = X at *
  obtain ⟨x,y⟩:=X
  dsimp only at k1 k2 ⊢
  generalize nonF na (bkU p.name) p.ver = u at *
  generalize salF na x p.val = v at *
  refine fn0 mix pl130 0 2 [.cell 4 229,.cell 5 25,.cell 6 25] Tryz.func130 rfl (by kernel_rfl) (by kernel_rfl) rfl (by kernel_rfl) (by kernel_rfl) (by simp) ?_
  simp -implicitDefEqProofs (disch:=omega) only [go_sem,↓reduceIte]
  refine callB k1 ?_ ?_
  · simp -implicitDefEqProofs (disch:=omega) only [go_sem,↓reduceIte]
    rfl
  simp -implicitDefEqProofs (disch:=omega) only [go_sem,↓reduceIte]
  refine call0 k2 ?_
  simp -implicitDefEqProofs (disch:=omega) only [go_sem,↓reduceIte]
include hna in
theorem bwith_spec (E : AV) (hE : E.csz = 1) (rest : List AV) (l : List En) (n : Nat) (hl : l.length = n) (ps : List Pt) (m : Nat) (hm : ps.length = m) (hp : ∀ p ∈ ps,goodP p) (hb : n ≤ 100000) (hb2 : m ≤ 100000) :
    FnC Tryz.prog 76 [bkP na E (.sl (.lst 64 n (l.map enV))) rest,.sl (.lst 3 m (ps.map ptV'))] [] (.osl 0 [] 64 0 (n + m)) [(0,.row (.lst 64 (n + m) ((l ++ ps.map (entF na)).map enV)))]:=by
  have hle : (l.map enV).length = n:=by rw [List.length_map,hl]
  have hpe : (ps.map ptV').length = m:=by rw [List.length_map,hm]
  refine fnN mix [] 0 2 [.tmp 4] Tryz.func76 rfl (by kernel_rfl) (by kernel_rfl) rfl (by kernel_rfl) (by kernel_rfl) (by simp) ?_
  simp -implicitDefEqProofs (disch:=omega) only [go_sem,↓reduceIte,hle,hE,List.nil_append]
  refine loop (ι:=Nat) 1 (fun i => i ≤ m) (fun i => [(0,bkP na E (.sl (.lst 64 n (l.map enV))) rest),(5,.osl 0 [] 64 0 (n + i)),(17,.sl (.lst 3 m (ps.map ptV'))),(18,.int .i64 m),(19,.int .i64 i)])
    (fun i => [(0,.row (.lst 64 (n + i) ((l ++ (ps.take i).map (entF na)).map enV)))]) (fun i => m - i) 0 [(0,1)] [] (Nat.zero_le _) rfl ?_ ?_ ?_ (fun i hi => ?_)
  · simp -implicitDefEqProofs (disch:=omega) only [go_sem,↓reduceIte]
  · simp -implicitDefEqProofs (disch:=omega) only [go_sem,↓reduceIte]
  · simp -implicitDefEqProofs (disch:=omega) only [go_sem,↓reduceIte,List.take_zero,List.map_nil,List.append_nil]
  simp -implicitDefEqProofs (disch:=omega) only [go_sem,↓reduceIte]
  refine brd (fun h1 => ?_) (fun h1 => ?_)
  · obtain ⟨p,hx⟩ : ∃ p,ps[i]? = some p:=⟨_,List.getElem?_eq_getElem (by omega)⟩
    have hpg:=hp p (List.mem_of_getElem? hx)
    have g1 : ∀ K,getP (ps.map ptV') i K = K (.agg [.str p.name,.int .i64 p.ver,.sl (.ints .u8 p.val.length p.val)]):=fun K => getP_map (f:=ptV') hx K
    have k:=bentry_spec na hna E (.sl (.lst 64 n (l.map enV))) rest p hpg
    unfold ptV' at k
    have eR : (l ++ (ps.take (i + 1)).map (entF na)).map enV = (l ++ (ps.take i).map (entF na)).map enV ++ [.agg [.ints .u8 32 (entF na p).1,.ints .u8 32 (entF na p).2]]:=by
      rw [List.take_add_one,hx]
      simp only [List.map_append,List.append_assoc,Option.toList_some,List.map_cons,List.map_nil]
      rfl
    generalize entF na p = X at *
    obtain ⟨x,y⟩:=X
    dsimp only at k eR
    generalize nonF na (bkU p.name) p.ver = u at *
    generalize salF na x p.val = v at *
    simp -implicitDefEqProofs (disch:=omega) only [go_sem,↓reduceIte,↓g1,hpe]
    refine call0 k ?_
    simp -implicitDefEqProofs (disch:=omega) only [go_sem,↓reduceIte]
    refine ⟨i + 1,[(0,6)],[],[],by dsimp only; omega,by dsimp only; omega,rfl,?_,?_,?_⟩ <;> simp -implicitDefEqProofs (disch:=omega) only [go_sem,↓reduceIte,eR,← Nat.add_assoc]
  · obtain rfl : i = m:=by omega
    rw [List.take_of_length_le (by omega)] at *
    simp -implicitDefEqProofs (disch:=omega) only [go_sem,↓reduceIte]
    refine ⟨[(0,0)],[],[],rfl,?_,?_,?_⟩ <;> simp -implicitDefEqProofs (disch:=omega) only [go_sem,↓reduceIte]
end
theorem hasf_spec (e : En) (index : List Int) : FnC Tryz.prog 190 [.agg [.ints .u8 32 e.1,.ints .u8 32 e.2],.ref 0 []] [(0,.var (.ints .u8 32 index))] (.bool (decide (e.1 = index))) [(0,.var (.ints .u8 32 index))]:=by
  refine fnN mix [] 1 2 [.tmp 3] Tryz.func190 rfl (by kernel_rfl) (by kernel_rfl) rfl (by kernel_rfl) (by kernel_rfl) (by simp) ?_
  simp -implicitDefEqProofs (disch:=omega) only [go_sem,↓reduceIte]
  refine ⟨[(0,0)],[],[],rfl,?_,?_,?_⟩ <;> simp -implicitDefEqProofs (disch:=omega) only [go_sem,↓reduceIte]
theorem first_in {index : List Int} : ∀ (l : List En),index ∈ l.map (·.1) → ∃ m e,l[m]? = some e ∧ e.1 = index ∧ m < l.length ∧ ∀ i e',i < m → l[i]? = some e' → e'.1 ≠ index
  | [],h => by cases h
  | x :: l,h => by
    by_cases c : x.1 = index
    · exact ⟨0,x,rfl,c,by simp,fun i e' hi => by omega⟩
    · obtain ⟨m,e,h1,h2,h3,h4⟩:=first_in l ((List.mem_cons.1 h).resolve_left fun h => c h.symm)
      refine ⟨m + 1,e,h1,h2,by simp; omega,fun i e' hi he => ?_⟩
      cases i with
      | zero => cases he; exact c
      | succ i => exact h4 i e' (by omega) he
theorem hasidx_spec (l : List En) (n : Nat) (hn : l.length = n) (hl : n ≤ 100000) (index : List Int) : ∃ r : Int,(0 ≤ r ↔ index ∈ l.map (·.1)) ∧
    FnC Tryz.prog 229 [.sl (.lst 64 n (l.map enV)),.fn (.func 190) [.ref 0 []]] [(0,.var (.ints .u8 32 index))] (.int .i64 r) [(0,.var (.ints .u8 32 index))]:=by
  have hle : (l.map enV).length = n:=by rw [List.length_map,hn]
  by_cases hin : index ∈ l.map (·.1)
  · obtain ⟨m,e,h1,h2,h3,h4⟩:=first_in l hin
    refine ⟨m,⟨fun _ => hin,fun _ => by omega⟩,?_⟩
    refine fnN mix [] 1 2 [.tmp 4] Tryz.func229 rfl (by kernel_rfl) (by kernel_rfl) rfl (by kernel_rfl) (by kernel_rfl) (by simp) ?_
    simp -implicitDefEqProofs (disch:=omega) only [go_sem,↓reduceIte]
    refine loop (ι:=Nat) 1 (fun i => i ≤ m) (fun i => [(0,.sl (.lst 64 n (l.map enV))),(1,.fn (.func 190) [.ref 0 []]),(7,.int .i64 n),(8,.int .i64 i)]) (fun i => [(0,.var (.ints .u8 32 index))]) (fun i => m - i) 0 [(0,0)] [] (Nat.zero_le _) rfl ?_ ?_ ?_ (fun i hi => ?_)
    · simp -implicitDefEqProofs (disch:=omega) only [go_sem,↓reduceIte]
    · simp -implicitDefEqProofs (disch:=omega) only [go_sem,↓reduceIte]
    · simp -implicitDefEqProofs (disch:=omega) only [go_sem,↓reduceIte]
    simp -implicitDefEqProofs (disch:=omega) only [go_sem,↓reduceIte]
    refine brd (fun h => ?_) (fun h => by omega)
    obtain ⟨x,hx⟩ : ∃ x,l[i]? = some x:=⟨_,List.getElem?_eq_getElem (by omega)⟩
    have g1:=fun K => getEn hx K
    have hb:=hasf_spec x index
    by_cases hm : i = m
    · subst hm
      obtain rfl : x = e:=by rw [hx] at h1; exact Option.some.inj h1
      rw [decide_eq_true h2] at hb
      simp -implicitDefEqProofs (disch:=omega) only [go_sem,↓reduceIte,↓g1,hle]
      refine callG false [(0,0)] [(0,0)] 1 hb ?_ ?_
      · simp [keys]
      simp -implicitDefEqProofs (disch:=omega) only [go_sem,↓reduceIte]
      refine ⟨[(0,0)],[],[],rfl,?_,?_,?_⟩ <;> simp -implicitDefEqProofs (disch:=omega) only [go_sem,↓reduceIte]
    · rw [decide_eq_false (h4 i x (by omega) hx)] at hb
      simp -implicitDefEqProofs (disch:=omega) only [go_sem,↓reduceIte,↓g1,hle]
      refine callG false [(0,0)] [(0,0)] 1 hb ?_ ?_
      · simp [keys]
      simp -implicitDefEqProofs (disch:=omega) only [go_sem,↓reduceIte]
      refine ⟨i + 1,[(0,0)],[],[],by dsimp only; omega,by dsimp only; omega,rfl,?_,?_,?_⟩ <;> simp -implicitDefEqProofs (disch:=omega) only [go_sem,↓reduceIte]
  · refine ⟨-1,⟨fun h => absurd h (by decide),fun h => absurd h hin⟩,?_⟩
    refine fnN mix [] 1 2 [.tmp 4] Tryz.func229 rfl (by kernel_rfl) (by kernel_rfl) rfl (by kernel_rfl) (by kernel_rfl) (by simp) ?_
    simp -implicitDefEqProofs (disch:=omega) only [go_sem,↓reduceIte]
    refine loop (ι:=Nat) 1 (fun i => i ≤ n) (fun i => [(0,.sl (.lst 64 n (l.map enV))),(1,.fn (.func 190) [.ref 0 []]),(7,.int .i64 n),(8,.int .i64 i)]) (fun i => [(0,.var (.ints .u8 32 index))]) (fun i => n - i) 0 [(0,0)] [] (Nat.zero_le _) rfl ?_ ?_ ?_ (fun i hi => ?_)
    · simp -implicitDefEqProofs (disch:=omega) only [go_sem,↓reduceIte]
    · simp -implicitDefEqProofs (disch:=omega) only [go_sem,↓reduceIte]
    · simp -implicitDefEqProofs (disch:=omega) only [go_sem,↓reduceIte]
    simp -implicitDefEqProofs (disch:=omega) only [go_sem,↓reduceIte]
    refine brd (fun h => ?_) (fun h => ?_)
    · obtain ⟨x,hx⟩ : ∃ x,l[i]? = some x:=⟨_,List.getElem?_eq_getElem (by omega)⟩
      have g1:=fun K => getEn hx K
      have hb:=hasf_spec x index
      rw [decide_eq_false (fun e => hin (by rw [← e]; exact List.mem_map_of_mem (f:=(·.1)) (List.mem_of_getElem? hx)))] at hb
      simp -implicitDefEqProofs (disch:=omega) only [go_sem,↓reduceIte,↓g1,hle]
      refine callG false [(0,0)] [(0,0)] 1 hb ?_ ?_
      · simp [keys]
      simp -implicitDefEqProofs (disch:=omega) only [go_sem,↓reduceIte]
      refine ⟨i + 1,[(0,0)],[],[],by dsimp only; omega,by dsimp only; omega,rfl,?_,?_,?_⟩ <;> simp -implicitDefEqProofs (disch:=omega) only [go_sem,↓reduceIte]
    · simp -implicitDefEqProofs (disch:=omega) only [go_sem,↓reduceIte]
      refine ⟨[(0,0)],[],[],rfl,?_,?_,?_⟩ <;> simp -implicitDefEqProofs (disch:=omega) only [go_sem,↓reduceIte]
theorem has_spec (l : List En) (n : Nat) (hn : l.length = n) (hl : n ≤ 100000) (index : List Int) : FnC Tryz.prog 122 [.sl (.lst 64 n (l.map enV)),.ints .u8 32 index] [] (.bool (decide (index ∈ l.map (·.1)))) []:=by
  obtain ⟨r,hr,k⟩:=hasidx_spec l n hn hl index
  have kc : FnC Tryz.prog 189 [.sl (.lst 64 n (l.map enV)),.fn (.func 190) [.ref 0 []]] [(0,.var (.ints .u8 32 index))] (.bool (decide (0 ≤ r))) [(0,.var (.ints .u8 32 index))]:=by
    refine fnN mix [] 1 2 [.tmp 4] Tryz.func189 rfl (by kernel_rfl) (by kernel_rfl) rfl (by kernel_rfl) (by kernel_rfl) (by simp) ?_
    simp -implicitDefEqProofs (disch:=omega) only [go_sem,↓reduceIte]
    refine callG false [(0,0)] [(0,0)] 1 k ?_ ?_
    · simp [keys]
    simp -implicitDefEqProofs (disch:=omega) only [go_sem,↓reduceIte]
    refine ⟨[(0,0)],[],[],rfl,?_,?_,?_⟩ <;> simp -implicitDefEqProofs (disch:=omega) only [go_sem,↓reduceIte]
  rw [show decide (0 ≤ r) = decide (index ∈ l.map (·.1)) from decide_eq_decide.2 hr] at kc
  refine fn0 mix [] 0 2 [.tmp 4] Tryz.func122 rfl (by kernel_rfl) (by kernel_rfl) rfl (by kernel_rfl) (by kernel_rfl) (by simp) ?_
  simp -implicitDefEqProofs (disch:=omega) only [go_sem,↓reduceIte]
  refine callG false [(0,0)] [(0,0)] 1 kc ?_ ?_
  · simp [keys]
  simp -implicitDefEqProofs (disch:=omega) only [go_sem,↓reduceIte]
attribute [go_sem] pl33 pl77
structure Ep where
  key : Int
  ix : Int
  puts : List Pt
  tree : List Int
def epV (e : Ep) : AV:=.agg [.int .i64 e.key,.int .i64 e.ix,.sl (.lst 3 e.puts.length (e.puts.map ptV')),.ints .u8 32 e.tree]
instance : Inhabited Ep:=⟨⟨0,0,[],[]⟩⟩
def txF (es : List Ep) : Nat → List (List Int)
  | 0 => []
  | i + 1 => txF es i ++ [epochT ((i : Int) + 1) (es.getD i default).tree]
theorem txF_len (es : List Ep) : ∀ k,(txF es k).length = k
  | 0 => rfl
  | k + 1 => by rw [txF,List.length_append,txF_len es k,List.length_singleton]
theorem epochT_len {n : Int} {t : List Int} (h : t.length = 32) : (epochT n t).length = 40:=by
  unfold epochT
  rw [List.length_append,dcat_len (fun d hd => by rw [List.mem_singleton] at hd; rw [hd]; exact h)]
  simp [nums,be_len]
theorem epochT_mem {n : Int} {t : List Int} (h : goodD t) : ∀ x ∈ epochT n t,0 ≤ x ∧ x < 256:=fun x hx => by
  unfold epochT at hx
  rcases List.mem_append.1 hx with hx | hx
  · simp only [nums,List.flatMap_cons,List.flatMap_nil,List.append_nil] at hx
    exact be_mem _ _ x hx
  · simp only [dcat,List.flatMap_cons,List.flatMap_nil,List.append_nil,id] at hx
    exact h.2 x hx
theorem txF_ok {es : List Ep} (h : ∀ e ∈ es,goodD e.tree) : ∀ k,k ≤ es.length → ∀ b ∈ txF es k,(∀ x ∈ b,0 ≤ x ∧ x < 256) ∧ b.length ≤ 100000
  | 0,_,b,hb => by cases hb
  | k + 1,hk,b,hb => by
    rw [txF] at hb
    rcases List.mem_append.1 hb with hb | hb
    · exact txF_ok h k (by omega) b hb
    · rw [List.mem_singleton] at hb
      subst hb
      have hg : goodD (es.getD k default).tree:=by
        rw [List.getD,List.getElem?_eq_getElem (by omega),Option.getD_some]
        exact h _ (List.getElem_mem _)
      exact ⟨epochT_mem hg,by rw [epochT_len hg.1]; decide⟩
section
variable (na : List Int)
theorem public_pp (bk : AV) (hbk : bk.csz = 36) (rest : List AV) (a n b : Int) (ma : List Int) (hm : goodD ma) (hr : rightP a n) (k : Int) : FnC Tryz.prog 33 [.pp (.agg (bk :: cfgV a n b ma na :: rest)) [],.int .i64 k] [] (.agg [.agg [.int .i64 a,.int .i64 n],.ints .u8 32 (keyR (secK ma k 1) (secK ma k 3) a n),.ints .u8 32 (secK ma k 3)]) []:=by
  have k1:=secret_spec ma hm k
  have k2:=key_spec (secK ma k 1) (secK ma k 2) (secK ma k 3) a n (secK_good _ _ _) (secK_good _ _ _) hr
  generalize keyR (secK ma k 1) (secK ma k 3) a n = X at *
  refine fn0 mix pl33 0 2 [.cell 4 80] Tryz.func33 rfl (by kernel_rfl) (by kernel_rfl) rfl (by kernel_rfl) (by kernel_rfl) (by simp) ?_
  simp -implicitDefEqProofs (disch:=omega) only [go_sem,↓reduceIte,hbk]
  refine call0 k1 ?_
  simp -implicitDefEqProofs (disch:=omega) only [go_sem,↓reduceIte,hbk]
  refine call0 k2 ?_
  simp -implicitDefEqProofs (disch:=omega) only [go_sem,↓reduceIte]
theorem texts_spec (es : List Ep) (ne : Nat) (hn : es.length = ne) (L : AV) (rest : List AV) (k : Nat) (hk : k ≤ ne) (hb : ne ≤ 100000) (ht : ∀ e ∈ es,e.tree.length = 32) :
    FnC Tryz.prog 113 [bkP na (.sl (.lst 35 ne (es.map epV))) L rest,.int .i64 k] [] (.osl 0 [] 1 0 k) [(0,.row (.lst 1 k ((txF es k).map bsl)))]:=by
  have hle : (es.map epV).length = ne:=by rw [List.length_map,hn]
  have hsub : ∀ lo len κ,subC (.lst 35 ne (es.map epV)) lo len κ = (lo + len ≤ ne ∧ κ (.lst 35 len (((es.map epV).drop lo).take len))):=fun lo len κ => subC_lstlen 35 ne _ lo len κ hle
  have hl2 : ((es.map epV).take k).length = k:=by rw [List.length_take,hle]; omega
  refine fnN mix [] 0 2 [.tmp 4] Tryz.func113 rfl (by kernel_rfl) (by kernel_rfl) rfl (by kernel_rfl) (by kernel_rfl) (by simp) ?_
  simp -implicitDefEqProofs (disch:=omega) only [go_sem,↓reduceIte,↓hsub,List.drop_zero]
  refine loop (ι:=Nat) 1 (fun i => i ≤ k) (fun i => [(5,.osl 0 [] 1 0 i),(13,.sl (.lst 35 k ((es.map epV).take k))),(14,.int .i64 k),(15,.int .i64 i)]) (fun i => [(0,.row (.lst 1 i ((txF es i).map bsl)))]) (fun i => k - i) 0 [] [0] (Nat.zero_le _) rfl ?_ ?_ ?_ (fun i hi => ?_)
  · simp -implicitDefEqProofs (disch:=omega) only [go_sem,↓reduceIte]
  · simp -implicitDefEqProofs (disch:=omega) only [go_sem,↓reduceIte]
  · simp -implicitDefEqProofs (disch:=omega) only [go_sem,↓reduceIte,txF,List.map_nil]
  simp -implicitDefEqProofs (disch:=omega) only [go_sem,↓reduceIte]
  refine brd (fun h1 => ?_) (fun h1 => ?_)
  · obtain ⟨e,he⟩ : ∃ e,es[i]? = some e:=⟨_,List.getElem?_eq_getElem (by omega)⟩
    have hed : es.getD i default = e:=by rw [List.getD,he,Option.getD_some]
    have g1 : ∀ K,getP ((es.map epV).take k) i K = K (.agg [.int .i64 e.key,.int .i64 e.ix,.sl (.lst 3 e.puts.length (e.puts.map ptV')),.ints .u8 32 e.tree]):=fun K => by
      have:=getP_map (f:=epV) (l:=es.take k) (i:=i) (a:=e) (by rw [List.getElem?_take_of_lt (by omega),he]) K
      rw [List.map_take] at this
      exact this
    have kt:=epochText_spec ((i : Int) + 1) e.tree
    have eR : (txF es (i + 1)).map bsl = (txF es i).map bsl ++ [.sl (.ints .u8 40 (epochT ((i : Int) + 1) e.tree))]:=by
      rw [txF,hed,List.map_append,List.map_cons,List.map_nil,bsl,epochT_len (ht e (List.mem_of_getElem? he))]
    simp -implicitDefEqProofs (disch:=omega) only [go_sem,↓reduceIte,↓g1,hl2]
    refine callF 1 kt ?_
    simp -implicitDefEqProofs (disch:=omega) only [go_sem,↓reduceIte]
    refine ⟨i + 1,[(0,4)],[],[],by dsimp only; omega,by dsimp only; omega,rfl,?_,?_,?_⟩ <;> simp -implicitDefEqProofs (disch:=omega) only [go_sem,↓reduceIte,eR]
  · obtain rfl : i = k:=by omega
    simp -implicitDefEqProofs (disch:=omega) only [go_sem,↓reduceIte]
    refine ⟨[(0,0)],[],[],rfl,?_,?_,?_⟩ <;> simp -implicitDefEqProofs (disch:=omega) only [go_sem,↓reduceIte]
def hdF (es : List Ep) (k : Nat) (tree : List Int) : List Int:=rg (txF es k ++ [epochT ((k : Int) + 1) tree]) 0 (k + 1)
theorem head_spec (es : List Ep) (ne : Nat) (hn : es.length = ne) (L : AV) (rest : List AV) (key : Int) (k : Nat) (hk : k ≤ ne) (hk2 : k < 200) (hb : ne ≤ 100000) (ht : ∀ e ∈ es,goodD e.tree) (tree : List Int) (htr : goodD tree) :
    FnC Tryz.prog 77 [.pp (.agg (.agg [.ints .u8 32 na,.sl (.lst 35 ne (es.map epV)),L,.opq,.opq] :: rest)) [],.int .i64 key,.int .i64 ((k : Int) + 1),.ints .u8 32 tree] []
      (.agg [.int .i64 key,.int .i64 ((k : Int) + 1),.ints .u8 32 tree,.ints .u8 32 (hdF es k tree)]) []:=by
  have e1 : (k : Int) + 1 - 1 = k:=by omega
  have k1:=texts_spec na es ne hn L rest k hk hb (fun e h => (ht e h).1)
  have k2:=epochText_spec ((k : Int) + 1) tree
  have k3:=logroot_spec (txF es k ++ [epochT ((k : Int) + 1) tree]) (k + 1) (by rw [List.length_append,txF_len,List.length_singleton]) (by omega) (fun b h => by
    rcases List.mem_append.1 h with h | h
    · exact txF_ok ht k (by omega) b h
    · rw [List.mem_singleton] at h
      subst h
      exact ⟨epochT_mem htr,by rw [epochT_len htr.1]; decide⟩)
  have eR : (txF es k ++ [epochT ((k : Int) + 1) tree]).map bsl = (txF es k).map bsl ++ [.sl (.ints .u8 40 (epochT ((k : Int) + 1) tree))]:=by
    rw [List.map_append,List.map_cons,List.map_nil,bsl,epochT_len htr.1]
  rw [eR] at k3
  rw [show rg (txF es k ++ [epochT ((k : Int) + 1) tree]) 0 (k + 1) = hdF es k tree from rfl] at k3
  generalize hdF es k tree = R at *
  refine fn0 mix pl77 0 4 [.cell 8 72] Tryz.func77 rfl (by kernel_rfl) (by kernel_rfl) rfl (by kernel_rfl) (by kernel_rfl) (by simp) ?_
  simp -implicitDefEqProofs (disch:=omega) only [go_sem,↓reduceIte,e1]
  refine callF 1 k1 ?_
  simp -implicitDefEqProofs (disch:=omega) only [go_sem,↓reduceIte]
  refine callF 1 k2 ?_
  simp -implicitDefEqProofs (disch:=omega) only [go_sem,↓reduceIte]
  refine callB k3 ?_ ?_
  · simp -implicitDefEqProofs (disch:=omega) only [go_sem,↓reduceIte]
  simp -implicitDefEqProofs (disch:=omega) only [go_sem,↓reduceIte]
end
attribute [go_sem] pl73
def rowP (p : Pt) : List Int:=rowb 3 [bkU p.name,be (IntKind.u64.wrap p.ver) 8,p.val]
def rowsF (key ix : Int) (ps : List Pt) : List (List Int):=[be (IntKind.u64.wrap key) 8,be (IntKind.u64.wrap ix) 8] ++ ps.map rowP
def bodF (key ix : Int) (ps : List Pt) : List Int:=rowb (2 + ps.length) (rowsF key ix ps)
def recF (key ix : Int) (ps : List Pt) : List Int:=be (bodF key ix ps).length 4 ++ bodF key ix ps
structure smallPt (p : Pt) : Prop where
  g : goodP p
  n : p.name.length ≤ 64
  v : p.val.length ≤ 64
theorem rowP_len {p : Pt} (h : smallPt p) : (rowP p).length ≤ 200:=by
  have h1:=h.n
  have h2:=h.v
  unfold rowP rowb
  simp only [List.flatMap_cons,List.flatMap_nil,List.append_nil,List.length_append,be_len,bkU_len]
  omega
theorem record_spec (key ix : Int) (ps : List Pt) (m : Nat) (hm : ps.length = m) (hb : m ≤ 16) (hp : ∀ p ∈ ps,smallPt p) (tree : List Int) :
    FnC Tryz.prog 73 [.agg [.int .i64 key,.int .i64 ix,.sl (.lst 3 m (ps.map ptV')),.ints .u8 32 tree]] [] (.osl 0 [] 1 0 (recF key ix ps).length) [(0,.row (.ints .u8 (recF key ix ps).length (recF key ix ps)))]:=by
  have hpe : (ps.map ptV').length = m:=by rw [List.length_map,hm]
  have n1:=number_spec (IntKind.u64.wrap key) 8 8 rfl
  have n2:=number_spec (IntKind.u64.wrap ix) 8 8 rfl
  refine fnN mix ((100002,[]) :: pl73) 0 1 [.tmp 2] Tryz.func73 rfl (by kernel_rfl) (by kernel_rfl) rfl (by kernel_rfl) (by kernel_rfl) (by simp) ?_
  simp -implicitDefEqProofs (disch:=omega) only [go_sem,↓reduceIte]
  refine callF 1 n1 ?_
  simp -implicitDefEqProofs (disch:=omega) only [go_sem,↓reduceIte]
  refine callF 1 n2 ?_
  simp -implicitDefEqProofs (disch:=omega) only [go_sem,↓reduceIte]
  refine Sy.cut 2 [(1,.ref 0 []),(3,.osl 1 [] 1 0 2)] [(0,.var (.agg [.int .i64 key,.int .i64 ix,.sl (.lst 3 m (ps.map ptV')),.ints .u8 32 tree])),(1,.row (.lst 1 2 [.sl (.ints .u8 8 (be (IntKind.u64.wrap key) 8)),.sl (.ints .u8 8 (be (IntKind.u64.wrap ix) 8))]))] [(0,0),(1,3)] [] [1,2] rfl ?_ ?_ ?_ ?_
  · simp -implicitDefEqProofs (disch:=omega) only [go_sem,↓reduceIte]
  · simp -implicitDefEqProofs (disch:=omega) only [go_sem,↓reduceIte]
  · simp -implicitDefEqProofs (disch:=omega) only [go_sem,↓reduceIte]
  simp -implicitDefEqProofs (disch:=omega) only [go_sem,↓reduceIte]
  refine loop (ι:=Nat) 2 (fun i => i ≤ m) (fun i => [(1,.ref 0 []),(3,.osl 1 [] 1 0 (2 + i)),(20,.sl (.lst 3 m (ps.map ptV'))),(21,.int .i64 m),(22,.int .i64 i)])
    (fun i => [(0,.var (.agg [.int .i64 key,.int .i64 ix,.sl (.lst 3 m (ps.map ptV')),.ints .u8 32 tree])),(1,.row (.lst 1 (2 + i) ((rowsF key ix (ps.take i)).map bsl)))]) (fun i => m - i) 0 [(0,0),(1,1)] [] (Nat.zero_le _) rfl ?_ ?_ ?_ (fun i hi => ?_)
  · simp -implicitDefEqProofs (disch:=omega) only [go_sem,↓reduceIte]
  · simp -implicitDefEqProofs (disch:=omega) only [go_sem,↓reduceIte]
  · simp -implicitDefEqProofs (disch:=omega) only [go_sem,↓reduceIte,List.take_zero,rowsF,List.map_nil,List.append_nil,List.map_cons,bsl,be_len]
  simp -implicitDefEqProofs (disch:=omega) only [go_sem,↓reduceIte]
  refine brd (fun h1 => ?_) (fun h1 => ?_)
  · obtain ⟨p,hx⟩ : ∃ p,ps[i]? = some p:=⟨_,List.getElem?_eq_getElem (by omega)⟩
    have hps:=hp p (List.mem_of_getElem? hx)
    have l1:=hps.n
    have l2:=hps.v
    have g1 : ∀ K,getP (ps.map ptV') i K = K (.agg [.str p.name,.int .i64 p.ver,.sl (.ints .u8 p.val.length p.val)]):=fun K => getP_map (f:=ptV') hx K
    have n3:=number_spec (IntKind.u64.wrap p.ver) 8 8 rfl
    have kr:=prow_spec [bkU p.name,be (IntKind.u64.wrap p.ver) 8,p.val] (by simp) (fun b hb => by
      simp only [List.mem_cons,List.not_mem_nil,or_false] at hb
      rcases hb with rfl | rfl | rfl
      · rw [bkU_len]; omega
      · rw [be_len]; decide
      · omega)
    have eb : [bkU p.name,be (IntKind.u64.wrap p.ver) 8,p.val].map bsl = [.sl (.ints .u8 p.name.length (bkU p.name)),.sl (.ints .u8 8 (be (IntKind.u64.wrap p.ver) 8)),.sl (.ints .u8 p.val.length p.val)]:=by
      simp only [List.map_cons,List.map_nil,bsl,be_len,bkU_len]
    rw [eb,show [bkU p.name,be (IntKind.u64.wrap p.ver) 8,p.val].length = 3 from rfl,show rowb 3 [bkU p.name,be (IntKind.u64.wrap p.ver) 8,p.val] = rowP p from rfl] at kr
    have eR : (rowsF key ix (ps.take (i + 1))).map bsl = (rowsF key ix (ps.take i)).map bsl ++ [.sl (.ints .u8 (rowP p).length (rowP p))]:=by
      unfold rowsF
      rw [List.take_add_one,hx]
      simp only [List.map_append,List.append_assoc,Option.toList_some,List.map_cons,List.map_nil]
      rfl
    have hrl:=rowP_len hps
    generalize rowP p = X at *
    obtain ⟨w,hw⟩ : ∃ w,X.length = w:=⟨_,rfl⟩
    rw [hw] at kr eR hrl
    simp -implicitDefEqProofs (disch:=omega) only [go_sem,↓reduceIte,↓g1,hpe]
    refine callF 1 n3 ?_
    simp -implicitDefEqProofs (disch:=omega) only [go_sem,↓reduceIte]
    refine callBF 1 kr ?_ ?_
    · simp -implicitDefEqProofs (disch:=omega) only [go_sem,↓reduceIte]
      rfl
    simp -implicitDefEqProofs (disch:=omega) only [go_sem,↓reduceIte]
    refine ⟨i + 1,[(0,0),(1,8)],[],[],by dsimp only; omega,by dsimp only; omega,rfl,?_,?_,?_⟩ <;> simp -implicitDefEqProofs (disch:=omega) only [go_sem,↓reduceIte,eR,← Nat.add_assoc]
  · obtain rfl : i = m:=by omega
    rw [List.take_of_length_le (by omega)]
    have hrows : ∀ b ∈ rowsF key ix ps,b.length ≤ 65535:=fun b hb => by
      unfold rowsF at hb
      rcases List.mem_append.1 hb with hb | hb
      · simp only [List.mem_cons,List.not_mem_nil,or_false] at hb
        rcases hb with rfl | rfl <;> rw [be_len] <;> decide
      · rw [List.mem_map] at hb
        obtain ⟨p,hp1,rfl⟩:=hb
        have:=rowP_len (hp p hp1)
        omega
    have kr:=prow_spec (rowsF key ix ps) (by unfold rowsF; rw [List.length_append,List.length_map]; simp; omega) hrows
    have el : (rowsF key ix ps).length = 2 + i:=by unfold rowsF; rw [List.length_append,List.length_map,hm]; rfl
    rw [el,show rowb (2 + i) (rowsF key ix ps) = bodF key ix ps by unfold bodF; rw [hm]] at kr
    unfold recF
    have hbl : (bodF key ix ps).length ≤ 2 + 18 * 65537:=by
      have h:=rowb_len (2 + i) hrows (2 + i) (by rw [el]; exact Nat.le_refl _)
      rw [List.take_of_length_le (by rw [el]; exact Nat.le_refl _)] at h
      have e : bodF key ix ps = rowb (2 + i) (rowsF key ix ps):=by unfold bodF; rw [hm]
      rw [e]
      have : (2 + i) * 65537 ≤ 18 * 65537:=Nat.mul_le_mul_right _ (by omega)
      exact Nat.le_trans h (Nat.add_le_add_left this 2)
    generalize bodF key ix ps = B at *
    obtain ⟨w,hw⟩ : ∃ w,B.length = w:=⟨_,rfl⟩
    rw [hw] at kr hbl
    rw [List.length_append,be_len,hw]
    have n4:=number_spec (w : Nat) 4 4 rfl
    have ww : IntKind.u64.wrap (w : Int) = w:=by
      have e : IntKind.u64.wrap (w : Int) = (w : Int) % 18446744073709551616:=rfl
      rw [e]
      omega
    simp -implicitDefEqProofs (disch:=omega) only [go_sem,↓reduceIte]
    refine callBF 1 kr ?_ ?_
    · simp -implicitDefEqProofs (disch:=omega) only [go_sem,↓reduceIte]
    simp -implicitDefEqProofs (disch:=omega) only [go_sem,↓reduceIte,ww]
    refine callF 1 n4 ?_
    simp -implicitDefEqProofs (disch:=omega) only [go_sem,↓reduceIte]
    refine ⟨[(0,4)],[],[],rfl,?_,?_,?_⟩ <;> simp -implicitDefEqProofs (disch:=omega) only [go_sem,↓reduceIte]
end Go.Proofs.YtololahjocfbeaaGreat
