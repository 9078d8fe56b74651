/- Texts,joined. -/
import Derived.Test.YtololahjocfbeaaGreatD36
import Derived.Test.YtololahjocfbeaaGreatD12
import Derived.Test.YtololahjocfbeaaGreatD13
import Derived.Test.YtololahjocfbeaaGreatD19
import Derived.Test.YtololahjocfbeaaGreatD30
import Derived.Test.YtololahjocfbeaaGreatD21
import Derived.Test.YtololahjocfbeaaGreatD33
import Derived.Test.YtololahjocfbeaaGreatD35
import Derived.Test.YtololahjocfbeaaGreatD11
namespace Go.Proofs.YtololahjocfbeaaGreat
open Go Go.Sy Go.Proofs.Tryz
set_option maxRecDepth 100000
set_option maxHeartbeats 8000000
set_option linter.unusedSimpArgs false
set_option linter.unusedVariables false
attribute [go_sem] pl129
def nodeP : Nat → List En → List Int
  | 0,[] => emptyD 0
  | 0,e :: _ => leafP e.1 e.2
  | k + 1,[] => emptyD (k + 1)
  | k + 1,e :: l => nodeL (nodeP k ((e :: l).take (cutN k (e :: l)))) (nodeP k ((e :: l).drop (cutN k (e :: l))))
theorem nodeP_nil (k : Nat) : nodeP k [] = emptyD k:=by cases k <;> rfl
theorem nodeP_succ (k : Nat) {l : List En} (h : l ≠ []) : nodeP (k + 1) l = nodeL (nodeP k (l.take (cutN k l))) (nodeP k (l.drop (cutN k l))):=by
  cases l with
  | nil => exact absurd rfl h
  | cons e l => rfl
theorem nodeP_good : ∀ (k : Nat) (l : List En),goodD (nodeP k l)
  | 0,[] => emptyD_good 0
  | 0,_ :: _ => leafP_good _ _
  | k + 1,[] => emptyD_good _
  | k + 1,_ :: _ => nodeL_good _ _
theorem node_spec : ∀ (k : Nat),k ≤ 256 → ∀ (l : List En) (n : Nat),l.length = n → n ≤ 1000 → (∀ e ∈ l,goodE e) →
    FnC Tryz.prog 129 [.agg [.sl (.lst 32 257 ((empties 257).map dg))],.sl (.lst 64 n (l.map enV)),.int .i64 (k : Nat)] [] (.ints .u8 32 (nodeP k l)) []:=by
  intro k
  have l1 : ((empties 257).map dg).length = 257:=by rw [List.length_map,empties_len]
  induction k with
  | zero =>
    intro hk l n hn hl hg
    have g1 : ∀ K,getP ((empties 257).map dg) 0 K = K (.ints .u8 32 (emptyD 0)):=fun K => getP_map (f:=dg) (empties_get (n:=257) (i:=0) (by omega)) K
    cases l with
    | nil =>
      obtain rfl : n = 0:=hn.symm
      refine fn0 mix pl129 0 3 [.cell 6 25] Tryz.func129 rfl (by kernel_rfl) (by kernel_rfl) rfl (by kernel_rfl) (by kernel_rfl) (by simp) ?_
      simp -implicitDefEqProofs (disch:=omega) only [go_sem,↓reduceIte,↓g1,l1,nodeP_nil]
    | cons e l =>
      have g2 : ∀ K,getP ((e :: l).map enV) 0 K = K (.agg [.ints .u8 32 e.1,.ints .u8 32 e.2]):=fun K => getEn (l:=e :: l) (i:=0) rfl K
      have hle : ((e :: l).map enV).length = n:=by rw [List.length_map,hn]
      have hge:=hg e (List.mem_cons_self ..)
      have hn0 : 0 < n:=by rw [← hn]; simp
      have d0 : decide ((n : Int) = 0) = false:=decide_eq_false (by omega)
      have hlf:=leaf_spec17 e.1 e.2 hge.1 hge.2
      rw [show nodeP 0 (e :: l) = leafP e.1 e.2 from rfl]
      generalize (e :: l).map enV = R at *
      refine fn0 mix pl129 0 3 [.cell 6 25] Tryz.func129 rfl (by kernel_rfl) (by kernel_rfl) rfl (by kernel_rfl) (by kernel_rfl) (by simp) ?_
      simp -implicitDefEqProofs (disch:=omega) only [go_sem,↓reduceIte,d0,↓g2,hle]
      refine call0 hlf ?_
      simp -implicitDefEqProofs (disch:=omega) only [go_sem,↓reduceIte]
  | succ k ih =>
    intro hk l n hn hl hg
    by_cases h0 : n = 0
    · subst h0
      obtain rfl : l = []:=List.length_eq_zero_iff.1 hn
      have g1 : ∀ K,getP ((empties 257).map dg) (k + 1) K = K (.ints .u8 32 (emptyD (k + 1))):=fun K => getP_map (f:=dg) (empties_get (n:=257) (i:=k + 1) (by omega)) K
      have ti : ((k : Int) + 1).toNat = k + 1:=by omega
      refine fn0 mix pl129 0 3 [.cell 6 25] Tryz.func129 rfl (by kernel_rfl) (by kernel_rfl) rfl (by kernel_rfl) (by kernel_rfl) (by simp) ?_
      simp -implicitDefEqProofs (disch:=omega) only [go_sem,↓reduceIte,ti,↓g1,l1,nodeP_nil]
      omega
    · have hne : l ≠ []:=fun e => h0 (by rw [← hn,e]; rfl)
      have d0 : decide ((n : Int) = 0) = false:=decide_eq_false (by omega)
      have d1 : decide ((k : Int) + 1 = 0) = false:=decide_eq_false (by omega)
      have e1 : (k : Int) + 1 - 1 = k:=by omega
      have hc:=cutN_le k l
      have hcut:=cut_spec k (by omega) l n hn hl hg
      have h1:=ih (by omega) (l.take (cutN k l)) (cutN k l) (by rw [List.length_take]; omega) (by omega) (fun e h => hg e (List.mem_of_mem_take h))
      have h2:=ih (by omega) (l.drop (cutN k l)) (n - cutN k l) (by rw [List.length_drop,hn]) (by omega) (fun e h => hg e (List.mem_of_mem_drop h))
      have hN:=node_spec17 _ _ (nodeP_good k (l.take (cutN k l))) (nodeP_good k (l.drop (cutN k l)))
      rw [← nodeP_succ k hne] at hN
      rw [List.map_take] at h1
      rw [List.map_drop] at h2
      have hle : (l.map enV).length = n:=by rw [List.length_map,hn]
      generalize cutN k l = c at *
      generalize l.map enV = R at *
      refine fn0 mix pl129 0 3 [.cell 6 25] Tryz.func129 rfl (by kernel_rfl) (by kernel_rfl) rfl (by kernel_rfl) (by kernel_rfl) (by simp) ?_
      simp -implicitDefEqProofs (disch:=omega) only [go_sem,↓reduceIte,d0,d1]
      refine call0 hcut ?_
      simp -implicitDefEqProofs (disch:=omega) only [go_sem,↓reduceIte,e1]
      by_cases hcn : c = n
      · have t1 : decide (c = n) = true:=decide_eq_true hcn
        have t2 : decide (c = 0 ∧ n - c = n) = false:=decide_eq_false (fun h => h0 (by omega))
        rw [show (R.take c) = R from List.take_of_length_le (by omega),hcn] at h1
        have h2':=h2
        rw [hcn] at h2 t2
        subst hcn
        have t3 : (R.drop c).take (c - c) = R.drop c:=List.take_of_length_le (by rw [List.length_drop,hle]; exact Nat.le_refl _)
        simp -implicitDefEqProofs (disch:=omega) only [go_sem,↓reduceIte,t1,e1]
        refine call0 h1 ?_
        simp -implicitDefEqProofs (disch:=omega) only [go_sem,↓reduceIte,t2,t3,e1]
        refine call0 h2 ?_
        simp -implicitDefEqProofs (disch:=omega) only [go_sem,↓reduceIte]
        refine call0 hN ?_
        simp -implicitDefEqProofs (disch:=omega) only [go_sem,↓reduceIte]
      · have t1 : decide (c = n) = false:=decide_eq_false hcn
        simp -implicitDefEqProofs (disch:=omega) only [go_sem,↓reduceIte,t1,Nat.sub_zero,List.drop_zero,e1]
        refine call0 h1 ?_
        by_cases hc0 : c = 0
        · subst hc0
          have t2 : decide (0 = 0 ∧ n - 0 = n) = true:=decide_eq_true ⟨rfl,Nat.sub_zero n⟩
          simp only [Nat.sub_zero,List.drop_zero,List.take_zero] at h2 hN
          simp -implicitDefEqProofs (disch:=omega) only [go_sem,↓reduceIte,t2,e1]
          refine call0 h2 ?_
          simp -implicitDefEqProofs (disch:=omega) only [go_sem,↓reduceIte]
          refine call0 hN ?_
          simp -implicitDefEqProofs (disch:=omega) only [go_sem,↓reduceIte]
        · have t2 : decide (c = 0 ∧ n - c = n) = false:=decide_eq_false (fun h => hc0 h.1)
          have t3 : (R.drop c).take (n - c) = R.drop c:=List.take_of_length_le (by rw [List.length_drop,hle]; exact Nat.le_refl _)
          simp -implicitDefEqProofs (disch:=omega) only [go_sem,↓reduceIte,t2,t3,e1]
          refine call0 h2 ?_
          simp -implicitDefEqProofs (disch:=omega) only [go_sem,↓reduceIte]
          refine call0 hN ?_
          simp -implicitDefEqProofs (disch:=omega) only [go_sem,↓reduceIte]
attribute [go_sem] pl51
theorem headT_len (k e : Int) {t l : List Int} (ht : t.length = 32) (hl : l.length = 32) : (headT k e t l).length = 81:=by
  unfold headT nums dcat
  simp [be_len,ht,hl]
theorem cat1 (a : List Int) : cat [a] = a:=by simp [cat]
section
variable (root pub r : List Int) (ht : goodD root) (hp : goodD pub) (hrg : goodD r)
include ht hp hrg in
theorem head22_spec (a b i : Int) (sg : List Part) (hg : ∀ p ∈ sg,goodPt p) (hsl : sg.length ≤ 9223372036854775807) (hi : i < 9223372036854775808) (k e : Int) (t l : List Int) (h1 : goodD t) (h2 : goodD l) :
    FnC Tryz.prog 51 [.agg [.agg [.int .i64 a,.int .i64 b],.ints .u8 32 root,.ints .u8 32 pub],.agg [.int .i64 k,.int .i64 e,.ints .u8 32 t,.ints .u8 32 l],.agg [.int .i64 i,.ints .u8 32 r,.sl (.lst 2 sg.length (sg.map pt))]] []
      (.bool (decide (formedP a b i sg ∧ vK pub (msgD r root i (headT k e t l)) b.toNat i.toNat sg sg.length = root))) []:=by
  have hv:=verify_spec root pub r ht hp hrg a b i sg [headT k e t l] hg hsl hi (fun p hp x hx => by rw [List.mem_singleton] at hp; subst hp; exact headT_mem k e h1.2 h2.2 x hx) (by rw [cat1,headT_len k e h1.1 h2.1]; decide) (by simp)
  rw [cat1] at hv
  have hb : bsl (headT k e t l) = .sl (.ints .u8 81 (headT k e t l)):=by unfold bsl; rw [headT_len k e h1.1 h2.1]
  rw [List.map_cons,List.map_nil,hb] at hv
  refine fn0 mix pl51 0 3 [.tmp 6] Tryz.func51 rfl (by kernel_rfl) (by kernel_rfl) rfl (by kernel_rfl) (by kernel_rfl) (by simp) ?_
  simp -implicitDefEqProofs (disch:=omega) only [go_sem,↓reduceIte]
  refine callF 1 (headText_spec k e t l) ?_
  simp -implicitDefEqProofs (disch:=omega) only [go_sem,↓reduceIte]
  refine callB hv ?_ ?_
  · simp -implicitDefEqProofs (disch:=omega) only [go_sem,↓reduceIte]
  simp -implicitDefEqProofs (disch:=omega) only [go_sem,↓reduceIte]
end
attribute [go_sem] pl93 pl169
theorem sums1 {a : List Int} (ha : ∀ x ∈ a,0 ≤ x ∧ x < 256) (hn : a.length ≤ 1000000) : FnC Tryz.prog 167 [.sl (.lst 1 1 [bsl a])] [] (.ints .u8 32 (sumD a)) []:=by
  have h:=sums_spec [a] (fun p hp => by rw [List.mem_singleton] at hp; subst hp; exact ha) (by simpa [cat] using hn) (by simp)
  simpa [cat] using h
theorem getD_mem {l : List (List Int)} {i : Nat} (h : i < l.length) : l.getD i [] ∈ l:=by
  simp only [List.getD,List.getElem?_eq_getElem h,Option.getD_some]; exact List.getElem_mem h
theorem equal23_spec (a b : List Int) (n m : Nat) (hn : a.length = n) (hm : b.length = m) (ha : ∀ x ∈ a,0 ≤ x ∧ x < 256) (hb : ∀ x ∈ b,0 ≤ x ∧ x < 256) : FnC Tryz.prog 103 [.sl (.ints .u8 n a),.sl (.ints .u8 m b)] [] (.bool (decide (a = b))) []:=by
  have e : decide ((a.map fun x => UInt8.ofNat x.toNat) = (b.map fun x => UInt8.ofNat x.toNat)) = decide (a = b):=decide_eq_decide.2 (bytes_inj ha hb)
  refine fn0 mix [] 0 2 [.tmp 4] Tryz.func103 rfl (by kernel_rfl) (by kernel_rfl) rfl (by kernel_rfl) (by kernel_rfl) (by simp) ?_
  simp -implicitDefEqProofs (disch:=omega) only [go_sem,↓reduceIte,e]
theorem pair_len {a b : List Int} (ha : goodD a) (hb : goodD b) : (pairL a b).length = 65:=by
  unfold pairL; rw [List.length_cons,List.length_append,ha.1,hb.1]
theorem pair_mem {a b : List Int} (ha : goodD a) (hb : goodD b) : ∀ x ∈ pairL a b,0 ≤ x ∧ x < 256:=by
  intro x hx
  rcases List.mem_cons.1 hx with rfl | hx
  · decide
  · exact app_mem ha.2 hb.2 x hx
theorem pair23_spec (a b : List Int) (ha : goodD a) (hb : goodD b) : FnC Tryz.prog 169 [.ints .u8 32 a,.ints .u8 32 b] [] (.osl 0 [] 1 0 65) [(0,.row (.ints .u8 65 (pairL a b)))]:=by
  have l1:=ha.1
  have l2:=hb.1
  refine fnN mix pl169 0 2 [.tmp 4] Tryz.func169 rfl (by kernel_rfl) (by kernel_rfl) rfl (by kernel_rfl) (by kernel_rfl) (by simp) ?_
  simp -implicitDefEqProofs (disch:=omega) only [go_sem,↓reduceIte]
  refine ⟨[(0,4)],[],[],rfl,?_,?_,?_⟩ <;> simp -implicitDefEqProofs (disch:=omega) only [go_sem,↓reduceIte,pairL,List.cons_append,List.singleton_append]
theorem turnT_spec (ts : List (List Int)) (n : Nat) (hn : ts.length = n) (h : n ≤ 1000) : FnC Tryz.prog 150 [.osl 0 [] 1 0 n] [(0,.row (.lst 1 n (ts.map bsl)))] (.osl 1 [] 1 0 n) [(1,.row (.lst 1 n (ts.reverse.map bsl)))]:=by
  have hle : (ts.map bsl).length = n:=by rw [List.length_map,hn]
  refine fnV mix [] 0 1 1 [.tmp 2] Tryz.func150 rfl (by kernel_rfl) (by kernel_rfl) rfl (by kernel_rfl) (by kernel_rfl) (by simp) rfl rfl ?_
  simp -implicitDefEqProofs (disch:=omega) only [go_sem,↓reduceIte]
  refine loop (ι:=Nat) 2 (fun c => c ≤ n) (fun c => [(0,.osl 0 [] 1 0 n),(3,.osl 1 [] 1 0 c),(4,.int .i64 ((n : Int) - 1 - c))])
    (fun c => [(0,.row (.lst 1 n (ts.map bsl))),(1,.row (.lst 1 c ((ts.reverse.take c).map bsl)))]) (fun c => n - c) 0 [(0,0),(1,1)] [] (Nat.zero_le _) rfl ?_ ?_ ?_ (fun c hc => ?_)
  · simp -implicitDefEqProofs (disch:=omega) only [go_sem,↓reduceIte]
  · simp -implicitDefEqProofs (disch:=omega) only [go_sem,↓reduceIte,List.take_zero,List.map_nil]
  · simp -implicitDefEqProofs (disch:=omega) only [go_sem,↓reduceIte,List.take_zero,List.map_nil]
  simp -implicitDefEqProofs (disch:=omega) only [go_sem,↓reduceIte]
  refine brd (fun h2 => ?_) (fun h2 => ?_)
  · have hcl : c < n:=by omega
    have hd:=getD_some' (row:=ts) (i:=n - 1 - c) (by omega)
    have hg0:=fun K => getB_map (l:=ts) (show n - 1 - c < ts.length by omega) K
    have i2 : ((n : Int) - 1 - c).toNat = n - 1 - c:=by omega
    have i3 : (n : Int) - 1 - c - 1 = (n : Int) - 1 - ((c : Int) + 1):=by omega
    have hr : ts.reverse[c]? = some (ts.getD (n - 1 - c) []):=by
      rw [List.getElem?_reverse (by omega),hn,hd]
    have ht:=take_next' hr
    simp -implicitDefEqProofs (disch:=omega) only [go_sem,↓reduceIte,i2,↓hg0,hle]
    refine ⟨c + 1,[(0,0),(1,3)],[],[],by dsimp only; omega,by dsimp only; omega,rfl,?_,?_,?_⟩ <;> simp -implicitDefEqProofs (disch:=omega) only [go_sem,↓reduceIte,i3,ht,List.map_append,bsl]
  · obtain rfl : c = n:=by omega
    have ht : ts.reverse.take c = ts.reverse:=List.take_of_length_le (by rw [List.length_reverse]; omega)
    simp -implicitDefEqProofs (disch:=omega) only [go_sem,↓reduceIte]
    refine ⟨[(1,1)],[],[],rfl,?_,?_,?_⟩ <;> simp -implicitDefEqProofs (disch:=omega) only [go_sem,↓reduceIte,ht]
theorem part_some (l l' : List (List Int)) (n m p : Nat) (hn : l.length = n) (hm : l'.length = m) (hnl : n ≤ 1000000) (hml : m ≤ 1000000) (hb : ∀ p ∈ l,∀ x ∈ p,0 ≤ x ∧ x < 256) (hb' : ∀ p ∈ l',∀ x ∈ p,0 ≤ x ∧ x < 256)
    (hl : (l.getD p []).length ≤ 100000) (hl' : (l'.getD p []).length ≤ 100000) (h : PartsAt l l' p) :
    FnC Tryz.prog 93 [.sl (.lst 1 n (l.map bsl)),.sl (.lst 1 m (l'.map bsl))] [] (.tup [.osl 0 [] 1 0 (l.getD p []).length,.osl 1 [] 1 0 (l'.getD p []).length,.bool true])
      [(0,.row (.ints .u8 (l.getD p []).length (l.getD p []))),(1,.row (.ints .u8 (l'.getD p []).length (l'.getD p [])))]:=by
  obtain ⟨M,hM⟩ : ∃ M,M = min n m:=⟨_,rfl⟩
  obtain ⟨p1,p2,p3,p4⟩:=h
  have hmin : min (n : Int) (m : Int) = (M : Int):=by omega
  have hle : (l.map bsl).length = n:=by rw [List.length_map,hn]
  have hle' : (l'.map bsl).length = m:=by rw [List.length_map,hm]
  refine fnN mix pl93 0 2 [.tmp 4,.tmp 5,.tmp 6] Tryz.func93 rfl (by kernel_rfl) (by kernel_rfl) rfl (by kernel_rfl) (by kernel_rfl) (by simp) ?_
  simp -implicitDefEqProofs (disch:=omega) only [go_sem,↓reduceIte,hmin]
  refine loop (ι:=Nat) 0 (fun i => i ≤ p) (fun i => [(0,.sl (.lst 1 n (l.map bsl))),(1,.sl (.lst 1 m (l'.map bsl))),(12,.int .i64 M),(13,.int .i64 i)]) (fun i => []) (fun i => M - i) 0 [] [] (Nat.zero_le _) rfl ?_ ?_ ?_ (fun i hi => ?_)
  · simp -implicitDefEqProofs (disch:=omega) only [go_sem,↓reduceIte]
  · simp -implicitDefEqProofs (disch:=omega) only [go_sem,↓reduceIte]
  · simp -implicitDefEqProofs (disch:=omega) only [go_sem,↓reduceIte]
  simp -implicitDefEqProofs (disch:=omega) only [go_sem,↓reduceIte]
  refine brd (fun h1 => ?_) (fun h1 => by omega)
  have hg:=fun K => getB_map (l:=l) (show i < l.length by omega) K
  have hg':=fun K => getB_map (l:=l') (show i < l'.length by omega) K
  have he:=equal23_spec (l.getD i []) (l'.getD i []) _ _ rfl rfl (hb _ (getD_mem (by omega))) (hb' _ (getD_mem (by omega)))
  by_cases hip : i = p
  · subst hip
    rw [decide_eq_false p4] at he
    simp -implicitDefEqProofs (disch:=omega) only [go_sem,↓reduceIte,↓hg,↓hg',hle,hle']
    refine call0 he ?_
    simp -implicitDefEqProofs (disch:=omega) only [go_sem,↓reduceIte,↓hg,↓hg',hle,hle',List.nil_append]
    refine ⟨[(0,1),(1,3)],[],[],rfl,?_,?_,?_⟩ <;> simp -implicitDefEqProofs (disch:=omega) only [go_sem,↓reduceIte]
  · rw [decide_eq_true (p3 i (by omega))] at he
    simp -implicitDefEqProofs (disch:=omega) only [go_sem,↓reduceIte,↓hg,↓hg',hle,hle']
    refine call0 he ?_
    simp -implicitDefEqProofs (disch:=omega) only [go_sem,↓reduceIte]
    refine ⟨i + 1,[],[],[],by dsimp only; omega,by dsimp only; omega,rfl,?_,?_,?_⟩ <;> simp -implicitDefEqProofs (disch:=omega) only [go_sem,↓reduceIte]
theorem sumD_good (b : List Int) : goodD (sumD b):=⟨sumD_len _,sumD_mem _⟩
structure SV where
  ver : Int
  val : List Int
  nonce : List Int
  salt : List Int
  known : List Int
  W : List (List Int)
instance : Inhabited SV:=⟨⟨0,[],[],[],[],[]⟩⟩
def shAV (x : SV) : AV:=.agg [.int .i64 x.ver,.sl (.ints .u8 x.val.length x.val),.ints .u8 32 x.nonce,.ints .u8 32 x.salt,.agg [.ints .u8 32 x.known,.sl (.lst 32 x.W.length (x.W.map dg))]]
def goodSV (x : SV) : Prop:=(∀ y ∈ x.val,0 ≤ y ∧ y < 256) ∧ goodD x.nonce ∧ goodD x.salt ∧ goodD x.known ∧ (∀ d ∈ x.W,goodD d) ∧ x.W.length ≤ 9223372036854775807
theorem fromD_good (nonce name : List Int) (v : Int) : goodD (fromD nonce name v):=⟨sumD_len _,sumD_mem _⟩
theorem madeD_good (s v : List Int) : goodD (madeD s v):=⟨sumD_len _,sumD_mem _⟩
def isShown (tree name : List Int) (x : SV) : Prop:=namedP name x.ver ∧ x.val.length ≤ 64 ∧ pops x.known = x.W.length ∧ climbR (fromD x.nonce name x.ver) x.known x.W (leafP (fromD x.nonce name x.ver) (madeD x.salt x.val)) 256 = tree
instance (tree name : List Int) (x : SV) : Decidable (isShown tree name x):=by unfold isShown; infer_instance
def isAbsent (tree name : List Int) (v : Int) (nonce known : List Int) (W : List (List Int)) : Prop:=namedP name v ∧ pops known = W.length ∧ climbR (fromD nonce name v) known W (emptyD 0) 256 = tree
instance (tree name : List Int) (v : Int) (nonce known : List Int) (W : List (List Int)) : Decidable (isAbsent tree name v nonce known W):=by unfold isAbsent; infer_instance
section
variable (tree name : List Int) (n : Nat) (hn : name.length = n) (hm : ∀ x ∈ name,0 ≤ x ∧ x < 256)
include hn hm
theorem shown_spec (x : SV) (hx : goodSV x) : FnC Tryz.prog 44 [.ints .u8 32 tree,.sl (.ints .u8 n name),.agg [.int .i64 x.ver,.sl (.ints .u8 x.val.length x.val),.ints .u8 32 x.nonce,.ints .u8 32 x.salt,.agg [.ints .u8 32 x.known,.sl (.lst 32 x.W.length (x.W.map dg))]]] [] (.bool (decide (isShown tree name x))) []:=by
  obtain ⟨hv,hnc,hs,hk,hg,hL⟩:=hx
  by_cases h1 : namedP name x.ver
  · by_cases h2 : x.val.length ≤ 64
    · have e : decide (isShown tree name x) = decide (pops x.known = x.W.length ∧ climbR (fromD x.nonce name x.ver) x.known x.W (leafP (fromD x.nonce name x.ver) (madeD x.salt x.val)) 256 = tree):=decide_eq_decide.2 (by unfold isShown; simp [h1,h2])
      rw [e]
      refine fn0 mix [] 0 3 [.tmp 6] Tryz.func44 rfl (by kernel_rfl) (by kernel_rfl) rfl (by kernel_rfl) (by kernel_rfl) (by simp) ?_
      simp -implicitDefEqProofs (disch:=omega) only [go_sem,↓reduceIte]
      refine call0 (from16_ok x.nonce name x.ver n hn h1 hnc.1 hnc.2 hm) ?_
      simp -implicitDefEqProofs (disch:=omega) only [go_sem,↓reduceIte]
      refine call0 (made16_ok x.salt x.val x.val.length rfl h2 hs.1 hs.2 hv) ?_
      simp -implicitDefEqProofs (disch:=omega) only [go_sem,↓reduceIte]
      refine call0 (present_spec tree _ x.known (fromD_good _ _ _) hk x.W x.W.length rfl hL hg (madeD x.salt x.val) (madeD_good _ _)) ?_
      simp -implicitDefEqProofs (disch:=omega) only [go_sem,↓reduceIte]
    · rw [show decide (isShown tree name x) = false from decide_eq_false (fun h => h2 h.2.1)]
      refine fn0 mix [] 0 3 [.tmp 6] Tryz.func44 rfl (by kernel_rfl) (by kernel_rfl) rfl (by kernel_rfl) (by kernel_rfl) (by simp) ?_
      simp -implicitDefEqProofs (disch:=omega) only [go_sem,↓reduceIte]
      refine call0 (from16_ok x.nonce name x.ver n hn h1 hnc.1 hnc.2 hm) ?_
      simp -implicitDefEqProofs (disch:=omega) only [go_sem,↓reduceIte]
      refine call0 (made16_bad x.salt x.val x.val.length rfl (by omega)) ?_
      simp -implicitDefEqProofs (disch:=omega) only [go_sem,↓reduceIte]
  · rw [show decide (isShown tree name x) = false from decide_eq_false (fun h => h1 h.1)]
    refine fn0 mix [] 0 3 [.tmp 6] Tryz.func44 rfl (by kernel_rfl) (by kernel_rfl) rfl (by kernel_rfl) (by kernel_rfl) (by simp) ?_
    simp -implicitDefEqProofs (disch:=omega) only [go_sem,↓reduceIte]
    refine call0 (from16_bad x.nonce name x.ver n hn h1) ?_
    simp -implicitDefEqProofs (disch:=omega) only [go_sem,↓reduceIte]
end
def okV (tree name : List Int) (ord : Nat → SV → Bool) (l : List SV) (i : Nat) : Bool:=ord i (l.getD i default) && decide (isShown tree name (l.getD i default))
def allV (tree name : List Int) (ord : Nat → SV → Bool) (l : List SV) : Nat → Bool
  | 0 => true
  | i + 1 => allV tree name ord l i && okV tree name ord l i
def lastV (l : List SV) (i : Nat) : Int:=if i = 0 then 0 else (l.getD (i - 1) default).ver
theorem lastV_succ (l : List SV) (i : Nat) : lastV l (i + 1) = (l.getD i default).ver:=by unfold lastV; rw [if_neg (by omega),Nat.add_sub_cancel]
theorem allV_le {tree name : List Int} {ord : Nat → SV → Bool} {l : List SV} : ∀ {k : Nat},allV tree name ord l k = true → ∀ {i : Nat},i < k → okV tree name ord l i = true
  | 0,_,_,h => by omega
  | k + 1,h,i,hi => by
    rw [allV,Bool.and_eq_true] at h
    by_cases e : i = k
    · subst e; exact h.2
    · exact allV_le h.1 (by omega)
theorem allV_not {tree name : List Int} {ord : Nat → SV → Bool} {l : List SV} : ∀ {k : Nat},allV tree name ord l k = false → ∃ m,m < k ∧ allV tree name ord l m = true ∧ okV tree name ord l m = false
  | 0,h => by cases h
  | k + 1,h => by
    cases hk : allV tree name ord l k with
    | true => exact ⟨k,by omega,hk,by rw [allV,hk,Bool.true_and] at h; exact h⟩
    | false => obtain ⟨m,h1,h2⟩:=allV_not hk; exact ⟨m,by omega,h2⟩
abbrev xAV (x : SV) : AV:=.agg [.int .i64 x.ver,.sl (.ints .u8 x.val.length x.val),.ints .u8 32 x.nonce,.ints .u8 32 x.salt,.agg [.ints .u8 32 x.known,.sl (.lst 32 x.W.length (x.W.map dg))]]
abbrev aAV (l : List SV) (next known : List Int) (W : List (List Int)) : AV:=.agg [.sl (.lst 99 l.length (l.map shAV)),.ints .u8 32 next,.agg [.ints .u8 32 known,.sl (.lst 32 W.length (W.map dg))]]
abbrev ansO (tree name : List Int) (n : Nat) (l : List SV) (next known : List Int) (W : List (List Int)) (f : Nat) (v : Int) : OO :=
  [(0,.var (.ints .u8 32 tree)),(1,.var (.sl (.ints .u8 n name))),(2,.var (aAV l next known W)),(3,.var (.fn (.func f) [])),(4,.var (.int .i64 v))]
attribute [go_sem] xAV aAV ansO
attribute [simp] xAV aAV ansO
theorem getSV {l : List SV} {i : Nat} (h : i < l.length) (K : AV → Prop) : getP (l.map shAV) i K = K (.agg [.int .i64 (l.getD i default).ver,.sl (.ints .u8 (l.getD i default).val.length (l.getD i default).val),.ints .u8 32 (l.getD i default).nonce,.ints .u8 32 (l.getD i default).salt,.agg [.ints .u8 32 (l.getD i default).known,.sl (.lst 32 (l.getD i default).W.length ((l.getD i default).W.map dg))]]) :=
  getP_map (f:=shAV) (a:=l.getD i default) (by rw [List.getD,List.getElem?_eq_getElem h,Option.getD_some]) K
section
variable (tree name : List Int) (n : Nat) (hn : name.length = n) (hm : ∀ x ∈ name,0 ≤ x ∧ x < 256)
  (l : List SV) (hl : ∀ x ∈ l,goodSV x) (hll : l.length ≤ 1000000) (next known : List Int) (hx : goodD next) (hk : goodD known) (W : List (List Int)) (hL : W.length ≤ 9223372036854775807) (hg : ∀ d ∈ W,goodD d)
  (f : Nat) (ord : Nat → SV → Bool) (hf : ∀ i,i < l.length → FnC Tryz.prog f [.int .i64 i,xAV (l.getD i default)] [] (.bool (ord i (l.getD i default))) [])
include hn hm hl hll hf in
theorem shownA_ok (ha : allV tree name ord l l.length = true) : FnC Tryz.prog 161 [.ref 2 [],.ref 3 [],.ref 0 [],.ref 1 [],.ref 4 []] (ansO tree name n l next known W f 0) (.bool true) (ansO tree name n l next known W f (lastV l l.length)):=by
  refine fnN mix [] 5 5 [.tmp 5] Tryz.func161 rfl (by kernel_rfl) (by kernel_rfl) rfl (by kernel_rfl) (by kernel_rfl) (by simp) ?_
  simp -implicitDefEqProofs (disch:=omega) only [go_sem,↓reduceIte]
  refine loop (ι:=Nat) 5 (fun i => i ≤ l.length) (fun i => [(0,.ref 2 []),(1,.ref 3 []),(2,.ref 0 []),(3,.ref 1 []),(4,.ref 4 []),(9,.sl (.lst 99 l.length (l.map shAV))),(10,.int .i64 l.length),(11,.int .i64 i)]) (fun i => ansO tree name n l next known W f (lastV l i)) (fun i => l.length - i) 0 [(0,0),(1,1),(2,2),(3,3),(4,4)] [] (Nat.zero_le _) rfl ?_ ?_ ?_ (fun i hi => ?_)
  · simp -implicitDefEqProofs (disch:=omega) only [go_sem,↓reduceIte]
  · simp -implicitDefEqProofs (disch:=omega) only [go_sem,↓reduceIte]
  · simp -implicitDefEqProofs (disch:=omega) only [go_sem,↓reduceIte]
    rfl
  simp -implicitDefEqProofs (disch:=omega) only [go_sem,↓reduceIte]
  refine brd (fun h => ?_) (fun h => ?_)
  · have hi' : i < l.length:=by omega
    have g1:=fun K => getSV hi' K
    have hok:=allV_le ha hi'
    rw [okV,Bool.and_eq_true] at hok
    have h1:=hf i hi'
    rw [hok.1] at h1
    have h2:=shown_spec tree name n hn hm (l.getD i default) (by rw [List.getD,List.getElem?_eq_getElem hi',Option.getD_some]; exact hl _ (List.getElem_mem _))
    rw [hok.2] at h2
    have hv:=lastV_succ l i
    simp -implicitDefEqProofs (disch:=omega) only [go_sem,↓reduceIte,↓g1]
    refine call0 h1 ?_
    simp -implicitDefEqProofs (disch:=omega) only [go_sem,↓reduceIte]
    refine call0 h2 ?_
    simp -implicitDefEqProofs (disch:=omega) only [go_sem,↓reduceIte]
    refine ⟨i + 1,[(0,0),(1,1),(2,2),(3,3),(4,4)],[],[],by dsimp only; omega,by dsimp only; omega,rfl,?_,?_,?_⟩ <;> simp -implicitDefEqProofs (disch:=omega) only [go_sem,↓reduceIte,hv]
  obtain rfl : i = l.length:=by omega
  simp -implicitDefEqProofs (disch:=omega) only [go_sem,↓reduceIte]
  refine ⟨[(0,0),(1,1),(2,2),(3,3),(4,4)],[],[],rfl,?_,?_,?_⟩ <;> simp -implicitDefEqProofs (disch:=omega) only [go_sem,↓reduceIte]
include hn hm hl hll hf in
theorem shownA_bad (ha : allV tree name ord l l.length = false) : ∃ v,FnC Tryz.prog 161 [.ref 2 [],.ref 3 [],.ref 0 [],.ref 1 [],.ref 4 []] (ansO tree name n l next known W f 0) (.bool false) (ansO tree name n l next known W f v):=by
  obtain ⟨m,hml,ham,hbm⟩:=allV_not ha
  refine ⟨lastV l m,?_⟩
  refine fnN mix [] 5 5 [.tmp 5] Tryz.func161 rfl (by kernel_rfl) (by kernel_rfl) rfl (by kernel_rfl) (by kernel_rfl) (by simp) ?_
  simp -implicitDefEqProofs (disch:=omega) only [go_sem,↓reduceIte]
  refine loop (ι:=Nat) 5 (fun i => i ≤ m) (fun i => [(0,.ref 2 []),(1,.ref 3 []),(2,.ref 0 []),(3,.ref 1 []),(4,.ref 4 []),(9,.sl (.lst 99 l.length (l.map shAV))),(10,.int .i64 l.length),(11,.int .i64 i)]) (fun i => ansO tree name n l next known W f (lastV l i)) (fun i => m - i) 0 [(0,0),(1,1),(2,2),(3,3),(4,4)] [] (Nat.zero_le _) rfl ?_ ?_ ?_ (fun i hi => ?_)
  · simp -implicitDefEqProofs (disch:=omega) only [go_sem,↓reduceIte]
  · simp -implicitDefEqProofs (disch:=omega) only [go_sem,↓reduceIte]
  · simp -implicitDefEqProofs (disch:=omega) only [go_sem,↓reduceIte]
    rfl
  simp -implicitDefEqProofs (disch:=omega) only [go_sem,↓reduceIte]
  refine brd (fun h => ?_) (fun h => by omega)
  have hi' : i < l.length:=by omega
  have g1:=fun K => getSV hi' K
  have h1:=hf i hi'
  have h2:=shown_spec tree name n hn hm (l.getD i default) (by rw [List.getD,List.getElem?_eq_getElem hi',Option.getD_some]; exact hl _ (List.getElem_mem _))
  have hv:=lastV_succ l i
  by_cases e : i = m
  · subst e
    cases ho : ord i (l.getD i default) with
    | false =>
      rw [ho] at h1
      simp -implicitDefEqProofs (disch:=omega) only [go_sem,↓reduceIte,↓g1]
      refine call0 h1 ?_
      simp -implicitDefEqProofs (disch:=omega) only [go_sem,↓reduceIte]
      refine ⟨[(0,0),(1,1),(2,2),(3,3),(4,4)],[],[],rfl,?_,?_,?_⟩ <;> simp -implicitDefEqProofs (disch:=omega) only [go_sem,↓reduceIte]
    | true =>
      rw [okV,ho,Bool.true_and] at hbm
      rw [ho] at h1
      rw [hbm] at h2
      simp -implicitDefEqProofs (disch:=omega) only [go_sem,↓reduceIte,↓g1]
      refine call0 h1 ?_
      simp -implicitDefEqProofs (disch:=omega) only [go_sem,↓reduceIte]
      refine call0 h2 ?_
      simp -implicitDefEqProofs (disch:=omega) only [go_sem,↓reduceIte]
      refine ⟨[(0,0),(1,1),(2,2),(3,3),(4,4)],[],[],rfl,?_,?_,?_⟩ <;> simp -implicitDefEqProofs (disch:=omega) only [go_sem,↓reduceIte]
  · have hok:=allV_le ham (show i < m by omega)
    rw [okV,Bool.and_eq_true] at hok
    rw [hok.1] at h1
    rw [hok.2] at h2
    simp -implicitDefEqProofs (disch:=omega) only [go_sem,↓reduceIte,↓g1]
    refine call0 h1 ?_
    simp -implicitDefEqProofs (disch:=omega) only [go_sem,↓reduceIte]
    refine call0 h2 ?_
    simp -implicitDefEqProofs (disch:=omega) only [go_sem,↓reduceIte]
    refine ⟨i + 1,[(0,0),(1,1),(2,2),(3,3),(4,4)],[],[],by dsimp only; omega,by dsimp only; omega,rfl,?_,?_,?_⟩ <;> simp -implicitDefEqProofs (disch:=omega) only [go_sem,↓reduceIte,hv]
include hn hm hx hk hL hg in
theorem absentA_spec (v : Int) : FnC Tryz.prog 162 [.ref 2 [],.ref 1 [],.ref 4 [],.ref 0 []] (ansO tree name n l next known W f v) (.bool (decide (isAbsent tree name (IntKind.i64.wrap (v + 1)) next known W))) (ansO tree name n l next known W f v):=by
  by_cases h1 : namedP name (IntKind.i64.wrap (v + 1))
  · have e : decide (isAbsent tree name (IntKind.i64.wrap (v + 1)) next known W) = decide (pops known = W.length ∧ climbR (fromD next name (IntKind.i64.wrap (v + 1))) known W (emptyD 0) 256 = tree):=decide_eq_decide.2 (by unfold isAbsent; simp [h1])
    rw [e]
    refine fnN mix [] 5 4 [.tmp 4] Tryz.func162 rfl (by kernel_rfl) (by kernel_rfl) rfl (by kernel_rfl) (by kernel_rfl) (by simp) ?_
    simp -implicitDefEqProofs (disch:=omega) only [go_sem,↓reduceIte]
    refine call0 (from16_ok next name _ n hn h1 hx.1 hx.2 hm) ?_
    simp -implicitDefEqProofs (disch:=omega) only [go_sem,↓reduceIte]
    refine call0 (absent_spec tree _ known (fromD_good _ _ _) hk W W.length rfl hL hg) ?_
    simp -implicitDefEqProofs (disch:=omega) only [go_sem,↓reduceIte]
    refine ⟨[(0,0),(1,1),(2,2),(3,3),(4,4)],[],[],rfl,?_,?_,?_⟩ <;> simp -implicitDefEqProofs (disch:=omega) only [go_sem,↓reduceIte]
  · rw [show decide (isAbsent tree name (IntKind.i64.wrap (v + 1)) next known W) = false from decide_eq_false (fun h => h1 h.1)]
    refine fnN mix [] 5 4 [.tmp 4] Tryz.func162 rfl (by kernel_rfl) (by kernel_rfl) rfl (by kernel_rfl) (by kernel_rfl) (by simp) ?_
    simp -implicitDefEqProofs (disch:=omega) only [go_sem,↓reduceIte]
    refine call0 (from16_bad next name _ n hn h1) ?_
    simp -implicitDefEqProofs (disch:=omega) only [go_sem,↓reduceIte]
    refine ⟨[(0,0),(1,1),(2,2),(3,3),(4,4)],[],[],rfl,?_,?_,?_⟩ <;> simp -implicitDefEqProofs (disch:=omega) only [go_sem,↓reduceIte]
abbrev closA : AV:=.arr 1 [.fn (.func 161) [.ref 2 [],.ref 3 [],.ref 0 [],.ref 1 [],.ref 4 []],.fn (.func 162) [.ref 2 [],.ref 1 [],.ref 4 [],.ref 0 []]]
attribute [go_sem] closA
attribute [simp] closA
omit hn hm hl hll hx hk hL hg hf in
theorem allA_run (b1 b2 : Bool) (v : Int)
    (h1 : FnC Tryz.prog 161 [.ref 2 [],.ref 3 [],.ref 0 [],.ref 1 [],.ref 4 []] (ansO tree name n l next known W f 0) (.bool b1) (ansO tree name n l next known W f v))
    (h2 : FnC Tryz.prog 162 [.ref 2 [],.ref 1 [],.ref 4 [],.ref 0 []] (ansO tree name n l next known W f v) (.bool b2) (ansO tree name n l next known W f v)) :
    FnC Tryz.prog 164 [.osl 5 [] 1 0 2] ([(0,.var (.ints .u8 32 tree)),(1,.var (.sl (.ints .u8 n name))),(2,.var (aAV l next known W)),(3,.var (.fn (.func f) [])),(4,.var (.int .i64 0)),(5,.row closA)]) (.bool (b1 && b2)) (ansO tree name n l next known W f v):=by
  refine fnV mix [] 5 6 1 [.tmp 2] Tryz.func164 rfl (by kernel_rfl) (by kernel_rfl) rfl (by kernel_rfl) (by kernel_rfl) (by simp) rfl rfl ?_
  simp -implicitDefEqProofs (disch:=omega) only [go_sem,↓reduceIte]
  refine loop (ι:=Nat) 6 (fun i => i ≤ 2 ∧ (0 < i → b1 = true) ∧ (1 < i → b2 = true)) (fun i => [(5,.osl 5 [] 1 0 2),(6,.int .i64 2),(7,.int .i64 i)])
    (fun i => [(0,.var (.ints .u8 32 tree)),(1,.var (.sl (.ints .u8 n name))),(2,.var (aAV l next known W)),(3,.var (.fn (.func f) [])),(4,.var (.int .i64 (if i = 0 then 0 else v))),(5,.row closA)]) (fun i => 3 - i) 0 [(0,0),(1,1),(2,2),(3,3),(4,4),(5,5)] [] ⟨Nat.zero_le _,fun h => by omega,fun h => by omega⟩ rfl ?_ ?_ ?_ (fun i hi => ?_)
  · simp -implicitDefEqProofs (disch:=omega) only [go_sem,↓reduceIte]
  · simp -implicitDefEqProofs (disch:=omega) only [go_sem,↓reduceIte]
  · simp -implicitDefEqProofs (disch:=omega) only [go_sem,↓reduceIte]
  dsimp only [ansO] at h1 h2
  obtain ⟨hi,hb1,hb2⟩:=hi
  have : i = 0 ∨ i = 1 ∨ i = 2:=by omega
  rcases this with rfl | rfl | rfl
  · simp -implicitDefEqProofs (disch:=omega) only [go_sem,↓reduceIte]
    refine callG false [(0,0),(1,1),(2,2),(3,3),(4,4)] [(0,0),(1,1),(2,2),(3,3),(4,4)] 6 h1 ?_ ?_
    · simp [keys]
    simp -implicitDefEqProofs (disch:=omega) only [go_sem,↓reduceIte]
    refine br (fun e => ?_) (fun e => ?_)
    · simp -implicitDefEqProofs (disch:=omega) only [go_sem,↓reduceIte]
      refine ⟨1,[(0,0),(1,1),(2,2),(3,3),(4,4),(5,5)],[],[],⟨by omega,fun _ => e,fun h => by omega⟩,by dsimp only; omega,rfl,?_,?_,?_⟩ <;> simp -implicitDefEqProofs (disch:=omega) only [go_sem,↓reduceIte]
    · rw [e]
      rw [Bool.false_and]
      simp -implicitDefEqProofs (disch:=omega) only [go_sem,↓reduceIte]
      refine ⟨[(0,0),(1,1),(2,2),(3,3),(4,4)],[],[],rfl,?_,?_,?_⟩ <;> simp -implicitDefEqProofs (disch:=omega) only [go_sem,↓reduceIte]
  · obtain rfl : b1 = true:=hb1 (by omega)
    simp -implicitDefEqProofs (disch:=omega) only [go_sem,↓reduceIte]
    refine callG false [(0,0),(1,1),(2,2),(3,3),(4,4)] [(0,0),(1,1),(2,2),(3,3),(4,4)] 6 h2 ?_ ?_
    · simp [keys]
    simp -implicitDefEqProofs (disch:=omega) only [go_sem,↓reduceIte]
    refine br (fun e => ?_) (fun e => ?_)
    · simp -implicitDefEqProofs (disch:=omega) only [go_sem,↓reduceIte]
      refine ⟨2,[(0,0),(1,1),(2,2),(3,3),(4,4),(5,5)],[],[],⟨by omega,fun _ => e⟩,by dsimp only; omega,rfl,?_,?_,?_⟩ <;> simp -implicitDefEqProofs (disch:=omega) only [go_sem,↓reduceIte]
    · rw [e]
      rw [Bool.and_false]
      simp -implicitDefEqProofs (disch:=omega) only [go_sem,↓reduceIte]
      refine ⟨[(0,0),(1,1),(2,2),(3,3),(4,4)],[],[],rfl,?_,?_,?_⟩ <;> simp -implicitDefEqProofs (disch:=omega) only [go_sem,↓reduceIte]
  · obtain rfl : b1 = true:=hb1 (by omega)
    obtain rfl : b2 = true:=hb2 (by omega)
    simp -implicitDefEqProofs (disch:=omega) only [go_sem,↓reduceIte]
    refine ⟨[(0,0),(1,1),(2,2),(3,3),(4,4)],[],[],rfl,?_,?_,?_⟩ <;> simp -implicitDefEqProofs (disch:=omega) only [go_sem,↓reduceIte]
include hn hm hl hll hf hx hk hL hg in
theorem allA_spec : ∃ v,FnC Tryz.prog 164 [.osl 5 [] 1 0 2] ([(0,.var (.ints .u8 32 tree)),(1,.var (.sl (.ints .u8 n name))),(2,.var (aAV l next known W)),(3,.var (.fn (.func f) [])),(4,.var (.int .i64 0)),(5,.row closA)]) (.bool (allV tree name ord l l.length && decide (isAbsent tree name (IntKind.i64.wrap (lastV l l.length + 1)) next known W))) (ansO tree name n l next known W f v):=by
  cases ha : allV tree name ord l l.length with
  | true =>
    have h1:=shownA_ok tree name n hn hm l hl hll next known W f ord hf ha
    have h2:=absentA_spec tree name n hn hm l next known hx hk W hL hg f (lastV l l.length)
    have h3:=allA_run tree name n l next known W f true _ _ h1 h2
    exact ⟨_,h3⟩
  | false =>
    obtain ⟨v,h1⟩:=shownA_bad tree name n hn hm l hl hll next known W f ord hf ha
    have h2:=absentA_spec tree name n hn hm l next known hx hk W hL hg f v
    have h3:=allA_run tree name n l next known W f false _ v h1 h2
    rw [Bool.false_and] at h3
    rw [Bool.false_and]
    exact ⟨v,h3⟩
include hn hm hl hll hf hx hk hL hg in
theorem answer_spec : FnC Tryz.prog 99 [.ints .u8 32 tree,.sl (.ints .u8 n name),aAV l next known W,.fn (.func f) []] [] (.bool (allV tree name ord l l.length && decide (isAbsent tree name (IntKind.i64.wrap (lastV l l.length + 1)) next known W))) []:=by
  obtain ⟨v,h⟩:=allA_spec tree name n hn hm l hl hll next known hx hk W hL hg f ord hf
  dsimp only [ansO] at h
  refine fn0 mix [] 0 4 [.tmp 8] Tryz.func99 rfl (by kernel_rfl) (by kernel_rfl) rfl (by kernel_rfl) (by kernel_rfl) (by simp) ?_
  simp -implicitDefEqProofs (disch:=omega) only [go_sem,↓reduceIte]
  refine callG false [(0,0),(1,1),(2,2),(3,3),(4,4),(5,5)] [(0,0),(1,1),(2,2),(3,3),(4,4)] 6 h ?_ ?_
  · simp [keys]
  simp -implicitDefEqProofs (disch:=omega) only [go_sem,↓reduceIte]
end
section
variable (tree name : List Int) (n : Nat) (hn : name.length = n) (hm : ∀ x ∈ name,0 ≤ x ∧ x < 256)
  (l : List SV) (hl : ∀ x ∈ l,goodSV x) (hll : l.length ≤ 1000000) (next known : List Int) (hx : goodD next) (hk : goodD known) (W : List (List Int)) (hL : W.length ≤ 9223372036854775807) (hg : ∀ d ∈ W,goodD d)
abbrev ordL : Nat → SV → Bool:=fun i _ => decide (i = 0)
include hn hm hl hll hx hk hL hg
theorem lookup_spec : FnC Tryz.prog 46 [.ints .u8 32 tree,.sl (.ints .u8 n name),aAV l next known W] [] (.bool (allV tree name ordL l l.length && decide (isAbsent tree name (IntKind.i64.wrap (lastV l l.length + 1)) next known W))) []:=by
  have hf : ∀ i,i < l.length → FnC Tryz.prog 100 [.int .i64 i,xAV (l.getD i default)] [] (.bool (ordL i (l.getD i default))) []:=fun i hi => by
    refine fn0 mix [] 0 2 [.tmp 4] Tryz.func100 rfl (by kernel_rfl) (by kernel_rfl) rfl (by kernel_rfl) (by kernel_rfl) (by simp) ?_
    simp -implicitDefEqProofs (disch:=omega) only [go_sem,↓reduceIte]
    exact congrArg AV.bool (decide_eq_decide.2 (by omega))
  have h:=answer_spec tree name n hn hm l hl hll next known hx hk W hL hg 100 ordL hf
  refine fn0 mix [] 0 3 [.tmp 6] Tryz.func46 rfl (by kernel_rfl) (by kernel_rfl) rfl (by kernel_rfl) (by kernel_rfl) (by simp) ?_
  simp -implicitDefEqProofs (disch:=omega) only [go_sem,↓reduceIte]
  refine call0 h ?_
  simp -implicitDefEqProofs (disch:=omega) only [go_sem,↓reduceIte]
end
end Go.Proofs.YtololahjocfbeaaGreat
