/- Texts,joined. -/
import Derived.Test.YtololahjocfbeaaGreatD39
import Derived.Test.YtololahjocfbeaaGreatD33
import Derived.Test.YtololahjocfbeaaGreatD36
import Derived.Test.YtololahjocfbeaaGreatD40
import Derived.Test.YtololahjocfbeaaGreatD13
import Derived.Test.YtololahjocfbeaaGreatD30
import Derived.Test.YtololahjocfbeaaGreatD21
namespace Go.Proofs.YtololahjocfbeaaGreat
open Go Go.Sy Go.Proofs.Tryz
set_option maxRecDepth 100000
set_option maxHeartbeats 8000000
set_option linter.unusedSimpArgs false
set_option linter.unusedVariables false
attribute [go_sem] pl121
theorem turn_ppA (A : Nat) (D : DS) (S : SS) : FnC Tryz.prog 119 [.pp (slPA A D S) []] [] (.int .i64 S.turn) []:=by
  refine fn0 mix [] 0 1 [.tmp 2] Tryz.func119 rfl (by kernel_rfl) (by kernel_rfl) rfl (by kernel_rfl) (by kernel_rfl) (by simp) ?_
  simp -implicitDefEqProofs (disch:=omega) only [go_sem,↓reduceIte]
theorem text_ppA (A : Nat) (D : DS) (S : SS) (hl : S.text.length ≤ 100000) : FnC Tryz.prog 118 [.pp (slPA A D S) []] [] (.osl 0 [] 1 0 S.text.length) [(0,.row (.ints .u8 S.text.length S.text))]:=by
  refine fnN mix [] 0 1 [.tmp 2] Tryz.func118 rfl (by kernel_rfl) (by kernel_rfl) rfl (by kernel_rfl) (by kernel_rfl) (by simp) ?_
  simp -implicitDefEqProofs (disch:=omega) only [go_sem,↓reduceIte,List.nil_append]
  refine ⟨[(0,1)],[],[],rfl,?_,?_,?_⟩ <;> simp -implicitDefEqProofs (disch:=omega) only [go_sem,↓reduceIte]
theorem load_none (X : AV) : FnC Tryz.prog 121 [.pp X [],.sl (.ints .u8 0 [])] [] (.bool true) []:=by
  refine fn0 mix pl121 0 2 [.tmp 4] Tryz.func121 rfl (by kernel_rfl) (by kernel_rfl) rfl (by kernel_rfl) (by kernel_rfl) (by simp) ?_
  simp -implicitDefEqProofs (disch:=omega) only [go_sem,↓reduceIte]
  refine loop (ι:=Nat) 0 (fun i => i = 0) (fun i => [(0,.pp X []),(1,.sl (.ints .u8 0 []))]) (fun i => []) (fun i => 0) 0 [] [] rfl rfl ?_ ?_ ?_ (fun i hi => ?_)
  · simp -implicitDefEqProofs (disch:=omega) only [go_sem,↓reduceIte]
  · simp -implicitDefEqProofs (disch:=omega) only [go_sem,↓reduceIte]
  · simp -implicitDefEqProofs (disch:=omega) only [go_sem,↓reduceIte]
  simp -implicitDefEqProofs (disch:=omega) only [go_sem,↓reduceIte]
theorem manyN_le {a n : Int} (h : rightP a n) : (2 : Int) ≤ manyD a n ∧ (manyD a n : Int) ≤ 65536:=by
  have h1:=mul_16 h
  have h2:=manyD_le a n
  have h3 : manyD a n = 2 ^ (a * n).toNat:=by unfold manyD; rw [if_pos h]
  have:=Nat.pow_le_pow_right (n:=2) (by decide) (show 1 ≤ (a * n).toNat by omega)
  omega
def yN (ns : Nat) : Dy:=⟨dM ns,fN,⟨1,tx xN,false⟩,xN,0,false,⟨0,[],false⟩,[],[],0,[],false,[],[]⟩
def plDN : List (Nat × Plan):=[(3,[(0,[],none),(1,[0],none),(2,[0,1],none),(3,[0,1],none),(4,[0,1],none),(5,[0,1,2,3,4],none),(6,[0,1,2,3,4],none),(7,[],some [19,20,23,25]),(8,[],none),(9,[],none),(10,[9],none),(11,[10],none),(12,[],none)])]
attribute [go_sem] plDN
theorem open_newN (ns : Nat) (hns : 5 ≤ ns ∧ ns ≤ 64) (a n : Int) (ma na : List Int) (hr : rightP a n) : FnC Tryz.prog 69 [cfgV a n 1 ma na,.ref 0 [],.ref 1 []] [(0,.var (dskV 2 3 (dN ns))),(1,.var (fcV (0,0,0))),(2,.row (.ints .u8 (dN ns).b.length (dN ns).b)),(3,.row (.lst 2 (dN ns).wait.length ((dN ns).wait.map wtV)))]
    (.tup [.ref 7 [],.int .i64 0]) (dirOg na ma a n 1 (yN ns) 4 5 6 7 8 9 10 11 12 13 14):=by
  have k:=right_spec11 a n
  rw [decide_eq_true hr] at k
  have k0:=many_spec a n
  have k1:=sopen_newN ns hns (manyD a n) (manyN_le hr)
  have k2:=eopen_newN ns hns
  have k3:=text_ppA 2 (dM ns) ⟨0,[],false⟩ (by decide)
  have k4:=turn_ppA 2 (dM ns) ⟨0,[],false⟩
  have hle:=dM_len ns hns
  have k5:=area_pp na ma a n 1 (.agg [.ints .u8 32 na,.nils,.nils,.opq,.opq]) rfl [.pp (sgPP (yN ns) (manyD a n) 1) [],.pp (slPA 2 (dM ns) ⟨0,[],false⟩) [],.int .i64 0,.nils,.bool false] (dM ns) (dM_ok ns hns) (by rw [hle]; show 4 * 400 ≤ _; omega)
  have k6:=load_none (.agg (.agg [.ints .u8 32 na,.nils,.nils,.opq,.opq] :: cfgV a n 1 ma na :: .pp (dskP (dM ns)) [] :: [.pp (sgPP (yN ns) (manyD a n) 1) [],.pp (slPA 2 (dM ns) ⟨0,[],false⟩) [],.int .i64 0,.nils,.bool false]))
  unfold yN at *
  refine fnV mix plDN 2 4 3 [.tmp 6,.tmp 7] Tryz.func69 rfl (by kernel_rfl) (by kernel_rfl) rfl (by kernel_rfl) (by kernel_rfl) (by simp) rfl rfl ?_
  simp -implicitDefEqProofs (disch:=omega) only [go_sem,↓reduceIte]
  refine call0 k ?_
  simp -implicitDefEqProofs (disch:=omega) only [go_sem,↓reduceIte]
  refine call0 k0 ?_
  simp -implicitDefEqProofs (disch:=omega) only [go_sem,↓reduceIte]
  refine callG false [(0,0),(1,1),(2,2),(3,3)] [(0,0),(1,1),(6,5),(7,6),(4,7),(5,8)] 9 k1 ?_ ?_
  · simp [keys]
  simp -implicitDefEqProofs (disch:=omega) only [go_sem,↓reduceIte]
  refine callG false [(0,0),(1,7),(2,8)] [(0,0),(3,9),(4,10),(6,11)] 12 k2 ?_ ?_
  · simp [keys]
  simp -implicitDefEqProofs (disch:=omega) only [go_sem,↓reduceIte,List.cons_append,List.nil_append]
  refine callBF 1 k3 ?_ ?_
  · simp -implicitDefEqProofs (disch:=omega) only [go_sem,↓reduceIte]
  simp -implicitDefEqProofs (disch:=omega) only [go_sem,↓reduceIte]
  refine callB k4 ?_ ?_
  · simp -implicitDefEqProofs (disch:=omega) only [go_sem,↓reduceIte]
  simp -implicitDefEqProofs (disch:=omega) only [go_sem,↓reduceIte]
  refine callBF 1 k5 ?_ ?_
  · simp -implicitDefEqProofs (disch:=omega) only [go_sem,↓reduceIte]
  have d0 : decide ((((dM ns).b.length - 4 * (dM ns).sz : Nat) : Int) < 0) = false:=decide_eq_false (by omega)
  simp -implicitDefEqProofs (disch:=omega) only [go_sem,↓reduceIte,d0]
  have hsub:=fun lo len κ => subC_len .u8 (dM ns).b.length (dM ns).b lo len κ rfl
  have hb4 : 4 * (dM ns).sz ≤ (dM ns).b.length:=by rw [hle]; show 4 * 400 ≤ _; omega
  refine callB k6 ?_ ?_
  · simp -implicitDefEqProofs (disch:=omega) only [go_sem,↓reduceIte,↓hsub,hb4,List.take_zero,List.take_length]
  simp -implicitDefEqProofs (disch:=omega) only [go_sem,↓reduceIte]
  refine ⟨[(0,0),(1,1),(4,5),(5,6),(6,11),(7,14),(8,9),(9,10),(12,12),(13,13)],[10,11,14],[],rfl,?_,?_,?_⟩ <;> simp -implicitDefEqProofs (disch:=omega) only [go_sem,↓reduceIte,List.map_nil,List.length_nil]
def srtE (l : List En) (hg : ∀ e ∈ l,goodE e) : List En:=(srtG (l.pmap (fun e h => (⟨e,h⟩ : GE)) hg)).map (·.1)
theorem srtE_perm (l : List En) (hg : ∀ e ∈ l,goodE e) : (srtE l hg).Perm l:=by
  have h:=((srtG_both (l.pmap (fun e h => (⟨e,h⟩ : GE)) hg)).1).map (·.1)
  rw [val_pmap] at h
  exact h
theorem srtE_len (l : List En) (hg : ∀ e ∈ l,goodE e) : (srtE l hg).length = l.length:=(srtE_perm l hg).length_eq
theorem srtE_good (l : List En) (hg : ∀ e ∈ l,goodE e) : ∀ e ∈ srtE l hg,goodE e:=fun e he => hg e ((srtE_perm l hg).mem_iff.1 he)
theorem sort_specE (l : List En) (n : Nat) (hn : l.length = n) (hl : n ≤ 1000) (hg : ∀ e ∈ l,goodE e) :
    FnK Tryz.prog [0] 192 [.osl 0 [] 64 0 n,.fn (.func 193) []] [(0,.row (.lst 64 n (l.map enV)))] (.tup []) [(0,.row (.lst 64 n ((srtE l hg).map enV)))]:=by
  have h:=sort_spec (l.pmap (fun e h => (⟨e,h⟩ : GE)) hg) n (by rw [List.length_pmap,hn]) hl
  rw [val_pmap] at h
  exact h
theorem sorted_ok (l : List En) (n : Nat) (hn : l.length = n) (h : n ≤ 256) (hg : ∀ e ∈ l,goodE e) (hd : (l.map (·.1)).Nodup) :
    FnC Tryz.prog 127 [.sl (.lst 64 n (l.map enV))] [] (.tup [.osl 0 [] 64 0 n,.int .i64 0]) [(0,.row (.lst 64 n ((srtE l hg).map enV)))]:=by
  have hle : (l.map enV).length = n:=by rw [List.length_map,hn]
  have hcl:=clone_spec l n hn (by omega) hg
  have hso:=sort_specE l n hn (by omega) hg
  refine fnN mix [] 0 1 [.tmp 2,.tmp 3] Tryz.func127 rfl (by kernel_rfl) (by kernel_rfl) rfl (by kernel_rfl) (by kernel_rfl) (by simp) ?_
  simp -implicitDefEqProofs (disch:=omega) only [go_sem,↓reduceIte]
  refine brd (fun h1 => by omega) (fun h1 => ?_)
  simp -implicitDefEqProofs (disch:=omega) only [go_sem,↓reduceIte]
  refine loop (ι:=Nat) 1 (fun i => i ≤ n) (fun i => [(0,.sl (.lst 64 n (l.map enV))),(4,.mp 0),(12,.sl (.lst 64 n (l.map enV))),(13,.int .i64 n),(14,.int .i64 i)]) (fun i => [(0,.map ((l.take i).map (·.1)))]) (fun i => n - i) 0 [(0,0)] [] (Nat.zero_le _) rfl ?_ ?_ ?_ (fun i hi => ?_)
  · simp -implicitDefEqProofs (disch:=omega) only [go_sem,↓reduceIte]
  · simp -implicitDefEqProofs (disch:=omega) only [go_sem,↓reduceIte]
  · simp -implicitDefEqProofs (disch:=omega) only [go_sem,↓reduceIte,List.take_zero]
  simp -implicitDefEqProofs (disch:=omega) only [go_sem,↓reduceIte]
  refine brd (fun h5 => ?_) (fun h5 => ?_)
  · obtain ⟨x,hx⟩ : ∃ x,l[i]? = some x:=⟨_,List.getElem?_eq_getElem (by omega)⟩
    have g1:=fun K => getEn hx K
    have hsub : ((l.take (i + 1)).map (·.1)).Nodup:=List.Nodup.sublist ((List.take_sublist (i + 1) l).map _) hd
    have htk : (l.take (i + 1)).map (·.1) = (l.take i).map (·.1) ++ [x.1]:=by rw [List.take_add_one,hx]; simp
    rw [htk,List.nodup_append] at hsub
    have hb : decide (x.1 ∈ (l.take i).map (·.1)) = false:=decide_eq_false fun hin => hsub.2.2 _ hin _ (List.mem_singleton.2 rfl) rfl
    simp -implicitDefEqProofs (disch:=omega) only [go_sem,↓reduceIte,↓g1,hle,hb]
    refine ⟨i + 1,[(0,0)],[],[],by dsimp only; omega,by dsimp only; omega,rfl,?_,?_,?_⟩ <;> simp -implicitDefEqProofs (disch:=omega) only [go_sem,↓reduceIte,htk]
  · obtain rfl : i = n:=by omega
    simp -implicitDefEqProofs (disch:=omega) only [go_sem,↓reduceIte]
    refine callF 1 hcl ?_
    simp -implicitDefEqProofs (disch:=omega) only [go_sem,↓reduceIte]
    refine callK false [(0,1)] [(0,1)] 2 hso ?_ ?_
    · simp [keys]
    simp -implicitDefEqProofs (disch:=omega) only [go_sem,↓reduceIte]
    refine ⟨[(0,1)],[],[],rfl,?_,?_,?_⟩ <;> simp -implicitDefEqProofs (disch:=omega) only [go_sem,↓reduceIte]
theorem root_ok (l : List En) (n : Nat) (hn : l.length = n) (h : n ≤ 256) (hg : ∀ e ∈ l,goodE e) (hd : (l.map (·.1)).Nodup) :
    FnC Tryz.prog 75 [.sl (.lst 64 n (l.map enV))] [] (.tup [.ints .u8 32 (nodeP 256 (srtE l hg)),.int .i64 0]) []:=by
  have hs:=sorted_ok l n hn h hg hd
  have hN:=node_spec 256 (by decide) (srtE l hg) n (by rw [srtE_len,hn]) (by omega) (srtE_good l hg)
  refine fn0 mix [] 0 1 [.cell 2 25,.tmp 3] Tryz.func75 rfl (by kernel_rfl) (by kernel_rfl) rfl (by kernel_rfl) (by kernel_rfl) (by simp) ?_
  simp -implicitDefEqProofs (disch:=omega) only [go_sem,↓reduceIte]
  refine callF 1 hs ?_
  simp -implicitDefEqProofs (disch:=omega) only [go_sem,↓reduceIte]
  refine callF 1 empty17_spec ?_
  simp -implicitDefEqProofs (disch:=omega) only [go_sem,↓reduceIte]
  refine callB hN ?_ ?_
  · simp -implicitDefEqProofs (disch:=omega) only [go_sem,↓reduceIte]
  simp -implicitDefEqProofs (disch:=omega) only [go_sem,↓reduceIte]
attribute [go_sem] pl48
def isV (c salt value : List Int) : Prop:=value.length ≤ 64 ∧ c = madeD salt value
instance (c salt value : List Int) : Decidable (isV c salt value):=by unfold isV; infer_instance
theorem isV_spec (c salt value : List Int) (n : Nat) (hn : value.length = n) (hnn : n ≤ 1000) (hs : goodD salt) (hm : ∀ x ∈ value,0 ≤ x ∧ x < 256) : FnC Tryz.prog 104 [.ints .u8 32 c,.ints .u8 32 salt,.sl (.ints .u8 n value)] [] (.bool (decide (isV c salt value))) []:=by
  have h:=isValue_spec c salt value n hn hnn hs.1 hs.2 hm
  have e : decide (isV c salt value) = (decide (n ≤ 64) && decide (c = madeD salt value)):=by
    rw [← Bool.decide_and]
    exact decide_eq_decide.2 (by unfold isV; rw [hn])
  rw [e]; exact h
theorem valText_spec (s v : List Int) (n : Nat) (hs : goodD s) (hn : v.length = n) (hnn : n ≤ 1000) : FnC Tryz.prog 105 [.ints .u8 32 s,.sl (.ints .u8 n v)] [] (.osl 0 [] 1 0 (33 + n)) [(0,.row (.ints .u8 (33 + n) (2 :: (s ++ v))))]:=by
  have l1:=hs.1
  refine fnN mix [] 0 2 [.tmp 4] Tryz.func105 rfl (by kernel_rfl) (by kernel_rfl) rfl (by kernel_rfl) (by kernel_rfl) (by simp) ?_
  simp -implicitDefEqProofs (disch:=omega) only [go_sem,↓reduceIte]
  refine ⟨[(0,3)],[],[],rfl,?_,?_,?_⟩ <;> simp -implicitDefEqProofs (disch:=omega) only [go_sem,↓reduceIte,List.cons_append,List.singleton_append]
theorem values_ok (c s o v m : List Int) (n k : Nat) (hs : goodD s) (ho : goodD o) (hn : v.length = n) (hk : m.length = k) (hnn : n ≤ 1000) (hkk : k ≤ 1000) (hv : ∀ x ∈ v,0 ≤ x ∧ x < 256) (hm : ∀ x ∈ m,0 ≤ x ∧ x < 256) (h1 : v ≠ m) (h2 : isV c s v) (h3 : isV c o m) :
    FnC Tryz.prog 48 [.ints .u8 32 c,.ints .u8 32 s,.ints .u8 32 o,.sl (.ints .u8 n v),.sl (.ints .u8 k m)] [] (.tup [.osl 0 [] 1 0 (33 + n),.osl 1 [] 1 0 (33 + k),.bool true])
      [(0,.row (.ints .u8 (33 + n) (2 :: (s ++ v)))),(1,.row (.ints .u8 (33 + k) (2 :: (o ++ m))))]:=by
  have c1:=equal23_spec v m n k hn hk hv hm
  have c2:=isV_spec c s v n hn hnn hs hv
  have c3:=isV_spec c o m k hk hkk ho hm
  rw [decide_eq_false h1] at c1
  rw [decide_eq_true h2] at c2
  rw [decide_eq_true h3] at c3
  refine fnN mix pl48 0 5 [.tmp 10,.tmp 11,.tmp 12] Tryz.func48 rfl (by kernel_rfl) (by kernel_rfl) rfl (by kernel_rfl) (by kernel_rfl) (by simp) ?_
  simp -implicitDefEqProofs (disch:=omega) only [go_sem,↓reduceIte]
  refine call0 c1 ?_
  simp -implicitDefEqProofs (disch:=omega) only [go_sem,↓reduceIte]
  refine call0 c2 ?_
  simp -implicitDefEqProofs (disch:=omega) only [go_sem,↓reduceIte]
  refine call0 c3 ?_
  simp -implicitDefEqProofs (disch:=omega) only [go_sem,↓reduceIte]
  refine callF 1 (valText_spec s v n hs hn hnn) ?_
  simp -implicitDefEqProofs (disch:=omega) only [go_sem,↓reduceIte]
  refine callF 1 (valText_spec o m k ho hk hkk) ?_
  simp -implicitDefEqProofs (disch:=omega) only [go_sem,↓reduceIte]
  refine ⟨[(0,3),(1,4)],[],[],rfl,?_,?_,?_⟩ <;> simp -implicitDefEqProofs (disch:=omega) only [go_sem,↓reduceIte]
end Go.Proofs.YtololahjocfbeaaGreat
