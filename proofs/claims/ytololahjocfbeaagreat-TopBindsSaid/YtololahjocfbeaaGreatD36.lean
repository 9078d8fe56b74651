/- Texts,joined. -/
import Derived.Test.YtololahjocfbeaaGreatD12
import Derived.Test.YtololahjocfbeaaGreatD33
import Derived.Shelf.SlSortCmp.WholeK
import Derived.Lib.BytesEntry
import Derived.Test.YtololahjocfbeaaGreatProg
import Derived.Ground.SlsfProg
import Derived.Lib.SliceRun
import Derived.Shelf.SlSortCmp.NoneTotal
import Derived.Test.YtololahjocfbeaaGreatD13
import Derived.Test.YtololahjocfbeaaGreatD30
namespace Go.Proofs.YtololahjocfbeaaGreat
open Go Go.Sy Go.Proofs.Tryz
set_option maxRecDepth 100000
set_option maxHeartbeats 8000000
set_option linter.unusedSimpArgs false
set_option linter.unusedVariables false
abbrev En:=List Int × List Int
def enV (e : En) : AV:=.agg [.ints .u8 32 e.1,.ints .u8 32 e.2]
def goodE (e : En) : Prop:=goodD e.1 ∧ goodD e.2
theorem getEn {l : List En} {i : Nat} {e : En} (h : l[i]? = some e) (K : AV → Prop) : getP (l.map enV) i K = K (.agg [.ints .u8 32 e.1,.ints .u8 32 e.2]):=getP_map (f:=enV) h K
theorem subC_lstlen (sz m : Nat) (es : List AV) (lo len : Nat) (κ : AV → Prop) (h : es.length = m) : subC (.lst sz m es) lo len κ = (lo + len ≤ m ∧ κ (.lst sz len ((es.drop lo).take len))):=by
  rw [subC_lst]
  by_cases e : lo = 0 ∧ len = m
  · obtain ⟨rfl,rfl⟩:=e
    rw [show decide (0 = 0 ∧ len = len) = true from decide_eq_true ⟨rfl,rfl⟩,brC_true,List.drop_zero,List.take_of_length_le (by omega)]
  · rw [decide_eq_false e,brC_false]
def rightE (k : Nat) (e : En) : Bool:=decide (bitD e.1 (k : Int) = 1)
def cutN (k : Nat) : List En → Nat
  | [] => 0
  | e :: l => if rightE k e = true then 0 else cutN k l + 1
theorem cutN_le (k : Nat) : ∀ l : List En,cutN k l ≤ l.length
  | [] => Nat.le_refl _
  | e :: l => by
    have:=cutN_le k l
    rw [cutN,List.length_cons]
    split <;> omega
theorem cutN_before (k : Nat) : ∀ (l : List En) (i : Nat) (e : En),i < cutN k l → l[i]? = some e → rightE k e = false
  | [],i,e,h,_ => by rw [cutN] at h; omega
  | x :: l,i,e,h,hx => by
    rw [cutN] at h
    split at h
    · omega
    · rename_i c
      cases i with
      | zero => cases hx; simpa using c
      | succ i => exact cutN_before k l i e (by omega) hx
theorem cutN_at (k : Nat) : ∀ (l : List En) (e : En),l[cutN k l]? = some e → rightE k e = true
  | [],e,h => by cases h
  | x :: l,e,h => by
    rw [cutN] at h
    split at h
    · rename_i c; cases h; exact c
    · exact cutN_at k l e (by simpa using h)
section
variable (k : Nat) (hk : k < 256)
include hk in
theorem cutB_spec (a b : List Int) (ha : goodD a) : FnC Tryz.prog 233 [.agg [.ints .u8 32 a,.ints .u8 32 b],.ref 0 []] [(0,.var (.int .i64 ((k : Int) + 1)))] (.bool (rightE k (a,b))) [(0,.var (.int .i64 ((k : Int) + 1)))]:=by
  have h:=bit17_spec a k ha
  have e : (k : Int) + 1 - 1 = k:=by omega
  have er : decide (bitD a k = 1) = rightE k (a,b):=rfl
  refine fnN mix [] 1 2 [.tmp 3] Tryz.func233 rfl (by kernel_rfl) (by kernel_rfl) rfl (by kernel_rfl) (by kernel_rfl) (by simp) ?_
  simp -implicitDefEqProofs (disch:=omega) only [go_sem,↓reduceIte,e]
  refine call0 h ?_
  simp -implicitDefEqProofs (disch:=omega) only [go_sem,↓reduceIte,er]
  refine ⟨[(0,0)],[],[],rfl,?_,?_,?_⟩ <;> simp -implicitDefEqProofs (disch:=omega) only [go_sem,↓reduceIte,er]
def idxN (k : Nat) (l : List En) : Int:=if cutN k l < l.length then cutN k l else -1
include hk in
theorem index_spec (l : List En) (n : Nat) (hn : l.length = n) (hl : n ≤ 1000) (hg : ∀ e ∈ l,goodE e) :
    FnC Tryz.prog 229 [.sl (.lst 64 n (l.map enV)),.fn (.func 233) [.ref 0 []]] [(0,.var (.int .i64 ((k : Int) + 1)))] (.int .i64 (idxN k l)) [(0,.var (.int .i64 ((k : Int) + 1)))]:=by
  have hle : (l.map enV).length = n:=by rw [List.length_map,hn]
  have hc:=cutN_le k l
  refine fnN mix [] 1 2 [.tmp 4] Tryz.func229 rfl (by kernel_rfl) (by kernel_rfl) rfl (by kernel_rfl) (by kernel_rfl) (by simp) ?_
  simp -implicitDefEqProofs (disch:=omega) only [go_sem,↓reduceIte]
  refine loop (ι:=Nat) 1 (fun i => i ≤ cutN k l) (fun i => [(0,.sl (.lst 64 n (l.map enV))),(1,.fn (.func 233) [.ref 0 []]),(7,.int .i64 n),(8,.int .i64 i)]) (fun i => [(0,.var (.int .i64 ((k : Int) + 1)))]) (fun i => n - i) 0 [(0,0)] [] (Nat.zero_le _) rfl ?_ ?_ ?_ (fun i hi => ?_)
  · simp -implicitDefEqProofs (disch:=omega) only [go_sem,↓reduceIte]
  · simp -implicitDefEqProofs (disch:=omega) only [go_sem,↓reduceIte]
  · simp -implicitDefEqProofs (disch:=omega) only [go_sem,↓reduceIte]
  simp -implicitDefEqProofs (disch:=omega) only [go_sem,↓reduceIte]
  refine brd (fun h => ?_) (fun h => ?_)
  · obtain ⟨x,hx⟩ : ∃ x,l[i]? = some x:=⟨_,List.getElem?_eq_getElem (by omega)⟩
    have g1:=fun K => getEn hx K
    have hgx:=hg x (List.mem_of_getElem? hx)
    have hb:=cutB_spec k hk x.1 x.2 hgx.1
    have ex : (x.1,x.2) = x:=rfl
    rw [ex] at hb
    by_cases hm : i = cutN k l
    · subst hm
      rw [cutN_at k l x hx] at hb
      have hidx : idxN k l = (cutN k l : Int):=by unfold idxN; rw [if_pos (by omega)]
      rw [hidx]
      simp -implicitDefEqProofs (disch:=omega) only [go_sem,↓reduceIte,↓g1,hle]
      refine callG false [(0,0)] [(0,0)] 1 hb ?_ ?_
      · simp [keys]
      simp -implicitDefEqProofs (disch:=omega) only [go_sem,↓reduceIte]
      refine ⟨[(0,0)],[],[],rfl,?_,?_,?_⟩ <;> simp -implicitDefEqProofs (disch:=omega) only [go_sem,↓reduceIte]
    · rw [cutN_before k l i x (by omega) hx] at hb
      simp -implicitDefEqProofs (disch:=omega) only [go_sem,↓reduceIte,↓g1,hle]
      refine callG false [(0,0)] [(0,0)] 1 hb ?_ ?_
      · simp [keys]
      simp -implicitDefEqProofs (disch:=omega) only [go_sem,↓reduceIte]
      refine ⟨i + 1,[(0,0)],[],[],by dsimp only; omega,by dsimp only; omega,rfl,?_,?_,?_⟩ <;> simp -implicitDefEqProofs (disch:=omega) only [go_sem,↓reduceIte]
  · have hidx : idxN k l = -1:=by unfold idxN; rw [if_neg (by omega)]
    rw [hidx]
    simp -implicitDefEqProofs (disch:=omega) only [go_sem,↓reduceIte]
    refine ⟨[(0,0)],[],[],rfl,?_,?_,?_⟩ <;> simp -implicitDefEqProofs (disch:=omega) only [go_sem,↓reduceIte]
include hk in
theorem cut_spec (l : List En) (n : Nat) (hn : l.length = n) (hl : n ≤ 1000) (hg : ∀ e ∈ l,goodE e) : FnC Tryz.prog 195 [.sl (.lst 64 n (l.map enV)),.int .i64 ((k : Int) + 1)] [] (.int .i64 (cutN k l : Nat)) []:=by
  have h:=index_spec k hk l n hn hl hg
  have hc:=cutN_le k l
  refine fn0 mix [] 0 2 [.tmp 4] Tryz.func195 rfl (by kernel_rfl) (by kernel_rfl) rfl (by kernel_rfl) (by kernel_rfl) (by simp) ?_
  simp -implicitDefEqProofs (disch:=omega) only [go_sem,↓reduceIte]
  refine callG false [(0,0)] [(0,0)] 1 h ?_ ?_
  · simp [keys]
  by_cases c : cutN k l < l.length
  · have hidx : idxN k l = (cutN k l : Int):=by unfold idxN; rw [if_pos c]
    rw [hidx]
    simp -implicitDefEqProofs (disch:=omega) only [go_sem,↓reduceIte]
    refine brd (fun h => by omega) (fun h => ?_)
    simp -implicitDefEqProofs (disch:=omega) only [go_sem,↓reduceIte]
  · have hidx : idxN k l = -1:=by unfold idxN; rw [if_neg c]
    have e : cutN k l = n:=by omega
    rw [hidx,e]
    simp -implicitDefEqProofs (disch:=omega) only [go_sem,↓reduceIte]
end
end Go.Proofs.YtololahjocfbeaaGreat
namespace Go.Proofs.YtololahjocfbeaaGreat
open Go Go.Shelf Go.RowKit Go.Lib Go.Sort Go.Proofs
set_option maxRecDepth 100000
set_option maxHeartbeats 2000000
theorem run_load32 {P : Program} (w : World) (b off n c : Nat) (xs : List Int) (hx : xs.length = n) (hc : ∀ i,i < n → w.cell? ⟨b,off + i,none⟩ = some (.int .u8 (xs.getD i 0))) :
    (Extern.Bytes.bytesOf (.slice (some ⟨b,off,none⟩) n c)).run P w = .ok ⟨(Lib.bytesOf xs).toArray⟩ w:=by
  have hl:=run_loadBytesX (P:=P) w xs ⟨b,off,none⟩ .empty (fun j x hj => by
    have hjl : j < xs.length:=(List.getElem?_eq_some_iff.1 hj).1
    have e : (⟨b,off,none⟩ : Addr).add j = ⟨b,off + j,none⟩:=by unfold Addr.add; split <;> simp_all
    rw [e,hc j (by omega),List.getD_eq_getElem?_getD,hj]
    rfl)
  rw [hx] at hl
  have e2 : (ByteArray.empty.data ++ (Lib.bytesOf xs).toArray) = (Lib.bytesOf xs).toArray:=by
    show (#[] : Array UInt8) ++ (Lib.bytesOf xs).toArray = _
    rw [Array.empty_append]
  rw [e2] at hl
  exact hl
theorem run_cmp {P : Program} (w : World) (b1 o1 n1 c1 b2 o2 n2 c2 : Nat) (xs ys : List Int) (hx : xs.length = n1) (hy : ys.length = n2)
    (h1 : ∀ i,i < n1 → w.cell? ⟨b1,o1 + i,none⟩ = some (.int .u8 (xs.getD i 0))) (h2 : ∀ i,i < n2 → w.cell? ⟨b2,o2 + i,none⟩ = some (.int .u8 (ys.getD i 0))) :
    (Extern.BytealgCompare.compare #[.slice (some ⟨b1,o1,none⟩) n1 c1,.slice (some ⟨b2,o2,none⟩) n2 c2]).run P w = .ok (.int .i64 (compareBytes (Lib.bytesOf xs) (Lib.bytesOf ys))) w:=by
  change Sem.run P (do pure (goInt (Extern.BytealgCompare.cmp (← Extern.Bytes.bytesOf (.slice (some ⟨b1,o1,none⟩) n1 c1)) (← Extern.Bytes.bytesOf (.slice (some ⟨b2,o2,none⟩) n2 c2))))) w = _
  simp only [Sem.run_bind,run_load32 w b1 o1 n1 c1 xs hx h1,run_load32 w b2 o2 n2 c2 ys hy h2,Sem.run_pure,Result.andThen]
  rw [cmp_eq]
  rfl
theorem cmp_walk (w : World) (b1 o1 c1 b2 o2 c2 : Nat) (xs ys : List Int) (hx : xs.length = 32) (hy : ys.length = 32)
    (h1 : ∀ i,i < 32 → w.cell? ⟨b1,o1 + i,none⟩ = some (.int .u8 (xs.getD i 0))) (h2 : ∀ i,i < 32 → w.cell? ⟨b2,o2 + i,none⟩ = some (.int .u8 (ys.getD i 0))) :
    Calls Tryz.prog 194 #[.slice (some ⟨b1,o1,none⟩) 32 c1,.slice (some ⟨b2,o2,none⟩) 32 c2] w fun e w' => e = .returned (.int .i64 (compareBytes (Lib.bytesOf xs) (Lib.bytesOf ys))) ∧ w' = w:=by
  have hr:=run_cmp (P:=Tryz.prog) w b1 o1 32 c1 b2 o2 32 c2 xs ys hx hy h1 h2
  clear h1 h2
  generalize compareBytes (Lib.bytesOf xs) (Lib.bytesOf ys) = r at hr ⊢
  go_enter Tryz.func194,Tryz.ntmps194
  go_wp2
  rw [run_callFunc_extern Tryz.func232 (by kernel_rfl) (by kernel_rfl) (by kernel_rfl) (e:=Extern.BytealgCompare.compare) (by kernel_rfl),hr]
  simp only [Result.andThen]
  rw [Oper.upon_value]
  go_wp2
  go_ret
  exact ⟨rfl,rfl⟩
abbrev GE:={e : En // goodE e}
instance : Inhabited GE:=⟨⟨(List.replicate 32 0,List.replicate 32 0),⟨rfl,by decide⟩,⟨rfl,by decide⟩⟩⟩
def encE (x : GE) : List Value:=(x.1.1 ++ x.1.2).map (Value.int .u8)
def cfE (x y : GE) : Int:=compareBytes (Lib.bytesOf x.1.1) (Lib.bytesOf y.1.1)
theorem encE_len (x : GE) : (encE x).length = 64:=by
  rw [encE,List.length_map,List.length_append,x.2.1.1,x.2.2.1]
theorem encE_get (x : GE) (i : Nat) (hi : i < 32) : (encE x)[i]? = some (.int .u8 (x.1.1.getD i 0)):=by
  rw [encE,List.getElem?_map,List.getElem?_append_left (by rw [x.2.1.1]; exact hi),List.getElem?_eq_getElem (by rw [x.2.1.1]; exact hi),Option.map_some,List.getD,List.getElem?_eq_getElem (by rw [x.2.1.1]; exact hi),Option.getD_some]
theorem closure_walk (x y : GE) (W : World) : Calls Tryz.prog 193 #[.agg (encE x).toArray,.agg (encE y).toArray] W fun e w' => e = .returned (.int .i64 (cfE x y)) ∧ ∃ q os',w' = grow (W.drewN q) os':=by
  have hcon:=fun W' b1 o1 c1 b2 o2 c2 h1 h2 => cmp_walk W' b1 o1 c1 b2 o2 c2 x.1.1 y.1.1 x.2.1.1 y.2.1.1 h1 h2
  change ∀ W' b1 o1 c1 b2 o2 c2 h1 h2,Calls Tryz.prog 194 _ _ (fun e w' => e = .returned (.int .i64 (cfE x y)) ∧ w' = W') at hcon
  have hx:=encE_get x
  have hy:=encE_get y
  have sx:=encE_len x
  have sy:=encE_len y
  generalize cfE x y = r at hcon ⊢
  generalize encE x = A at *
  generalize encE y = B at *
  go_enter Tryz.func193,Tryz.ntmps193
  go_wp2_with fail
  have hb1 : W.heap.size < ((W.alloc (Obj.cells A.toArray 229)).alloc (Obj.cells B.toArray 229)).heap.size:=by
    rw [alloc_eq_grow,alloc_eq_grow,size_grow,size_grow]; show W.heap.size < W.heap.size + 1 + 1; omega
  have hb2 : W.heap.size + 1 < ((W.alloc (Obj.cells A.toArray 229)).alloc (Obj.cells B.toArray 229)).heap.size:=by
    rw [alloc_eq_grow,alloc_eq_grow,size_grow,size_grow]; show W.heap.size + 1 < W.heap.size + 1 + 1; omega
  have hg : (W.alloc (Obj.cells A.toArray 229)).alloc (Obj.cells B.toArray 229) = grow W #[Obj.cells A.toArray 229,Obj.cells B.toArray 229]:=by
    rw [alloc_eq_grow,alloc_eq_grow,grow_grow]; rfl
  have hc1 : ∀ i,i < 32 → ((W.alloc (Obj.cells A.toArray 229)).alloc (Obj.cells B.toArray 229)).cell? ⟨W.heap.size,0 + i,none⟩ = some (.int .u8 (x.1.1.getD i 0)):=fun i hi => by
    have e1 : (W.heap ++ #[Obj.cells A.toArray 229,Obj.cells B.toArray 229])[W.heap.size]? = some (Obj.cells A.toArray 229):=by
      rw [Array.getElem?_append_right (Nat.le_refl _),Nat.sub_self]; rfl
    rw [hg,World.cell?]
    show (match (W.heap ++ #[Obj.cells A.toArray 229,Obj.cells B.toArray 229])[W.heap.size]? with | some (.cells c _ _) => if Option.isSome (none : Option Nat) then none else c[0 + i]? | _ => none) = _
    rw [e1,Nat.zero_add]
    show A.toArray[i]? = _
    rw [List.getElem?_toArray,hx i hi]
  have hc2 : ∀ i,i < 32 → ((W.alloc (Obj.cells A.toArray 229)).alloc (Obj.cells B.toArray 229)).cell? ⟨W.heap.size + 1,0 + i,none⟩ = some (.int .u8 (y.1.1.getD i 0)):=fun i hi => by
    have e1 : (W.heap ++ #[Obj.cells A.toArray 229,Obj.cells B.toArray 229])[W.heap.size + 1]? = some (Obj.cells B.toArray 229):=by
      rw [Array.getElem?_append_right (Nat.le_succ _),show W.heap.size.succ - W.heap.size = 1 by omega]; rfl
    rw [hg,World.cell?]
    show (match (W.heap ++ #[Obj.cells A.toArray 229,Obj.cells B.toArray 229])[W.heap.size + 1]? with | some (.cells c _ _) => if Option.isSome (none : Option Nat) then none else c[0 + i]? | _ => none) = _
    rw [e1,Nat.zero_add]
    show B.toArray[i]? = _
    rw [List.getElem?_toArray,hy i hi]
  have hcg : ∀ n os,Calls Tryz.prog 194 #[.slice (some ⟨W.heap.size,0,none⟩) 32 32,.slice (some ⟨W.heap.size + 1,0,none⟩) 32 32] (grow (((W.alloc (Obj.cells A.toArray 229)).alloc (Obj.cells B.toArray 229)).drewN n) os) fun e w' => e = .returned (.int .i64 r) ∧ ∃ q os',w' = grow ((grow (((W.alloc (Obj.cells A.toArray 229)).alloc (Obj.cells B.toArray 229)).drewN n) os).drewN q) os':=fun n os =>
    (hcon _ _ _ _ _ _ _ (fun i hi => cell_grown hb1 (hc1 i hi) n os) (fun i hi => cell_grown hb2 (hc2 i hi) n os)).mono fun e w' h => ⟨h.1,0,#[],by rw [h.2,grow_empty]; rfl⟩
  clear hcon hc1 hc2 hb1 hb2
  generalize hwq : (W.alloc (Obj.cells A.toArray 229)).alloc (Obj.cells B.toArray 229) = wq at hcg hg ⊢
  have HG : Hid (wq = grow W #[Obj.cells A.toArray 229,Obj.cells B.toArray 229]):=hg
  clear hg hwq hx hy sx sy
  have mixed : Tryz.prog.follows .mixedOrders = true:=by kernel_rfl
  go_quiet_grown (first | (go_at_call 194; refine Calls.grown_of (hcg _ _)))
  go_wp2
  go_ret
  exact ⟨rfl,nq,_,by rw [HG.out]; rw [show (grow W #[Obj.cells A.toArray 229,Obj.cells B.toArray 229]).drewN nq = grow (W.drewN nq) #[Obj.cells A.toArray 229,Obj.cells B.toArray 229] from rfl,grow_grow]⟩
end Go.Proofs.YtololahjocfbeaaGreat
namespace Go.Proofs
open Go.Shelf
def Tryz.sortEn_ren : Go.Shelf.Ren:=⟨fun | 6 => 192 | 15 => 231 | 14 => 230 | 28 => 258 | 29 => 259 | 20 => 250 | 21 => 251 | 22 => 252 | 23 => 253 | 24 => 254 | 25 => 255 | 26 => 256 | 27 => 257 | 46 => 267 | 47 => 268 | 48 => 269 | 49 => 270 | 50 => 271 | 57 => 273 | n => n,fun | 22 => 126 | 24 => 229 | 25 => 310 | 3 => 3 | 39 => 305 | 0 => 0 | 53 => 241 | 55 => 218 | 4 => 4 | 46 => 383 | 45 => 382 | 50 => 387 | 5 => 5 | 9 => 9 | 66 => 397 | 70 => 401 | 76 => 403 | 77 => 404 | n => n,fun | n => n⟩
theorem Tryz.sortEn : Go.Proofs.SlLaysF0.n6 Tryz.prog Tryz.sortEn_ren:={
  mixed:=by kernel_rfl
  f6:=⟨Tryz.f192.name,by decide,Tryz.func192.trans (congrArg some (by kernel_rfl))⟩
  f14:=⟨Tryz.f230.name,by decide,Tryz.func230.trans (congrArg some (by kernel_rfl))⟩
  f15:=Tryz.func231.trans (congrArg some (by kernel_rfl))
  f20:=⟨Tryz.f250.name,by decide,Tryz.func250.trans (congrArg some (by kernel_rfl))⟩
  f21:=⟨Tryz.f251.name,by decide,Tryz.func251.trans (congrArg some (by kernel_rfl))⟩
  f22:=⟨Tryz.f252.name,by decide,Tryz.func252.trans (congrArg some (by kernel_rfl))⟩
  f23:=⟨Tryz.f253.name,by decide,Tryz.func253.trans (congrArg some (by kernel_rfl))⟩
  f24:=⟨Tryz.f254.name,by decide,Tryz.func254.trans (congrArg some (by kernel_rfl))⟩
  f25:=⟨Tryz.f255.name,by decide,Tryz.func255.trans (congrArg some (by kernel_rfl))⟩
  f26:=⟨Tryz.f256.name,by decide,Tryz.func256.trans (congrArg some (by kernel_rfl))⟩
  f27:=⟨Tryz.f257.name,by decide,Tryz.func257.trans (congrArg some (by kernel_rfl))⟩
  f28:=Tryz.func258.trans (congrArg some (by kernel_rfl))
  f29:=Tryz.func259.trans (congrArg some (by kernel_rfl))
  f46:=⟨Tryz.f267.name,by decide,Tryz.func267.trans (congrArg some (by kernel_rfl))⟩
  f47:=Tryz.func268.trans (congrArg some (by kernel_rfl))
  f48:=Tryz.func269.trans (congrArg some (by kernel_rfl))
  f49:=⟨Tryz.f270.name,by decide,Tryz.func270.trans (congrArg some (by kernel_rfl))⟩
  f50:=⟨Tryz.f271.name,by decide,Tryz.func271.trans (congrArg some (by kernel_rfl))⟩
  f57:=⟨Tryz.f273.name,by decide,Tryz.func273.trans (congrArg some (by kernel_rfl))⟩
  t0:=Tryz.underlying0
  a0:=Tryz.isAgg0
  z0:=Tryz.sizeOf0
  v0:=Tryz.zeroValue0
  t3:=Tryz.underlying3
  a3:=Tryz.isAgg3
  z3:=Tryz.sizeOf3
  v3:=Tryz.zeroValue3
  t4:=Tryz.underlying4
  a4:=Tryz.isAgg4
  z4:=Tryz.sizeOf4
  v4:=Tryz.zeroValue4
  t5:=Tryz.underlying5
  a5:=Tryz.isAgg5
  z5:=Tryz.sizeOf5
  v5:=Tryz.zeroValue5
  t9:=Tryz.underlying9
  a9:=Tryz.isAgg9
  z9:=Tryz.sizeOf9
  v9:=Tryz.zeroValue9
  t22:=Tryz.underlying126
  a22:=Tryz.isAgg126
  z22:=Tryz.sizeOf126
  v22:=Tryz.zeroValue126
  t25:=Tryz.underlying310
  a25:=Tryz.isAgg310
  z25:=Tryz.sizeOf310
  v25:=Tryz.zeroValue310
  t39:=Tryz.underlying305
  a39:=Tryz.isAgg305
  z39:=Tryz.sizeOf305
  v39:=Tryz.zeroValue305
  t45:=Tryz.underlying382
  a45:=Tryz.isAgg382
  z45:=Tryz.sizeOf382
  v45:=Tryz.zeroValue382
  t46:=Tryz.underlying383
  a46:=Tryz.isAgg383
  z46:=Tryz.sizeOf383
  v46:=Tryz.zeroValue383
  t50:=Tryz.underlying387
  a50:=Tryz.isAgg387
  z50:=Tryz.sizeOf387
  v50:=Tryz.zeroValue387
  t53:=Tryz.underlying241
  a53:=Tryz.isAgg241
  z53:=Tryz.sizeOf241
  v53:=Tryz.zeroValue241
  t55:=Tryz.underlying218
  a55:=Tryz.isAgg218
  z55:=Tryz.sizeOf218
  v55:=Tryz.zeroValue218
  t66:=Tryz.underlying397
  a66:=Tryz.isAgg397
  z66:=Tryz.sizeOf397
  v66:=Tryz.zeroValue397
  t70:=Tryz.underlying401
  a70:=Tryz.isAgg401
  z70:=Tryz.sizeOf401
  v70:=Tryz.zeroValue401
  t76:=Tryz.underlying403
  a76:=Tryz.isAgg403
  z76:=Tryz.sizeOf403
  v76:=Tryz.zeroValue403
  t77:=Tryz.underlying404
  a77:=Tryz.isAgg404
  z77:=Tryz.sizeOf404
  v77:=Tryz.zeroValue404 }
end Go.Proofs
namespace Go.Proofs.YtololahjocfbeaaGreat
open Go Go.Sy Go.Proofs.Tryz Go.Shelf Go.RowKit Go.Sort
set_option maxRecDepth 100000
set_option maxHeartbeats 2000000
set_option linter.unusedSimpArgs false
set_option linter.unusedVariables false
theorem fold_lt : ∀ (a b : List Int),a.length = b.length → (∀ x ∈ a,0 ≤ x ∧ x < 256) → (∀ x ∈ b,0 ≤ x ∧ x < 256) → ∀ c d : Int,c < d → a.foldl (fun n x => n * 256 + x) c < b.foldl (fun n x => n * 256 + x) d
  | [],[],_,_,_,c,d,h => h
  | [],y :: b,h,_,_,_,_,_ => by cases h
  | x :: a,[],h,_,_,_,_,_ => by cases h
  | x :: a,y :: b,h,ha,hb,c,d,hc => by
    have hx:=ha x (List.mem_cons_self ..)
    have hy:=hb y (List.mem_cons_self ..)
    rw [List.foldl_cons,List.foldl_cons]
    exact fold_lt a b (by simpa using h) (fun z hz => ha z (List.mem_cons_of_mem _ hz)) (fun z hz => hb z (List.mem_cons_of_mem _ hz)) _ _ (by omega)
theorem cmp_num : ∀ (a b : List Int),a.length = b.length → (∀ x ∈ a,0 ≤ x ∧ x < 256) → (∀ x ∈ b,0 ≤ x ∧ x < 256) → ∀ c : Int,
    (Lib.compareBytes (Lib.bytesOf a) (Lib.bytesOf b) < 0 ↔ a.foldl (fun n x => n * 256 + x) c < b.foldl (fun n x => n * 256 + x) c)
  | [],[],_,_,_,c => by simp [Lib.bytesOf,Lib.compareBytes]
  | [],y :: b,h,_,_,_ => by cases h
  | x :: a,[],h,_,_,_ => by cases h
  | x :: a,y :: b,h,ha,hb,c => by
    have hx:=ha x (List.mem_cons_self ..)
    have hy:=hb y (List.mem_cons_self ..)
    have hl : a.length = b.length:=by simpa using h
    have hga:=fun z hz => ha z (List.mem_cons_of_mem x hz)
    have hgb:=fun z hz => hb z (List.mem_cons_of_mem y hz)
    have ih:=fun c => cmp_num a b hl hga hgb c
    have ux : (UInt8.ofNat x.toNat).toNat = x.toNat:=by rw [UInt8.toNat_ofNat']; omega
    have uy : (UInt8.ofNat y.toNat).toNat = y.toNat:=by rw [UInt8.toNat_ofNat']; omega
    rw [List.foldl_cons,List.foldl_cons]
    show Lib.compareBytes (UInt8.ofNat x.toNat :: Lib.bytesOf a) (UInt8.ofNat y.toNat :: Lib.bytesOf b) < 0 ↔ _
    rw [Lib.compareBytes]
    by_cases h1 : x < y
    · rw [if_pos (by rw [UInt8.lt_iff_toNat_lt,ux,uy]; omega)]
      exact ⟨fun _ => fold_lt a b hl hga hgb _ _ (by omega),fun _ => by decide⟩
    · rw [if_neg (by rw [UInt8.lt_iff_toNat_lt,ux,uy]; omega)]
      by_cases h2 : y < x
      · rw [if_pos (by rw [UInt8.lt_iff_toNat_lt,ux,uy]; omega)]
        refine ⟨fun hh => absurd hh (by decide),fun hh => ?_⟩
        have:=fold_lt b a hl.symm hgb hga (c * 256 + y) (c * 256 + x) (by omega)
        omega
      · rw [if_neg (by rw [UInt8.lt_iff_toNat_lt,ux,uy]; omega)]
        obtain rfl : x = y:=by omega
        exact ih _
theorem lt_num (x y : GE) : ltOf cfE x y = decide (ofb x.1.1 < ofb y.1.1):=by
  unfold ltOf cfE
  have h:=(cmp_num x.1.1 y.1.1 (x.2.1.1.trans y.2.1.1.symm) x.2.1.2 y.2.1.2 0)
  exact decide_eq_decide.2 h
theorem swoE : SWO (ltOf cfE) where
  irrefl x:=by rw [lt_num]; simp
  trans x y z h1 h2:=by rw [lt_num] at *; simp at *; omega
  ntrans x y z h1 h2:=by rw [lt_num] at *; simp at *; omega
def srtG (l : List GE) : List GE:=(pdq (ltOf cfE) l.toArray 0 l.toArray.size (Lib.bitLen l.toArray.size) true true).toList
theorem srtG_both (l : List GE) : (srtG l).Perm l ∧ (srtG l).Pairwise (fun a b => ofb a.1.1 ≤ ofb b.1.1):=by
  have h:=pdq_sorts (ltOf cfE) swoE l.toArray 0 l.toArray.size (Lib.bitLen l.toArray.size) true true (Nat.zero_le _) (Nat.le_refl _) (Or.inl rfl)
  obtain ⟨⟨h1,h2,h3⟩,h4⟩:=h
  unfold srtG
  generalize pdq (ltOf cfE) l.toArray 0 l.toArray.size (Lib.bitLen l.toArray.size) true true = d at *
  have hd : d.toList.length = l.length:=by simpa using h1
  refine ⟨?_,?_⟩
  · have e1 : d.extract 0 l.toArray.size = d:=by rw [← h1,Array.extract_size]
    rw [e1,Array.extract_size] at h3
    exact h3
  · rw [List.pairwise_iff_getElem]
    intro i j hi hj hij
    have:=h4 i j (Nat.zero_le _) hij (by rw [← h1]; simpa using hj)
    rw [lt_num,decide_eq_false_iff_not] at this
    rw [getElem!_pos d i (by simpa using hi),getElem!_pos d j (by simpa using hj)] at this
    simp only [Array.getElem_toList]
    omega
theorem srtG_len (l : List GE) : (srtG l).length = l.length:=(srtG_both l).1.length_eq
def cellsE (e : En) : List Value:=(e.1 ++ e.2).map (Value.int .u8)
theorem rv_enV {M : Pool} {β : Bmap} {e : En} (he : goodE e) : RV M β (enV e) (cellsE e):=by
  have h:=RV.agg (RVs.cons (RV.ints (M:=M) (β:=β) .u8 he.1.1) (RVs.cons (RV.ints (M:=M) (β:=β) .u8 he.2.1) RVs.nil))
  rw [List.append_nil,← List.map_append] at h
  exact h
theorem rv_enV_inv {M : Pool} {β : Bmap} {e : En} {c : List Value} (h : RV M β (enV e) c) : c = cellsE e:=by
  unfold enV at h
  cases h with
  | agg h =>
    cases h with
    | cons h1 h2 =>
      cases h1
      cases h2 with
      | cons h3 h4 =>
        cases h3
        cases h4
        rw [List.append_nil,← List.map_append]
        rfl
theorem rvs_enV {M : Pool} {β : Bmap} : ∀ {l : List En},(∀ e ∈ l,goodE e) → RVs M β (l.map enV) ((l.map cellsE).flatten)
  | [],_ => .nil
  | e :: l,h => .cons (rv_enV (h e (List.mem_cons_self ..))) (rvs_enV fun x hx => h x (List.mem_cons_of_mem _ hx))
theorem rvs_enV_inv {M : Pool} {β : Bmap} : ∀ {l : List En} {c : List Value},RVs M β (l.map enV) c → c = (l.map cellsE).flatten
  | [],c,h => by cases h; rfl
  | e :: l,c,h => by
    cases h with
    | cons h1 h2 =>
      rw [rv_enV_inv h1,rvs_enV_inv h2]
      rfl
theorem rv_lst {M : Pool} {β : Bmap} {l : List En} {n : Nat} (hg : ∀ e ∈ l,goodE e) (hn : l.length = n) : RV M β (.lst 64 n (l.map enV)) ((l.map cellsE).flatten):=by
  refine RV.lst (rvs_enV hg) (fun p hp => ?_) (by rw [List.length_map,hn])
  rw [List.mem_map] at hp
  obtain ⟨e,he,rfl⟩:=hp
  rfl
theorem rv_lst_inv {M : Pool} {β : Bmap} {l : List En} {n : Nat} {c : List Value} (h : RV M β (.lst 64 n (l.map enV)) c) : c = (l.map cellsE).flatten:=by
  cases h with
  | lst h1 h2 h3 => exact rvs_enV_inv h1
theorem flat_len : ∀ (L : List GE),((L.map encE).flatten).length = L.length * 64
  | [] => rfl
  | x :: L => by rw [List.map_cons,List.flatten_cons,List.length_append,encE_len,flat_len L,List.length_cons]; omega
theorem flat_get : ∀ (L : List GE) (t : Nat),t < L.length * 64 → ((L.map encE).flatten)[t]! = (encE L[t / 64]!)[t % 64]!
  | [],t,h => absurd h (by simp)
  | x :: L,t,h => by
    rw [List.map_cons,List.flatten_cons]
    by_cases c : t < 64
    · rw [show t / 64 = 0 by omega,show t % 64 = t by omega]
      show _ = (encE x)[t]!
      rw [List.getElem!_eq_getElem?_getD,List.getElem!_eq_getElem?_getD,List.getElem?_append_left (by rw [encE_len]; exact c)]
    · obtain ⟨u,rfl⟩ : ∃ u,t = u + 64:=⟨t - 64,by omega⟩
      rw [show (u + 64) / 64 = u / 64 + 1 by omega,show (u + 64) % 64 = u % 64 by omega,List.getElem!_eq_getElem?_getD,List.getElem?_append_right (by rw [encE_len]; omega),encE_len,Nat.add_sub_cancel,← List.getElem!_eq_getElem?_getD,flat_get L u (by rw [List.length_cons] at h; omega)]
      rfl
theorem flatK_list (L : List GE) : flatK encE 64 L.toArray = ((L.map encE).flatten).toArray:=by
  refine ext_get! (by rw [size_flatK]; show _ = ((L.map encE).flatten).length; rw [flat_len]; rfl) fun t ht => ?_
  rw [size_flatK] at ht
  have ht' : t < L.length * 64:=by simpa using ht
  rw [get_flatK _ _ _ _ ht]
  have h:=flat_get L t ht'
  rw [show ((L.map encE).flatten).toArray[t]! = ((L.map encE).flatten)[t]! by simp,h]
  simp
theorem val_pmap : ∀ (l : List En) (hg : ∀ e ∈ l,goodE e),(l.pmap (fun e h => (⟨e,h⟩ : GE)) hg).map (·.1) = l
  | [],_ => rfl
  | e :: l,h => by
    rw [List.pmap_cons,List.map_cons,val_pmap l (fun x hx => h x (List.mem_cons_of_mem _ hx))]
theorem sort_walk (d : List GE) (blk cap : Nat) (w : World) (hH : HoldsK encE 64 w blk 0 d.toArray) (hblk : blk < w.heap.size) (hsz : d.length < 4611686018427387904) :
    Calls Tryz.prog 192 #[.slice (some ⟨blk,0,none⟩) d.length cap,.func (.func 193) #[] #[]] w fun e w' => e = .returned (.tuple #[]) ∧ ∃ n os,w' = sortWorldK encE 64 w blk 0 n (srtG d).toArray os:=by
  have eg : ∀ args w,(callFunc 193 args).run Tryz.prog w = .ok (.enter 193 args) w:=enters_of Tryz.func193 (by kernel_rfl) rfl
  have hcmp : CmpLays Tryz.prog 193 #[] encE 64 cfE blk 0 d.toArray.size w:=fun _ _ _ _ x y => closure_walk x y _
  have h:=AnyQ.slices_SortFunc_eq Tryz.sortEn 64 Tryz.isAgg229 Tryz.sizeOf229 encE encE_len (fun x v hv => by
    rw [encE,List.mem_map] at hv
    obtain ⟨a,_,rfl⟩:=hv
    rfl) cfE swoE 193 #[] blk 0 cap d.toArray w eg hcmp hH hblk hsz
  exact h
theorem heap_sort {w : World} {b n : Nat} {d : Array GE} {os : Array Obj} {cs : Array Value} {e : TypeId} {fz : Nat × Nat} (hh : w.heap[b]? = some (.cells cs e fz)) :
    (sortWorldK encE 64 w b 0 n d os).heap[b]? = some (.cells (putCells id 0 (flatK encE 64 d) cs) e fz):=by
  have hlt : b < w.heap.size:=(Array.getElem?_eq_some_iff.1 hh).1
  show ((w.heap.modify b (onCells (putCells id 0 (flatK encE 64 d)))) ++ os)[b]? = _
  rw [Array.getElem?_append_left (by rw [Array.size_modify]; exact hlt),Array.getElem?_modify,if_pos rfl,hh]
  rfl
theorem heap_sort_other {w : World} {b n c : Nat} {d : Array GE} {os : Array Obj} (hc : c < w.heap.size) (hne : ¬ c = b) : (sortWorldK encE 64 w b 0 n d os).heap[c]? = w.heap[c]?:=by
  show ((w.heap.modify b (onCells (putCells id 0 (flatK encE 64 d)))) ++ os)[c]? = _
  rw [Array.getElem?_append_left (by rw [Array.size_modify]; exact hc),Array.getElem?_modify,if_neg (fun h => hne h.symm)]
theorem putCells_head (F sp cc : List Value) (h : F.length = cc.length) : putCells id 0 F.toArray (cc ++ sp).toArray = (F ++ sp).toArray:=by
  apply Array.ext_getElem?
  intro k
  unfold putCells
  rw [Array.getElem?_mapIdx,List.getElem?_toArray,List.getElem?_toArray]
  by_cases c : k < F.length
  · rw [List.getElem?_append_left (by omega),List.getElem?_append_left c,List.getElem?_eq_getElem (by omega),List.getElem?_eq_getElem c,Option.map_some,if_pos ⟨Nat.zero_le _,by simpa using c⟩,Nat.sub_zero,getElem!_pos _ k (by simpa using c)]
    rfl
  · rw [List.getElem?_append_right (by omega),List.getElem?_append_right (by omega),h]
    cases sp[k - cc.length]? with
    | none => rfl
    | some x => rw [Option.map_some,if_neg (by rintro ⟨_,h2⟩; simp at h2; omega)]
theorem holds_row {w : World} {b : Nat} {d : List GE} {sp : List Value} {e : TypeId} {fz : Nat × Nat} (hh : w.heap[b]? = some (.cells ((d.map encE).flatten ++ sp).toArray e fz)) (hf : freeCells fz ((d.map encE).flatten ++ sp).length) : HoldsK encE 64 w b 0 d.toArray:=by
  intro j hj
  rw [flatK_list] at hj ⊢
  have hj' : j < ((d.map encE).flatten).length:=by simpa using hj
  refine ⟨?_,?_⟩
  · rw [World.cell?,hh]
    show ((d.map encE).flatten ++ sp).toArray[0 + j]? = _
    rw [Nat.zero_add,List.getElem?_toArray,List.getElem?_append_left hj',List.getElem?_eq_getElem hj',getElem!_pos _ j (by simpa using hj')]
    rfl
  · have:=hf.no (0 + j) (by rw [List.length_append]; omega)
    rw [World.frozen?,hh]
    show (decide (fz.1 ≤ 0 + j) && decide (0 + j < fz.2)) = false
    rw [← Bool.decide_and,decide_eq_false_iff_not]
    exact this
theorem sort_enters : Sy.Enters Tryz.prog 192:=⟨_,Tryz.func192,by kernel_rfl,by kernel_rfl⟩
theorem good_map (l : List GE) : ∀ e ∈ l.map (·.1),goodE e:=fun e he => by
  rw [List.mem_map] at he
  obtain ⟨x,_,rfl⟩:=he
  exact x.2
theorem sort_specG (l : List GE) (n : Nat) (hn : l.length = n) (hn0 : 0 < n) (hl : n ≤ 1000) :
    FnK Tryz.prog [0] 192 [.osl 0 [] 64 0 n,.fn (.func 193) []] [(0,.row (.lst 64 n ((l.map (·.1)).map enV)))] (.tup []) [(0,.row (.lst 64 n (((srtG l).map (·.1)).map enV)))]:=by
  refine ⟨sort_enters,fun w M β xs hno hst hvr => ?_⟩
  cases hvr with
  | cons h0 h1 =>
    cases h1 with
    | cons h2 h3 =>
      cases h3
      cases h0 with
      | agg hm0 _ => cases hm0
      | one hm0 h0 =>
        cases h2 with
        | agg hm2 _ => cases hm2
        | one hm2 h2 =>
          cases h2 with
          | fn hcap =>
            cases hcap
            cases h0 with
            | osl hβ hc hk ha =>
              rename_i b κ cap base
              obtain ⟨b',κ',hb',hor⟩:=hst.objs 0 _ rfl
              rw [hβ] at hb'
              cases hb'
              have hcap:=hk rfl
              obtain ⟨hr,hz,hor⟩:=hor
              rcases hor with ⟨k0,_⟩ | ⟨k0,cc,sp,e,fz,hh,hf,hrv,hlen⟩
              · omega
              rcases ha with ha | ha
              · omega
              have hcc:=rv_lst_inv hrv
              have hmm : (l.map (·.1)).map cellsE = l.map encE:=by rw [List.map_map]; rfl
              rw [hmm] at hcc
              subst hcc
              have hlt : b < w.heap.size:=(Array.getElem?_eq_some_iff.1 hh).1
              have hw:=sort_walk l b cap w (holds_row hh hf) hlt (by omega)
              rw [hn] at hw
              rw [show poff [] + 0 * 64 = 0 from rfl] at ha
              subst ha
              refine hw.mono fun e' w' ⟨he,q,os,hw'⟩ => ⟨_,M,β,he,VR.tup .nil,?_,fun o c hlk => rfl,fun o ho => rfl⟩
              have hlS : ((srtG l).map encE).flatten.length = (l.map encE).flatten.length:=by rw [flat_len,flat_len,srtG_len]
              have hheap : w'.heap[b]? = some (.cells (((srtG l).map encE).flatten ++ sp).toArray e fz):=by
                rw [hw',heap_sort hh,flatK_list,putCells_head _ _ _ hlS]
              have hOR : OR M β b κ w' (.row (.lst 64 n (((srtG l).map (·.1)).map enV))):=by
                refine ⟨rfl,by show 0 < 64; decide,.inr ⟨k0,((srtG l).map encE).flatten,sp,e,fz,hheap,?_,?_,?_⟩⟩
                · rw [List.length_append,hlS,← List.length_append]; exact hf
                · have:=rv_lst (M:=M) (β:=β) (good_map (srtG l)) (show ((srtG l).map (·.1)).length = n by rw [List.length_map,srtG_len,hn])
                  rwa [show ((srtG l).map (·.1)).map cellsE = (srtG l).map encE by rw [List.map_map]; rfl] at this
                · rw [List.length_append,hlS,← List.length_append]; exact hlen
              refine hst.next (BLe.refl _) ?_ (fun c => c = b) (fun c hc => by subst hc; exact hst.mine _ _ _ _ rfl hβ k0) (fun c hc hne => by rw [hw']; exact heap_sort_other hc hne) (by rw [hw']; rfl) (by rw [hw']; rfl) (by rw [hw']; rfl) (fun i obi hi => ?_) ?_
              · rw [hw']
                exact size_sortWorldK_c encE 64 w b 0 _ _ _
              · simp only [lk] at hi
                split at hi
                · rename_i c
                  subst c
                  cases hi
                  exact .inr ⟨b,κ,hβ,hOR,fun _ => .inl rfl⟩
                · cases hi
              · intro i j o1 o2 c κ1 κ2 g1 g2 _ _ _ _
                simp only [lk] at g1 g2
                split at g1
                · split at g2
                  · omega
                  · cases g2
                · cases g1
end Go.Proofs.YtololahjocfbeaaGreat
namespace Go.Proofs.YtololahjocfbeaaGreat
open Go Go.Sy Go.Proofs.Tryz Go.Shelf Go.RowKit Go.Sort
set_option maxRecDepth 100000
set_option maxHeartbeats 8000000
set_option linter.unusedSimpArgs false
set_option linter.unusedVariables false
theorem clone_walk_nil (cap : Nat) (w : World) : Calls Tryz.prog 191 #[.slice none 0 cap] w fun e w' => e = .returned (.slice none 0 0) ∧ ∃ os,w' = grow w os:=by
  have q22 : ∀ (w : World) (a : Option Addr) (n c n' c' : Nat),(binOp .eql 126 (.slice a n c) (.slice none n' c')).run Tryz.prog w = .ok (.bool a.isNone) w:=fun w a n c n' c' => Lib.run_eql_slice_nil w _ _ a n c n' c' Tryz.underlying126
  go_enter Tryz.func191,Tryz.ntmps191
  go_wp2
  go_ret
  exact ⟨rfl,#[],by rw [grow_empty]⟩
theorem clone_walk_some (a : Addr) (cap : Nat) (w : World) : Calls Tryz.prog 191 #[.slice (some a) 0 cap] w fun e w' => (∃ b,e = .returned (.slice b 0 0)) ∧ ∃ os,w' = grow w os:=by
  have q22 : ∀ (w : World) (a : Option Addr) (n c n' c' : Nat),(binOp .eql 126 (.slice a n c) (.slice none n' c')).run Tryz.prog w = .ok (.bool a.isNone) w:=fun w a n c n' c' => Lib.run_eql_slice_nil w _ _ a n c n' c' Tryz.underlying126
  go_enter Tryz.func191,Tryz.ntmps191
  go_wp2
  go_ret
  exact ⟨⟨_,rfl⟩,_,by rw [alloc_eq_grow]⟩
theorem clone_pos (l : List En) (n : Nat) (hn : l.length = n) (hn0 : 0 < n) (hl : n ≤ 1000) (hg : ∀ e ∈ l,goodE e) :
    FnC Tryz.prog 191 [.sl (.lst 64 n (l.map enV))] [] (.osl 0 [] 64 0 n) [(0,.row (.lst 64 n (l.map enV)))]:=by
  have hle : (l.map enV).length = n:=by rw [List.length_map,hn]
  refine fnN mix [] 0 1 [.tmp 2] Tryz.func191 rfl (by kernel_rfl) (by kernel_rfl) rfl (by kernel_rfl) (by kernel_rfl) (by simp) ?_
  simp -implicitDefEqProofs (disch:=omega) only [go_sem,↓reduceIte,hle]
  refine ⟨[(0,1)],[],[],rfl,?_,?_,?_⟩ <;> simp -implicitDefEqProofs (disch:=omega) only [go_sem,↓reduceIte]
theorem heap_grow {w : World} {os : Array Obj} {c : Nat} (hc : c < w.heap.size) : (grow w os).heap[c]? = w.heap[c]?:=by
  show (w.heap ++ os)[c]? = _
  rw [Array.getElem?_append_left hc]
theorem clone_enters : Sy.Enters Tryz.prog 191:=⟨_,Tryz.func191,by kernel_rfl,by kernel_rfl⟩
theorem clone_zero : FnC Tryz.prog 191 [.sl (.lst 64 0 [])] [] (.osl 0 [] 64 0 0) [(0,.row (.lst 64 0 []))]:=by
  refine ⟨clone_enters,fun w M β xs hno hst hvr => ?_⟩
  cases hvr with
  | cons h0 h1 =>
    cases h1
    cases h0 with
    | agg hm0 _ => cases hm0
    | one hm0 h0 =>
      cases h0 with
      | sl h hr hl hc hm =>
        rename_i cc base len cap
        obtain rfl : len = 0:=hl.symm
        have key : Calls Tryz.prog 191 #[.slice base 0 cap] w fun e w' => (∃ b,e = .returned (.slice b 0 0)) ∧ ∃ os,w' = grow w os:=by
          cases base with
          | none => exact (clone_walk_nil cap w).mono fun e w' h => ⟨⟨none,h.1⟩,h.2⟩
          | some a => exact clone_walk_some a cap w
        refine key.mono fun e w' ⟨⟨b,he⟩,os,hw⟩ => ⟨_,M,updB β 0 (0,0),he,?_,?_,fun o c hlk => by cases hlk⟩
        · exact VR.one rfl (RV.osl (κ:=0) (updB_same _ _ _) (Nat.le_refl _) (fun _ => Nat.le_refl _) (.inl rfl))
        · subst hw
          refine hst.next (updB_le (hno 0 rfl) _) (by rw [size_grow]; omega) (fun _ => False) (fun _ hx => hx.elim) (fun c hc _ => heap_grow hc) rfl rfl rfl (fun i obi hi => ?_) ?_
          · simp only [lk] at hi
            split at hi
            · rename_i c
              subst c
              cases hi
              refine .inr ⟨0,0,updB_same _ _ _,⟨rfl,by show 0 < 64; decide,.inl ⟨rfl,rfl,RV.lst .nil (fun _ h => by cases h) rfl⟩⟩,fun h => absurd rfl h⟩
            · cases hi
          · intro i j o1 o2 c κ1 κ2 g1 g2 _ _ _ _
            simp only [lk] at g1 g2
            split at g1
            · split at g2
              · omega
              · cases g2
            · cases g1
theorem clone_spec (l : List En) (n : Nat) (hn : l.length = n) (hl : n ≤ 1000) (hg : ∀ e ∈ l,goodE e) :
    FnC Tryz.prog 191 [.sl (.lst 64 n (l.map enV))] [] (.osl 0 [] 64 0 n) [(0,.row (.lst 64 n (l.map enV)))]:=by
  by_cases h : 0 < n
  · exact clone_pos l n hn h hl hg
  · obtain rfl : n = 0:=by omega
    obtain rfl : l = []:=List.length_eq_zero_iff.1 hn
    exact clone_zero
theorem sort_zero : FnK Tryz.prog [0] 192 [.osl 0 [] 64 0 0,.fn (.func 193) []] [(0,.row (.lst 64 0 []))] (.tup []) [(0,.row (.lst 64 0 []))]:=by
  refine ⟨sort_enters,fun w M β xs hno hst hvr => ?_⟩
  cases hvr with
  | cons h0 h1 =>
    cases h1 with
    | cons h2 h3 =>
      cases h3
      cases h0 with
      | agg hm0 _ => cases hm0
      | one hm0 h0 =>
        cases h0 with
        | osl hβ hc hk ha =>
          rename_i x b κ cap base
          have h:=AnyF.slices_SortFunc_none Tryz.sortEn base cap x w
          exact h.mono fun e w' ⟨he,hw⟩ => ⟨_,M,β,he,VR.tup .nil,by rw [hw]; exact hst,fun _ _ _ => rfl,fun _ _ => rfl⟩
theorem sort_spec (l : List GE) (n : Nat) (hn : l.length = n) (hl : n ≤ 1000) :
    FnK Tryz.prog [0] 192 [.osl 0 [] 64 0 n,.fn (.func 193) []] [(0,.row (.lst 64 n ((l.map (·.1)).map enV)))] (.tup []) [(0,.row (.lst 64 n (((srtG l).map (·.1)).map enV)))]:=by
  by_cases h : 0 < n
  · exact sort_specG l n hn h hl
  · obtain rfl : n = 0:=by omega
    obtain rfl : l = []:=List.length_eq_zero_iff.1 hn
    have e : srtG [] = []:=List.length_eq_zero_iff.1 (srtG_len [])
    rw [e]
    exact sort_zero
end Go.Proofs.YtololahjocfbeaaGreat
namespace Go.Proofs.YtololahjocfbeaaGreat
open Go Go.Sy Go.Proofs.Tryz
set_option maxRecDepth 100000
set_option maxHeartbeats 8000000
set_option linter.unusedSimpArgs false
set_option linter.unusedVariables false
def pairL (a b : List Int) : List Int:=1 :: (a ++ b)
theorem pair_inj_left {a b a' b' : List Int} (h : pairL a b = pairL a' b') (hl : a.length = a'.length) : a = a' ∧ b = b':=by
  unfold pairL at h
  exact List.append_inj (List.cons.inj h).2 hl
theorem pair_inj_right {a b a' b' : List Int} (h : pairL a b = pairL a' b') (hl : b.length = b'.length) : a = a' ∧ b = b':=by
  unfold pairL at h
  exact List.append_inj' (List.cons.inj h).2 hl
def PartsAt (T T' : List (List Int)) (p : Nat) : Prop:=p < T.length ∧ p < T'.length ∧ (∀ j,j < p → T.getD j [] = T'.getD j []) ∧ T.getD p [] ≠ T'.getD p []
def Found (T T' : List (List Int)) : Prop:=∃ p,PartsAt T T' p ∧ sumD (T.getD p []) = sumD (T'.getD p [])
theorem found_head {h h' : List Int} {T T' : List (List Int)} (hs : sumD h = sumD h') (k : h = h' → Found T T') : Found (h :: T) (h' :: T'):=by
  by_cases e : h = h'
  · obtain ⟨p,⟨h1,h2,h3,h4⟩,h5⟩:=k e
    refine ⟨p + 1,⟨by simpa using h1,by simpa using h2,fun j hj => ?_,by simpa using h4⟩,by simpa using h5⟩
    cases j with
    | zero => simpa using e
    | succ j => simpa using h3 j (by omega)
  · exact ⟨0,⟨by simp,by simp,fun j hj => by omega,by simpa using e⟩,by simpa using hs⟩
end Go.Proofs.YtololahjocfbeaaGreat
