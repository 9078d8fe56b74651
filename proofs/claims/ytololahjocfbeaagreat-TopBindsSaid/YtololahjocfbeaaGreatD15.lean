/- Texts,joined. -/
import Derived.Test.YtololahjocfbeaaGreatD14
namespace Go.Proofs.YtololahjocfbeaaGreat
open Go Go.Sy Go.Proofs.Tryz
set_option maxRecDepth 100000
set_option maxHeartbeats 8000000
set_option linter.unusedSimpArgs false
set_option linter.unusedVariables false
attribute [go_sem] pl137 pl183
theorem failed_b {D : DS} (h : (failedD D).1 = false) : (failedD D).2 = { D with left:=IntKind.i64.wrap (D.left - 1) }:=by
  unfold failedD at h ⊢
  split
  · rename_i c; rw [if_pos c] at h; cases h
  · rfl
theorem sync_spec (D : DS) (h : okD D) : FnC Tryz.prog 137 [.ref 0 []] (dskO 1 2 D) (.int .i64 (syncD D).1) (dskO 3 4 (syncD D).2):=by
  have hg:=gone_spec D
  have hf:=failed_spec D h
  unfold syncD
  by_cases ho : D.off = true
  · rw [if_pos ho]
    rw [ho] at hg
    refine fnV mix pl137 1 3 1 [.tmp 2] Tryz.func137 rfl (by kernel_rfl) (by kernel_rfl) rfl (by kernel_rfl) (by kernel_rfl) (by simp) rfl rfl ?_
    simp -implicitDefEqProofs (disch:=omega) only [go_sem,↓reduceIte]
    refine callG false [(0,0),(1,1),(2,2)] [(0,0),(3,3),(4,4)] 5 hg ?_ ?_
    · simp [keys]
    simp -implicitDefEqProofs (disch:=omega) only [go_sem,↓reduceIte]
    refine ⟨[(0,0),(3,3),(4,4)],[],[],rfl,?_,?_,?_⟩ <;> simp -implicitDefEqProofs (disch:=omega) only [go_sem,↓reduceIte]
  rw [if_neg ho]
  rw [Bool.not_eq_true] at ho
  rw [ho] at hg
  by_cases hr : (failedD D).1 = true
  · rw [if_pos hr]
    rw [hr] at hf
    generalize (failedD D).2 = D2 at *
    refine fnV mix pl137 1 3 1 [.tmp 2] Tryz.func137 rfl (by kernel_rfl) (by kernel_rfl) rfl (by kernel_rfl) (by kernel_rfl) (by simp) rfl rfl ?_
    simp -implicitDefEqProofs (disch:=omega) only [go_sem,↓reduceIte]
    refine callG false [(0,0),(1,1),(2,2)] [(0,0),(3,3),(4,4)] 5 hg ?_ ?_
    · simp [keys]
    simp -implicitDefEqProofs (disch:=omega) only [go_sem,↓reduceIte]
    refine callG false [(0,0),(1,3),(2,4)] [(0,0),(3,5),(4,6)] 7 hf ?_ ?_
    · simp [keys]
    simp -implicitDefEqProofs (disch:=omega) only [go_sem,↓reduceIte]
    refine ⟨[(0,0),(3,5),(4,6)],[],[],rfl,?_,?_,?_⟩ <;> simp -implicitDefEqProofs (disch:=omega) only [go_sem,↓reduceIte]
  rw [if_neg hr]
  rw [Bool.not_eq_true] at hr
  rw [hr] at hf
  rw [failed_b hr] at hf ⊢
  clear hr
  obtain ⟨h1,h2,h3,h4,h5,h6⟩:=h
  obtain ⟨sz,b,W,off,set,left,kp⟩:=D
  dsimp only at h1 h2 h3 h4 h5 h6 ho hf hg ⊢
  subst ho
  generalize IntKind.i64.wrap (left - 1) = left2 at *
  obtain ⟨nb,hnb⟩ : ∃ n,n = b.length:=⟨_,rfl⟩
  obtain ⟨nw,hnw⟩ : ∃ n,n = W.length:=⟨_,rfl⟩
  have hle : (W.map wtV).length = nw:=by rw [List.length_map,hnw]
  refine fnV mix ((100003,[]) :: pl137) 1 3 1 [.tmp 2] Tryz.func137 rfl (by kernel_rfl) (by kernel_rfl) rfl (by kernel_rfl) (by kernel_rfl) (by simp) rfl rfl ?_
  simp -implicitDefEqProofs (disch:=omega) only [go_sem,↓reduceIte]
  refine callG false [(0,0),(1,1),(2,2)] [(0,0),(3,3),(4,4)] 5 hg ?_ ?_
  · simp [keys]
  simp -implicitDefEqProofs (disch:=omega) only [go_sem,↓reduceIte]
  refine callG false [(0,0),(1,3),(2,4)] [(0,0),(3,5),(4,6)] 7 hf ?_ ?_
  · simp [keys]
  simp -implicitDefEqProofs (disch:=omega) only [go_sem,↓reduceIte]
  refine cut 2 [(0,.ref 0 [])] [(0,.var (.agg [.int .i64 sz,.osl 1 [] 1 0 nb,.sl (.lst 2 nw (W.map wtV)),.bool false,.bool set,.int .i64 left2,.sl (.ints .i64 kp.length kp)])),(1,.row (.ints .u8 nb b))] [(0,0),(1,5)] [] [6] rfl ?_ ?_ ?_ ?_
  · simp -implicitDefEqProofs (disch:=omega) only [go_sem,↓reduceIte]
  · simp -implicitDefEqProofs (disch:=omega) only [go_sem,↓reduceIte]
  · simp -implicitDefEqProofs (disch:=omega) only [go_sem,↓reduceIte,hnb,hnw]
  simp -implicitDefEqProofs (disch:=omega) only [go_sem,↓reduceIte]
  refine loop (ι:=Nat × List Int) 2 (fun k => k.1 ≤ nw ∧ k.2.length = nb ∧ syncB sz (W.drop k.1) k.2 = syncB sz W b)
    (fun k => [(0,.ref 0 []),(14,.sl (.lst 2 nw (W.map wtV))),(15,.int .i64 nw),(16,.int .i64 k.1)])
    (fun k => [(0,.var (.agg [.int .i64 sz,.osl 1 [] 1 0 nb,.sl (.lst 2 nw (W.map wtV)),.bool false,.bool set,.int .i64 left2,.sl (.ints .i64 kp.length kp)])),(1,.row (.ints .u8 nb k.2))])
    (fun k => nw - k.1) (0,b) [(0,0),(1,1)] [] ⟨Nat.zero_le _,hnb.symm,rfl⟩ rfl ?_ ?_ ?_ (fun k hk => ?_)
  · simp -implicitDefEqProofs (disch:=omega) only [go_sem,↓reduceIte]
  · simp -implicitDefEqProofs (disch:=omega) only [go_sem,↓reduceIte]
  · simp -implicitDefEqProofs (disch:=omega) only [go_sem,↓reduceIte]
  obtain ⟨i,B⟩:=k
  obtain ⟨q1,q2,q3⟩:=hk
  dsimp only at q1 q2 q3 ⊢
  simp -implicitDefEqProofs (disch:=omega) only [go_sem,↓reduceIte]
  refine brd (fun g1 => ?_) (fun g1 => ?_)
  · have hi : i < W.length:=by omega
    have hgw:=fun K => getW2 hi K
    have hw:=h6 _ (List.getElem_mem hi)
    have edw : W.drop i = W[i] :: W.drop (i + 1):=List.drop_eq_getElem_cons hi
    rw [edw] at q3
    generalize W[i] = w at *
    obtain ⟨at',t⟩:=w
    dsimp only at hw hgw q3
    have hp:=dput_spec sz nb (.lst 2 nw (W.map wtV)) (.ints .i64 kp.length kp) false set left2 B at' sz t.length t q2 rfl (by omega) (by omega) (by omega) (by omega)
    have hpl:=putB_len (sz:=sz) (b:=B) (at':=at') (t:=t) (m:=sz) (by omega) (by omega)
    simp -implicitDefEqProofs (disch:=omega) only [go_sem,↓reduceIte,↓hgw,hle]
    refine callG false [(0,0),(1,1)] [(0,0),(2,3)] 4 hp ?_ ?_
    · simp [keys]
    simp -implicitDefEqProofs (disch:=omega) only [go_sem,↓reduceIte]
    refine ⟨(i + 1,putB sz B at' t sz),[(0,0),(1,3)],[],[],⟨by dsimp only; omega,by dsimp only; omega,q3⟩,by dsimp only; omega,rfl,?_,?_,?_⟩ <;> simp -implicitDefEqProofs (disch:=omega) only [go_sem,↓reduceIte]
  · have edw : W.drop i = []:=List.drop_eq_nil_of_le (by omega)
    rw [edw] at q3
    have q3 : B = syncB sz W b:=q3
    subst q3
    simp -implicitDefEqProofs (disch:=omega) only [go_sem,↓reduceIte]
    refine ⟨[(0,0),(3,1)],[4],[],rfl,?_,?_,?_⟩ <;> simp -implicitDefEqProofs (disch:=omega) only [go_sem,↓reduceIte,q2,List.length_nil,List.map_nil]
def ovl (i : Nat) (o : List Int) (w : Nat × List Int) : List Int:=if w.1 = i then w.2 else o
theorem ovl_len {sz i : Nat} : ∀ (W : List (Nat × List Int)) (o : List Int),o.length = sz → (∀ w ∈ W,w.2.length = sz) → (W.foldl (ovl i) o).length = sz
  | [],o,h,_ => h
  | w :: W,o,h,hw => by
    rw [List.foldl_cons]
    refine ovl_len W _ ?_ (fun w' h' => hw w' (List.mem_cons_of_mem _ h'))
    unfold ovl
    split
    · exact hw w (List.mem_cons_self ..)
    · exact h
theorem readB_len {D : DS} (h : okD D) {I : Nat} (hi : I * D.sz + D.sz ≤ D.b.length) : (readB D I).length = D.sz :=
  ovl_len (i:=I) D.wait _ (by rw [List.length_take,List.length_drop]; omega) (fun w hw => (h.wt w hw).2)
theorem read_ok (D : DS) (h : okD D) (ho : D.off = false) (I : Nat) (hi : thereD D I) : FnC Tryz.prog 183 [.ref 0 [],.int .i64 I] (dskO 1 2 D) (.tup [.osl 5 [] 1 0 D.sz,.int .i64 0]) (dskO 3 4 D ++ [(5,.row (.ints .u8 D.sz (readB D I)))]):=by
  obtain ⟨I',e,hI⟩:=there_at h hi
  obtain rfl : I = I':=by omega
  have hg:=gone_spec D
  have hth:=there_spec D h I
  rw [ho] at hg
  rw [decide_eq_true hi] at hth
  have hrl:=readB_len h hI
  obtain ⟨h1,h2,h3,h4,h5,h6⟩:=h
  obtain ⟨sz,b,W,off,set,left,kp⟩:=D
  dsimp only at h1 h2 h3 h4 h5 h6 ho hI hrl
  subst ho
  obtain ⟨a,ha⟩ : ∃ a,a = I * sz:=⟨_,rfl⟩
  have e1 : (I : Int) * (sz : Int) = (a : Int):=by rw [ha]; simp
  have e2 : ((I : Int) + 1) * (sz : Int) = ((a + sz : Nat) : Int):=by rw [Int.add_mul,e1]; simp
  have e3 : a + sz - a = sz:=by omega
  have e5 : ((a : Int) + (sz : Int)).toNat = a + sz:=by omega
  rw [← ha] at hI
  have hrd : readB ⟨sz,b,W,false,set,left,kp⟩ I = W.foldl (ovl I) ((b.drop a).take sz):=by rw [ha]; rfl
  rw [hrd] at hrl ⊢
  obtain ⟨nw,hnw⟩ : ∃ n,n = W.length:=⟨_,rfl⟩
  have hle : (W.map wtV).length = nw:=by rw [List.length_map,hnw]
  have hIb : I ≤ a:=by rw [ha]; exact Nat.le_mul_of_pos_right _ (by omega)
  refine fnV mix pl183 1 3 2 [.tmp 4,.tmp 5] Tryz.func183 rfl (by kernel_rfl) (by kernel_rfl) rfl (by kernel_rfl) (by kernel_rfl) (by simp) rfl rfl ?_
  simp -implicitDefEqProofs (disch:=omega) only [go_sem,↓reduceIte]
  refine callG false [(0,0),(1,1),(2,2)] [(0,0),(3,3),(4,4)] 5 hg ?_ ?_
  · simp [keys]
  simp -implicitDefEqProofs (disch:=omega) only [go_sem,↓reduceIte]
  refine callG false [(0,0),(1,3),(2,4)] [(0,0),(3,5),(4,6)] 7 hth ?_ ?_
  · simp [keys]
  by_cases cw : a = 0 ∧ sz = b.length
  · have ew : (b.drop a).take sz = b:=by rw [cw.1,List.drop_zero,List.take_of_length_le (by omega)]
    have ew2 : b.length = sz:=cw.2.symm
    have dw : decide (a = 0 ∧ sz = b.length) = true:=decide_eq_true cw
    simp -implicitDefEqProofs (disch:=omega) only [go_sem,↓reduceIte,e1,e2,e3,e5,dw,List.nil_append]
    refine loop (ι:=Nat × List Int) 4 (fun k => k.1 ≤ nw ∧ k.2.length = sz ∧ (W.drop k.1).foldl (ovl I) k.2 = W.foldl (ovl I) ((b.drop a).take sz))
      (fun k => [(0,.ref 0 []),(1,.int .i64 I),(6,.osl 3 [] 1 0 sz),(40,.osl 2 [] 2 0 nw),(41,.int .i64 nw),(42,.int .i64 k.1)])
      (fun k => [(0,.var (.agg [.int .i64 sz,.osl 1 [] 1 0 b.length,.osl 2 [] 2 0 W.length,.bool false,.bool set,.int .i64 left,.sl (.ints .i64 kp.length kp)])),(1,.row (.ints .u8 b.length b)),(2,.row (.lst 2 W.length (W.map wtV))),(3,.row (.ints .u8 sz k.2))])
      (fun k => nw - k.1) (0,(b.drop a).take sz) [(0,0),(1,5),(2,6),(3,8)] [] ⟨Nat.zero_le _,by dsimp only; rw [List.length_take,List.length_drop]; omega,rfl⟩ rfl ?_ ?_ ?_ (fun k hk => ?_)
    · simp -implicitDefEqProofs (disch:=omega) only [go_sem,↓reduceIte]
    · simp -implicitDefEqProofs (disch:=omega) only [go_sem,↓reduceIte,hnw,ew,ew2]
    · simp -implicitDefEqProofs (disch:=omega) only [go_sem,↓reduceIte,ew,ew2]
    obtain ⟨i,o⟩:=k
    obtain ⟨q1,q2,q3⟩:=hk
    dsimp only at q1 q2 q3 ⊢
    simp -implicitDefEqProofs (disch:=omega) only [go_sem,↓reduceIte]
    refine brd (fun g1 => ?_) (fun g1 => ?_)
    · have hi : i < W.length:=by omega
      have hgw:=fun K => getW2 hi K
      have hw:=h6 _ (List.getElem_mem hi)
      have edw : W.drop i = W[i] :: W.drop (i + 1):=List.drop_eq_getElem_cons hi
      rw [edw,List.foldl_cons] at q3
      generalize W[i] = w at *
      obtain ⟨at',t⟩:=w
      dsimp only at hw hgw q3
      simp -implicitDefEqProofs (disch:=omega) only [go_sem,↓reduceIte,↓hgw,hle]
      have hwl:=hw.2
      by_cases c : at' = I
      · have c1 : decide ((at' : Int) = (I : Int)) = true:=decide_eq_true (by omega)
        have c2 : ovl I o (at',t) = t:=by unfold ovl; rw [if_pos c]
        rw [c2] at q3
        have c3 : ¬ sz = 0:=by omega
        have c4 : o.drop sz = []:=List.drop_eq_nil_of_le (by omega)
        simp -implicitDefEqProofs (disch:=omega) only [go_sem,↓reduceIte,c1,hwl,c3]
        refine ⟨(i + 1,t),[(0,0),(1,1),(2,2),(3,3)],[],[],⟨by dsimp only; omega,hwl,q3⟩,by dsimp only; omega,rfl,?_,?_,?_⟩ <;> simp -implicitDefEqProofs (disch:=omega) only [go_sem,↓reduceIte,c4,List.append_nil,List.nil_append]
      · have c1 : decide ((at' : Int) = (I : Int)) = false:=decide_eq_false (by omega)
        have c2 : ovl I o (at',t) = o:=by unfold ovl; rw [if_neg c]
        rw [c2] at q3
        simp -implicitDefEqProofs (disch:=omega) only [go_sem,↓reduceIte,c1]
        refine ⟨(i + 1,o),[(0,0),(1,1),(2,2),(3,3)],[],[],⟨by dsimp only; omega,q2,q3⟩,by dsimp only; omega,rfl,?_,?_,?_⟩ <;> simp -implicitDefEqProofs (disch:=omega) only [go_sem,↓reduceIte]
    · have edw : W.drop i = []:=List.drop_eq_nil_of_le (by omega)
      rw [edw] at q3
      have q3 : o = _:=q3
      subst q3
      simp -implicitDefEqProofs (disch:=omega) only [go_sem,↓reduceIte]
      refine ⟨[(0,0),(3,1),(4,2),(5,3)],[],[],rfl,?_,?_,?_⟩ <;> simp -implicitDefEqProofs (disch:=omega) only [go_sem,↓reduceIte]
  · have ew : True:=trivial
    have dw : decide (a = 0 ∧ sz = b.length) = false:=decide_eq_false cw
    simp -implicitDefEqProofs (disch:=omega) only [go_sem,↓reduceIte,e1,e2,e3,e5,dw,List.nil_append]
    refine loop (ι:=Nat × List Int) 4 (fun k => k.1 ≤ nw ∧ k.2.length = sz ∧ (W.drop k.1).foldl (ovl I) k.2 = W.foldl (ovl I) ((b.drop a).take sz))
      (fun k => [(0,.ref 0 []),(1,.int .i64 I),(6,.osl 3 [] 1 0 sz),(40,.osl 2 [] 2 0 nw),(41,.int .i64 nw),(42,.int .i64 k.1)])
      (fun k => [(0,.var (.agg [.int .i64 sz,.osl 1 [] 1 0 b.length,.osl 2 [] 2 0 W.length,.bool false,.bool set,.int .i64 left,.sl (.ints .i64 kp.length kp)])),(1,.row (.ints .u8 b.length b)),(2,.row (.lst 2 W.length (W.map wtV))),(3,.row (.ints .u8 sz k.2))])
      (fun k => nw - k.1) (0,(b.drop a).take sz) [(0,0),(1,5),(2,6),(3,8)] [] ⟨Nat.zero_le _,by dsimp only; rw [List.length_take,List.length_drop]; omega,rfl⟩ rfl ?_ ?_ ?_ (fun k hk => ?_)
    · simp -implicitDefEqProofs (disch:=omega) only [go_sem,↓reduceIte]
    · simp -implicitDefEqProofs (disch:=omega) only [go_sem,↓reduceIte,hnw,ew]
    · simp -implicitDefEqProofs (disch:=omega) only [go_sem,↓reduceIte,ew]
    obtain ⟨i,o⟩:=k
    obtain ⟨q1,q2,q3⟩:=hk
    dsimp only at q1 q2 q3 ⊢
    simp -implicitDefEqProofs (disch:=omega) only [go_sem,↓reduceIte]
    refine brd (fun g1 => ?_) (fun g1 => ?_)
    · have hi : i < W.length:=by omega
      have hgw:=fun K => getW2 hi K
      have hw:=h6 _ (List.getElem_mem hi)
      have edw : W.drop i = W[i] :: W.drop (i + 1):=List.drop_eq_getElem_cons hi
      rw [edw,List.foldl_cons] at q3
      generalize W[i] = w at *
      obtain ⟨at',t⟩:=w
      dsimp only at hw hgw q3
      simp -implicitDefEqProofs (disch:=omega) only [go_sem,↓reduceIte,↓hgw,hle]
      have hwl:=hw.2
      by_cases c : at' = I
      · have c1 : decide ((at' : Int) = (I : Int)) = true:=decide_eq_true (by omega)
        have c2 : ovl I o (at',t) = t:=by unfold ovl; rw [if_pos c]
        rw [c2] at q3
        have c3 : ¬ sz = 0:=by omega
        have c4 : o.drop sz = []:=List.drop_eq_nil_of_le (by omega)
        simp -implicitDefEqProofs (disch:=omega) only [go_sem,↓reduceIte,c1,hwl,c3]
        refine ⟨(i + 1,t),[(0,0),(1,1),(2,2),(3,3)],[],[],⟨by dsimp only; omega,hwl,q3⟩,by dsimp only; omega,rfl,?_,?_,?_⟩ <;> simp -implicitDefEqProofs (disch:=omega) only [go_sem,↓reduceIte,c4,List.append_nil,List.nil_append]
      · have c1 : decide ((at' : Int) = (I : Int)) = false:=decide_eq_false (by omega)
        have c2 : ovl I o (at',t) = o:=by unfold ovl; rw [if_neg c]
        rw [c2] at q3
        simp -implicitDefEqProofs (disch:=omega) only [go_sem,↓reduceIte,c1]
        refine ⟨(i + 1,o),[(0,0),(1,1),(2,2),(3,3)],[],[],⟨by dsimp only; omega,q2,q3⟩,by dsimp only; omega,rfl,?_,?_,?_⟩ <;> simp -implicitDefEqProofs (disch:=omega) only [go_sem,↓reduceIte]
    · have edw : W.drop i = []:=List.drop_eq_nil_of_le (by omega)
      rw [edw] at q3
      have q3 : o = _:=q3
      subst q3
      simp -implicitDefEqProofs (disch:=omega) only [go_sem,↓reduceIte]
      refine ⟨[(0,0),(3,1),(4,2),(5,3)],[],[],rfl,?_,?_,?_⟩ <;> simp -implicitDefEqProofs (disch:=omega) only [go_sem,↓reduceIte]
theorem failed_calm {D : DS} (h : D.set = false) : failedD D = (false,{ D with left:=IntKind.i64.wrap (D.left - 1) }):=by
  unfold failedD
  rw [if_neg (fun c => by rw [h] at c; cases c.1)]
def toU (xs : List Int) : List UInt8:=xs.map fun x => UInt8.ofNat x.toNat
theorem toU_len (xs : List Int) : (toU xs).length = xs.length:=List.length_map _
def chunk (sz : Nat) (b : List Int) (q : Nat) : List Int:=(b.drop (q * sz)).take sz
theorem chunk_put {sz ns : Nat} {b t : List Int} {at' m q : Nat} (hb : b.length = ns * sz) (ha : at' < ns) (hq : q < ns) (ht : t.length = sz) (hm : m ≤ sz) :
    chunk sz (putB sz b at' t m) q = if q = at' then t.take m ++ (chunk sz b at').drop m else chunk sz b q:=by
  have ha2 : at' * sz + sz ≤ ns * sz:=by rw [← Nat.succ_mul]; exact Nat.mul_le_mul_right _ ha
  have hpl : (putB sz b at' t m).length = ns * sz:=by rw [putB_len (by omega) (by omega),hb]
  have l1 : (b.take (at' * sz)).length = at' * sz:=by rw [List.length_take]; omega
  have l2 : (t.take m).length = m:=by rw [List.length_take]; omega
  by_cases c : q = at'
  · subst c
    rw [if_pos rfl]
    apply List.ext_getElem?
    intro j
    unfold chunk putB
    rw [List.getElem?_take,List.getElem?_drop,List.getElem?_append_right (by omega),l1,Nat.add_sub_cancel_left]
    by_cases hj : j < sz
    · rw [if_pos hj]
      by_cases hjm : j < m
      · rw [List.getElem?_append_left (by omega),List.getElem?_append_left (by omega)]
      · rw [List.getElem?_append_right (by omega),List.getElem?_append_right (by omega),l2,List.getElem?_drop,List.getElem?_drop,List.getElem?_take,List.getElem?_drop,if_pos (by omega)]
        congr 1; omega
    · rw [if_neg hj,List.getElem?_append_right (by omega),l2,List.getElem?_drop,List.getElem?_take,if_neg (by omega)]
  · rw [if_neg c]
    apply List.ext_getElem?
    intro j
    unfold chunk putB
    rw [List.getElem?_take,List.getElem?_take,List.getElem?_drop,List.getElem?_drop]
    by_cases hj : j < sz
    · rw [if_pos hj,if_pos hj]
      by_cases hlt : q < at'
      · have : q * sz + sz ≤ at' * sz:=by rw [← Nat.succ_mul]; exact Nat.mul_le_mul_right _ hlt
        rw [List.getElem?_append_left (by omega),List.getElem?_take,if_pos (by omega)]
      · have : at' * sz + sz ≤ q * sz:=by rw [← Nat.succ_mul]; exact Nat.mul_le_mul_right _ (by omega)
        rw [List.getElem?_append_right (by omega),l1,List.getElem?_append_right (by omega),l2,List.getElem?_drop]
        congr 1; omega
    · rw [if_neg hj,if_neg hj]
structure okR (ns : Nat) (D : DS) : Prop where
  n1 : ns ≤ 64
  bl : D.b.length = ns * D.sz
  lf : D.set = true → 0 ≤ D.left ∧ D.left < 9223372036854775808
end Go.Proofs.YtololahjocfbeaaGreat
