/- Texts,joined. -/
import Derived.Test.YtololahjocfbeaaGreatD12
namespace Go.Proofs.YtololahjocfbeaaGreat
open Go Go.Sy Go.Proofs.Tryz
set_option maxRecDepth 100000
set_option maxHeartbeats 8000000
set_option linter.unusedSimpArgs false
set_option linter.unusedVariables false
attribute [go_sem] pl66
theorem getW2 {W : List (Nat × List Int)} {i : Nat} (h : i < W.length) (K : AV → Prop) : getP (W.map wtV) i K = K (.agg [.int .i64 (W[i]).1,.sl (.ints .u8 (W[i]).2.length (W[i]).2)]):=getP_map (f:=wtV) (List.getElem?_eq_getElem h) K
theorem crash_spec (D : DS) (h : okD D) (ks : List Int) (nk : Nat) (hk : ks.length = nk) (hkl : nk ≤ 9223372036854775807) : FnC Tryz.prog 66 [.ref 0 [],.sl (.ints .i64 nk ks)] (dskO 1 2 D) (.tup []) (dskO 3 4 (crashD D ks)):=by
  have hg:=gone_spec D
  obtain ⟨h1,h2,h3,h4,h5,h6⟩:=h
  obtain ⟨sz,b,W,off,set,left,kp⟩:=D
  dsimp only at h1 h2 h3 h4 h5 h6
  unfold crashD
  refine fnV mix ((100001,[]) :: pl66) 1 3 2 [] Tryz.func66 rfl (by kernel_rfl) (by kernel_rfl) rfl (by kernel_rfl) (by kernel_rfl) (by simp) rfl rfl ?_
  cases off
  case true =>
    rw [if_pos rfl]
    simp -implicitDefEqProofs (disch:=omega) only [go_sem,↓reduceIte]
    refine callG false [(0,0),(1,1),(2,2)] [(0,0),(3,3),(4,4)] 5 hg ?_ ?_
    · simp [keys]
    simp -implicitDefEqProofs (disch:=omega) only [go_sem,↓reduceIte]
    refine ⟨[(0,0),(3,3),(4,4)],[],[],rfl,?_,?_,?_⟩ <;> simp -implicitDefEqProofs (disch:=omega) only [go_sem,↓reduceIte]
  rw [if_neg (fun h => by cases h)]
  obtain ⟨nb,hnb⟩ : ∃ n,n = b.length:=⟨_,rfl⟩
  obtain ⟨nw,hnw⟩ : ∃ n,n = W.length:=⟨_,rfl⟩
  have hle : (W.map wtV).length = nw:=by rw [List.length_map,hnw]
  simp -implicitDefEqProofs (disch:=omega) only [go_sem,↓reduceIte]
  refine callG false [(0,0),(1,1),(2,2)] [(0,0),(3,3),(4,4)] 5 hg ?_ ?_
  · simp [keys]
  simp -implicitDefEqProofs (disch:=omega) only [go_sem,↓reduceIte]
  refine cut 2 [(0,.ref 0 []),(1,.sl (.ints .i64 nk ks))] [(0,.var (.agg [.int .i64 sz,.osl 1 [] 1 0 nb,.sl (.lst 2 nw (W.map wtV)),.bool false,.bool set,.int .i64 left,.sl (.ints .i64 kp.length kp)])),(1,.row (.ints .u8 nb b))] [(0,0),(1,3)] [] [4] rfl ?_ ?_ ?_ ?_
  · simp -implicitDefEqProofs (disch:=omega) only [go_sem,↓reduceIte]
  · simp -implicitDefEqProofs (disch:=omega) only [go_sem,↓reduceIte]
  · simp -implicitDefEqProofs (disch:=omega) only [go_sem,↓reduceIte,hnb,hnw]
  simp -implicitDefEqProofs (disch:=omega) only [go_sem,↓reduceIte]
  refine loop (ι:=Nat × List Int) 2 (fun k => k.1 ≤ nw ∧ k.2.length = nb ∧ crashB sz (W.drop k.1) (ks.drop k.1) k.2 = crashB sz W ks b)
    (fun k => [(0,.ref 0 []),(1,.sl (.ints .i64 nk ks)),(11,.sl (.lst 2 nw (W.map wtV))),(12,.int .i64 nw),(13,.int .i64 k.1)])
    (fun k => [(0,.var (.agg [.int .i64 sz,.osl 1 [] 1 0 nb,.sl (.lst 2 nw (W.map wtV)),.bool false,.bool set,.int .i64 left,.sl (.ints .i64 kp.length kp)])),(1,.row (.ints .u8 nb k.2))])
    (fun k => nw - k.1) (0,b) [(0,0),(1,1)] [] ⟨Nat.zero_le _,hnb.symm,rfl⟩ rfl ?_ ?_ ?_ (fun k hk => ?_)
  · simp -implicitDefEqProofs (disch:=omega) only [go_sem,↓reduceIte]
  · simp -implicitDefEqProofs (disch:=omega) only [go_sem,↓reduceIte]
  · simp -implicitDefEqProofs (disch:=omega) only [go_sem,↓reduceIte]
  obtain ⟨i,B⟩:=k
  obtain ⟨q1,q2,q3⟩:=hk
  dsimp only at q1 q2 q3 ⊢
  simp -implicitDefEqProofs (disch:=omega) only [go_sem,↓reduceIte]
  refine brd (fun g1 => ?_) (fun g1 => ?_)
  · have hi : i < W.length:=by omega
    have hgw:=fun K => getW2 hi K
    have hw:=h6 _ (List.getElem_mem hi)
    have edw : W.drop i = W[i] :: W.drop (i + 1):=List.drop_eq_getElem_cons hi
    rw [edw] at q3
    generalize W[i] = w at *
    obtain ⟨at',t⟩:=w
    dsimp only at hw hgw q3
    simp -implicitDefEqProofs (disch:=omega) only [go_sem,↓reduceIte,↓hgw,hle]
    refine brd (fun g2 => ?_) (fun g2 => ?_)
    · have hik : i < ks.length:=by omega
      have edk : ks.drop i = ks.getD i 0 :: ks.drop (i + 1):=by
        rw [List.drop_eq_getElem_cons hik]
        simp only [List.getD,List.getElem?_eq_getElem hik,Option.getD_some]
      rw [edk,crashB] at q3
      have ek : max (0 : Int) (min (ks.getD i 0) (sz : Int)) = ((kept sz (ks.getD i 0) : Nat) : Int):=by unfold kept; omega
      have hkl:=kept_le sz (ks.getD i 0)
      generalize kept sz (ks.getD i 0) = m at *
      have hp:=dput_spec sz nb (.lst 2 nw (W.map wtV)) (.ints .i64 kp.length kp) false set left B at' m t.length t q2 rfl (by omega) (by omega) (by omega) (by omega)
      have hpl:=putB_len (sz:=sz) (b:=B) (at':=at') (t:=t) (m:=m) (by omega) (by omega)
      simp -implicitDefEqProofs (disch:=omega) only [go_sem,↓reduceIte,ek]
      refine callG false [(0,0),(1,1)] [(0,0),(2,3)] 4 hp ?_ ?_
      · simp [keys]
      simp -implicitDefEqProofs (disch:=omega) only [go_sem,↓reduceIte]
      refine ⟨(i + 1,putB sz B at' t m),[(0,0),(1,3)],[],[],⟨by dsimp only; omega,by dsimp only; omega,q3⟩,by dsimp only; omega,rfl,?_,?_,?_⟩ <;> simp -implicitDefEqProofs (disch:=omega) only [go_sem,↓reduceIte]
    · have edk : ks.drop i = []:=List.drop_eq_nil_of_le (by omega)
      have edk2 : ks.drop (i + 1) = []:=List.drop_eq_nil_of_le (by omega)
      rw [edk,crashB] at q3
      have q4 : crashB sz (W.drop (i + 1)) (ks.drop (i + 1)) B = crashB sz W ks b:=by
        rw [edk2,← q3]
        cases W.drop (i + 1) <;> rfl
      simp -implicitDefEqProofs (disch:=omega) only [go_sem,↓reduceIte]
      refine ⟨(i + 1,B),[(0,0),(1,1)],[],[],⟨by dsimp only; omega,q2,q4⟩,by dsimp only; omega,rfl,?_,?_,?_⟩ <;> simp -implicitDefEqProofs (disch:=omega) only [go_sem,↓reduceIte]
  · have edw : W.drop i = []:=List.drop_eq_nil_of_le (by omega)
    rw [edw,crashB] at q3
    subst q3
    simp -implicitDefEqProofs (disch:=omega) only [go_sem,↓reduceIte]
    refine ⟨[(0,0),(3,1)],[4],[],rfl,?_,?_,?_⟩ <;> simp -implicitDefEqProofs (disch:=omega) only [go_sem,↓reduceIte,q2,List.length_nil,List.map_nil]
theorem crashD_ok {D : DS} (h : okD D) (ks : List Int) : okD (crashD D ks):=by
  obtain ⟨h1,h2,h3,h4,h5,h6⟩:=h
  unfold crashD
  split
  · exact ⟨h1,h2,h3,h4,h5,h6⟩
  · have hl : ∀ (W : List (Nat × List Int)) (ks b : List Int),b.length = D.b.length → (∀ w ∈ W,w.1 * D.sz + D.sz ≤ D.b.length ∧ w.2.length = D.sz) → (crashB D.sz W ks b).length = D.b.length:=by
      intro W
      induction W with
      | nil => intro ks b hb _; exact hb
      | cons w W ih =>
        intro ks b hb hw
        cases ks with
        | nil => exact hb
        | cons k ks =>
          have hw0:=hw w (List.mem_cons_self ..)
          have hkl:=kept_le D.sz k
          exact ih ks _ (by rw [putB_len (by omega) (by omega),hb]) (fun w' h' => hw w' (List.mem_cons_of_mem _ h'))
    exact ⟨h1,h2,by dsimp only; rw [hl _ _ _ rfl h6]; exact h3,Nat.zero_le _,h5,fun w h => by cases h⟩
theorem failed_spec (D : DS) (h : okD D) : FnC Tryz.prog 200 [.ref 0 []] (dskO 1 2 D) (.bool (failedD D).1) (dskO 3 4 (failedD D).2):=by
  have hc:=crash_spec D h D.keep D.keep.length rfl h.kl
  obtain ⟨sz,b,W,off,set,left,kp⟩:=D
  unfold failedD
  dsimp only at hc ⊢
  cases set
  · rw [if_neg (fun h => by cases h.1)]
    refine fnV mix [] 1 3 1 [.tmp 2] Tryz.func200 rfl (by kernel_rfl) (by kernel_rfl) rfl (by kernel_rfl) (by kernel_rfl) (by simp) rfl rfl ?_
    simp -implicitDefEqProofs (disch:=omega) only [go_sem,↓reduceIte]
    refine ⟨[(0,0),(3,1),(4,2)],[],[],rfl,?_,?_,?_⟩ <;> simp -implicitDefEqProofs (disch:=omega) only [go_sem,↓reduceIte]
  by_cases c : left = 0
  · rw [if_pos ⟨rfl,c⟩]
    have c2 : decide (left = 0) = true:=decide_eq_true c
    refine fnV mix [] 1 3 1 [.tmp 2] Tryz.func200 rfl (by kernel_rfl) (by kernel_rfl) rfl (by kernel_rfl) (by kernel_rfl) (by simp) rfl rfl ?_
    simp -implicitDefEqProofs (disch:=omega) only [go_sem,↓reduceIte,c2]
    refine callG false [(0,0),(1,1),(2,2)] [(0,0),(3,3),(4,4)] 5 hc ?_ ?_
    · simp [keys]
    simp -implicitDefEqProofs (disch:=omega) only [go_sem,↓reduceIte]
    refine ⟨[(0,0),(3,3),(4,4)],[],[],rfl,?_,?_,?_⟩ <;> simp -implicitDefEqProofs (disch:=omega) only [go_sem,↓reduceIte]
  · rw [if_neg (fun h => c h.2)]
    have c2 : decide (left = 0) = false:=decide_eq_false c
    refine fnV mix [] 1 3 1 [.tmp 2] Tryz.func200 rfl (by kernel_rfl) (by kernel_rfl) rfl (by kernel_rfl) (by kernel_rfl) (by simp) rfl rfl ?_
    simp -implicitDefEqProofs (disch:=omega) only [go_sem,↓reduceIte,c2]
    refine ⟨[(0,0),(3,1),(4,2)],[],[],rfl,?_,?_,?_⟩ <;> simp -implicitDefEqProofs (disch:=omega) only [go_sem,↓reduceIte]
attribute [go_sem] pl136 pl183 pl184
theorem there_at {D : DS} (h : okD D) {i : Int} (ht : thereD D i) : ∃ I : Nat,i = I ∧ I * D.sz + D.sz ≤ D.b.length:=by
  obtain ⟨I,rfl⟩:=Int.eq_ofNat_of_zero_le ht.1
  refine ⟨I,rfl,?_⟩
  have h2:=ht.2
  have h3 : I < D.b.length / D.sz:=by omega
  have h4:=(Nat.le_div_iff_mul_le h.sz1).1 (Nat.succ_le_of_lt h3)
  rw [Nat.succ_mul] at h4
  exact h4
theorem write_off (D : DS) (ho : D.off = true) (i : Int) (t : List Int) (n : Nat) : FnC Tryz.prog 136 [.ref 0 [],.int .i64 i,.sl (.ints .u8 n t)] (dskO 1 2 D) (.int .i64 9) (dskO 3 4 D):=by
  have hg:=gone_spec D
  rw [ho] at hg
  refine fnV mix pl136 1 3 3 [.tmp 6] Tryz.func136 rfl (by kernel_rfl) (by kernel_rfl) rfl (by kernel_rfl) (by kernel_rfl) (by simp) rfl rfl ?_
  simp -implicitDefEqProofs (disch:=omega) only [go_sem,↓reduceIte]
  refine callG false [(0,0),(1,1),(2,2)] [(0,0),(3,3),(4,4)] 5 hg ?_ ?_
  · simp [keys]
  simp -implicitDefEqProofs (disch:=omega) only [go_sem,↓reduceIte]
  refine ⟨[(0,0),(3,3),(4,4)],[],[],rfl,?_,?_,?_⟩ <;> simp -implicitDefEqProofs (disch:=omega) only [go_sem,↓reduceIte]
theorem write_arg (D : DS) (h : okD D) (ho : D.off = false) (i : Int) (hi : ¬ thereD D i) (t : List Int) (n : Nat) : FnC Tryz.prog 136 [.ref 0 [],.int .i64 i,.sl (.ints .u8 n t)] (dskO 1 2 D) (.int .i64 1) (dskO 3 4 D):=by
  have hg:=gone_spec D
  have hth:=there_spec D h i
  rw [ho] at hg
  rw [decide_eq_false hi] at hth
  refine fnV mix pl136 1 3 3 [.tmp 6] Tryz.func136 rfl (by kernel_rfl) (by kernel_rfl) rfl (by kernel_rfl) (by kernel_rfl) (by simp) rfl rfl ?_
  simp -implicitDefEqProofs (disch:=omega) only [go_sem,↓reduceIte]
  refine callG false [(0,0),(1,1),(2,2)] [(0,0),(3,3),(4,4)] 5 hg ?_ ?_
  · simp [keys]
  simp -implicitDefEqProofs (disch:=omega) only [go_sem,↓reduceIte]
  refine callG false [(0,0),(1,3),(2,4)] [(0,0),(3,5),(4,6)] 7 hth ?_ ?_
  · simp [keys]
  simp -implicitDefEqProofs (disch:=omega) only [go_sem,↓reduceIte]
  refine ⟨[(0,0),(3,5),(4,6)],[],[],rfl,?_,?_,?_⟩ <;> simp -implicitDefEqProofs (disch:=omega) only [go_sem,↓reduceIte]
theorem write_len (D : DS) (h : okD D) (ho : D.off = false) (i : Int) (hi : thereD D i) (t : List Int) (n : Nat) (hnl : n ≤ 9223372036854775807) (hn : n ≠ D.sz) : FnC Tryz.prog 136 [.ref 0 [],.int .i64 i,.sl (.ints .u8 n t)] (dskO 1 2 D) (.int .i64 1) (dskO 3 4 D):=by
  have hg:=gone_spec D
  have hth:=there_spec D h i
  rw [ho] at hg
  rw [decide_eq_true hi] at hth
  have d1 : decide ((n : Int) = (D.sz : Int)) = false:=decide_eq_false (by omega)
  refine fnV mix pl136 1 3 3 [.tmp 6] Tryz.func136 rfl (by kernel_rfl) (by kernel_rfl) rfl (by kernel_rfl) (by kernel_rfl) (by simp) rfl rfl ?_
  simp -implicitDefEqProofs (disch:=omega) only [go_sem,↓reduceIte]
  refine callG false [(0,0),(1,1),(2,2)] [(0,0),(3,3),(4,4)] 5 hg ?_ ?_
  · simp [keys]
  simp -implicitDefEqProofs (disch:=omega) only [go_sem,↓reduceIte]
  refine callG false [(0,0),(1,3),(2,4)] [(0,0),(3,5),(4,6)] 7 hth ?_ ?_
  · simp [keys]
  simp -implicitDefEqProofs (disch:=omega) only [go_sem,↓reduceIte,d1]
  refine ⟨[(0,0),(3,5),(4,6)],[],[],rfl,?_,?_,?_⟩ <;> simp -implicitDefEqProofs (disch:=omega) only [go_sem,↓reduceIte]
theorem okD_wait {D : DS} (h : okD D) (hw : D.wait.length ≤ 90000) {I : Nat} {t : List Int} (hI : I * D.sz + D.sz ≤ D.b.length) (ht : t.length = D.sz) : okD { D with wait:=D.wait ++ [(I,t)] } :=
  ⟨h.sz1,h.sz2,h.bl,by simp; omega,h.kl,fun w hw => by
    rcases List.mem_append.1 hw with hw | hw
    · exact h.wt w hw
    · rw [List.mem_singleton] at hw; subst hw; exact ⟨hI,ht⟩⟩
theorem write_ok (D : DS) (h : okD D) (hw : D.wait.length ≤ 90000) (ho : D.off = false) (I : Nat) (hi : thereD D I) (t : List Int) (ht : t.length = D.sz) :
    FnC Tryz.prog 136 [.ref 0 [],.int .i64 I,.sl (.ints .u8 D.sz t)] (dskO 1 2 D) (.int .i64 (if (failedD { D with wait:=D.wait ++ [(I,t)] }).1 = true then 9 else 0)) (dskO 3 4 (failedD { D with wait:=D.wait ++ [(I,t)] }).2):=by
  obtain ⟨I',e,hI⟩:=there_at h hi
  obtain rfl : I = I':=by omega
  have hg:=gone_spec D
  have hth:=there_spec D h I
  have hszl:=h.sz2
  rw [ho] at hg
  rw [decide_eq_true hi] at hth
  have hf:=failed_spec _ (okD_wait h hw hI ht)
  generalize hfd : failedD { D with wait:=D.wait ++ [(I,t)] } = R at *
  obtain ⟨R1,R2⟩:=R
  obtain ⟨sz,b,W,off,set,left,kp⟩:=D
  dsimp only at hw ho ht hszl hI
  subst ho
  refine fnV mix pl136 1 3 3 [.tmp 6] Tryz.func136 rfl (by kernel_rfl) (by kernel_rfl) rfl (by kernel_rfl) (by kernel_rfl) (by simp) rfl rfl ?_
  simp -implicitDefEqProofs (disch:=omega) only [go_sem,↓reduceIte]
  refine callG false [(0,0),(1,1),(2,2)] [(0,0),(3,3),(4,4)] 5 hg ?_ ?_
  · simp [keys]
  simp -implicitDefEqProofs (disch:=omega) only [go_sem,↓reduceIte]
  refine callG false [(0,0),(1,3),(2,4)] [(0,0),(3,5),(4,6)] 7 hth ?_ ?_
  · simp [keys]
  simp -implicitDefEqProofs (disch:=omega) only [go_sem,↓reduceIte,List.nil_append]
  refine callG false [(0,0),(1,5),(2,10)] [(0,0),(3,11),(4,12)] 13 hf ?_ ?_
  · simp [keys]
  cases R1
  · simp -implicitDefEqProofs (disch:=omega) only [go_sem,↓reduceIte,List.length_append,List.length_singleton,List.map_append,ht]
    refine ⟨[(0,0),(3,11),(4,12)],[],[],rfl,?_,?_,?_⟩ <;> simp -implicitDefEqProofs (disch:=omega) only [go_sem,↓reduceIte]
  · simp -implicitDefEqProofs (disch:=omega) only [go_sem,↓reduceIte,List.length_append,List.length_singleton,List.map_append,ht]
    refine ⟨[(0,0),(3,11),(4,12)],[],[],rfl,?_,?_,?_⟩ <;> simp -implicitDefEqProofs (disch:=omega) only [go_sem,↓reduceIte]
theorem dwrite_spec (D : DS) (h : okD D) (hw : D.wait.length ≤ 90000) (i : Int) (t : List Int) (n : Nat) (hn : t.length = n) (hnl : n ≤ 9223372036854775807) : FnC Tryz.prog 136 [.ref 0 [],.int .i64 i,.sl (.ints .u8 n t)] (dskO 1 2 D) (.int .i64 (writeD D i t).1) (dskO 3 4 (writeD D i t).2):=by
  unfold writeD
  by_cases ho : D.off = true
  · rw [if_pos ho]
    exact write_off D ho i t n
  rw [if_neg ho]
  rw [Bool.not_eq_true] at ho
  by_cases ht : thereD D i
  · by_cases hs : n = D.sz
    · rw [if_pos ⟨ht,by rw [hn]; exact hs⟩]
      obtain ⟨I,rfl,hI⟩:=there_at h ht
      rw [Int.toNat_natCast,hs]
      exact write_ok D h hw ho I ht t (by rw [hn]; exact hs)
    · rw [if_neg (fun h => hs (by rw [← hn]; exact h.2))]
      exact write_len D h ho i ht t n hnl hs
  · rw [if_neg (fun h => ht h.1)]
    exact write_arg D h ho i ht t n
theorem new_ok (s z : Nat) (h1 : 1 ≤ s) (h2 : s ≤ 64) (h3 : 1 ≤ z) (h4 : z ≤ 512) : FnC Tryz.prog 26 [.int .i64 s,.int .i64 z] [] (.tup [.ref 0 [],.int .i64 0]) (dskO 1 2 ⟨z,List.replicate (s * z) 0,[],false,false,0,[]⟩):=by
  have e1 : (s : Int) * (z : Int) = ((s * z : Nat) : Int):=by simp
  have hsz : s * z ≤ 64 * 512:=Nat.mul_le_mul h2 h4
  generalize hn : s * z = n at *
  refine fnN mix [] 0 2 [.tmp 4,.tmp 5] Tryz.func26 rfl (by kernel_rfl) (by kernel_rfl) rfl (by kernel_rfl) (by kernel_rfl) (by simp) ?_
  simp -implicitDefEqProofs (disch:=omega) only [go_sem,↓reduceIte]
  refine brd (fun g => by omega) (fun g => ?_)
  simp -implicitDefEqProofs (disch:=omega) only [go_sem,↓reduceIte]
  refine brd (fun g => by omega) (fun g => ?_)
  simp -implicitDefEqProofs (disch:=omega) only [go_sem,↓reduceIte]
  refine brd (fun g => by omega) (fun g => ?_)
  simp -implicitDefEqProofs (disch:=omega) only [go_sem,↓reduceIte]
  refine brd (fun g => by omega) (fun g => ?_)
  simp -implicitDefEqProofs (disch:=omega) only [go_sem,↓reduceIte,e1]
  refine ⟨[(0,1),(1,0)],[2],[],rfl,?_,?_,?_⟩ <;> simp -implicitDefEqProofs (disch:=omega) only [go_sem,↓reduceIte,List.length_replicate,List.length_nil,List.map_nil]
end Go.Proofs.YtololahjocfbeaaGreat
namespace Go.Sy
open Go
set_option linter.unusedSimpArgs false
set_option linter.unusedVariables false
@[congr] theorem RunP_congr {R : Runner} {args args' : List AV} {O : OO} {n : Nat} {κ : AV → OO → Nat → Prop} (h : mk args = args') : RunP R args O n κ = RunP R args' O n κ:=by rw [← h]; rfl
def vcY (P : Program) (R : Runner) (y : AV) (refs : List AV) : List Oper → CK → CK
  | [],K,T,O,n => K T O n
  | o :: rest,K,T,O,n => match o.guard with
    | some _ => False
    | none => match o.op with
      | .call c => (match c.callee with
        | .value f => evC T f fun fv => fv = y ∧ evsC T c.args.toList fun vs => RunP R (vs ++ refs) O n fun r O' n' => nxt o.dst r O' n' T (vcY P R y refs rest K)
        | _ => False)
      | .defer _ => False
      | op => vcOp P op T O n fun v O' n' => nxt o.dst v O' n' T (vcY P R y refs rest K)
def vcD (P : Program) (tb : List (Nat × Plan)) (k : Nat) (Y : List Oper → CK → CK) : Code → CK → (Nat → CK) → CK → CK
  | .skip,K,_,_,T,O,n => K T O n
  | .region _ _ true,_,_,_,_,_,_ => False
  | .region id ops false,K,_,_,T,O,n => (match lk tb (200000 + id) with
      | none => vcOps P ops.toList ops.toList K T O n
      | some _ => Y ops.toList K T O n)
  | .seq a b,K,X,R,T,O,n => vcD P tb k Y a (vcD P tb k Y b K X R) X R T O n
  | .cond c x y,K,X,R,T,O,n => evC T c fun v => boolC v fun b => (b = true → vcD P tb k Y x K X R T O n) ∧ (b = false → vcD P tb k Y y K X R T O n)
  | .block id c,K,X,R,T,O,n => vcD P tb k Y c K (fun i => if i = id then K else X i) R T O n
  | .loop c,_,X,R,T,O,n => VLoop k (fun K' => vcD P tb k Y c K' X R) T O n
  | .exit id,_,X,_,T,O,n => X id T O n
  | .label _,K,_,_,T,O,n => K T O n
  | .ret,_,_,R,T,O,n => R T O n
  | _,_,_,_,_,_,_ => False
section
variable {P : Program} {tb : List (Nat × Plan)} {k : Nat} {K : CK} {X : Nat → CK} {R : CK} {T : TT} {O : OO} {n : Nat} {Y : List Oper → CK → CK}
theorem vcD_cond (c : Operand) (x y : Code) : vcD P tb k Y (.cond c x y) K X R T O n = evC T c fun v => boolC v fun b => brC b (vcD P tb k Y x K X R T O n) (vcD P tb k Y y K X R T O n):=by
  simp only [vcD]
  rfl
theorem vcD_reg (id : Nat) (l : List Oper) : vcD P tb k Y (.region id l.toArray false) K X R T O n = ev (lk tb (200000 + id)) fun q => match q with
    | none => vcOps P l l K T O n
    | some _ => Y l K T O n:=by
  simp only [vcD,ev_eq]
end
attribute [go_sem ↓ high] vcD_cond vcD_reg
attribute [go_sem ↓] vcD vcY
section
variable {E : Env} {N : Nat} {M M' M1 : Pool} {β β' β1 β2 : Bmap} {T T' : TT} {O O' O1 O2 : OO} {n m : Nat} {a : Act} {w w' : World} {P : Program} {o : Oper}
theorem runG {R : Runner} {args A : List AV} {r : AV} {κ : KK} (bor : Bool) (σ τ : List (Nat × Nat)) (n' : Nat) (h : RunC R A O1 r O') (h1 : (σ.map (·.1) = keys O1) ∧ (keys O1).Nodup ∧ (σ.map (·.2)).Nodup ∧ n ≤ n' ∧ (τ.map (·.1)).Nodup ∧ (τ.map (·.2)).Nodup ∧ τ.map (·.1) = keys O')
    (hk : ev (σ.map (·.2)) fun l => rmsO O l fun O2 => argsOK bor σ O2 args A ∧ holdsO O σ O1 ∧ homesOK σ τ O1 n n' O' ∧ (bor = true → r.pf = true ∧ ∀ p ∈ O',p.2.pf = true) ∧ renC τ r fun r' => renOO τ O' fun L => κ r' (L ++ O2) n') : RunP R args O n κ:=by
  obtain ⟨O2,k0,k1,k2,k3,k4,k5⟩:=rmsO_run hk
  obtain ⟨a1,a2,a3,a4,a5,a6,a7⟩:=h1
  exact ⟨bor,σ,τ,A,O1,O2,r,O',n',h,k0,k1,k2,a1,a2,a3,a4,a5,a6,k3,a7,k4,k5⟩
def YRun (P : Program) (l : Nat) (rec : Loop) (xp : List Value) : Runner:=fun xs w Q => ∀ ys,xs = ys ++ xp → w.heap[l]? = some (.loop rec) →
  ∃ fn tmps assign body,(Instr.yield l ys.toArray).run P w = .ok (.round l fn tmps assign body) w ∧ RoundIn Fence.wide 0 P l fn tmps assign body w Q
theorem YRun.mono {l : Nat} {rec : Loop} {xp : List Value} (xs : List Value) (w : World) (Q Q' : Ending → World → Prop) (h : ∀ e w',Q e w' → Q' e w') (hy : YRun P l rec xp xs w Q) : YRun P l rec xp xs w Q':=fun ys e hl => by
  obtain ⟨fn,tmps,assign,body,h1,h2⟩:=hy ys e hl
  exact ⟨fn,tmps,assign,body,h1,h2.mono h⟩
theorem VRs.append {vs us : List AV} {xs zs : List Value} (h : VRs M β vs xs) (h' : VRs M β us zs) : VRs M β (vs ++ us) (xs ++ zs):=by
  induction vs generalizing xs with
  | nil => cases h; exact h'
  | cons v vs ih => cases h with | cons h1 h2 => exact .cons h1 (ih h2)
theorem wideF_row {ro : Option Nat} {k : Nat} {l f : Nat} {tmps : Array Value} {assign body : Code} {Q : Ending → World → Prop} (h : RoundIn Fence.wide k P l f tmps assign body w Q) : RoundIn (wideF ro) k P l f tmps assign body w Q:=by
  cases ro with
  | none => exact h
  | some i => exact h
theorem vcY_sound {l : Nat} {rec : Loop} {xp : List Value} {refs : List AV} (hE : ∀ o,E.ok o) (hl : E.w0.heap[l]? = some (.loop rec)) (hown : ∀ b,E.own b → ∃ cs e fz,E.w0.heap[b]? = some (.cells cs e fz))
    (hrefs : ∀ (M : Pool) (β : Bmap),(∀ o,o < E.n0 → β o = E.B0 o) → VRs M β refs xp) {ops : Array Oper} {Q : Exit → Act → World → Prop} {K : CK} (hd : ∀ o ∈ ops.toList,∀ t,o.dst = some t → t < N)
    (hK : ∀ T O n a w,K T O n → Rel E N T O n a w → Q .normal a w) :
    ∀ (rest : List Oper) (i : Nat) (T : TT) (O : OO) (n : Nat) (a : Act) (w : World),ops.toList.drop i = rest → vcY P (YRun P l rec xp) (.fn (.yield l) []) refs rest K T O n → Rel E N T O n a w → wpOpsIn (wideF none) 1 P ops Q (List.range' i rest.length) a w:=by
  intro rest
  induction rest with
  | nil => intro i T O n a w _ h hr; exact hK _ _ _ _ _ h hr
  | cons o rest ih =>
    intro i T O n a w hi h hr
    have hio : ops[i]? = some o:=by
      have : (ops.toList.drop i)[0]? = some o:=by rw [hi]; rfl
      simpa using this
    have hmem : o ∈ ops.toList:=List.mem_of_mem_drop (by rw [hi]; simp)
    have hi' : ops.toList.drop (i + 1) = rest:=by
      have:=congrArg List.tail hi
      simpa using this
    simp only [List.length_cons,List.range'_succ,wpOpsIn,hio]
    obtain ⟨M,β,hr⟩:=hr
    unfold vcY at h
    split at h
    · exact h.elim
    rename_i hg
    have : Region.wanted o (yielded ops a.tmps) = true:=by unfold Region.wanted; rw [hg]
    rw [if_pos this]
    split at h
    · rename_i c hop
      split at h
      · rename_i f hc
        obtain ⟨fv,⟨rfl,h⟩,hfv⟩:=evC_spec hr h
        obtain ⟨vs,h,hvs⟩:=evsC_spec hr h
        obtain ⟨ys,e,hps⟩:=hfv.fn_inv
        cases hps
        have hxp:=hrefs M β (fun o ho => hr.base o (.inl ho))
        have hrun:=run_gen (fun xs w Q Q' => YRun.mono xs w Q Q') hr (fun _ _ _ _ o _ _ => hE o) (VRs.append hvs hxp) h
        have hlw : w.heap[l]? = some (.loop rec):=hr.other hown hl (fun _ _ _ e => by cases e)
        obtain ⟨fn,tmps,assign,body,h1,h2⟩:=hrun _ rfl hlw
        refine ⟨fun f _ => wideF_fn none f,?_⟩
        have hx : (o.semAt (wideF none).round a.eval).run P w = .ok (.round l fn tmps assign body) w:=by
          rw [wideF_round,Oper.semAt_none]
          have em : (List.map a.eval c.args.toList).toArray = Array.map a.eval c.args:=by rw [← Array.toList_map]
          rw [em] at h1
          rw [← h1]
          simp only [execOp,hop,resolve,hc,e,Deferred.ofValue,Sem.run_bind,Sem.run_pure,Result.andThen_ok,invoke]
          simp
        rw [hx,Oper.uponIn_round]
        refine ⟨fun _ => Nat.le_refl _,wideF_row (h2.mono ?_)⟩
        rintro _ w' ⟨x,r,O',n',M',β',rfl,hk,hv,hr'⟩
        simp only [nxt_eq] at hk
        exact ih _ _ _ _ _ _ hi' hk ⟨M',β',hr'.value (hd o hmem) hv⟩
      · exact h.elim
    · exact h.elim
    · rename_i hnc hnd
      exact wideF_op hnd (fun _ _ h => h) (fun _ _ _ h => h) (vcOp_sound (fun _ _ _ _ o _ _ => hE o) rfl h hr _ Q fun v O' n' x w' M' β' hk hr' hv => by
        simp only [nxt_eq] at hk
        exact ih _ _ _ _ _ _ hi' hk ⟨M',β',hr'.value (hd o hmem) hv⟩)
theorem vcD_sound (hE : ∀ o,E.ok o) (tb : List (Nat × Plan)) {Y : List Oper → CK → CK}
    (hY : ∀ (id : Nat) (ops : Array Oper) (K : CK) (Q : Exit → Act → World → Prop) (T : TT) (O : OO) (n : Nat) (a : Act) (w : World),(∀ o ∈ ops.toList,∀ t,o.dst = some t → t < N) → (∀ T O n a w,K T O n → Rel E N T O n a w → Q .normal a w) → Y ops.toList K T O n → Rel E N T O n a w → (Code.region id ops false).wp P Q a w) :
    ∀ (c : Code) {Q : Exit → Act → World → Prop} {K : CK} {X : Nat → CK} {R : CK} {T : TT} {O : OO} {n : Nat} {a : Act} {w : World},Cont3 E N Q K X R → dstOK tb N c = true →
    vcD P tb E.n0 Y c K X R T O n → Rel E N T O n a w → c.wp P Q a w:=by
  intro c
  induction c with
  | skip => intro Q K X R T O n a w hc _ h hr; exact wp_skip (hc.norm _ _ _ _ _ h hr)
  | label l => intro Q K X R T O n a w hc _ h hr; exact wp_label (hc.norm _ _ _ _ _ h hr)
  | region id ops draw =>
    intro Q K X R T O n a w hc hd h hr
    cases draw with
    | true => exact h.elim
    | false =>
      simp only [dstOK,Bool.and_eq_true,List.all_eq_true] at hd
      obtain ⟨hd1,hd2⟩:=hd
      have hd : ∀ o ∈ ops.toList,∀ t,o.dst = some t → t < N:=fun o ho t e => by
        have:=hd1 o ho
        rw [e] at this
        simpa using this
      simp only [vcD] at h
      cases hq : lk tb (200000 + id) with
      | none =>
        rw [hq] at h
        exact wp_region (vcOps_sound hE hd h hr fun T O n a w => hc.norm T O n a w)
      | some q =>
        rw [hq] at h
        exact hY id ops K Q T O n a w hd (fun T O n a w hk hr => hc.norm T O n a w hk hr) h hr
  | seq x y ihx ihy =>
    intro Q K X R T O n a w hc hd h hr
    simp only [dstOK,Bool.and_eq_true] at hd
    exact wp_seq (ihx ⟨fun T O n a w hk hr => ihy hc hd.2 hk hr,fun i T O n a w => hc.exit i T O n a w,fun T O n a w => hc.ret T O n a w⟩ hd.1 h hr)
  | cond c x y ihx ihy =>
    intro Q K X R T O n a w hc hd h hr
    simp only [dstOK,Bool.and_eq_true] at hd
    obtain ⟨M,β,hr⟩:=hr
    obtain ⟨v,h,hv⟩:=evC_spec hr h
    obtain ⟨b,rfl,h1,h2⟩:=boolC_spec h
    exact wp_cond_split hv.bool_inv (fun e => ihx hc hd.1 (h1 e) ⟨M,β,hr⟩) fun e => ihy hc hd.2 (h2 e) ⟨M,β,hr⟩
  | block id c ih =>
    intro Q K X R T O n a w hc hd h hr
    refine wp_block (ih ⟨fun T O n a w => hc.norm T O n a w,fun i T O n a w hx hr => ?_,fun T O n a w => hc.ret T O n a w⟩ hd h hr)
    simp only [Exit.inBlock]
    split at hx
    · rename_i e; rw [if_pos e]; exact hc.norm _ _ _ _ _ hx hr
    · rename_i e; rw [if_neg e]; exact hc.exit _ _ _ _ _ _ hx hr
  | loop c ih =>
    intro Q K X R T O n a w hc hd h hr
    obtain ⟨ι,I,J,m,μ,i0,h0,hi⟩:=h
    let Inv : Act → World → Prop:=fun a w => ∃ i,Rel E N (I i) (J i) (m i) a w
    let Lv : Act → World → Nat → Prop:=fun a w z => ∃ i,μ i = z ∧ Rel E N (I i) (J i) (m i) a w
    have least : ∀ a w,Inv a w → ∃ z,Lv a w z ∧ ∀ z',Lv a w z' → z ≤ z':=fun a w ⟨i,hi⟩ => by
      have : ∀ z,(∃ z',z' ≤ z ∧ Lv a w z') → ∃ z,Lv a w z ∧ ∀ z',Lv a w z' → z ≤ z':=by
        intro z
        induction z using Nat.strongRecOn with
        | _ z ih =>
          rintro ⟨z',hz,hl⟩
          by_cases hm : ∀ z'',Lv a w z'' → z' ≤ z''
          · exact ⟨z',hl,hm⟩
          · simp only [Classical.not_forall] at hm
            obtain ⟨z'',hl'',hlt⟩:=hm
            exact ih z'' (by omega) ⟨z'',Nat.le_refl _,hl''⟩
      exact this (μ i) ⟨μ i,Nat.le_refl _,i,rfl,hi⟩
    have hlv : ∀ a w,∃ z,Inv a w → Lv a w z ∧ ∀ z',Lv a w z' → z ≤ z':=fun a w => by
      by_cases h : Inv a w
      · obtain ⟨z,hz⟩:=least a w h; exact ⟨z,fun _ => hz⟩
      · exact ⟨0,fun h' => absurd h' h⟩
    let ν : Act → World → Nat:=fun a w => Classical.choose (hlv a w)
    have hν : ∀ a w,Inv a w → Lv a w (ν a w) ∧ ∀ z',Lv a w z' → ν a w ≤ z':=fun a w => Classical.choose_spec (hlv a w)
    obtain ⟨M,β,hr⟩:=hr
    obtain ⟨M1,β1,hr1⟩:=hr.ren hE h0
    refine wp_loop Inv ν ⟨i0,M1,β1,hr1⟩ fun a w hinv => ?_
    obtain ⟨⟨i,hz,hri⟩,_⟩:=hν a w hinv
    refine ih ⟨fun T O n a' w' ⟨i',hlt,hs⟩ hr' => ?_,fun i T O n a w => hc.exit i T O n a w,fun T O n a w => hc.ret T O n a w⟩ hd (hi i) hri
    obtain ⟨M',β',hr'⟩:=hr'
    obtain ⟨M2,β2,hr2⟩:=hr'.ren hE hs
    have hinv' : Inv a' w':=⟨i',M2,β2,hr2⟩
    exact ⟨hinv',Nat.lt_of_le_of_lt ((hν a' w' hinv').2 _ ⟨i',rfl,M2,β2,hr2⟩) (by omega)⟩
  | exit id => intro Q K X R T O n a w hc _ h hr; exact wp_exit (hc.exit _ _ _ _ _ _ h hr)
  | ret => intro Q K X R T O n a w hc _ h hr; exact wp_ret (hc.ret _ _ _ _ _ h hr)
  | _ => intro Q K X R T O n a w hc _ h hr; exact h.elim
end
end Go.Sy
namespace Go.Sy
open Go
set_option linter.unusedSimpArgs false
set_option linter.unusedVariables false
section
variable {E : Env} {N : Nat} {M M' M1 : Pool} {β β' β1 β2 : Bmap} {T T' : TT} {O O' O1 O2 : OO} {n m : Nat} {a : Act} {w w' : World} {P : Program} {o : Oper}
theorem VRs.len {vs : List AV} {xs : List Value} (h : VRs M β vs xs) : xs.length = vs.length:=by
  induction vs generalizing xs with
  | nil => cases h; rfl
  | cons v vs ih => cases h with | cons h1 h2 => simp [ih h2]
theorem VRs.split {vs us : List AV} {xs zs : List Value} (h : VRs M β (vs ++ us) (xs ++ zs)) (hl : zs.length = us.length) : VRs M β vs xs ∧ VRs M β us zs:=by
  have hx : xs.length = vs.length:=by have:=h.len; simp only [List.length_append] at this; omega
  clear hl
  induction vs generalizing xs with
  | nil =>
    cases xs with
    | nil => exact ⟨.nil,h⟩
    | cons x xs => cases hx
  | cons v vs ih =>
    cases xs with
    | nil => cases hx
    | cons x xs => cases h with | cons h1 h2 => exact ⟨.cons h1 (ih h2 (by simpa using hx)).1,(ih h2 (by simpa using hx)).2⟩
def isRefs (k0 : Nat) : List AV → Bool
  | [] => true
  | .ref o [] :: l => Nat.ble (o + 1) k0 && isRefs k0 l
  | _ :: _ => false
theorem refs_vr {k0 : Nat} : ∀ {refs : List AV} {xp : List Value},isRefs k0 refs = true → VRs M β refs xp → (∀ o,o < k0 → β' o = β o) → VRs M' β' refs xp
  | [],_,_,h,_ => by cases h; exact .nil
  | r :: l,_,hr,h,hb => by
    cases h with
    | cons h1 h2 =>
      cases r with
      | ref o p =>
        cases p with
        | nil =>
          simp only [isRefs,Bool.and_eq_true] at hr
          have ho:=Nat.le_of_ble_eq_true hr.1
          refine .cons ?_ (refs_vr hr.2 h2 hb)
          cases h1 with
          | one hm h =>
            cases h with
            | ref h => exact .one rfl (.ref (by rw [hb o (by omega)]; exact h))
          | agg hm h => cases hm
        | cons _ _ => cases hr
      | _ => cases hr
theorem own_cells (hst : St E M β O w) (hm : (O.all fun p => match p.2 with | .map _ => false | .gm _ _ _ => false | _ => true) = true) : ∀ b,ownOf O β b → ∃ cs e fz,w.heap[b]? = some (.cells cs e fz):=by
  rintro b ⟨o,ob,κ,hl,hb,hk⟩
  obtain ⟨b',κ',hb',hor⟩:=hst.objs o ob hl
  rw [hb] at hb'
  cases hb'
  have hp:=List.all_eq_true.1 hm _ (lk_mem hl)
  cases ob with
  | var c => obtain ⟨_,_,cs,e,fz,h3,_⟩:=hor; exact ⟨_,_,_,h3⟩
  | row c =>
    obtain ⟨_,_,⟨h3,_⟩ | ⟨_,cc,sp,e,fz,h3,_⟩⟩:=hor
    · exact absurd h3 hk
    · exact ⟨_,_,_,h3⟩
  | map ks => cases hp
  | gm f ks vs => cases hp
def ItRun (P : Program) (gf : FuncId) (l : Nat) (rec : Loop) (xp : List Value) : Runner:=fun xs w Q => ∀ ys,xs = ys ++ xp → w.heap[l]? = some (.loop rec) →
  Calls P gf ys.toArray w fun e w' => Q e w' ∧ ∀ (b : Nat) (x : Obj),w.heap[b]? = some x → (∀ cs e fz,x ≠ .cells cs e fz) → w'.heap[b]? = some x
theorem ItRun.mono {gf : FuncId} {l : Nat} {rec : Loop} {xp : List Value} (xs : List Value) (w : World) (Q Q' : Ending → World → Prop) (h : ∀ e w',Q e w' → Q' e w') (hy : ItRun P gf l rec xp xs w Q) : ItRun P gf l rec xp xs w Q':=fun ys e hl =>
  Calls.mono (hy ys e hl) fun e w' h' => ⟨h e w' h'.1,h'.2⟩
theorem rel_entry {args : List AV} {xs : List Value} {fn : Func} {k k0 : Nat} (hids : ∀ o,lk O o = none → β o = none) (hst : St ⟨w,ownOf O β,M,nob,0,fun _ => True⟩ M β O w) (hxs : VRs M β args xs) (hN : args.length ≤ fn.ntmps) (hk : ∀ p ∈ O,p.1 < k) (hk0 : k0 ≤ k) :
    RelAt ⟨w,ownOf O β,M,β,k0,fun _ => True⟩ fn.ntmps M β (numT 0 args) O k { tmps:=xs.toArray ++ Array.replicate (fn.ntmps - xs.toArray.size) undef,defers:=[] } w:=by
  have hxl:=hxs.len
  refine ⟨⟨hst.pool,hst.sub,hst.only,hst.objs,hst.mine,hst.inj,hst.size,hst.keep,hst.os,hst.tape,hst.output⟩,fun o ho _ => hids o ?_,fun t v hl => ?_,rfl,?_,fun _ _ => rfl,hk0⟩
  · rw [lk_none]
    intro hm
    obtain ⟨p,hp,rfl⟩:=List.mem_map.1 hm
    have:=hk p hp
    omega
  · obtain ⟨x,hx,hv⟩:=numT_spec [] hxs t v hl
    refine ⟨x,?_,hv⟩
    have ht : t < xs.length:=by
      have:=(List.getElem?_eq_some_iff.1 hx).1
      simpa using this
    simp only [List.nil_append] at hx
    rw [Array.getElem?_append_left (by simpa using ht)]
    simpa using hx
  · simp; omega
theorem it_of_vc (tb : List (Nat × Plan)) {gf : FuncId} {fn : Func} {c : Code} {args refs : List AV} {r : AV} {l : Nat} {rec : Loop} {xp : List Value} (k0 k na : Nat) (rs : List ResultVar) (hf : P.funcs[gf]? = some fn) (hb : fn.body = some c) (hres : fn.results.toList = rs) (hna : args.length = na) (hN : Nat.ble na fn.ntmps = true) (hd : dstOK tb fn.ntmps c = true) (hk : ∀ p ∈ O,p.1 < k) (hk0 : Nat.ble k0 k = true)
    (hv : (O.all fun p => match p.2 with | .var _ => Nat.ble (p.1 + 1) k0 | _ => true) = true) (hm : (O.all fun p => match p.2 with | .map _ => false | .gm _ _ _ => false | _ => true) = true) (hrefs : isRefs k0 refs = true) (hxp : xp.length = refs.length)
    (h : ev (numT 0 args) fun T => ev O fun O1 => vcD P tb k0 (vcY P (YRun P l rec xp) (.fn (.yield l) []) refs) c (EndN P rs O r O') (fun _ _ _ _ => False) (EndN P rs O r O') T O1 k) : RunC (ItRun P gf l rec xp) (args ++ refs) O r O':=by
  intro w M β xs hids hst hxs ys e hl
  subst e
  obtain ⟨h1,h2⟩:=VRs.split hxs hxp
  have hvar : ∀ o c,lk O o = some (.var c) → o < k0:=fun o c h => Nat.le_of_ble_eq_true (List.all_eq_true.1 hv _ (lk_mem h))
  have hown:=own_cells hst hm
  refine calls_of_wp hf hb ?_
  have fin : ∀ T O1 n a w',EndN P rs O r O' T O1 n → Rel ⟨w,ownOf O β,M,β,k0,fun _ => True⟩ fn.ntmps T O1 n a w' → a.defers = [] ∧ ∃ v,(results fn a.tmps).run P w' = .ok v w' ∧ ((∃ x M' β',Ending.returned v = .returned x ∧ VR M' β' r x ∧ St ⟨w,ownOf O β,M,nob,0,fun _ => True⟩ M' β' O' w' ∧ (∀ o c,lk O o = some (.var c) → β' o = β o)) ∧
      ∀ (b : Nat) (x : Obj),w.heap[b]? = some x → (∀ cs e fz,x ≠ .cells cs e fz) → w'.heap[b]? = some x):=by
    intro T O1 n a w' he hr
    obtain ⟨g1,v,g2,g3⟩:=ends_run hvar T O1 n a w' (by rw [hres]; exact he) hr
    refine ⟨g1,v,g2,g3,fun b x hb hc => ?_⟩
    obtain ⟨M',β',hr⟩:=hr
    exact hr.other hown hb hc
  exact vcD_sound (E:=⟨w,ownOf O β,M,β,k0,fun _ => True⟩) (N:=fn.ntmps) (fun _ => trivial) tb (fun id ops K Q T O n a w hd hK hy hr => wpIn_wide.1 (wpIn_region (n:=1) (by
      have:=vcY_sound (fun _ => trivial) hl hown (fun M' β' hb => refs_vr hrefs h2 hb) hd hK ops.toList 0 T O n a w rfl hy hr
      rw [Array.length_toList,← List.range_eq_range'] at this
      exact this))) c ⟨fun T O1 n a w' he hr => fin T O1 n a w' he hr,fun _ _ _ _ _ _ h _ => h.elim,fun T O1 n a w' he hr => fin T O1 n a w' he hr⟩ hd h ⟨M,β,rel_entry hids hst h1 (by rw [hna]; exact Nat.le_of_ble_eq_true hN) hk (Nat.le_of_ble_eq_true hk0)⟩
theorem round_of_vc (tb : List (Nat × Plan)) {fn : Func} {as0 bo : Code} {refs : List AV} {l : Nat} {rec : Loop} {xp : List Value} {A1 A2 : AV} {tr : TT} (k0 k p1 p2 : Nat) (has : rec.assign = as0) (hbo : rec.body = bo) (hps : rec.params = #[p1,p2]) (hst0 : rec.state = .ready) (hpe : rec.pending = none) (hsz : rec.tmps.size = fn.ntmps)
    (hp : p1 ≠ p2) (hp1 : p1 < fn.ntmps) (hp2 : p2 < fn.ntmps) (hdr : dstOK tb fn.ntmps as0 = true) (hdb : dstOK tb fn.ntmps bo = true) (hpl1 : plainC tb as0 = true) (hpl2 : plainC tb bo = true) (hk : ∀ p ∈ O,p.1 < k) (hk0 : Nat.ble k0 k = true)
    (hv : (O.all fun p => match p.2 with | .var _ => Nat.ble (p.1 + 1) k0 | _ => true) = true) (hm : (O.all fun p => match p.2 with | .map _ => false | .gm _ _ _ => false | _ => true) = true) (hxp : xp.length = refs.length)
    (htr : ∀ (M : Pool) (β : Bmap),VRs M β refs xp → ∀ t v,lk tr t = some v → t ≠ p1 ∧ t ≠ p2 ∧ ∃ x,rec.tmps[t]? = some x ∧ VR M β v x)
    (h : vcC P tb k0 as0 (vcC P tb k0 bo (EndC P [] O (.tup []) O') (fun _ _ _ _ => False) (fun _ _ _ => False)) (fun _ _ _ _ => False) (fun _ _ _ => False) ((p1,A1) :: (p2,A2) :: tr) O k) : RunC (YRun P l rec xp) ([A1,A2] ++ refs) O (.bool true) O':=by
  intro w M β xs hids hst hxs ys e hl
  subst e
  obtain ⟨h1,h2⟩:=VRs.split hxs hxp
  have hvar : ∀ o c,lk O o = some (.var c) → o < k0:=fun o c h => Nat.le_of_ble_eq_true (List.all_eq_true.1 hv _ (lk_mem h))
  have hown:=own_cells hst hm
  cases h1 with
  | @cons _ _ _ x1 _ hv1 h1 =>
    cases h1 with
    | @cons _ _ _ x2 _ hv2 h1 =>
      cases h1
      refine ⟨rec.fn,_,rec.assign,rec.body,run_yield hl (by rw [hps]; rfl),roundIn_of_wpIn trivial ?_⟩
      rw [has,hbo,hps]
      have hnl : ∀ (cs : Array Value) (e : TypeId) (fz : Nat × Nat),Obj.loop rec ≠ .cells cs e fz:=fun _ _ _ e => by cases e
      have hnm : ∀ es cl,Obj.loop rec ≠ .map es cl:=fun _ _ e => by cases e
      have hlt:=(Array.getElem?_eq_some_iff.1 hl).1
      have hnown : ¬ ownOf O β l:=fun ho => by obtain ⟨cs,e,fz,h3⟩:=hown l ho; rw [hl] at h3; cases h3
      -- the round's state at its beginning
      have hr0 : RelAt ⟨w,ownOf O β,M,β,k0,fun _ => True⟩ fn.ntmps M β ((p1,A1) :: (p2,A2) :: tr) O k { tmps:=((#[p1,p2] : Array Nat).zip [x1,x2].toArray).foldl (fun t (p,v) => t.setIfInBounds p v) rec.tmps,defers:=[] } w:=by
        have etm : ((#[p1,p2] : Array Nat).zip [x1,x2].toArray).foldl (fun t (p,v) => t.setIfInBounds p v) rec.tmps = (rec.tmps.setIfInBounds p1 x1).setIfInBounds p2 x2:=by simp [← Array.foldl_toList,Array.toList_zip]
        rw [etm]
        refine ⟨⟨hst.pool,hst.sub,hst.only,hst.objs,hst.mine,hst.inj,hst.size,hst.keep,hst.os,hst.tape,hst.output⟩,fun o ho _ => hids o ?_,fun t v hl => ?_,rfl,?_,fun _ _ => rfl,Nat.le_of_ble_eq_true hk0⟩
        · rw [lk_none]
          intro hm
          obtain ⟨p,hp,rfl⟩:=List.mem_map.1 hm
          have:=hk p hp
          omega
        · simp only [lk] at hl
          split at hl
          · rename_i e; subst e; cases hl
            refine ⟨x1,?_,hv1⟩
            rw [Array.getElem?_setIfInBounds_ne (Ne.symm hp),Array.getElem?_setIfInBounds_self_of_lt (by rw [hsz]; exact hp1)]
          · split at hl
            · rename_i e; subst e; cases hl
              refine ⟨x2,?_,hv2⟩
              rw [Array.getElem?_setIfInBounds_self_of_lt (by rw [Array.size_setIfInBounds,hsz]; exact hp2)]
            · obtain ⟨g1,g2,x,g3,g4⟩:=htr M β h2 t v hl
              exact ⟨x,by rw [Array.getElem?_setIfInBounds_ne (Ne.symm g2),Array.getElem?_setIfInBounds_ne (Ne.symm g1)]; exact g3,g4⟩
        · rw [Array.size_setIfInBounds,Array.size_setIfInBounds,hsz]
      refine vcC_in (ro:=some l) (E:=⟨w,ownOf O β,M,β,k0,fun _ => True⟩) (N:=fn.ntmps) (fun _ => trivial) tb as0 ⟨fun T O1 n a w1 hk1 hr1 => ?_,fun _ _ _ _ _ _ h _ => h.elim,fun _ _ _ _ _ h _ => h.elim⟩ hdr hpl1 h ⟨M,β,hr0⟩
      obtain ⟨M1,β1,hr1⟩:=hr1
      have hl1 : w1.heap[l]? = some (.loop rec):=hr1.other hown hl hnl
      have hlt1:=(Array.getElem?_eq_some_iff.1 hl1).1
      refine ⟨_,run_beginRound hl1 hst0,?_⟩
      have hr2:=hr1.swap (w':=w1.putObj l (.loop { rec with state:=.busy })) (W0:=w.putObj l (.loop { rec with state:=.busy })) hl1 hnl hnm World.putObj_size (fun b hb => World.putObj_heap_other hb) hr1.st.os hr1.st.tape hr1.st.output World.putObj_size
        (fun b hlt hn => by
          by_cases e : b = l
          · subst e; rw [World.putObj_heap_same hlt1,World.putObj_heap_same hlt]
          · rw [World.putObj_heap_other e,World.putObj_heap_other e]; exact hr1.st.keep b hlt hn)
      refine vcC_in (ro:=some l) (E:=⟨w.putObj l (.loop { rec with state:=.busy }),ownOf O β,M,β,k0,fun _ => True⟩) (N:=fn.ntmps) (fun _ => trivial) tb bo ⟨fun T O1 n a w3 hk3 hr3 => ?_,fun _ _ _ _ _ _ h _ => h.elim,fun _ _ _ _ _ h _ => h.elim⟩ hdb hpl2 hk1 ⟨M1,β1,hr2⟩
      obtain ⟨M3,β3,hr3⟩:=hr3
      have hl3 : w3.heap[l]? = some (.loop { rec with state:=.busy }):=hr3.other (fun b ho => by
        obtain ⟨cs,e,fz,h3⟩:=hown b ho
        have hbl : b ≠ l:=fun h => hnown (by rw [← h]; exact ho)
        exact ⟨cs,e,fz,(World.putObj_heap_other hbl).trans h3⟩) (World.putObj_heap_same hlt) (fun _ _ _ e => by cases e)
      have hlt3:=(Array.getElem?_eq_some_iff.1 hl3).1
      have erec : ({ ({ rec with state:=.busy } : Loop) with state:=if (none : Option Code).isNone then LoopState.ready else .done,pending:=none } : Loop) = rec:=by
        cases rec; simp_all
      have hend:=run_endRound (P:=P) none hl3
      rw [erec] at hend
      refine ⟨.bool true,_,hend,?_⟩
      have hr4:=hr3.swap (w':=w3.putObj l (.loop rec)) (W0:=w) hl3 (fun _ _ _ e => by cases e) (fun _ _ e => by cases e) World.putObj_size (fun b hb => World.putObj_heap_other hb) hr3.st.os hr3.st.tape hr3.st.output World.putObj_size.symm
        (fun b hlt' hn => by
          by_cases e : b = l
          · subst e; rw [World.putObj_heap_same hlt3]; exact hl.symm
          · rw [World.putObj_heap_other e]
            have:=hr3.st.keep b hlt' hn
            rw [this]
            exact World.putObj_heap_other e)
      obtain ⟨_,v,_,x,M5,β5,_,_,g1,g2⟩:=ends_run (fn:={ fn with results:=#[] }) hvar T O1 n a _ hk3 ⟨M3,β3,hr4⟩
      exact ⟨_,M5,β5,rfl,.one rfl (.bool true),g1,g2⟩
end
end Go.Sy
namespace Go.Sy
open Go
set_option linter.unusedSimpArgs false
set_option linter.unusedVariables false
section
variable {E : Env} {N : Nat} {M M' M1 : Pool} {β β' β1 β2 : Bmap} {T T' : TT} {O O' O1 O2 : OO} {n m : Nat} {a : Act} {w w' : World} {P : Program} {o : Oper}
theorem tr_vr {tm : Array Value} {tr : TT} : VRs M β (tr.map (·.2)) (tr.map fun p => tm.getD p.1 undef) → (∀ p ∈ tr,p.1 < tm.size) → ∀ t v,lk tr t = some v → ∃ x,tm[t]? = some x ∧ VR M β v x:=by
  induction tr with
  | nil => intro _ _ t v h; cases h
  | cons p tr ih =>
    obtain ⟨t0,v0⟩:=p
    intro h hlt t v hl
    cases h with
    | cons h1 h2 =>
      simp only [lk] at hl
      split at hl
      · rename_i e; subst e; cases hl
        have:=hlt (t0,v0) (List.mem_cons_self ..)
        exact ⟨_,by rw [Array.getElem?_eq_getElem this],by simpa [Array.getD,this] using h1⟩
      · exact ih h2 (fun p hp => hlt p (List.mem_cons_of_mem _ hp)) t v hl
theorem RelAt.since (h : RelAt E N M β T O n a w) {D : Nat} {x : Obj} (hD : w.heap[D]? = some x) (hc : ∀ cs e fz,x ≠ .cells cs e fz) (hm : ∀ es cl,x ≠ .map es cl) :
    RelAt ⟨w,fun b => (E.own b ∨ E.w0.heap.size ≤ b) ∧ b ≠ D,E.M0,E.B0,E.n0,E.ok⟩ N M β T O n a w:=by
  have st:=h.st
  have noM : ∀ i v,M D i ≠ some v:=fun i v hv => by
    have:=st.pool D i v hv
    unfold World.cell? at this
    simp only [hD] at this
    cases x <;> simp_all
  refine ⟨⟨st.pool,st.sub,fun b i v hv => (st.only b i v hv).imp id fun ho => .inl ⟨ho,fun e => noM i v (e ▸ hv)⟩,st.objs,fun o ob b κ h1 h2 h3 => ⟨(st.mine o ob b κ h1 h2 h3).1,.inl ⟨(st.mine o ob b κ h1 h2 h3).2,fun e => ?_⟩⟩,st.inj,Nat.le_refl _,fun _ _ _ => rfl,rfl,rfl,rfl⟩,h.ids,h.tmps,h.nd,h.sz,h.base,h.le0⟩
  subst e
  obtain ⟨b',κ',g1,g2⟩:=st.objs o ob h1
  rw [h2] at g1
  cases g1
  cases ob with
  | var c => obtain ⟨_,_,cs,e,fz,h4,_⟩:=g2; rw [hD] at h4; exact hc _ _ _ (Option.some.inj h4)
  | row c =>
    obtain ⟨_,_,⟨h4,_⟩ | ⟨_,cc,sp,e,fz,h4,_⟩⟩:=g2
    · exact h3 h4
    · rw [hD] at h4; exact hc _ _ _ (Option.some.inj h4)
  | map ks => obtain ⟨_,es,cl,h4,_⟩:=g2; rw [hD] at h4; exact hm _ _ (Option.some.inj h4)
  | gm f ks vs => obtain ⟨_,es,cl,h4,_⟩:=g2; rw [hD] at h4; exact hm _ _ (Option.some.inj h4)
theorem RelAt.back {D : Nat} {w1 : World} (h1 : St E M1 β1 O1 w1) (h : RelAt ⟨w1,fun b => (E.own b ∨ E.w0.heap.size ≤ b) ∧ b ≠ D,E.M0,E.B0,E.n0,E.ok⟩ N M β T O n a w) : RelAt E N M β T O n a w:=by
  have st:=h.st
  have hs:=h1.size
  refine ⟨⟨st.pool,st.sub,fun b i v hv => (st.only b i v hv).imp id fun ho => ho.elim (fun h => h.1) (fun h => .inr (Nat.le_trans hs h)),st.objs,fun o ob b κ g1 g2 g3 => ⟨(st.mine o ob b κ g1 g2 g3).1,(st.mine o ob b κ g1 g2 g3).2.elim (fun h => h.1) (fun h => .inr (Nat.le_trans hs h))⟩,st.inj,Nat.le_trans hs st.size,fun b hlt hn => ?_,st.os.trans h1.os,st.tape.trans h1.tape,st.output.trans h1.output⟩,h.ids,h.tmps,h.nd,h.sz,h.base,h.le0⟩
  rw [st.keep b (Nat.lt_of_lt_of_le hlt hs) (fun ho => ho.1.elim hn (fun h => by omega))]
  exact h1.keep b hlt hn
theorem tr_pts {I : TT} {N : Nat} (hr : RelAt E N M β I O n a w) : ∀ {tr : TT},(∀ p ∈ tr,lk I p.1 = some p.2) → VRs M β (tr.map (·.2)) (tr.map fun p => a.tmps.getD p.1 undef)
  | [],_ => .nil
  | p :: tr,h => by
    obtain ⟨x,hx,hv⟩:=hr.tmps _ _ (h p (List.mem_cons_self ..))
    refine .cons ?_ (tr_pts hr fun q hq => h q (List.mem_cons_of_mem _ hq))
    have hlt:=(Array.getElem?_eq_some_iff.1 hx).1
    rw [Array.getElem?_eq_getElem hlt] at hx
    cases hx
    simpa [Array.getD,hlt] using hv
theorem fn_range (hm : P.follows .mixedOrders = true) (tb : List (Nat × Plan)) {f gf : FuncId} {fn : Func} {args caps : List AV} {r : AV} {r0 r1 cd r3 as0 bo : Code} {bid i9 : Nat} {ops9 : Array Oper} {I1 : TT} {J1 : OO} {n1 : Nat} (tr : TT) (na gt p1 p2 : Nat) (rs : List ResultVar)
    (hf : P.funcs[f]? = some fn) (hb : fn.body = some (.seq r0 (.seq (.seq r1 cd) (.seq (.seq r3 (.block bid (.rangeFunc (.tmp gt) #[p1,p2] as0 bo))) (.seq (.region i9 ops9 false) .ret))))) (hres : fn.results.toList = rs) (hnm : (fn.name == "runtime.NumGoroutine") = false)
    (hna : args.length = na) (hN : Nat.ble na fn.ntmps = true) (hd0 : dstOK tb fn.ntmps r0 = true) (hd1 : dstOK tb fn.ntmps (.seq r1 cd) = true) (hd3 : dstOK tb fn.ntmps r3 = true) (hd9 : dstOK tb fn.ntmps (.region i9 ops9 false) = true) (hq9 : ops9.toList.all quiet = true)
    (heg : ∀ (args : Array Value) (w : World),(callFunc gf args).run P w = .ok (.enter gf args) w)
    (hpre : ev (numT 0 args) fun T => vcC P tb 0 r0 (vcC P tb 0 (.seq r1 cd) (vcC P tb 0 r3 (fun T O n => Sub 0 T O I1 J1 n1) (fun _ _ _ _ => False) (End0 P rs r)) (fun _ _ _ _ => False) (End0 P rs r)) (fun _ _ _ _ => False) (End0 P rs r) T [] 0)
    (hcl : lk I1 gt = some (.fn (.func gf) caps)) (htr : (tr.all fun p => Nat.ble (p.1 + 1) fn.ntmps && !Nat.beq p.1 p1 && !Nat.beq p.1 p2) = true) (htrI : ∀ p ∈ tr,lk I1 p.1 = some p.2)
    (hit : ∀ (l : Nat) (rec : Loop) (xp : List Value),rec.assign = as0 → rec.body = bo → rec.params = #[p1,p2] → rec.state = .ready → rec.pending = none → rec.tmps.size = fn.ntmps → xp.length = (tr.map (·.2)).length →
      (∀ (M : Pool) (β : Bmap),VRs M β (tr.map (·.2)) xp → ∀ t v,lk tr t = some v → t ≠ p1 ∧ t ≠ p2 ∧ ∃ x,rec.tmps[t]? = some x ∧ VR M β v x) →
      RunP (ItRun P gf l rec xp) (.fn (.yield l) [] :: (caps ++ tr.map (·.2))) J1 n1 fun _ O' n' => vcOps P ops9.toList ops9.toList (End0 P rs r) I1 O' n') : FnC P f args [] r []:=by
  refine ⟨⟨fn,hf,hnm,by simp [hb]⟩,fun w M β xs hids hst hxs => callsIn_wide.1 (callsIn_of_wp_marks (F:=Fence.wide) (n:=1) hf hb trivial (wpIn_wide.2 ?_))⟩
  have fin : ∀ T O1 n a w',End0 P rs r T O1 n → Rel ⟨w,ownOf [] β,M,β,0,fun _ => True⟩ fn.ntmps T O1 n a w' → a.defers = [] ∧ ∃ v,(results fn a.tmps).run P w' = .ok v w' ∧ ∃ x M' β',Ending.returned v = .returned x ∧ VR M' β' r x ∧ St ⟨w,ownOf [] β,M,nob,0,fun _ => True⟩ M' β' [] w' ∧ (∀ o c,lk ([] : OO) o = some (.var c) → β' o = β o):=fun T O1 n a w' he hr =>
    ends_run (fun o c h => by cases h) T O1 n a w' (by rw [hres]; exact End0_EndC T O1 n he) hr
  have hret : ∀ T O1 n a w',End0 P rs r T O1 n → Rel ⟨w,ownOf [] β,M,β,0,fun _ => True⟩ fn.ntmps T O1 n a w' → bodyPostM Fence.wide 1 P fn (fun e w' => ∃ x M' β',e = .returned x ∧ VR M' β' r x ∧ St ⟨w,ownOf [] β,M,nob,0,fun _ => True⟩ M' β' [] w' ∧ (∀ o c,lk ([] : OO) o = some (.var c) → β' o = β o)) .ret a w':=fun T O1 n a w' he hr => by
    obtain ⟨g1,v,g2,g3⟩:=fin T O1 n a w' he hr
    show LeavesInM _ _ _ _ _ _ a.defers _ _
    rw [g1]
    exact ⟨v,g2,g3⟩
  have hE : ∀ o,(⟨w,ownOf [] β,M,β,0,fun _ => True⟩ : Env).ok o:=fun _ => trivial
  have hr0:=rel_entry (fn:=fn) (k:=0) (k0:=0) hids hst hxs (by rw [hna]; exact Nat.le_of_ble_eq_true hN) (fun p h => by cases h) (Nat.le_refl _)
  refine wp_seq (vcC_sound hm hE tb (N:=fn.ntmps) r0 ⟨fun Ta Oa na aa wa k1 g1 => ?_,fun _ _ _ _ _ _ h _ => h.elim,hret⟩ hd0 hpre ⟨M,β,hr0⟩)
  refine wp_seq (vcC_sound hm hE tb (N:=fn.ntmps) _ ⟨fun Tb Ob nb ab wb k2 g2 => ?_,fun _ _ _ _ _ _ h _ => h.elim,hret⟩ hd1 k1 g1)
  refine wp_seq (wp_seq (vcC_sound hm hE tb (N:=fn.ntmps) r3 ⟨fun Tc Oc nc a w1 k3 g3 => ?_,fun _ _ _ _ _ _ h _ => h.elim,hret⟩ hd3 k2 g2))
  obtain ⟨M0,β0,g3⟩:=g3
  obtain ⟨M1,β1,hr1⟩:=g3.ren hE k3
  clear g3 k3 g2 k2 g1 k1 hr0 hpre
  refine wp_block ((wpIn_wide (n:=1)).1 (wpIn_rangeFunc fun fq _ => ?_))
  obtain ⟨gx,hgx,hgv⟩:=hr1.tmps gt _ hcl
  cases hgv with
  | agg hm _ => cases hm
  | one _ hgv =>
  cases hgv with
  | @fn _ _ _ lb hcaps =>
  have heval : a.eval (.tmp gt) = .func (.func gf) #[] lb.toArray:=by simp [Act.eval,hgx]
  obtain ⟨rec,hrec⟩ : ∃ rec : Loop,rec = { state:=.ready,pending:=none,fn:=fq,tmps:=a.tmps,params:=#[p1,p2],assign:=as0,body:=bo,defers:=w1.heap.size }:=⟨_,rfl⟩
  obtain ⟨W2,hW2⟩ : ∃ W2,(w1.alloc (.deferred (some []))).alloc (.loop rec) = W2:=⟨_,rfl⟩
  have hL : W2.heap[w1.heap.size + 1]? = some (.loop rec):=by
    rw [← hW2]; have:=World.alloc_heap_new (w1.alloc (.deferred (some []))) (.loop rec); rwa [World.size_alloc] at this
  have hD : W2.heap[w1.heap.size]? = some (.deferred (some [])):=by
    rw [← hW2]
    show ((w1.alloc (.deferred (some []))).heap.push _)[w1.heap.size]? = _
    rw [Array.getElem?_push,if_neg (by rw [World.size_alloc]; omega)]
    exact World.alloc_heap_new w1 _
  have hr2 : RelAt ⟨w,ownOf [] β,M,β,0,fun _ => True⟩ fn.ntmps M1 β1 I1 J1 n1 a W2:=by rw [← hW2]; exact (hr1.laid _).laid _
  have hall : ∀ p ∈ tr,p.1 < a.tmps.size ∧ p.1 ≠ p1 ∧ p.1 ≠ p2:=fun p hp => by
    have:=List.all_eq_true.1 htr p hp
    simp only [Bool.and_eq_true,Bool.not_eq_true'] at this
    refine ⟨?_,fun e => ?_,fun e => ?_⟩
    · rw [hr1.sz]; exact Nat.le_of_ble_eq_true this.1.1
    · rw [e] at this; simp at this
    · rw [e] at this; simp at this
  have hxv:=tr_pts hr1 htrI
  have hRun:=hit (w1.heap.size + 1) rec (tr.map fun p => a.tmps.getD p.1 undef) (by rw [hrec]) (by rw [hrec]) (by rw [hrec]) (by rw [hrec]) (by rw [hrec]) (by rw [hrec]; exact hr1.sz) (by simp) (fun M β hv t v hl => by
    obtain ⟨p,hp,e⟩ : ∃ p ∈ tr,p.1 = t:=by
      have:=lk_mem hl
      exact ⟨_,this,rfl⟩
    obtain ⟨x,hx,hxv⟩:=tr_vr hv (fun p hp => (hall p hp).1) t v hl
    refine ⟨e ▸ (hall p hp).2.1,e ▸ (hall p hp).2.2,x,by rw [hrec]; exact hx,hxv⟩)
  have hcall:=run_gen (E:=⟨w,ownOf [] β,M,β,0,fun _ => True⟩) (ItRun.mono) hr2 (fun _ _ _ _ _ _ _ => trivial) (.cons (.one rfl (.fn .nil)) (hcaps.append hxv)) hRun (.func (.yield (w1.heap.size + 1)) #[] #[] :: lb) rfl hL
  refine ⟨w1.heap.size + 1,[{ target:=.collected w1.heap.size,args:=#[] }],W2,{ target:=.fn (.func gf) lb.toArray,args:=#[.func (.yield (w1.heap.size + 1)) #[] #[]] },W2,gf,#[.func (.yield (w1.heap.size + 1)) #[] #[]] ++ lb.toArray,W2,?_,?_,fun _ _ => trivial,?_,fun _ => Nat.le_refl _,callsIn_wide.2 ?_⟩
  · rw [← hW2,hrec]; exact run_enterLoop_outer _ _ _ _ _
  · simp only [resolve,heval]
    simp [go_sem]
  · simp [invoke,go_sem,heg]
  have earg : #[Value.func (.yield (w1.heap.size + 1)) #[] #[]] ++ lb.toArray = (Value.func (.yield (w1.heap.size + 1)) #[] #[] :: lb).toArray:=by simp
  rw [earg]
  refine Calls.mono hcall ?_
  rintro e w3 ⟨⟨x,r',O3,n3,M3,β3,rfl,hκ,hvr,hr3⟩,hkeep⟩
  have hL3:=hkeep _ _ hL (fun _ _ _ e => by cases e)
  have hD3:=hkeep _ _ hD (fun _ _ _ e => by cases e)
  have hend:=run_endLoop (P:=P) hL3 (by rw [hrec]; simp)
  obtain ⟨w4,hw4⟩ : ∃ w4,w3.putObj (w1.heap.size + 1) (.loop { rec with state:=.exhausted }) = w4:=⟨_,rfl⟩
  rw [hw4] at hend
  have epe : rec.pending = none:=by rw [hrec]
  rw [epe] at hend
  refine ⟨none,w4,hend,?_⟩
  have hws : w.heap.size ≤ w1.heap.size:=hr1.st.size
  have hD4 : w4.heap[w1.heap.size]? = some (.deferred (some [])):=by rw [← hw4]; exact (World.putObj_heap_other (by omega)).trans hD3
  have hr4:=hr3.swap (w':=w4) (W0:=w) hL3 (fun _ _ _ e => by cases e) (fun _ _ e => by cases e) (by rw [← hw4]; exact World.putObj_size) (fun b hb => by rw [← hw4]; exact World.putObj_heap_other hb) (by rw [← hw4]; exact hr3.st.os) (by rw [← hw4]; exact hr3.st.tape) (by rw [← hw4]; exact hr3.st.output) rfl
    (fun b hlt hn => by
      have hlt' : b < w.heap.size:=hlt
      rw [← hw4]
      exact (World.putObj_heap_other (by omega)).trans (hr3.st.keep b hlt hn))
  have hd9' : ∀ o ∈ ops9.toList,∀ t,o.dst = some t → t < fn.ntmps:=fun o ho t e => by
    simp only [dstOK,Bool.and_eq_true,List.all_eq_true] at hd9
    have:=hd9.1 o ho
    rw [e] at this
    simpa using this
  have hnd:=hr1.nd
  rw [hnd]
  show (Code.seq (.region i9 ops9 false) .ret).wp P _ _ _
  refine wp_seq ((wpIn_wide (n:=1)).1 (wpIn_region ?_))
  refine opsIn_defers (ro:=none) (k:=1) [{ target:=.collected w1.heap.size,args:=#[] }] (fun o ho => List.all_eq_true.1 hq9 o ho) _ a w4 ?_
  have hq : ∀ o ∈ ops9.toList,∀ c,o.op ≠ .defer c:=fun o ho c e => by
    have:=List.all_eq_true.1 hq9 o ho
    unfold quiet at this
    rw [e] at this
    cases this
  have:=vcOps_in (ro:=none) (k:=1) (E:=⟨w4,fun b => (ownOf [] β b ∨ w.heap.size ≤ b) ∧ b ≠ w1.heap.size,M,β,0,fun _ => True⟩) (N:=fn.ntmps) (P:=P) (ops:=ops9) (K:=End0 P rs r)
    (Q:=fun e a w' => (Exit.then (Code.ret.wp P (bodyPostM Fence.wide 1 P fn (fun e w' => ∃ x M' β',e = .returned x ∧ VR M' β' r x ∧ St ⟨w,ownOf [] β,M,nob,0,fun _ => True⟩ M' β' [] w' ∧ (∀ o c,lk ([] : OO) o = some (.var c) → β' o = β o)))) (bodyPostM Fence.wide 1 P fn (fun e w' => ∃ x M' β',e = .returned x ∧ VR M' β' r x ∧ St ⟨w,ownOf [] β,M,nob,0,fun _ => True⟩ M' β' [] w' ∧ (∀ o c,lk ([] : OO) o = some (.var c) → β' o = β o)))) e { a with defers:=[{ target:=.collected w1.heap.size,args:=#[] }] } w')
    (fun _ => trivial) hd9' hq [] (fun T9 O9 n9 a9 w9 hk9 hr9 => ?_) ops9.toList 0 I1 O3 n3 a w4 (by simp) (by simp) hκ ⟨M3,β3,hr4.since hD4 (fun _ _ _ e => by cases e) (fun _ _ e => by cases e)⟩
  · rw [Array.length_toList,List.length_nil,Nat.add_zero,← List.range_eq_range'] at this
    exact this
  · obtain ⟨M9,β9,hr9⟩:=hr9
    have hlt4:=(Array.getElem?_eq_some_iff.1 hD4).1
    have hD9 : w9.heap[w1.heap.size]? = some (.deferred (some [])):=by
      rw [hr9.st.keep _ hlt4 (fun h => h.2 rfl)]; exact hD4
    have hr9 : RelAt ⟨w,ownOf [] β,M,β,0,fun _ => True⟩ fn.ntmps M9 β9 T9 O9 n9 a9 w9:=RelAt.back (E:=⟨w,ownOf [] β,M,β,0,fun _ => True⟩) hr4.st hr9
    have hr10:=hr9.swap (w':=w9.putObj w1.heap.size (.deferred none)) (W0:=w) hD9 (fun _ _ _ e => by cases e) (fun _ _ e => by cases e) World.putObj_size (fun b hb => World.putObj_heap_other hb) hr9.st.os hr9.st.tape hr9.st.output rfl
      (fun b hlt hn => by
        have hlt' : b < w.heap.size:=hlt
        exact (World.putObj_heap_other (by omega)).trans (hr9.st.keep b hlt hn))
    obtain ⟨e1,v,e2,e3⟩:=fin T9 O9 n9 a9 _ hk9 ⟨M9,β9,hr10⟩
    show Code.ret.wp P _ _ _
    refine wp_ret ?_
    exact ⟨by simp,.inl ⟨_,_,rfl,run_takeDeferred hD9,v,e2,e3⟩⟩
end
end Go.Sy
