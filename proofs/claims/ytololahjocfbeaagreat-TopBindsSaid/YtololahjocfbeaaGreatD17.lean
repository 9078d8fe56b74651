/- Texts,joined. -/
import Derived.Test.YtololahjocfbeaaGreatD13
namespace Go.Proofs.YtololahjocfbeaaGreat
open Go Go.Sy Go.Proofs.Tryz
set_option maxRecDepth 100000
set_option maxHeartbeats 16000000
set_option linter.unusedSimpArgs false
set_option linter.unusedVariables false
attribute [go_sem] pl95
theorem list_four {c : List Int} (h : c.length = 4) : ofb c = c.getD 0 0 * 16777216 + c.getD 1 0 * 65536 + c.getD 2 0 * 256 + c.getD 3 0:=by
  match c,h with
  | [a,b,d,e],_ => simp only [ofb,List.foldl_cons,List.foldl_nil,List.getD_cons_zero,List.getD_cons_succ]; omega
theorem word_eq (A : List Int) (j t : Nat) (ht : t < 16) (hA : 64 * (j + 1) ≤ A.length) : (words 16 ((A.drop (64 * j)).take 64)).getD t 0 =
    A.getD (64 * j + 4 * t) 0 * 16777216 + A.getD (64 * j + 4 * t + 1) 0 * 65536 + A.getD (64 * j + 4 * t + 2) 0 * 256 + A.getD (64 * j + 4 * t + 3) 0:=by
  rw [words_get 16 t _ ht,list_four (by simp only [List.length_take,List.length_drop]; omega)]
  have g : ∀ k,k < 4 → (((A.drop (64 * j)).take 64).drop (4 * t) |>.take 4).getD k 0 = A.getD (64 * j + 4 * t + k) 0:=fun k hk => by
    simp only [List.getD,List.getElem?_take,if_pos hk,List.getElem?_drop,if_pos (show 4 * t + k < 64 by omega),Nat.add_assoc]
  rw [g 0 (by omega),g 1 (by omega),g 2 (by omega),g 3 (by omega),Nat.add_zero]
theorem set_step_n {ws : List Int} {k i L : Nat} (hl : ws.length = k) (hi : i < k) (hk : k ≤ L) {x : Int} (hx : ws.getD i 0 = x) : (ws.take i ++ List.replicate (L - i) 0).set i x = ws.take (i + 1) ++ List.replicate (L - (i + 1)) 0:=by
  subst hx
  have e : L - i = L - (i + 1) + 1:=by omega
  have ht : List.take (i + 1) ws = List.take i ws ++ [ws.getD i 0]:=by
    rw [List.take_add_one,List.getElem?_eq_getElem (show i < ws.length by omega)]
    simp only [Option.toList_some,List.getD,List.getElem?_eq_getElem (show i < ws.length by omega),Option.getD_some]
  rw [e,List.replicate_succ,List.set_append_right _ _ (by rw [List.length_take]; omega),List.length_take,show i - min i ws.length = 0 by omega,List.set_cons_zero,ht,List.append_assoc]
  rfl
theorem pad_mod (X : List Int) : (X ++ padN X.length).length % 64 = 0:=by
  have : (padN X.length).length = 1 + (119 - X.length % 64) % 64 + 8:=by
    unfold padN padR
    simp [be_len]
    omega
  rw [List.length_append,this]
  omega
theorem padN_mem (n : Nat) : ∀ x ∈ padN n,0 ≤ x ∧ x < 256:=padR_mem _ _
theorem out_get (S : List Int) (h : S.length = 8) {i : Nat} (hi : i < 8) : (outB S).getD (4 * i) 0 = S.getD i 0 / 16777216 % 256 ∧ (outB S).getD (4 * i + 1) 0 = S.getD i 0 / 65536 % 256 % 256 ∧ (outB S).getD (4 * i + 2) 0 = S.getD i 0 / 256 % 256 % 256 ∧ (outB S).getD (4 * i + 3) 0 = S.getD i 0 % 256 % 256:=by
  have g : ∀ k,k < 4 → (outB S).getD (4 * i + k) 0 = S.getD i 0 / 2 ^ (24 - 8 * k) % 256:=fun k hk => by
    show (bytesA S).getD (4 * i + k) 0 = _
    rw [bytesA_get S _ (by omega),show (4 * i + k) / 4 = i by omega,show (4 * i + k) % 4 = k by omega,be4_get _ hk]
  have q0 : (2 : Int) ^ (24 - 8 * 0) = 16777216:=by decide
  have q1 : (2 : Int) ^ (24 - 8 * 1) = 65536:=by decide
  have q2 : (2 : Int) ^ (24 - 8 * 2) = 256:=by decide
  have q3 : (2 : Int) ^ (24 - 8 * 3) = 1:=by decide
  refine ⟨?_,?_,?_,?_⟩
  · have:=g 0 (by omega); rw [q0] at this; exact this
  · rw [g 1 (by omega),q1,Int.emod_emod]
  · rw [g 2 (by omega),q2,Int.emod_emod]
  · rw [g 3 (by omega),q3,Int.ediv_one,Int.emod_emod]
theorem refsum_spec (X : List Int) (hX : ∀ x ∈ X,0 ≤ x ∧ x < 256) (hl : X.length ≤ 1000000) : FnC Tryz.prog 95 [.sl (.ints .u8 X.length X)] [] (.ints .u8 32 (sumD X)) []:=by
  have p2 : (2 : Int) ^ 2 = 4:=by decide
  have p6 : (2 : Int) ^ 6 = 64:=by decide
  have p7 : (2 : Int) ^ 7 = 128:=by decide
  have p10 : (2 : Int) ^ 10 = 1024:=by decide
  have p11 : (2 : Int) ^ 11 = 2048:=by decide
  have p13 : (2 : Int) ^ 13 = 8192:=by decide
  have p14 : (2 : Int) ^ 14 = 16384:=by decide
  have p15 : (2 : Int) ^ 15 = 32768:=by decide
  have p17 : (2 : Int) ^ 17 = 131072:=by decide
  have p18 : (2 : Int) ^ 18 = 262144:=by decide
  have p19 : (2 : Int) ^ 19 = 524288:=by decide
  have p21 : (2 : Int) ^ 21 = 2097152:=by decide
  have p22 : (2 : Int) ^ 22 = 4194304:=by decide
  have p25 : (2 : Int) ^ 25 = 33554432:=by decide
  have p26 : (2 : Int) ^ 26 = 67108864:=by decide
  have p30 : (2 : Int) ^ 30 = 1073741824:=by decide
  refine fn0 mix pl95 0 1 [.cell 2 25] Tryz.func95 rfl (by kernel_rfl) (by kernel_rfl) rfl (by kernel_rfl) (by kernel_rfl) (by simp) ?_
  simp -implicitDefEqProofs (disch:=omega) only [go_sem,↓reduceIte]
  refine callF 1 refkeys_spec ?_
  simp -implicitDefEqProofs (disch:=omega) only [go_sem,↓reduceIte]
  refine callF 1 (padded_spec X hl) ?_
  simp -implicitDefEqProofs (disch:=omega) only [go_sem,↓reduceIte]
  have hmod:=pad_mod X
  have hAm : ∀ x ∈ X ++ padN X.length,0 ≤ x ∧ x < 256:=fun x hx => by
    rcases List.mem_append.1 hx with hx | hx
    · exact hX x hx
    · exact padN_mem _ x hx
  have hAl : (X ++ padN X.length).length ≤ 2000000:=by
    have : (padN X.length).length = 1 + (119 - X.length % 64) % 64 + 8:=by
      unfold padN padR
      simp [be_len]
      omega
    rw [List.length_append,this]
    omega
  have hD : sumD X = outB (runB init (X ++ padN X.length) ((X ++ padN X.length).length / 64)):=rfl
  rw [hD]
  generalize X ++ padN X.length = A at *
  generalize hL : A.length = L at *
  refine loop (ι:=Nat) 4 (fun j => j ≤ L / 64) (fun j => [(2,.ref 0 []),(3,.osl 1 [] 1 0 8),(4,.osl 2 [] 1 0 64),(5,.osl 3 [] 1 0 L),(6,.int .i64 (64 * j))]) (fun j => [(0,.var (.ints .u8 32 (List.replicate 32 0))),(1,.row (.ints .u32 8 (runB init A j))),(2,.row (.ints .u32 64 kk)),(3,.row (.ints .u8 L A))]) (fun j => L / 64 - j) 0 [(0,0),(1,1),(2,2),(3,3)] [] (Nat.zero_le _) rfl ?_ ?_ ?_ (fun j hj => ?_)
  · simp -implicitDefEqProofs (disch:=omega) only [go_sem,↓reduceIte]
  · simp -implicitDefEqProofs (disch:=omega) only [go_sem,↓reduceIte,Int.mul_zero]
  · simp -implicitDefEqProofs (disch:=omega) only [go_sem,↓reduceIte,runB,init]
  simp -implicitDefEqProofs (disch:=omega) only [go_sem,↓reduceIte]
  refine brd (fun h3 => ?_) (fun h3 => ?_)
  · have hj1 : 64 * (j + 1) ≤ A.length:=by omega
    have hSl:=runB_len A init_len j
    have hSw:=runB_isW A init_isW j
    have hrun : runB init A (j + 1) = addS (runB init A j) (rounds (runB init A j) (sched ((A.drop (64 * j)).take 64) 48) 64):=rfl
    have hbl : ((A.drop (64 * j)).take 64).length = 64:=by rw [List.length_take,List.length_drop]; omega
    have hbm : ∀ x ∈ (A.drop (64 * j)).take 64,0 ≤ x ∧ x < 256:=fun x hx => hAm x (List.mem_of_mem_drop (List.mem_of_mem_take hx))
    have hwe:=fun t ht => word_eq A j t ht hj1
    generalize (A.drop (64 * j)).take 64 = blk at *
    generalize runB init A j = S at *
    simp -implicitDefEqProofs (disch:=omega) only [go_sem,↓reduceIte]
    refine loop (ι:=Nat) 5 (fun t => t ≤ 16) (fun t => [(2,.ref 0 []),(3,.osl 1 [] 1 0 8),(4,.osl 2 [] 1 0 64),(5,.osl 3 [] 1 0 L),(6,.int .i64 (64 * j)),(7,.osl 4 [] 1 0 64),(8,.int .i64 t)]) (fun t => [(0,.var (.ints .u8 32 (List.replicate 32 0))),(1,.row (.ints .u32 8 S)),(2,.row (.ints .u32 64 kk)),(3,.row (.ints .u8 L A)),(4,.row (.ints .u32 64 ((words 16 blk).take t ++ List.replicate (64 - t) 0)))]) (fun t => 16 - t) 0 [(0,0),(1,1),(2,2),(3,3),(4,4)] [] (Nat.zero_le _) rfl ?_ ?_ ?_ (fun t ht => ?_)
    · simp -implicitDefEqProofs (disch:=omega) only [go_sem,↓reduceIte]
    · simp -implicitDefEqProofs (disch:=omega) only [go_sem,↓reduceIte]
    · simp -implicitDefEqProofs (disch:=omega) only [go_sem,↓reduceIte,List.nil_append]
    simp -implicitDefEqProofs (disch:=omega) only [go_sem,↓reduceIte]
    refine brd (fun h4 => ?_) (fun h4 => ?_)
    · have i0 : (64 * (j : Int) + 4 * t).toNat = 64 * j + 4 * t:=by omega
      have i1 : (64 * (j : Int) + 4 * t + 1).toNat = 64 * j + 4 * t + 1:=by omega
      have i2 : (64 * (j : Int) + 4 * t + 2).toNat = 64 * j + 4 * t + 2:=by omega
      have i3 : (64 * (j : Int) + 4 * t + 3).toNat = 64 * j + 4 * t + 3:=by omega
      have x0:=getD_all' hAm (show 64 * j + 4 * t < A.length by omega)
      have x1:=getD_all' hAm (show 64 * j + 4 * t + 1 < A.length by omega)
      have x2:=getD_all' hAm (show 64 * j + 4 * t + 2 < A.length by omega)
      have x3:=getD_all' hAm (show 64 * j + 4 * t + 3 < A.length by omega)
      have hset:=set_step_n (L:=64) (words_len 16 blk) (show t < 16 by omega) (show 16 ≤ 64 by omega) (hwe t (by omega))
      simp -implicitDefEqProofs (disch:=omega) only [go_sem,↓reduceIte,i0,i1,i2,i3]
      refine ⟨t + 1,[(0,0),(1,1),(2,2),(3,3),(4,4)],[],[],by dsimp only; omega,by dsimp only; omega,rfl,?_,?_,?_⟩ <;> simp -implicitDefEqProofs (disch:=omega) only [go_sem,↓reduceIte,hset]
    obtain rfl : t = 16:=by omega
    have e0 : List.take 16 (words 16 blk) ++ List.replicate (64 - 16) 0 = sched blk 0 ++ List.replicate (48 - 0) 0:=by rw [List.take_of_length_le (by rw [words_len]; omega)]; rfl
    rw [e0]
    simp -implicitDefEqProofs (disch:=omega) only [go_sem,↓reduceIte]
    refine loop (ι:=Nat) 5 (fun k => k ≤ 48) (fun k => [(2,.ref 0 []),(3,.osl 1 [] 1 0 8),(4,.osl 2 [] 1 0 64),(5,.osl 3 [] 1 0 L),(6,.int .i64 (64 * j)),(7,.osl 4 [] 1 0 64),(10,.int .i64 (16 + k))]) (fun k => [(0,.var (.ints .u8 32 (List.replicate 32 0))),(1,.row (.ints .u32 8 S)),(2,.row (.ints .u32 64 kk)),(3,.row (.ints .u8 L A)),(4,.row (.ints .u32 64 (sched blk k ++ List.replicate (48 - k) 0)))]) (fun k => 48 - k) 0 [(0,0),(1,1),(2,2),(3,3),(4,4)] [] (Nat.zero_le _) rfl ?_ ?_ ?_ (fun k hk => ?_)
    · simp -implicitDefEqProofs (disch:=omega) only [go_sem,↓reduceIte]
    · simp -implicitDefEqProofs (disch:=omega) only [go_sem,↓reduceIte]
    · simp -implicitDefEqProofs (disch:=omega) only [go_sem,↓reduceIte]
    simp -implicitDefEqProofs (disch:=omega) only [go_sem,↓reduceIte]
    refine brd (fun h5 => ?_) (fun h5 => ?_)
    · have hk8 : k < 48:=by omega
      have hW:=sched_isW hbm k
      have hL:=sched_len blk k
      have i0 : (16 + (k : Int)).toNat = 16 + k:=by omega
      have i1 : (16 + (k : Int) - 15).toNat = k + 1:=by omega
      have i2 : (16 + (k : Int) - 2).toNat = k + 14:=by omega
      have i3 : (16 + (k : Int) - 7).toNat = k + 9:=by omega
      have i4 : (16 + (k : Int) - 16).toNat = k:=by omega
      have i5 : 16 + (k : Int) + 1 = 16 + (k + 1):=by omega
      have g1:=getD_left (r:=List.replicate (48 - k) 0) (show k + 1 < (sched blk k).length by omega)
      have g2:=getD_left (r:=List.replicate (48 - k) 0) (show k + 14 < (sched blk k).length by omega)
      have g3:=getD_left (r:=List.replicate (48 - k) 0) (show k + 9 < (sched blk k).length by omega)
      have g4:=getD_left (r:=List.replicate (48 - k) 0) (show k < (sched blk k).length by omega)
      have w1:=getD_all' hW (show k + 1 < (sched blk k).length by omega)
      have w2:=getD_all' hW (show k + 14 < (sched blk k).length by omega)
      have r1 : ((sched blk k).getD (k + 14) 0).tdiv 1024 = (sched blk k).getD (k + 14) 0 / 1024:=Int.tdiv_eq_ediv_of_nonneg w2.1
      have r2 : ((sched blk k).getD (k + 1) 0).tdiv 8 = (sched blk k).getD (k + 1) 0 / 8:=Int.tdiv_eq_ediv_of_nonneg w1.1
      have r3 : IntKind.u32.wrap ((sched blk k).getD (k + 14) 0 / 1024) = (sched blk k).getD (k + 14) 0 / 1024:=by have:=w2.1; have:=w2.2; exact wrap_u32 (by omega) (by omega)
      have r4 : IntKind.u32.wrap ((sched blk k).getD (k + 1) 0 / 8) = (sched blk k).getD (k + 1) 0 / 8:=by have:=w1.1; have:=w1.2; exact wrap_u32 (by omega) (by omega)
      have ss:=sched_set blk hk8 rfl
      simp only [wnext,p17,p15,p19,p13,p7,p25,p18,p14] at ss
      simp -implicitDefEqProofs (disch:=omega) only [go_sem,↓reduceIte,i0,i1,i2,i3,i4,g1,g2,g3,g4,r1,r2,r3,r4]
      refine call0 (right_spec _ 131072 32768 (by decide) (by decide) (by decide) w2) ?_
      simp -implicitDefEqProofs (disch:=omega) only [go_sem,↓reduceIte,i0,i1,i2,i3,i4,g1,g2,g3,g4,r1,r2,r3,r4]
      refine call0 (right_spec _ 524288 8192 (by decide) (by decide) (by decide) w2) ?_
      simp -implicitDefEqProofs (disch:=omega) only [go_sem,↓reduceIte,i0,i1,i2,i3,i4,g1,g2,g3,g4,r1,r2,r3,r4]
      refine call0 (right_spec _ 128 33554432 (by decide) (by decide) (by decide) w1) ?_
      simp -implicitDefEqProofs (disch:=omega) only [go_sem,↓reduceIte,i0,i1,i2,i3,i4,g1,g2,g3,g4,r1,r2,r3,r4]
      refine call0 (right_spec _ 262144 16384 (by decide) (by decide) (by decide) w1) ?_
      simp -implicitDefEqProofs (disch:=omega) only [go_sem,↓reduceIte,i0,i1,i2,i3,i4,g1,g2,g3,g4,r1,r2,r3,r4]
      refine ⟨k + 1,[(0,0),(1,1),(2,2),(3,3),(4,4)],[],[],by dsimp only; omega,by dsimp only; omega,rfl,?_,?_,?_⟩ <;> simp -implicitDefEqProofs (disch:=omega) only [go_sem,↓reduceIte,ss,i5]
    obtain rfl : k = 48:=by omega
    rw [show List.replicate (48 - 48) (0 : Int) = [] from rfl,List.append_nil]
    have hWm:=sched_isW hbm 48
    have hWl:=sched_len blk 48
    generalize sched blk 48 = W at *
    simp -implicitDefEqProofs (disch:=omega) only [go_sem,↓reduceIte]
    refine loop (ι:=Nat) 7 (fun t => t ≤ 64) (fun t => [(2,.ref 0 []),(3,.osl 1 [] 1 0 8),(4,.osl 2 [] 1 0 64),(5,.osl 3 [] 1 0 L),(6,.int .i64 (64 * j)),(7,.osl 4 [] 1 0 64),(13,.osl 6 [] 1 0 8),(14,.int .i64 t)]) (fun t => [(0,.var (.ints .u8 32 (List.replicate 32 0))),(1,.row (.ints .u32 8 S)),(2,.row (.ints .u32 64 kk)),(3,.row (.ints .u8 L A)),(4,.row (.ints .u32 64 W)),(6,.row (.ints .u32 8 (rounds S W t)))]) (fun t => 64 - t) 0 [(0,0),(1,1),(2,2),(3,3),(4,4),(6,6)] [] (Nat.zero_le _) rfl ?_ ?_ ?_ (fun t ht => ?_)
    · simp -implicitDefEqProofs (disch:=omega) only [go_sem,↓reduceIte]
    · simp -implicitDefEqProofs (disch:=omega) only [go_sem,↓reduceIte]
    · simp -implicitDefEqProofs (disch:=omega) only [go_sem,↓reduceIte,rounds]
    simp -implicitDefEqProofs (disch:=omega) only [go_sem,↓reduceIte]
    refine brd (fun h5 => ?_) (fun h5 => ?_)
    · have hV:=rounds_isW W hSl hSw t
      have hVl:=rounds_len W hSl t
      have hrs : rounds S W (t + 1) = stepS (rounds S W t) (kk.getD t 0) (W.getD t 0):=rfl
      generalize rounds S W t = v at *
      have v0:=getD_all' hV (show 0 < v.length by omega)
      have v4:=getD_all' hV (show 4 < v.length by omega)
      have c2 : IntKind.u32.wrap (4294967295 - v.getD 4 0) = 4294967295 - v.getD 4 0:=by have:=v4.1; have:=v4.2; exact wrap_u32 (by omega) (by omega)
      have c1 : ixor .u32 (iand .u32 (v.getD 4 0) (v.getD 5 0)) (iand .u32 (4294967295 - v.getD 4 0) (v.getD 6 0)) = chI (v.getD 4 0) (v.getD 5 0) (v.getD 6 0):=rfl
      have m1 : ixor .u32 (ixor .u32 (iand .u32 (v.getD 0 0) (v.getD 1 0)) (iand .u32 (v.getD 0 0) (v.getD 2 0))) (iand .u32 (v.getD 1 0) (v.getD 2 0)) = maI (v.getD 0 0) (v.getD 1 0) (v.getD 2 0):=rfl
      simp -implicitDefEqProofs (disch:=omega) only [go_sem,↓reduceIte,c2,c1,m1]
      refine call0 (right_spec _ 64 67108864 (by decide) (by decide) (by decide) v4) ?_
      simp -implicitDefEqProofs (disch:=omega) only [go_sem,↓reduceIte,c2,c1,m1]
      refine call0 (right_spec _ 2048 2097152 (by decide) (by decide) (by decide) v4) ?_
      simp -implicitDefEqProofs (disch:=omega) only [go_sem,↓reduceIte,c2,c1,m1]
      refine call0 (right_spec _ 33554432 128 (by decide) (by decide) (by decide) v4) ?_
      simp -implicitDefEqProofs (disch:=omega) only [go_sem,↓reduceIte,c2,c1,m1]
      refine call0 (right_spec _ 4 1073741824 (by decide) (by decide) (by decide) v0) ?_
      simp -implicitDefEqProofs (disch:=omega) only [go_sem,↓reduceIte,c2,c1,m1]
      refine call0 (right_spec _ 8192 524288 (by decide) (by decide) (by decide) v0) ?_
      simp -implicitDefEqProofs (disch:=omega) only [go_sem,↓reduceIte,c2,c1,m1]
      refine call0 (right_spec _ 4194304 1024 (by decide) (by decide) (by decide) v0) ?_
      simp -implicitDefEqProofs (disch:=omega) only [go_sem,↓reduceIte,c2,c1,m1]
      refine ⟨t + 1,[(0,0),(1,1),(2,2),(3,3),(4,4),(6,7)],[],[],by dsimp only; omega,by dsimp only; omega,rfl,?_,?_,?_⟩ <;> simp -implicitDefEqProofs (disch:=omega) only [go_sem,↓reduceIte,hrs,stepS,pS,qS,bS1,bS0,p2,p6,p7,p10,p11,p13,p19,p21,p22,p25,p26,p30]
    obtain rfl : t = 64:=by omega
    have hVl:=rounds_len W hSl 64
    generalize rounds S W 64 = v at *
    simp -implicitDefEqProofs (disch:=omega) only [go_sem,↓reduceIte]
    refine loop (ι:=Nat) 7 (fun i => i ≤ 8) (fun i => [(2,.ref 0 []),(3,.osl 1 [] 1 0 8),(4,.osl 2 [] 1 0 64),(5,.osl 3 [] 1 0 L),(6,.int .i64 (64 * j)),(13,.osl 6 [] 1 0 8),(21,.int .i64 i)]) (fun i => [(0,.var (.ints .u8 32 (List.replicate 32 0))),(1,.row (.ints .u32 8 ((addS S v).take i ++ S.drop i))),(2,.row (.ints .u32 64 kk)),(3,.row (.ints .u8 L A)),(6,.row (.ints .u32 8 v))]) (fun i => 8 - i) 0 [(0,0),(1,1),(2,2),(3,3),(6,6)] [] (Nat.zero_le _) rfl ?_ ?_ ?_ (fun i hi => ?_)
    · simp -implicitDefEqProofs (disch:=omega) only [go_sem,↓reduceIte]
    · simp -implicitDefEqProofs (disch:=omega) only [go_sem,↓reduceIte]
    · simp -implicitDefEqProofs (disch:=omega) only [go_sem,↓reduceIte,List.nil_append]
    simp -implicitDefEqProofs (disch:=omega) only [go_sem,↓reduceIte]
    refine brd (fun h6 => ?_) (fun h6 => ?_)
    · have a1:=acc_get hSl hVl (show i < 8 by omega)
      have a2:=acc_set hSl hVl (show i < 8 by omega)
      simp -implicitDefEqProofs (disch:=omega) only [go_sem,↓reduceIte,a1]
      refine ⟨i + 1,[(0,0),(1,1),(2,2),(3,3),(6,6)],[],[],by dsimp only; omega,by dsimp only; omega,rfl,?_,?_,?_⟩ <;> simp -implicitDefEqProofs (disch:=omega) only [go_sem,↓reduceIte,a2]
    obtain rfl : i = 8:=by omega
    have e1 : List.take 8 (addS S v) ++ List.drop 8 S = addS S v:=by rw [List.take_of_length_le (by rw [addS_len hSl hVl]; omega),List.drop_of_length_le (by omega),List.append_nil]
    rw [e1]
    have i6 : 64 * (j : Int) + 64 = 64 * (j + 1):=by omega
    simp -implicitDefEqProofs (disch:=omega) only [go_sem,↓reduceIte]
    refine ⟨j + 1,[(0,0),(1,1),(2,2),(3,3)],[],[],by dsimp only; omega,by dsimp only; omega,rfl,?_,?_,?_⟩ <;> simp -implicitDefEqProofs (disch:=omega) only [go_sem,↓reduceIte,hrun,i6]
  obtain rfl : j = L / 64:=by omega
  have hSl:=runB_len A init_len (L / 64)
  have hSw:=runB_isW A init_isW (L / 64)
  generalize runB init A (L / 64) = S at *
  simp -implicitDefEqProofs (disch:=omega) only [go_sem,↓reduceIte]
  have hol : (outB S).length = 32:=by show (bytesA S).length = 32; rw [bytesA_len,hSl]
  refine loop (ι:=Nat) 5 (fun i => i ≤ 8) (fun i => [(2,.ref 0 []),(3,.osl 1 [] 1 0 8),(22,.ref 4 []),(23,.int .i64 i)]) (fun i => [(4,.var (.ints .u8 32 ((outB S).take (4 * i) ++ List.replicate (32 - 4 * i) 0))),(0,.var (.ints .u8 32 (List.replicate 32 0))),(1,.row (.ints .u32 8 S))]) (fun i => 8 - i) 0 [(0,0),(1,1),(4,4)] [] (Nat.zero_le _) rfl ?_ ?_ ?_ (fun i hi => ?_)
  · simp -implicitDefEqProofs (disch:=omega) only [go_sem,↓reduceIte]
  · simp -implicitDefEqProofs (disch:=omega) only [go_sem,↓reduceIte]
  · simp -implicitDefEqProofs (disch:=omega) only [go_sem,↓reduceIte,Nat.mul_zero,List.nil_append]
  simp -implicitDefEqProofs (disch:=omega) only [go_sem,↓reduceIte]
  refine brd (fun h4 => ?_) (fun h4 => ?_)
  · have x:=getD_all' hSw (show i < S.length by omega)
    have i0 : (4 * (i : Int)).toNat = 4 * i:=by omega
    have i1 : (4 * (i : Int) + 1).toNat = 4 * i + 1:=by omega
    have i2 : (4 * (i : Int) + 2).toNat = 4 * i + 2:=by omega
    have i3 : (4 * (i : Int) + 3).toNat = 4 * i + 3:=by omega
    obtain ⟨hx0,hx1,hx2,hx3⟩:=out_get S hSl (show i < 8 by omega)
    have f0 : ((outB S).take (4 * i) ++ List.replicate (32 - 4 * i) 0).set (4 * i) (S.getD i 0 / 16777216 % 256) = (outB S).take (4 * i + 1) ++ List.replicate (32 - (4 * i + 1)) 0:=set_step hol (by omega) hx0
    have f1 : ((outB S).take (4 * i + 1) ++ List.replicate (32 - (4 * i + 1)) 0).set (4 * i + 1) (S.getD i 0 / 65536 % 256 % 256) = (outB S).take (4 * i + 2) ++ List.replicate (32 - (4 * i + 2)) 0:=set_step hol (by omega) hx1
    have f2 : ((outB S).take (4 * i + 2) ++ List.replicate (32 - (4 * i + 2)) 0).set (4 * i + 2) (S.getD i 0 / 256 % 256 % 256) = (outB S).take (4 * i + 3) ++ List.replicate (32 - (4 * i + 3)) 0:=set_step hol (by omega) hx2
    have f3 : ((outB S).take (4 * i + 3) ++ List.replicate (32 - (4 * i + 3)) 0).set (4 * i + 3) (S.getD i 0 % 256 % 256) = (outB S).take (4 * i + 4) ++ List.replicate (32 - (4 * i + 4)) 0:=set_step hol (by omega) hx3
    have d1 : ∀ y : Int,(S.getD i 0).tdiv y = S.getD i 0 / y:=fun y => Int.tdiv_eq_ediv_of_nonneg x.1
    have d2 : ∀ y z : Int,0 ≤ z → z.tmod y = z % y:=fun y z h => Int.tmod_eq_emod_of_nonneg h
    have x1:=x.1
    have x2:=x.2
    simp -implicitDefEqProofs (disch:=omega) only [go_sem,↓reduceIte,i0,i1,i2,i3,d1,d2,u8_mod,f0,f1,f2,f3]
    refine ⟨i + 1,[(0,0),(1,1),(4,4)],[],[],by dsimp only; omega,by dsimp only; omega,rfl,?_,?_,?_⟩ <;> simp -implicitDefEqProofs (disch:=omega) only [go_sem,↓reduceIte,f0,f1,f2,f3,Nat.mul_add]
  obtain rfl : i = 8:=by omega
  have e0 : List.take (4 * 8) (outB S) ++ List.replicate (32 - 4 * 8) 0 = outB S:=by rw [List.take_of_length_le (by omega)]; exact List.append_nil _
  rw [e0]
  simp -implicitDefEqProofs (disch:=omega) only [go_sem,↓reduceIte]
end Go.Proofs.YtololahjocfbeaaGreat
