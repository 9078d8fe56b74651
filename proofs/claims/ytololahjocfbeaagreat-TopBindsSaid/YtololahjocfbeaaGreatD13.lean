/- Texts,joined. -/
import Derived.Test.YtololahjocfbeaaGreatD10
namespace Go.Proofs.YtololahjocfbeaaGreat
open Go Go.Sy Go.Proofs.Tryz
set_option maxRecDepth 100000
set_option maxHeartbeats 8000000
set_option linter.unusedSimpArgs false
set_option linter.unusedVariables false
attribute [go_sem] pl241
def bS1 (e : Int) : Int:=ixor .u32 (ixor .u32 (rot (2 ^ 6) (2 ^ 26) e) (rot (2 ^ 11) (2 ^ 21) e)) (rot (2 ^ 25) (2 ^ 7) e)
def bS0 (a : Int) : Int:=ixor .u32 (ixor .u32 (rot (2 ^ 2) (2 ^ 30) a) (rot (2 ^ 13) (2 ^ 19) a)) (rot (2 ^ 22) (2 ^ 10) a)
def pS (v : List Int) (k w : Int) : Int:=IntKind.u32.wrap (IntKind.u32.wrap (IntKind.u32.wrap (IntKind.u32.wrap (v.getD 7 0 + bS1 (v.getD 4 0)) + chI (v.getD 4 0) (v.getD 5 0) (v.getD 6 0)) + k) + w)
def qS (v : List Int) : Int:=IntKind.u32.wrap (bS0 (v.getD 0 0) + maI (v.getD 0 0) (v.getD 1 0) (v.getD 2 0))
def stepS (v : List Int) (k w : Int) : List Int:=[IntKind.u32.wrap (pS v k w + qS v),v.getD 0 0,v.getD 1 0,v.getD 2 0,IntKind.u32.wrap (v.getD 3 0 + pS v k w),v.getD 4 0,v.getD 5 0,v.getD 6 0]
def rounds (st W : List Int) : Nat → List Int
  | 0 => st
  | t + 1 => stepS (rounds st W t) (kk.getD t 0) (W.getD t 0)
theorem rounds_len {st : List Int} (W : List Int) (h : st.length = 8) : ∀ t,(rounds st W t).length = 8
  | 0 => h
  | t + 1 => rfl
theorem rounds_isW {st : List Int} (W : List Int) (h : st.length = 8) (hw : ∀ x ∈ st,isW x) : ∀ t,∀ x ∈ rounds st W t,isW x
  | 0,x,hx => hw x hx
  | t + 1,x,hx => by
    have ih:=rounds_isW W h hw t
    have hl:=rounds_len W h t
    simp only [rounds,stepS,List.mem_cons,List.not_mem_nil,or_false] at hx
    rcases hx with rfl | rfl | rfl | rfl | rfl | rfl | rfl | rfl
    · exact wrap_isW _
    · exact getD_all' ih (by omega)
    · exact getD_all' ih (by omega)
    · exact getD_all' ih (by omega)
    · exact wrap_isW _
    · exact getD_all' ih (by omega)
    · exact getD_all' ih (by omega)
    · exact getD_all' ih (by omega)
def addS (st v : List Int) : List Int:=List.zipWith (fun a b => IntKind.u32.wrap (a + b)) st v
theorem addS_len {st v : List Int} (h : st.length = 8) (h' : v.length = 8) : (addS st v).length = 8:=by simp [addS,h,h']
theorem addS_isW (st v : List Int) : ∀ x ∈ addS st v,isW x:=by
  intro x hx
  obtain ⟨i,hi,rfl⟩:=List.getElem_of_mem hx
  simp only [addS,List.getElem_zipWith]
  exact wrap_isW _
def compress (st b : List Int) : List Int:=addS st (rounds st (sched b 48) 64)
theorem acc_get {st v : List Int} {i : Nat} (h : st.length = 8) (h' : v.length = 8) (hi : i < 8) : ((addS st v).take i ++ st.drop i).getD i 0 = st.getD i 0:=by
  have hl : ((addS st v).take i).length = i:=by rw [List.length_take,addS_len h h']; omega
  simp only [List.getD,List.getElem?_append_right (Nat.le_of_eq hl),hl,Nat.sub_self,List.getElem?_drop,Nat.add_zero]
theorem acc_set {st v : List Int} {i : Nat} (h : st.length = 8) (h' : v.length = 8) (hi : i < 8) : ((addS st v).take i ++ st.drop i).set i (IntKind.u32.wrap (st.getD i 0 + v.getD i 0)) = (addS st v).take (i + 1) ++ st.drop (i + 1):=by
  have hA:=addS_len h h'
  have hl : ((addS st v).take i).length = i:=by rw [List.length_take,hA]; omega
  have hd : st.drop i = st.getD i 0 :: st.drop (i + 1):=by
    rw [List.drop_eq_getElem_cons (by omega)]
    simp [List.getD,List.getElem?_eq_getElem (show i < st.length by omega)]
  have hg : (addS st v)[i]'(by omega) = IntKind.u32.wrap (st.getD i 0 + v.getD i 0):=by
    simp only [addS,List.getElem_zipWith,List.getD,List.getElem?_eq_getElem (show i < st.length by omega),List.getElem?_eq_getElem (show i < v.length by omega),Option.getD_some]
  rw [List.set_append_right _ _ (Nat.le_of_eq hl),hl,Nat.sub_self,hd,List.set_cons_zero,List.take_add_one,List.getElem?_eq_getElem (show i < (addS st v).length by omega),hg,List.append_assoc]
  rfl
theorem take_spec (st r : List Int) (m : Nat) (n : Int) (hs : st.length = 8) (hw : ∀ x ∈ st,isW x) (hr : r.length = m) (hm : 64 ≤ m) (hb : ∀ x ∈ r,0 ≤ x ∧ x < 256) :
    FnC Tryz.prog 241 [.ref 0 [],.osl 1 [] 1 0 64] [(0,.var (.agg [.ints .u32 8 st,.osl 1 [] 1 0 m,.int .i64 n])),(1,.row (.ints .u8 m r))] (.tup [])
      [(0,.var (.agg [.ints .u32 8 (compress st (r.take 64)),.osl 1 [] 1 0 m,.int .i64 n])),(1,.row (.ints .u8 m r))]:=by
  have hl64 : (r.take 64).length = 64:=by rw [List.length_take]; omega
  have hb64 : ∀ x ∈ r.take 64,0 ≤ x ∧ x < 256:=fun x hx => hb x (List.mem_of_mem_take hx)
  refine fnN mix pl241 2 2 [] Tryz.func241 rfl (by kernel_rfl) (by kernel_rfl) rfl (by kernel_rfl) (by kernel_rfl) (by simp) ?_
  simp -implicitDefEqProofs (disch:=omega) only [go_sem,↓reduceIte]
  refine callB (schedule_spec (r.take 64) hl64 hb64) ?_ ?_
  · simp -implicitDefEqProofs (disch:=omega) only [go_sem,↓reduceIte]
    refine brd (fun h => ?_) (fun h => ?_)
    · subst h
      simp -implicitDefEqProofs (disch:=omega) only [go_sem,↓reduceIte,List.take_of_length_le]
    · simp -implicitDefEqProofs (disch:=omega) only [go_sem,↓reduceIte]
  simp -implicitDefEqProofs (disch:=omega) only [go_sem,↓reduceIte]
  refine call0 keys_spec ?_
  simp -implicitDefEqProofs (disch:=omega) only [go_sem,↓reduceIte]
  have hW:=sched_isW hb64 48
  have hWl:=sched_len (r.take 64) 48
  have hcmp : compress st (r.take 64) = addS st (rounds st (sched (r.take 64) 48) 64):=rfl
  generalize sched (r.take 64) 48 = W at *
  refine loop (ι:=Nat) 5 (fun t => t ≤ 64) (fun t => [(0,.ref 0 []),(21,.int .i64 t),(4,.ref 2 []),(5,.ref 3 []),(6,.ref 4 [])]) (fun t => [(0,.var (.agg [.ints .u32 8 st,.osl 1 [] 1 0 m,.int .i64 n])),(1,.row (.ints .u8 m r)),(2,.var (.ints .u32 8 (rounds st W t))),(3,.var (.ints .u32 64 W)),(4,.var (.ints .u32 64 kk))]) (fun t => 64 - t) 0 [(0,0),(1,1),(2,2),(3,3),(4,4)] [] (Nat.zero_le _) rfl ?_ ?_ ?_ (fun t ht => ?_)
  · simp -implicitDefEqProofs (disch:=omega) only [go_sem,↓reduceIte]
  · simp -implicitDefEqProofs (disch:=omega) only [go_sem,↓reduceIte]
  · simp -implicitDefEqProofs (disch:=omega) only [go_sem,↓reduceIte,rounds]
  simp -implicitDefEqProofs (disch:=omega) only [go_sem,↓reduceIte]
  refine brd (fun h2 => ?_) (fun h2 => ?_)
  · have hV:=rounds_isW W hs hw t
    have hVl:=rounds_len W hs t
    have hrs : rounds st W (t + 1) = stepS (rounds st W t) (kk.getD t 0) (W.getD t 0):=rfl
    generalize rounds st W t = v at *
    have v0:=getD_all' hV (show 0 < v.length by omega)
    have v1:=getD_all' hV (show 1 < v.length by omega)
    have v2:=getD_all' hV (show 2 < v.length by omega)
    have v4:=getD_all' hV (show 4 < v.length by omega)
    have v5:=getD_all' hV (show 5 < v.length by omega)
    have v6:=getD_all' hV (show 6 < v.length by omega)
    have c1:=ch_or v4 v5 v6
    have m1:=ma_or v0 v1 v2
    simp -implicitDefEqProofs (disch:=omega) only [go_sem,↓reduceIte]
    refine call0 (turn_spec _ 6 26 rfl (by decide) (by decide) v4) ?_
    simp -implicitDefEqProofs (disch:=omega) only [go_sem,↓reduceIte]
    refine call0 (turn_spec _ 11 21 rfl (by decide) (by decide) v4) ?_
    simp -implicitDefEqProofs (disch:=omega) only [go_sem,↓reduceIte]
    refine call0 (turn_spec _ 25 7 rfl (by decide) (by decide) v4) ?_
    simp -implicitDefEqProofs (disch:=omega) only [go_sem,↓reduceIte,c1]
    refine call0 (turn_spec _ 2 30 rfl (by decide) (by decide) v0) ?_
    simp -implicitDefEqProofs (disch:=omega) only [go_sem,↓reduceIte]
    refine call0 (turn_spec _ 13 19 rfl (by decide) (by decide) v0) ?_
    simp -implicitDefEqProofs (disch:=omega) only [go_sem,↓reduceIte]
    refine call0 (turn_spec _ 22 10 rfl (by decide) (by decide) v0) ?_
    simp -implicitDefEqProofs (disch:=omega) only [go_sem,↓reduceIte,m1]
    refine ⟨t + 1,[(0,0),(1,1),(2,2),(3,3),(4,4)],[],[],by dsimp only; omega,by dsimp only; omega,rfl,?_,?_,?_⟩ <;> simp -implicitDefEqProofs (disch:=omega) only [go_sem,↓reduceIte,hrs,stepS,pS,qS,bS1,bS0]
  obtain rfl : t = 64:=by omega
  have hV:=rounds_isW W hs hw 64
  have hVl:=rounds_len W hs 64
  rw [hcmp]
  generalize rounds st W 64 = v at *
  simp -implicitDefEqProofs (disch:=omega) only [go_sem,↓reduceIte]
  refine loop (ι:=Nat) 2 (fun i => i ≤ 8) (fun i => [(0,.ref 0 []),(102,.int .i64 i),(101,.ints .u32 8 v)]) (fun i => [(0,.var (.agg [.ints .u32 8 ((addS st v).take i ++ st.drop i),.osl 1 [] 1 0 m,.int .i64 n])),(1,.row (.ints .u8 m r))]) (fun i => 8 - i) 0 [(0,0),(1,1)] [] (Nat.zero_le _) rfl ?_ ?_ ?_ (fun i hi => ?_)
  · simp -implicitDefEqProofs (disch:=omega) only [go_sem,↓reduceIte]
  · simp -implicitDefEqProofs (disch:=omega) only [go_sem,↓reduceIte]
  · simp -implicitDefEqProofs (disch:=omega) only [go_sem,↓reduceIte,List.nil_append]
  simp -implicitDefEqProofs (disch:=omega) only [go_sem,↓reduceIte]
  refine brd (fun h3 => ?_) (fun h3 => ?_)
  · have a1:=acc_get hs hVl (show i < 8 by omega)
    have a2:=acc_set hs hVl (show i < 8 by omega)
    simp -implicitDefEqProofs (disch:=omega) only [go_sem,↓reduceIte,a1]
    refine ⟨i + 1,[(0,0),(1,1)],[],[],by dsimp only; omega,by dsimp only; omega,rfl,?_,?_,?_⟩ <;> simp -implicitDefEqProofs (disch:=omega) only [go_sem,↓reduceIte,a2]
  obtain rfl : i = 8:=by omega
  have e0 : List.take 8 (addS st v) ++ List.drop 8 st = addS st v:=by rw [List.take_of_length_le (by rw [addS_len hs hVl]; omega),List.drop_of_length_le (by omega),List.append_nil]
  rw [e0]
  simp -implicitDefEqProofs (disch:=omega) only [go_sem,↓reduceIte]
  refine ⟨[(0,0),(1,1)],[],[],rfl,?_,?_,?_⟩ <;> simp -implicitDefEqProofs (disch:=omega) only [go_sem,↓reduceIte]
theorem compress_len {st b : List Int} (h : st.length = 8) : (compress st b).length = 8:=addS_len h (rounds_len _ h 64)
def runB (st xs : List Int) : Nat → List Int
  | 0 => st
  | j + 1 => compress (runB st xs j) ((xs.drop (64 * j)).take 64)
theorem runB_len {st : List Int} (xs : List Int) (h : st.length = 8) : ∀ j,(runB st xs j).length = 8
  | 0 => h
  | j + 1 => compress_len (runB_len xs h j)
theorem runB_isW {st : List Int} (xs : List Int) (h : ∀ x ∈ st,isW x) : ∀ j,∀ x ∈ runB st xs j,isW x
  | 0 => h
  | j + 1 => addS_isW _ _
theorem write_spec (st r b : List Int) (n : Int) (hs : st.length = 8) (hw : ∀ x ∈ st,isW x) (hr : r.length < 64) (hb : ∀ x ∈ r ++ b,0 ≤ x ∧ x < 256) (hbl : b.length ≤ 1000000) (hn : 0 ≤ n) (hn' : n < 1000000000) :
    FnC Tryz.prog 214 [.ref 0 [],.sl (.ints .u8 b.length b)] [(0,.var (.agg [.ints .u32 8 st,.osl 1 [] 1 0 r.length,.int .i64 n])),(1,.row (.ints .u8 r.length r))] (.tup [])
      [(0,.var (.agg [.ints .u32 8 (runB st (r ++ b) ((r ++ b).length / 64)),.osl 1 [] 1 0 ((r ++ b).length - 64 * ((r ++ b).length / 64)),.int .i64 (n + b.length)])),
       (1,.row (.ints .u8 ((r ++ b).length - 64 * ((r ++ b).length / 64)) ((r ++ b).drop (64 * ((r ++ b).length / 64)))))]:=by
  refine fnN mix [] 2 2 [] Tryz.func214 rfl (by kernel_rfl) (by kernel_rfl) rfl (by kernel_rfl) (by kernel_rfl) (by simp) ?_
  simp -implicitDefEqProofs (disch:=omega) only [go_sem,↓reduceIte]
  have hlen : (r ++ b).length = r.length + b.length:=List.length_append
  rw [← hlen]
  generalize r ++ b = xs at *
  refine loop (ι:=Nat) 3 (fun j => j ≤ xs.length / 64) (fun j => [(0,.ref 0 [])]) (fun j => [(0,.var (.agg [.ints .u32 8 (runB st xs j),.osl 2 [] 1 0 (xs.length - 64 * j),.int .i64 (n + b.length)])),(2,.row (.ints .u8 (xs.length - 64 * j) (xs.drop (64 * j))))]) (fun j => xs.length / 64 - j) 0 [(0,0),(1,1),(2,2)] [] (Nat.zero_le _) rfl ?_ ?_ ?_ (fun j hj => ?_)
  · simp -implicitDefEqProofs (disch:=omega) only [go_sem,↓reduceIte]
  · simp -implicitDefEqProofs (disch:=omega) only [go_sem,↓reduceIte]
  · simp -implicitDefEqProofs (disch:=omega) only [go_sem,↓reduceIte,hlen,runB,Nat.mul_zero]
  simp -implicitDefEqProofs (disch:=omega) only [go_sem,↓reduceIte]
  refine brd (fun h3 => ?_) (fun h3 => ?_)
  · simp -implicitDefEqProofs (disch:=omega) only [go_sem,↓reduceIte]
    refine callG false [(0,0),(1,2)] [(0,0),(1,3)] 4 (take_spec (runB st xs j) (xs.drop (64 * j)) (xs.length - 64 * j) (n + b.length) (runB_len xs hs j) (runB_isW xs hw j) List.length_drop (by omega) (fun x hx => hb x (List.mem_of_mem_drop hx))) ?_ ?_
    · simp [keys]
    simp -implicitDefEqProofs (disch:=omega) only [go_sem,↓reduceIte]
    have q1 : xs.length - 64 * j - 64 = xs.length - 64 * (j + 1):=by omega
    have q2 : List.take (xs.length - 64 * (j + 1)) (List.drop 64 (List.drop (64 * j) xs)) = List.drop (64 * (j + 1)) xs:=by
      rw [List.drop_drop,show 64 * j + 64 = 64 * (j + 1) by omega,List.take_of_length_le (by rw [List.length_drop]; omega)]
    rw [q1,q2]
    refine ⟨j + 1,[(0,0),(1,1),(2,5)],[],[],by dsimp only; omega,by dsimp only; omega,rfl,?_,?_,?_⟩ <;> simp -implicitDefEqProofs (disch:=omega) only [go_sem,↓reduceIte,runB]
  obtain rfl : j = xs.length / 64:=by omega
  simp -implicitDefEqProofs (disch:=omega) only [go_sem,↓reduceIte]
  refine ⟨[(0,0),(1,2)],[],[],rfl,?_,?_,?_⟩ <;> simp -implicitDefEqProofs (disch:=omega) only [go_sem,↓reduceIte,exists_false]
def init : List Int:=[1779033703,3144134277,1013904242,2773480762,1359893119,2600822924,528734635,1541459225]
theorem new_spec53 : FnC Tryz.prog 213 [] [] (.ref 0 []) [(0,.var (.agg [.ints .u32 8 init,.osl 1 [] 1 0 0,.int .i64 0])),(1,.row (.ints .u8 0 []))]:=by
  refine fnN mix [] 0 0 [.tmp 0] Tryz.func213 rfl (by kernel_rfl) (by kernel_rfl) rfl (by kernel_rfl) (by kernel_rfl) (by simp) ?_
  simp -implicitDefEqProofs (disch:=omega) only [go_sem,↓reduceIte]
  refine ⟨[(0,0)],[1],[],rfl,?_,?_,?_⟩ <;> simp -implicitDefEqProofs (disch:=omega) only [go_sem,↓reduceIte,init]
def outB (st : List Int) : List Int:=bytesA st
attribute [go_sem] pl215
theorem bytesA_get : ∀ (ws : List Int) (i : Nat),i < 4 * ws.length → (bytesA ws).getD i 0 = (be (ws.getD (i / 4) 0) 4).getD (i % 4) 0
  | [],i,h => by simp at h
  | w :: ws,i,h => by
    have e : bytesA (w :: ws) = be w 4 ++ bytesA ws:=rfl
    rw [e]
    by_cases hi : i < 4
    · rw [getD_left (by rw [be_len]; exact hi),show i / 4 = 0 by omega,show i % 4 = i by omega,List.getD_cons_zero]
    · have ih:=bytesA_get ws (i - 4) (by simp only [List.length_cons] at h; omega)
      have : (be w 4 ++ bytesA ws).getD i 0 = (bytesA ws).getD (i - 4) 0:=by
        simp only [List.getD,List.getElem?_append_right (show (be w 4).length ≤ i by rw [be_len]; omega),be_len]
      rw [this,ih,show i / 4 = (i - 4) / 4 + 1 by omega,List.getD_cons_succ,show i % 4 = (i - 4) % 4 by omega]
theorem be4_get (w : Int) {k : Nat} (h : k < 4) : (be w 4).getD k 0 = w / 2 ^ (24 - 8 * k) % 256:=by
  rcases (by omega : k = 0 ∨ k = 1 ∨ k = 2 ∨ k = 3) with rfl | rfl | rfl | rfl <;> rfl
theorem be8_get (w : Int) {k : Nat} (h : k < 8) : (be w 8).getD k 0 = w / 2 ^ (8 * (7 - k)) % 256:=by
  rcases (by omega : k = 0 ∨ k = 1 ∨ k = 2 ∨ k = 3 ∨ k = 4 ∨ k = 5 ∨ k = 6 ∨ k = 7) with rfl | rfl | rfl | rfl | rfl | rfl | rfl | rfl <;> rfl
theorem take_next {l : List Int} {c : Nat} (h : c < l.length) : l.take c ++ [l.getD c 0] = l.take (c + 1):=by
  rw [List.take_add_one,List.getElem?_eq_getElem h]
  simp only [Option.toList_some,List.getD,List.getElem?_eq_getElem h,Option.getD_some]
def padR (rl : Nat) (n : Int) : List Int:=128 :: (List.replicate ((119 - rl) % 64) 0 ++ be (n * 8) 8)
def sumR (st r : List Int) (n : Int) : List Int:=outB (runB st (r ++ padR r.length n) ((r ++ padR r.length n).length / 64))
theorem padR_mem (rl : Nat) (n : Int) : ∀ x ∈ padR rl n,0 ≤ x ∧ x < 256:=by
  intro x hx
  simp only [padR,List.mem_append,List.mem_cons,List.mem_replicate] at hx
  rcases hx with rfl | ⟨_,rfl⟩ | hx
  · decide
  · decide
  · exact be_mem _ _ x hx
theorem sum_spec (st r : List Int) (n : Int) (hs : st.length = 8) (hw : ∀ x ∈ st,isW x) (hr : r.length < 64) (hb : ∀ x ∈ r,0 ≤ x ∧ x < 256) (hn : 0 ≤ n) (hn' : n < 1000000000) :
    FnC Tryz.prog 215 [.ref 0 []] [(0,.var (.agg [.ints .u32 8 st,.osl 1 [] 1 0 r.length,.int .i64 n])),(1,.row (.ints .u8 r.length r))] (.ints .u8 32 (sumR st r n))
      [(0,.var (.agg [.ints .u32 8 st,.osl 1 [] 1 0 r.length,.int .i64 n])),(1,.row (.ints .u8 r.length r))]:=by
  refine fnN mix pl215 2 1 [.cell 2 25] Tryz.func215 rfl (by kernel_rfl) (by kernel_rfl) rfl (by kernel_rfl) (by kernel_rfl) (by simp) ?_
  simp -implicitDefEqProofs (disch:=omega) only [go_sem,↓reduceIte]
  refine loop (ι:=Nat) 7 (fun z => z ≤ (119 - r.length) % 64) (fun z => [(4,.osl 6 [] 1 0 (z + 1)),(3,.ref 5 []),(2,.ref 2 []),(0,.ref 0 [])]) (fun z => [(6,.row (.ints .u8 (z + 1) (128 :: List.replicate z 0))),(5,.var (.agg [.ints .u32 8 st,.osl 4 [] 1 0 r.length,.int .i64 0])),(2,.var (.ints .u8 32 (List.replicate 32 0))),(0,.var (.agg [.ints .u32 8 st,.osl 1 [] 1 0 r.length,.int .i64 n])),(1,.row (.ints .u8 r.length r)),(4,.row (.ints .u8 r.length r))]) (fun z => (119 - r.length) % 64 - z) 0 [(0,0),(1,1),(2,2),(4,4),(5,5),(6,6)] [] (Nat.zero_le _) rfl ?_ ?_ ?_ (fun z hz => ?_)
  · simp -implicitDefEqProofs (disch:=omega) only [go_sem,↓reduceIte]
  · simp -implicitDefEqProofs (disch:=omega) only [go_sem,↓reduceIte]
  · simp -implicitDefEqProofs (disch:=omega) only [go_sem,↓reduceIte]
  simp -implicitDefEqProofs (disch:=omega) only [go_sem,↓reduceIte]
  have t1 : ((r.length : Int) + (z + 1) + 8).tmod 64 = (r.length + (z + 1) + 8) % 64:=Int.tmod_eq_emod_of_nonneg (by omega)
  rw [t1]
  refine brd (fun h => ?_) (fun h => ?_)
  case' refine_2 =>
    have hr1 : 128 :: List.replicate z (0 : Int) ++ [0] = 128 :: List.replicate (z + 1) 0:=by rw [List.replicate_succ']; rfl
    simp -implicitDefEqProofs (disch:=omega) only [go_sem,↓reduceIte,hr1]
    refine ⟨z + 1,[(0,0),(1,1),(2,2),(4,4),(5,5),(6,8)],[],[],by dsimp only; omega,by dsimp only; omega,rfl,?_,?_,?_⟩ <;> simp -implicitDefEqProofs (disch:=omega) only [go_sem,↓reduceIte]
  obtain rfl : z = (119 - r.length) % 64:=by omega
  simp -implicitDefEqProofs (disch:=omega) only [go_sem,↓reduceIte]
  have hpd : padR r.length n = 128 :: (List.replicate ((119 - r.length) % 64) 0 ++ be (n * 8) 8):=rfl
  have hZ : (119 - r.length) % 64 < 64:=by omega
  have hPm : ∀ x ∈ padR r.length n,0 ≤ x ∧ x < 256:=padR_mem _ _
  have hSR : sumR st r n = outB (runB st (r ++ padR r.length n) ((r ++ padR r.length n).length / 64)):=rfl
  clear t1 h hz
  generalize (119 - r.length) % 64 = z at *
  refine loop (ι:=Nat) 7 (fun c => c ≤ 8) (fun c => [(4,.osl 6 [] 1 0 (z + 1 + c)),(5,.int .i64 (7 - c)),(3,.ref 5 []),(2,.ref 2 []),(0,.ref 0 [])]) (fun c => [(6,.row (.ints .u8 (z + 1 + c) (128 :: (List.replicate z 0 ++ (be (n * 8) 8).take c)))),(5,.var (.agg [.ints .u32 8 st,.osl 4 [] 1 0 r.length,.int .i64 0])),(2,.var (.ints .u8 32 (List.replicate 32 0))),(0,.var (.agg [.ints .u32 8 st,.osl 1 [] 1 0 r.length,.int .i64 n])),(1,.row (.ints .u8 r.length r)),(4,.row (.ints .u8 r.length r))]) (fun c => 8 - c) 0 [(0,0),(1,1),(2,2),(4,4),(5,5),(6,6)] [] (Nat.zero_le _) rfl ?_ ?_ ?_ (fun c hc => ?_)
  · simp -implicitDefEqProofs (disch:=omega) only [go_sem,↓reduceIte]
  · simp -implicitDefEqProofs (disch:=omega) only [go_sem,↓reduceIte]
  · simp -implicitDefEqProofs (disch:=omega) only [go_sem,↓reduceIte,List.append_nil]
  simp -implicitDefEqProofs (disch:=omega) only [go_sem,↓reduceIte]
  refine brd (fun h => ?_) (fun h => ?_)
  · have b1 : (8 * ((7 : Int) - c)).toNat = 8 * (7 - c):=by omega
    have b2:=be8_get (n * 8) (show c < 8 by omega)
    have b3 : ishr .u64 (n * 8) (8 * (7 - c)) = n * 8 / 2 ^ (8 * (7 - c)):=ishr_div _ _ _ (by show 8 * (7 - c) ≤ 64; omega)
    have b4:=take_next (l:=be (n * 8) 8) (show c < (be (n * 8) 8).length by rw [be_len]; omega)
    rw [b2] at b4
    have b5 : List.replicate z 0 ++ (be (n * 8) 8).take c ++ [n * 8 / 2 ^ (8 * (7 - c)) % 256] = List.replicate z 0 ++ (be (n * 8) 8).take (c + 1):=by rw [List.append_assoc,b4]
    have b6 : (7 : Int) - c - 1 = 7 - (c + 1):=by omega
    simp -implicitDefEqProofs (disch:=omega) only [go_sem,↓reduceIte,b1,b3,u8_mod,b5]
    refine ⟨c + 1,[(0,0),(1,1),(2,2),(4,4),(5,5),(6,8)],[],[],by dsimp only; omega,by dsimp only; omega,rfl,?_,?_,?_⟩ <;> simp -implicitDefEqProofs (disch:=omega) only [go_sem,↓reduceIte,b6,Nat.add_assoc]
  obtain rfl : c = 8:=by omega
  rw [List.take_of_length_le (show (be (n * 8) 8).length ≤ 8 by rw [be_len]; exact Nat.le_refl _),← hpd]
  have hpl : (padR r.length n).length = z + 1 + 8:=by rw [hpd]; simp [be_len]
  have hwr:=write_spec st r (padR r.length n) 0 hs hw hr (fun x hx => by
    rcases List.mem_append.1 hx with hx | hx
    · exact hb x hx
    · exact hPm x hx) (by omega) (by decide) (by decide)
  rw [hpl] at hwr
  simp -implicitDefEqProofs (disch:=omega) only [go_sem,↓reduceIte]
  have hlen : (r ++ padR r.length n).length = r.length + (z + 1 + 8):=by rw [List.length_append,hpl]
  refine callG true [(0,5),(1,4)] [(0,5),(1,7)] 8 hwr ?_ ?_
  · simp [keys]
  simp -implicitDefEqProofs (disch:=omega) only [go_sem,↓reduceIte,AV.pf,AV.pf.pfs,OB.pf]
  refine ⟨fun p hp => by simp only [List.mem_cons,List.not_mem_nil,or_false] at hp; rcases hp with rfl | rfl <;> rfl,?_⟩
  have hSl:=runB_len (r ++ padR r.length n) hs ((r ++ padR r.length n).length / 64)
  have hSw:=runB_isW (r ++ padR r.length n) hw ((r ++ padR r.length n).length / 64)
  rw [hSR]
  clear hwr hSR
  generalize runB st (r ++ padR r.length n) ((r ++ padR r.length n).length / 64) = S at *
  generalize (r ++ padR r.length n).length - 64 * ((r ++ padR r.length n).length / 64) = q
  have hol : (outB S).length = 32:=by show (bytesA S).length = 32; rw [bytesA_len,hSl]
  refine loop (ι:=Nat) 9 (fun i => i ≤ 32) (fun i => [(59,.int .i64 i),(6,.ref 8 []),(3,.ref 5 []),(2,.ref 2 [])]) (fun i => [(8,.var (.ints .u8 32 ((outB S).take i ++ List.replicate (32 - i) 0))),(5,.var (.agg [.ints .u32 8 S,.osl 7 [] 1 0 q,.int .i64 (z + 1 + 8)])),(2,.var (.ints .u8 32 (List.replicate 32 0))),(0,.var (.agg [.ints .u32 8 st,.osl 1 [] 1 0 r.length,.int .i64 n])),(1,.row (.ints .u8 r.length r))]) (fun i => 32 - i) 0 [(0,0),(1,1),(2,2),(5,5),(7,7),(8,8)] [] (Nat.zero_le _) rfl ?_ ?_ ?_ (fun i hi => ?_)
  · simp -implicitDefEqProofs (disch:=omega) only [go_sem,↓reduceIte]
  · simp -implicitDefEqProofs (disch:=omega) only [go_sem,↓reduceIte]
  · simp -implicitDefEqProofs (disch:=omega) only [go_sem,↓reduceIte,List.nil_append]
  simp -implicitDefEqProofs (disch:=omega) only [go_sem,↓reduceIte]
  refine brd (fun h3 => ?_) (fun h3 => ?_)
  · have d1 : ((i : Int)).tdiv 4 = (i / 4 : Nat):=by rw [Int.tdiv_eq_ediv_of_nonneg (by omega)]; omega
    have d2 : ((i : Int)).tmod 4 = (i % 4 : Nat):=by rw [Int.tmod_eq_emod_of_nonneg (by omega)]; omega
    have d3 : ((24 : Int) - 8 * (i % 4 : Nat)).toNat = 24 - 8 * (i % 4):=by omega
    have d4 : ishr .u32 (S.getD (i / 4) 0) (24 - 8 * (i % 4)) = S.getD (i / 4) 0 / 2 ^ (24 - 8 * (i % 4)):=ishr_div _ _ _ (by show 24 - 8 * (i % 4) ≤ 32; omega)
    have hx : (outB S).getD i 0 = S.getD (i / 4) 0 / 2 ^ (24 - 8 * (i % 4)) % 256:=by
      show (bytesA S).getD i 0 = _
      rw [bytesA_get S i (by omega),be4_get _ (by omega)]
    have hset:=set_step hol (show i < 32 by omega) hx
    have hq : i / 4 < 8:=by omega
    simp -implicitDefEqProofs (disch:=omega) only [go_sem,↓reduceIte,d1,d2,d3,d4,u8_mod]
    refine ⟨i + 1,[(0,0),(1,1),(2,2),(5,5),(7,7),(8,8)],[],[],by dsimp only; omega,by dsimp only; omega,rfl,?_,?_,?_⟩ <;> simp -implicitDefEqProofs (disch:=omega) only [go_sem,↓reduceIte,hset]
  obtain rfl : i = 32:=by omega
  have e0 : List.take 32 (outB S) ++ List.replicate (32 - 32) 0 = outB S:=by rw [List.take_of_length_le (by omega)]; exact List.append_nil _
  rw [e0]
  simp -implicitDefEqProofs (disch:=omega) only [go_sem,↓reduceIte]
  refine ⟨[(0,0),(1,1)],[],[],rfl,?_,?_,?_⟩ <;> simp -implicitDefEqProofs (disch:=omega) only [go_sem,↓reduceIte]
attribute [go_sem] pl215
theorem runB_app (st X b : List Int) : ∀ j,64 * j ≤ X.length → runB st (X ++ b) j = runB st X j
  | 0,_ => rfl
  | j + 1,h => by
    have e : ((X ++ b).drop (64 * j)).take 64 = (X.drop (64 * j)).take 64:=by
      rw [List.drop_append_of_le_length (by omega),List.take_append_of_le_length (by rw [List.length_drop]; omega)]
    rw [runB,runB,runB_app st X b j (by omega),e]
theorem runB_on (st X b : List Int) (q : Nat) (hq : 64 * q ≤ X.length) : ∀ j,runB (runB st X q) (X.drop (64 * q) ++ b) j = runB st (X ++ b) (q + j)
  | 0 => (runB_app st X b q hq).symm
  | j + 1 => by
    have e : (X.drop (64 * q) ++ b).drop (64 * j) = (X ++ b).drop (64 * (q + j)):=by
      rw [← List.drop_append_of_le_length hq,List.drop_drop,Nat.mul_add]
    rw [runB,runB_on st X b q hq j,e,← Nat.add_assoc,runB]
def hst (X : List Int) : List Int:=runB init X (X.length / 64)
def hrest (X : List Int) : List Int:=X.drop (64 * (X.length / 64))
theorem hrest_len (X : List Int) : (hrest X).length = X.length % 64:=by unfold hrest; rw [List.length_drop]; omega
theorem h_state (X b : List Int) : runB (hst X) (hrest X ++ b) ((hrest X ++ b).length / 64) = hst (X ++ b):=by
  unfold hst hrest
  rw [runB_on init X b _ (by omega)]
  congr 1
  simp only [List.length_append,List.length_drop]
  omega
theorem h_rest (X b : List Int) : (hrest X ++ b).drop (64 * ((hrest X ++ b).length / 64)) = hrest (X ++ b):=by
  unfold hrest
  rw [← List.drop_append_of_le_length (show 64 * (X.length / 64) ≤ X.length by omega),List.drop_drop]
  congr 1
  simp only [List.length_append,List.length_drop]
  omega
theorem h_restlen (X b : List Int) : (hrest X ++ b).length - 64 * ((hrest X ++ b).length / 64) = (hrest (X ++ b)).length:=by
  rw [← h_rest,List.length_drop]
theorem init_len : init.length = 8:=rfl
theorem init_isW : ∀ x ∈ init,isW x:=by
  intro x hx
  simp only [init,List.mem_cons,List.not_mem_nil,or_false] at hx
  rcases hx with rfl | rfl | rfl | rfl | rfl | rfl | rfl | rfl <;> exact ⟨by decide,by decide⟩
def isB (x : Int) : Prop:=0 ≤ x ∧ x < 256
theorem hrest_mem {X : List Int} (hX : ∀ x ∈ X,0 ≤ x ∧ x < 256) : ∀ x ∈ hrest X,0 ≤ x ∧ x < 256:=fun x hx => hX x (List.mem_of_mem_drop hx)
theorem write_abs (X b : List Int) (hX : ∀ x ∈ X,0 ≤ x ∧ x < 256) (hb : ∀ x ∈ b,0 ≤ x ∧ x < 256) (hbl : b.length ≤ 1000000) (hn : X.length < 1000000000) :
    FnC Tryz.prog 214 [.ref 0 [],.sl (.ints .u8 b.length b)] [(0,.var (.agg [.ints .u32 8 (hst X),.osl 1 [] 1 0 (hrest X).length,.int .i64 X.length])),(1,.row (.ints .u8 (hrest X).length (hrest X)))] (.tup [])
      [(0,.var (.agg [.ints .u32 8 (hst (X ++ b)),.osl 1 [] 1 0 (hrest (X ++ b)).length,.int .i64 (X ++ b).length])),(1,.row (.ints .u8 (hrest (X ++ b)).length (hrest (X ++ b))))]:=by
  have h:=write_spec (hst X) (hrest X) b X.length (runB_len X init_len _) (runB_isW X init_isW _) (by rw [hrest_len]; omega) (fun x hx => by
    rcases List.mem_append.1 hx with hx | hx
    · exact hrest_mem hX x hx
    · exact hb x hx) hbl (by omega) (by omega)
  rw [h_restlen,h_state,h_rest] at h
  have e : (X.length : Int) + b.length = ((X ++ b).length : Nat):=by rw [List.length_append]; omega
  rw [e] at h
  exact h
def padN (n : Nat) : List Int:=padR (n % 64) n
def sumD (X : List Int) : List Int:=outB (runB init (X ++ padN X.length) ((X ++ padN X.length).length / 64))
theorem sum_abs (X : List Int) (hX : ∀ x ∈ X,0 ≤ x ∧ x < 256) (hn : X.length < 1000000000) :
    FnC Tryz.prog 215 [.ref 0 []] [(0,.var (.agg [.ints .u32 8 (hst X),.osl 1 [] 1 0 (hrest X).length,.int .i64 X.length])),(1,.row (.ints .u8 (hrest X).length (hrest X)))] (.ints .u8 32 (sumD X))
      [(0,.var (.agg [.ints .u32 8 (hst X),.osl 1 [] 1 0 (hrest X).length,.int .i64 X.length])),(1,.row (.ints .u8 (hrest X).length (hrest X)))]:=by
  have h:=sum_spec (hst X) (hrest X) X.length (runB_len X init_len _) (runB_isW X init_isW _) (by rw [hrest_len]; omega) (hrest_mem hX) (by omega) (by omega)
  have e : sumR (hst X) (hrest X) X.length = sumD X:=by
    unfold sumR sumD
    rw [h_state,hrest_len]
    rfl
  rw [e] at h
  exact h
theorem new_abs : FnC Tryz.prog 213 [] [] (.ref 0 []) [(0,.var (.agg [.ints .u32 8 (hst []),.osl 1 [] 1 0 (hrest []).length,.int .i64 ([] : List Int).length])),(1,.row (.ints .u8 (hrest []).length (hrest [])))]:=new_spec53
def cat (ps : List (List Int)) : List Int:=ps.flatMap id
theorem cat_succ {ps : List (List Int)} {i : Nat} {b : List Int} (h : ps[i]? = some b) : cat (ps.take (i + 1)) = cat (ps.take i) ++ b:=by
  unfold cat
  rw [List.take_add_one,h,List.flatMap_append]
  simp only [Option.toList_some,List.flatMap_cons,List.flatMap_nil,List.append_nil,id]
theorem cat_le (ps : List (List Int)) (i : Nat) : (cat (ps.take i)).length ≤ (cat ps).length:=by
  have : cat ps = cat (ps.take i) ++ cat (ps.drop i):=by
    unfold cat
    rw [← List.flatMap_append,List.take_append_drop]
  rw [this,List.length_append]
  omega
theorem cat_mem {ps : List (List Int)} (h : ∀ p ∈ ps,∀ x ∈ p,0 ≤ x ∧ x < 256) (i : Nat) : ∀ x ∈ cat (ps.take i),0 ≤ x ∧ x < 256:=by
  intro x hx
  simp only [cat,List.mem_flatMap,id] at hx
  obtain ⟨p,hp,hx⟩:=hx
  exact h p (List.mem_of_mem_take hp) x hx
theorem sums_spec (ps : List (List Int)) (h : ∀ p ∈ ps,∀ x ∈ p,0 ≤ x ∧ x < 256) (hn : (cat ps).length ≤ 1000000) (hl : ps.length ≤ 1000000) : FnC Tryz.prog 167 [.sl (.lst 1 ps.length (ps.map bsl))] [] (.ints .u8 32 (sumD (cat ps))) []:=by
  refine fn0 mix [] 0 1 [.cell 2 25] Tryz.func167 rfl (by kernel_rfl) (by kernel_rfl) rfl (by kernel_rfl) (by kernel_rfl) (by simp) ?_
  simp -implicitDefEqProofs (disch:=omega) only [go_sem,↓reduceIte]
  refine callF 2 new_abs ?_
  simp -implicitDefEqProofs (disch:=omega) only [go_sem,↓reduceIte]
  refine loop (ι:=Nat) 3 (fun i => i ≤ ps.length) (fun i => [(7,.sl (.lst 1 ps.length (ps.map bsl))),(8,.int .i64 ps.length),(9,.int .i64 i),(3,.ref 1 []),(2,.ref 0 [])]) (fun i => [(0,.var (.ints .u8 32 (List.replicate 32 0))),(1,.var (.agg [.ints .u32 8 (hst (cat (ps.take i))),.osl 2 [] 1 0 (hrest (cat (ps.take i))).length,.int .i64 (cat (ps.take i)).length])),(2,.row (.ints .u8 (hrest (cat (ps.take i))).length (hrest (cat (ps.take i)))))]) (fun i => ps.length - i) 0 [(0,0),(1,1),(2,2)] [] (Nat.zero_le _) rfl ?_ ?_ ?_ (fun i hi => ?_)
  · simp -implicitDefEqProofs (disch:=omega) only [go_sem,↓reduceIte]
  · simp -implicitDefEqProofs (disch:=omega) only [go_sem,↓reduceIte]
  · simp -implicitDefEqProofs (disch:=omega) only [go_sem,↓reduceIte,List.take_zero,cat,List.flatMap_nil]
  simp -implicitDefEqProofs (disch:=omega) only [go_sem,↓reduceIte]
  refine brd (fun h3 => ?_) (fun h3 => ?_)
  · have hi':=List.getElem?_eq_getElem (show i < ps.length by omega)
    have hb:=h _ (List.getElem_mem (show i < ps.length by omega))
    have hs:=cat_succ hi'
    have hg:=fun K => getP_map (f:=bsl) hi' K
    generalize ps[i]'(show i < ps.length by omega) = b at *
    have h1:=cat_le ps i
    have h2:=cat_le ps (i + 1)
    rw [hs,List.length_append] at h2
    simp -implicitDefEqProofs (disch:=omega) only [go_sem,↓reduceIte,hg,bsl]
    refine callG false [(0,1),(1,2)] [(0,1),(1,3)] 4 (write_abs (cat (ps.take i)) b (cat_mem h i) hb (by omega) (by omega)) ?_ ?_
    · simp [keys]
    simp -implicitDefEqProofs (disch:=omega) only [go_sem,↓reduceIte]
    refine ⟨i + 1,[(0,0),(1,1),(2,3)],[],[],by dsimp only; omega,by dsimp only; omega,rfl,?_,?_,?_⟩ <;> simp -implicitDefEqProofs (disch:=omega) only [go_sem,↓reduceIte,hs]
  obtain rfl : i = ps.length:=by omega
  rw [List.take_length]
  simp -implicitDefEqProofs (disch:=omega) only [go_sem,↓reduceIte]
  have hm:=cat_mem h ps.length
  rw [List.take_length] at hm
  refine callG false [(0,1),(1,2)] [(0,1),(1,3)] 4 (sum_abs (cat ps) hm (by omega)) ?_ ?_
  · simp [keys]
  simp -implicitDefEqProofs (disch:=omega) only [go_sem,↓reduceIte]
theorem tail_law (n : Int) (hn : 0 ≤ n) : be (n / 32) 7 ++ [n % 32 * 8 % 256] = be (n * 8) 8:=by
  rw [be_snoc (n * 8) 7,show n * 8 / 256 = n / 32 by omega,show n * 8 % 256 = n % 32 * 8 % 256 by omega]
theorem padded_spec (b : List Int) (hb : b.length ≤ 1000000) : FnC Tryz.prog 153 [.sl (.ints .u8 b.length b)] [] (.osl 0 [] 1 0 (b ++ padN b.length).length) [(0,.row (.ints .u8 (b ++ padN b.length).length (b ++ padN b.length)))]:=by
  refine fnN mix [] 0 1 [.tmp 2] Tryz.func153 rfl (by kernel_rfl) (by kernel_rfl) rfl (by kernel_rfl) (by kernel_rfl) (by simp) ?_
  simp -implicitDefEqProofs (disch:=omega) only [go_sem,↓reduceIte]
  refine loop (ι:=Nat) 4 (fun z => z ≤ (119 - b.length % 64) % 64) (fun z => [(0,.sl (.ints .u8 b.length b)),(3,.osl 3 [] 1 0 (b.length + 1 + z))]) (fun z => [(3,.row (.ints .u8 (b.length + 1 + z) (b ++ (128 :: List.replicate z 0))))]) (fun z => (119 - b.length % 64) % 64 - z) 0 [(3,3)] [] (Nat.zero_le _) rfl ?_ ?_ ?_ (fun z hz => ?_)
  · simp -implicitDefEqProofs (disch:=omega) only [go_sem,↓reduceIte]
  · simp -implicitDefEqProofs (disch:=omega) only [go_sem,↓reduceIte]
  · simp -implicitDefEqProofs (disch:=omega) only [go_sem,↓reduceIte]
  simp -implicitDefEqProofs (disch:=omega) only [go_sem,↓reduceIte]
  have t1 : ((b.length : Int) + 1 + z).tmod 64 = (b.length + 1 + z) % 64:=Int.tmod_eq_emod_of_nonneg (by omega)
  rw [t1]
  refine brd (fun h => ?_) (fun h => ?_)
  case' refine_2 =>
    have hr1 : b ++ 128 :: List.replicate z (0 : Int) ++ [0] = b ++ 128 :: List.replicate (z + 1) 0:=by rw [List.replicate_succ',List.append_assoc]; rfl
    simp -implicitDefEqProofs (disch:=omega) only [go_sem,↓reduceIte,hr1]
    refine ⟨z + 1,[(3,5)],[],[],by dsimp only; omega,by dsimp only; omega,rfl,?_,?_,?_⟩ <;> simp -implicitDefEqProofs (disch:=omega) only [go_sem,↓reduceIte,Nat.add_assoc]
  obtain rfl : z = (119 - b.length % 64) % 64:=by omega
  have hpd : padN b.length = 128 :: (List.replicate ((119 - b.length % 64) % 64) 0 ++ be ((b.length : Int) * 8) 8):=rfl
  have d1 : (b.length : Int).tmod 32 = (b.length : Int) % 32:=Int.tmod_eq_emod_of_nonneg (by omega)
  have d2 : (b.length : Int).tdiv 32 = (b.length : Int) / 32:=Int.tdiv_eq_ediv_of_nonneg (by omega)
  clear t1 h hz
  have hz : (119 - b.length % 64) % 64 < 64:=by omega
  generalize (119 - b.length % 64) % 64 = z at *
  simp -implicitDefEqProofs (disch:=omega) only [go_sem,↓reduceIte,d1,d2,u8_mod]
  refine loop (ι:=Nat) 6 (fun c => c ≤ 7) (fun c => [(3,.osl 3 [] 1 0 (b.length + 1 + z)),(4,.int .i64 ((b.length : Int) / 32 / 256 ^ c)),(5,.osl 5 [] 1 0 (c + 1)),(7,.int .i64 c)]) (fun c => [(3,.row (.ints .u8 (b.length + 1 + z) (b ++ (128 :: List.replicate z 0)))),(5,.row (.ints .u8 (c + 1) (be ((b.length : Int) / 32) c ++ [(b.length : Int) % 32 * 8 % 256])))]) (fun c => 7 - c) 0 [(3,3),(5,5)] [] (Nat.zero_le _) rfl ?_ ?_ ?_ (fun c hc => ?_)
  · simp -implicitDefEqProofs (disch:=omega) only [go_sem,↓reduceIte]
  · simp -implicitDefEqProofs (disch:=omega) only [go_sem,↓reduceIte,Int.pow_zero,Int.ediv_one]
  · simp -implicitDefEqProofs (disch:=omega) only [go_sem,↓reduceIte,be,List.nil_append]
  simp -implicitDefEqProofs (disch:=omega) only [go_sem,↓reduceIte]
  refine brd (fun h => ?_) (fun h => ?_)
  · have hp : 0 ≤ (b.length : Int) / 32 / 256 ^ c:=Int.ediv_nonneg (by omega) (Int.le_of_lt (Int.pow_pos (by decide)))
    have hp2 : (b.length : Int) / 32 / 256 ^ c ≤ (b.length : Int) / 32:=Int.ediv_le_self _ (by omega)
    have e1 : ((b.length : Int) / 32 / 256 ^ c).tmod 256 = (b.length : Int) / 32 / 256 ^ c % 256:=Int.tmod_eq_emod_of_nonneg hp
    have e2 : ((b.length : Int) / 32 / 256 ^ c).tdiv 256 = (b.length : Int) / 32 / 256 ^ (c + 1):=by rw [Int.tdiv_eq_ediv_of_nonneg hp]; exact pow_next _ c
    have hq : 0 ≤ (b.length : Int) / 32 / 256 ^ (c + 1):=Int.ediv_nonneg (by omega) (Int.le_of_lt (Int.pow_pos (by decide)))
    have hq2 : (b.length : Int) / 32 / 256 ^ (c + 1) ≤ (b.length : Int) / 32:=Int.ediv_le_self _ (by omega)
    have e3 : 1 + (c + 1) = c + 1 + 1:=by omega
    simp -implicitDefEqProofs (disch:=omega) only [go_sem,↓reduceIte,e1,e2]
    refine ⟨c + 1,[(3,3),(5,7)],[],[],by dsimp only; omega,by dsimp only; omega,rfl,?_,?_,?_⟩ <;> simp -implicitDefEqProofs (disch:=omega) only [go_sem,↓reduceIte,e3,be]
  obtain rfl : c = 7:=by omega
  rw [tail_law _ (by omega)]
  have hlen : (b ++ padN b.length).length = b.length + 1 + z + 8:=by rw [hpd]; simp [be_len]; omega
  have hl2 : b ++ (128 :: List.replicate z 0) ++ be ((b.length : Int) * 8) 8 = b ++ padN b.length:=by rw [hpd,List.append_assoc]; rfl
  simp -implicitDefEqProofs (disch:=omega) only [go_sem,↓reduceIte]
  refine ⟨[(0,6)],[],[],rfl,?_,?_,?_⟩ <;> simp -implicitDefEqProofs (disch:=omega) only [go_sem,↓reduceIte,hlen,hl2]
end Go.Proofs.YtololahjocfbeaaGreat
