/- Texts,joined. -/
import Derived.Test.YtololahjocfbeaaGreatD17
namespace Go.Proofs.YtololahjocfbeaaGreat
open Go Go.Sy Go.Proofs.Tryz
set_option maxRecDepth 100000
set_option maxHeartbeats 8000000
set_option linter.unusedSimpArgs false
set_option linter.unusedVariables false
attribute [go_sem] pl142
theorem sumD_len (X : List Int) : (sumD X).length = 32:=by
  show (bytesA _).length = 32
  rw [bytesA_len,runB_len _ init_len]
theorem bytesA_mem (ws : List Int) : ∀ x ∈ bytesA ws,0 ≤ x ∧ x < 256:=by
  intro x hx
  obtain ⟨w,_,hx⟩:=List.mem_flatMap.1 hx
  exact be_mem _ _ x hx
theorem sumD_mem (X : List Int) : ∀ x ∈ sumD X,0 ≤ x ∧ x < 256:=bytesA_mem _
theorem ixor_u8 {a b : Int} (ha : 0 ≤ a ∧ a < 256) (hb : 0 ≤ b ∧ b < 256) : ixor .u8 a b = ((a.toNat ^^^ b.toNat : Nat) : Int) ∧ 0 ≤ ixor .u8 a b ∧ ixor .u8 a b < 256:=by
  have e:=ixor_nat (k:=.u8) ha.1 (by show _ < (2 : Int) ^ 8; omega) hb.1 (by show _ < (2 : Int) ^ 8; omega)
  have h : a.toNat ^^^ b.toNat < 2 ^ 8:=Nat.xor_lt_two_pow (by omega) (by omega)
  rw [wrap_u8 (by omega) (by omega)] at e
  rw [e]
  omega
theorem app_mem {p : Int → Prop} {a b : List Int} (ha : ∀ x ∈ a,p x) (hb : ∀ x ∈ b,p x) : ∀ x ∈ a ++ b,p x:=fun x hx => by
  rcases List.mem_append.1 hx with hx | hx
  · exact ha x hx
  · exact hb x hx
def k64 (key : List Int) : List Int:=if 64 < key.length then sumD key ++ List.replicate 32 0 else key ++ List.replicate (64 - key.length) 0
def pad (key : List Int) (x : Int) : List Int:=(k64 key).map fun y => ixor .u8 y x
theorem k64_len (key : List Int) : (k64 key).length = 64:=by
  unfold k64
  split
  · simp [sumD_len]
  · simp; omega
theorem k64_mem {key : List Int} (h : ∀ x ∈ key,0 ≤ x ∧ x < 256) : ∀ x ∈ k64 key,0 ≤ x ∧ x < 256:=by
  intro x hx
  unfold k64 at hx
  split at hx
  · rcases List.mem_append.1 hx with hx | hx
    · exact sumD_mem _ x hx
    · rw [List.mem_replicate] at hx; omega
  · rcases List.mem_append.1 hx with hx | hx
    · exact h x hx
    · rw [List.mem_replicate] at hx; omega
theorem pad_len (key : List Int) (x : Int) : (pad key x).length = 64:=by rw [pad,List.length_map,k64_len]
theorem pad_mem {key : List Int} (h : ∀ x ∈ key,0 ≤ x ∧ x < 256) {y : Int} (hy : 0 ≤ y ∧ y < 256) : ∀ x ∈ pad key y,0 ≤ x ∧ x < 256:=by
  intro x hx
  obtain ⟨z,hz,rfl⟩:=List.mem_map.1 hx
  exact (ixor_u8 (k64_mem h z hz) hy).2
theorem pad_get (key : List Int) (x : Int) {i : Nat} (h : i < 64) : (pad key x).getD i 0 = ixor .u8 ((k64 key).getD i 0) x:=by
  simp only [List.getD,pad,List.getElem?_map,List.getElem?_eq_getElem (show i < (k64 key).length by rw [k64_len]; exact h),Option.map_some,Option.getD_some]
theorem mix_get {a b : List Int} {i n : Nat} (ha : a.length = n) (hb : b.length = n) (h : i < n) : (a.take i ++ b.drop i).getD i 0 = b.getD i 0:=by
  simp only [List.getD]
  rw [List.getElem?_append_right (by rw [List.length_take]; omega),List.length_take,List.getElem?_drop]
  congr 2; omega
theorem mix_set {a b : List Int} {i n : Nat} (ha : a.length = n) (hb : b.length = n) (h : i < n) : (a.take i ++ b.drop i).set i (a.getD i 0) = a.take (i + 1) ++ b.drop (i + 1):=by
  have hd : b.drop i = b[i]'(by omega) :: b.drop (i + 1):=List.drop_eq_getElem_cons (by omega)
  have ht : (a.take i).length = i:=by rw [List.length_take]; omega
  rw [hd,List.set_append_right _ _ (by omega),ht,Nat.sub_self,List.set_cons_zero,← take_next (show i < a.length by omega),List.append_assoc]
  rfl
theorem padded_spec02 (key : List Int) (x : Int) (n : Nat) (hn : key.length = n) (hb : ∀ x ∈ key,0 ≤ x ∧ x < 256) (hl : n ≤ 1000000) : FnC Tryz.prog 206 [.sl (.ints .u8 n key),.int .u8 x] [] (.osl 0 [] 1 0 64) [(0,.row (.ints .u8 64 (pad key x)))]:=by
  have hkl:=k64_len key
  have hpl:=pad_len key x
  have rd : (List.replicate 64 (0 : Int)).drop 32 = List.replicate 32 0:=rfl
  have rdn : (List.replicate 64 (0 : Int)).drop n = List.replicate (64 - n) 0:=List.drop_replicate
  refine fnN mix [] 0 2 [.tmp 4] Tryz.func206 rfl (by kernel_rfl) (by kernel_rfl) rfl (by kernel_rfl) (by kernel_rfl) (by simp) ?_
  simp -implicitDefEqProofs (disch:=omega) only [go_sem,↓reduceIte]
  refine brd (fun h => ?_) (fun h => ?_)
  · have hk : k64 key = sumD key ++ List.replicate 32 0:=by unfold k64; rw [if_pos (by omega)]
    have h1:=sums_spec [key] (by simpa using hb) (by simp [cat]; omega) (by simp)
    have hc : cat [key] = key:=by simp [cat]
    rw [hc] at h1
    simp -implicitDefEqProofs (disch:=omega) only [go_sem,↓reduceIte]
    refine callB h1 ?_ ?_
    · simp -implicitDefEqProofs (disch:=omega) only [go_sem,↓reduceIte,bsl,hn]
    simp -implicitDefEqProofs (disch:=omega) only [go_sem,↓reduceIte,rd]
    rw [← hk]
    refine loop (ι:=Nat) 3 (fun i => i ≤ 64) (fun i => [(1,.int .u8 x),(6,.osl 2 [] 1 0 64),(20,.int .i64 64),(21,.int .i64 i)]) (fun i => [(2,.row (.ints .u8 64 ((pad key x).take i ++ (k64 key).drop i)))]) (fun i => 64 - i) 0 [(2,2)] [] (Nat.zero_le _) rfl ?_ ?_ ?_ (fun i hi => ?_)
    · simp -implicitDefEqProofs (disch:=omega) only [go_sem,↓reduceIte]
    · simp -implicitDefEqProofs (disch:=omega) only [go_sem,↓reduceIte]
    · simp -implicitDefEqProofs (disch:=omega) only [go_sem,↓reduceIte,List.take_zero,List.drop_zero,List.nil_append]
    simp -implicitDefEqProofs (disch:=omega) only [go_sem,↓reduceIte]
    refine brd (fun h => ?_) (fun h => ?_)
    · have e1:=mix_get hpl hkl (show i < 64 by omega)
      have e2:=mix_set hpl hkl (show i < 64 by omega)
      rw [pad_get key x (show i < 64 by omega)] at e2
      simp -implicitDefEqProofs (disch:=omega) only [go_sem,↓reduceIte,e1,e2]
      refine ⟨i + 1,[(2,2)],[],[],by dsimp only; omega,by dsimp only; omega,rfl,?_,?_,?_⟩ <;> simp -implicitDefEqProofs (disch:=omega) only [go_sem,↓reduceIte,e2]
    obtain rfl : i = 64:=by omega
    have e3 : (pad key x).take 64 ++ (k64 key).drop 64 = pad key x:=by rw [List.take_of_length_le (by omega),List.drop_of_length_le (by omega),List.append_nil]
    rw [e3]
    simp -implicitDefEqProofs (disch:=omega) only [go_sem,↓reduceIte]
    refine ⟨[(0,2)],[],[],rfl,?_,?_,?_⟩ <;> simp -implicitDefEqProofs (disch:=omega) only [go_sem,↓reduceIte]
  · have hk : k64 key = key ++ List.replicate (64 - n) 0:=by unfold k64; rw [if_neg (by omega),hn]
    simp -implicitDefEqProofs (disch:=omega) only [go_sem,↓reduceIte]
    refine brd (fun h0 => ?_) (fun h0 => ?_)
    · have e0 : List.replicate 64 (0 : Int) = k64 key:=by
        rw [hk,List.eq_nil_of_length_eq_zero (show key.length = 0 by omega),h0]; rfl
      rw [e0]
      simp -implicitDefEqProofs (disch:=omega) only [go_sem,↓reduceIte]
      refine loop (ι:=Nat) 1 (fun i => i ≤ 64) (fun i => [(1,.int .u8 x),(6,.osl 0 [] 1 0 64),(20,.int .i64 64),(21,.int .i64 i)]) (fun i => [(0,.row (.ints .u8 64 ((pad key x).take i ++ (k64 key).drop i)))]) (fun i => 64 - i) 0 [(0,0)] [] (Nat.zero_le _) rfl ?_ ?_ ?_ (fun i hi => ?_)
      · simp -implicitDefEqProofs (disch:=omega) only [go_sem,↓reduceIte]
      · simp -implicitDefEqProofs (disch:=omega) only [go_sem,↓reduceIte]
      · simp -implicitDefEqProofs (disch:=omega) only [go_sem,↓reduceIte,List.take_zero,List.drop_zero,List.nil_append]
      simp -implicitDefEqProofs (disch:=omega) only [go_sem,↓reduceIte]
      refine brd (fun h => ?_) (fun h => ?_)
      · have e1:=mix_get hpl hkl (show i < 64 by omega)
        have e2:=mix_set hpl hkl (show i < 64 by omega)
        rw [pad_get key x (show i < 64 by omega)] at e2
        simp -implicitDefEqProofs (disch:=omega) only [go_sem,↓reduceIte,e1,e2]
        refine ⟨i + 1,[(0,0)],[],[],by dsimp only; omega,by dsimp only; omega,rfl,?_,?_,?_⟩ <;> simp -implicitDefEqProofs (disch:=omega) only [go_sem,↓reduceIte,e2]
      obtain rfl : i = 64:=by omega
      have e3 : (pad key x).take 64 ++ (k64 key).drop 64 = pad key x:=by rw [List.take_of_length_le (by omega),List.drop_of_length_le (by omega),List.append_nil]
      rw [e3]
      simp -implicitDefEqProofs (disch:=omega) only [go_sem,↓reduceIte]
      refine ⟨[(0,0)],[],[],rfl,?_,?_,?_⟩ <;> simp -implicitDefEqProofs (disch:=omega) only [go_sem,↓reduceIte]
    · simp -implicitDefEqProofs (disch:=omega) only [go_sem,↓reduceIte]
      refine brd (fun h1 => ?_) (fun h1 => by omega)
      simp -implicitDefEqProofs (disch:=omega) only [go_sem,↓reduceIte,rdn]
      rw [← hk]
      refine loop (ι:=Nat) 1 (fun i => i ≤ 64) (fun i => [(1,.int .u8 x),(6,.osl 0 [] 1 0 64),(20,.int .i64 64),(21,.int .i64 i)]) (fun i => [(0,.row (.ints .u8 64 ((pad key x).take i ++ (k64 key).drop i)))]) (fun i => 64 - i) 0 [(0,0)] [] (Nat.zero_le _) rfl ?_ ?_ ?_ (fun i hi => ?_)
      · simp -implicitDefEqProofs (disch:=omega) only [go_sem,↓reduceIte]
      · simp -implicitDefEqProofs (disch:=omega) only [go_sem,↓reduceIte]
      · simp -implicitDefEqProofs (disch:=omega) only [go_sem,↓reduceIte,List.take_zero,List.drop_zero,List.nil_append]
      simp -implicitDefEqProofs (disch:=omega) only [go_sem,↓reduceIte]
      refine brd (fun h => ?_) (fun h => ?_)
      · have e1:=mix_get hpl hkl (show i < 64 by omega)
        have e2:=mix_set hpl hkl (show i < 64 by omega)
        rw [pad_get key x (show i < 64 by omega)] at e2
        simp -implicitDefEqProofs (disch:=omega) only [go_sem,↓reduceIte,e1,e2]
        refine ⟨i + 1,[(0,0)],[],[],by dsimp only; omega,by dsimp only; omega,rfl,?_,?_,?_⟩ <;> simp -implicitDefEqProofs (disch:=omega) only [go_sem,↓reduceIte,e2]
      obtain rfl : i = 64:=by omega
      have e3 : (pad key x).take 64 ++ (k64 key).drop 64 = pad key x:=by rw [List.take_of_length_le (by omega),List.drop_of_length_le (by omega),List.append_nil]
      rw [e3]
      simp -implicitDefEqProofs (disch:=omega) only [go_sem,↓reduceIte]
      refine ⟨[(0,0)],[],[],rfl,?_,?_,?_⟩ <;> simp -implicitDefEqProofs (disch:=omega) only [go_sem,↓reduceIte]
theorem sums2 {a b : List Int} (ha : ∀ x ∈ a,0 ≤ x ∧ x < 256) (hb : ∀ x ∈ b,0 ≤ x ∧ x < 256) (hn : a.length + b.length ≤ 1000000) : FnC Tryz.prog 167 [.sl (.lst 1 2 [bsl a,bsl b])] [] (.ints .u8 32 (sumD (a ++ b))) []:=by
  have:=sums_spec [a,b] (by intro p hp; simp only [List.mem_cons,List.not_mem_nil,or_false] at hp; rcases hp with rfl | rfl <;> assumption) (by simpa [cat] using hn) (by simp)
  have hc : cat [a,b] = a ++ b:=by simp [cat]
  rw [hc] at this
  exact this
def code (key text : List Int) : List Int:=sumD (pad key 92 ++ sumD (pad key 54 ++ text))
theorem code_spec (key : List Int) (ps : List (List Int)) (n : Nat) (hn : key.length = n) (hk : ∀ x ∈ key,0 ≤ x ∧ x < 256) (hp : ∀ p ∈ ps,∀ x ∈ p,0 ≤ x ∧ x < 256) (hl : n ≤ 100000) (hc : (cat ps).length ≤ 100000) (hps : ps.length ≤ 100000) :
    FnC Tryz.prog 142 [.sl (.ints .u8 n key),.sl (.lst 1 ps.length (ps.map bsl))] [] (.ints .u8 32 (code key (cat ps))) []:=by
  have hm1:=pad_mem hk (show (0 : Int) ≤ 54 ∧ (54 : Int) < 256 by omega)
  have hm2:=pad_mem hk (show (0 : Int) ≤ 92 ∧ (92 : Int) < 256 by omega)
  have hl1:=pad_len key 54
  have hl2:=pad_len key 92
  have h1:=sums_spec (pad key 54 :: ps) (fun p h => by
    rcases List.mem_cons.1 h with rfl | h
    · exact hm1
    · exact hp p h) (by simp only [cat,List.flatMap_cons,List.length_append,id] at hc ⊢; omega) (by simp only [List.length_cons]; omega)
  have hcc : cat (pad key 54 :: ps) = pad key 54 ++ cat ps:=by simp [cat]
  rw [hcc] at h1
  have hsl:=sumD_len (pad key 54 ++ cat ps)
  have h2:=sums2 hm2 (sumD_mem (pad key 54 ++ cat ps)) (by rw [hl2,hsl]; decide)
  have e1 : (pad key 54 :: ps).length = 1 + ps.length:=by rw [List.length_cons]; omega
  refine fn0 mix pl142 0 2 [.cell 4 25] Tryz.func142 rfl (by kernel_rfl) (by kernel_rfl) rfl (by kernel_rfl) (by kernel_rfl) (by simp) ?_
  simp -implicitDefEqProofs (disch:=omega) only [go_sem,↓reduceIte]
  refine callF 1 (padded_spec02 key 54 n hn hk (by omega)) ?_
  simp -implicitDefEqProofs (disch:=omega) only [go_sem,↓reduceIte]
  refine callB h1 ?_ ?_
  · simp -implicitDefEqProofs (disch:=omega) only [go_sem,↓reduceIte,bsl,hl1,e1,List.singleton_append]
  simp -implicitDefEqProofs (disch:=omega) only [go_sem,↓reduceIte]
  refine callF 1 (padded_spec02 key 92 n hn hk (by omega)) ?_
  simp -implicitDefEqProofs (disch:=omega) only [go_sem,↓reduceIte]
  refine callB h2 ?_ ?_
  · simp -implicitDefEqProofs (disch:=omega) only [go_sem,↓reduceIte,bsl,hl2,hsl]
  simp -implicitDefEqProofs (disch:=omega) only [go_sem,↓reduceIte,code]
def un (a b : List Int) : Nat → Int
  | 0 => 0
  | i + 1 => ior .u8 (un a b i) (ixor .u8 (a.getD i 0) (b.getD i 0))
attribute [go_sem] pl170 pl202 pl235 pl245 pl246 pl266
def ofD (n : Int) (key m : List Int) : List Int:=sumD (be n 32 ++ (key ++ m))
theorem ofD_len (n : Int) (key m : List Int) : (ofD n key m).length = 32:=sumD_len _
theorem ofD_mem (n : Int) (key m : List Int) : ∀ x ∈ ofD n key m,0 ≤ x ∧ x < 256:=sumD_mem _
def maskD (a b : List Int) : List Int:=List.zipWith (ixor .u8) a b
theorem maskD_len {a b : List Int} (ha : a.length = 32) (hb : b.length = 32) : (maskD a b).length = 32:=by simp [maskD,ha,hb]
theorem maskD_get {a b : List Int} {i : Nat} (ha : i < a.length) (hb : i < b.length) : (maskD a b).getD i 0 = ixor .u8 (a.getD i 0) (b.getD i 0):=by
  simp [maskD,List.getD,List.getElem?_zipWith,List.getElem?_eq_getElem ha,List.getElem?_eq_getElem hb]
theorem maskD_mem : ∀ {a b : List Int},(∀ x ∈ a,0 ≤ x ∧ x < 256) → (∀ x ∈ b,0 ≤ x ∧ x < 256) → ∀ x ∈ maskD a b,0 ≤ x ∧ x < 256
  | [],_,_,_,x,h => by simp [maskD] at h
  | _ :: _,[],_,_,x,h => by simp [maskD] at h
  | u :: a,v :: b,ha,hb,x,h => by
    simp only [maskD,List.zipWith_cons_cons,List.mem_cons] at h
    rcases h with rfl | h
    · exact (ixor_u8 (ha u (by simp)) (hb v (by simp))).2
    · exact maskD_mem (fun z hz => ha z (by simp [hz])) (fun z hz => hb z (by simp [hz])) x h
theorem ahead_spec (n : Int) : FnC Tryz.prog 216 [.int .u64 n] [] (.osl 0 [] 1 0 32) [(0,.row (.ints .u8 32 (be n 32)))]:=by
  refine fnN mix [] 0 1 [.tmp 2] Tryz.func216 rfl (by kernel_rfl) (by kernel_rfl) rfl (by kernel_rfl) (by kernel_rfl) (by simp) ?_
  simp -implicitDefEqProofs (disch:=omega) only [go_sem,↓reduceIte]
  refine callF 1 (number_spec n 32 32 rfl) ?_
  simp -implicitDefEqProofs (disch:=omega) only [go_sem,↓reduceIte]
  refine ⟨[(0,0)],[],[],rfl,?_,?_,?_⟩ <;> simp -implicitDefEqProofs (disch:=omega) only [go_sem,↓reduceIte]
theorem sums3 {a b c : List Int} (ha : ∀ x ∈ a,0 ≤ x ∧ x < 256) (hb : ∀ x ∈ b,0 ≤ x ∧ x < 256) (hc : ∀ x ∈ c,0 ≤ x ∧ x < 256) (hn : a.length + b.length + c.length ≤ 1000000) : FnC Tryz.prog 167 [.sl (.lst 1 3 [bsl a,bsl b,bsl c])] [] (.ints .u8 32 (sumD (a ++ (b ++ c)))) []:=by
  have:=sums_spec [a,b,c] (by intro p hp; simp only [List.mem_cons,List.not_mem_nil,or_false] at hp; rcases hp with rfl | rfl | rfl <;> assumption) (by simp [cat]; omega) (by simp)
  have hc : cat [a,b,c] = a ++ (b ++ c):=by simp [cat]
  rw [hc] at this
  exact this
theorem sums4 {a b c d : List Int} (ha : ∀ x ∈ a,0 ≤ x ∧ x < 256) (hb : ∀ x ∈ b,0 ≤ x ∧ x < 256) (hc : ∀ x ∈ c,0 ≤ x ∧ x < 256) (hd : ∀ x ∈ d,0 ≤ x ∧ x < 256) (hn : a.length + b.length + c.length + d.length ≤ 1000000) : FnC Tryz.prog 167 [.sl (.lst 1 4 [bsl a,bsl b,bsl c,bsl d])] [] (.ints .u8 32 (sumD (a ++ (b ++ (c ++ d))))) []:=by
  have:=sums_spec [a,b,c,d] (by intro p hp; simp only [List.mem_cons,List.not_mem_nil,or_false] at hp; rcases hp with rfl | rfl | rfl | rfl <;> assumption) (by simp [cat]; omega) (by simp)
  have hc : cat [a,b,c,d] = a ++ (b ++ (c ++ d)):=by simp [cat]
  rw [hc] at this
  exact this
theorem f_spec (key m : List Int) (hk : key.length = 32) (hm : m.length = 32) (hk' : ∀ x ∈ key,0 ≤ x ∧ x < 256) (hm' : ∀ x ∈ m,0 ≤ x ∧ x < 256) : FnC Tryz.prog 266 [.ints .u8 32 key,.ints .u8 32 m] [] (.ints .u8 32 (ofD 0 key m)) []:=by
  have hl:=be_len 0 32
  refine fn0 mix pl266 0 2 [.cell 4 25] Tryz.func266 rfl (by kernel_rfl) (by kernel_rfl) rfl (by kernel_rfl) (by kernel_rfl) (by simp) ?_
  simp -implicitDefEqProofs (disch:=omega) only [go_sem,↓reduceIte]
  refine callF 1 (ahead_spec 0) ?_
  simp -implicitDefEqProofs (disch:=omega) only [go_sem,↓reduceIte]
  refine callB (sums3 (be_mem 0 32) hk' hm' (by omega)) ?_ ?_
  · simp -implicitDefEqProofs (disch:=omega) only [go_sem,↓reduceIte,bsl,hk,hm,hl]
  simp -implicitDefEqProofs (disch:=omega) only [go_sem,↓reduceIte,ofD]
theorem h_spec (key a b : List Int) (hk : key.length = 32) (ha : a.length = 32) (hb : b.length = 32) (hk' : ∀ x ∈ key,0 ≤ x ∧ x < 256) (ha' : ∀ x ∈ a,0 ≤ x ∧ x < 256) (hb' : ∀ x ∈ b,0 ≤ x ∧ x < 256) : FnC Tryz.prog 245 [.ints .u8 32 key,.ints .u8 32 a,.ints .u8 32 b] [] (.ints .u8 32 (ofD 1 key (a ++ b))) []:=by
  have hl:=be_len 1 32
  refine fn0 mix pl245 0 3 [.cell 6 25] Tryz.func245 rfl (by kernel_rfl) (by kernel_rfl) rfl (by kernel_rfl) (by kernel_rfl) (by simp) ?_
  simp -implicitDefEqProofs (disch:=omega) only [go_sem,↓reduceIte]
  refine callF 1 (ahead_spec 1) ?_
  simp -implicitDefEqProofs (disch:=omega) only [go_sem,↓reduceIte]
  refine callB (sums4 (be_mem 1 32) hk' ha' hb' (by omega)) ?_ ?_
  · simp -implicitDefEqProofs (disch:=omega) only [go_sem,↓reduceIte,bsl,hk,ha,hb,hl]
  simp -implicitDefEqProofs (disch:=omega) only [go_sem,↓reduceIte,ofD]
theorem prf_spec (key m : List Int) (n : Nat) (hk : key.length = 32) (hm : m.length = n) (hn : n ≤ 100000) (hk' : ∀ x ∈ key,0 ≤ x ∧ x < 256) (hm' : ∀ x ∈ m,0 ≤ x ∧ x < 256) : FnC Tryz.prog 202 [.ints .u8 32 key,.sl (.ints .u8 n m)] [] (.ints .u8 32 (ofD 3 key m)) []:=by
  have hl:=be_len 3 32
  refine fn0 mix pl202 0 2 [.cell 4 25] Tryz.func202 rfl (by kernel_rfl) (by kernel_rfl) rfl (by kernel_rfl) (by kernel_rfl) (by simp) ?_
  simp -implicitDefEqProofs (disch:=omega) only [go_sem,↓reduceIte]
  refine callF 1 (ahead_spec 3) ?_
  simp -implicitDefEqProofs (disch:=omega) only [go_sem,↓reduceIte]
  refine callB (sums3 (be_mem 3 32) hk' hm' (by omega)) ?_ ?_
  · simp -implicitDefEqProofs (disch:=omega) only [go_sem,↓reduceIte,bsl,hk,hm,hl]
  simp -implicitDefEqProofs (disch:=omega) only [go_sem,↓reduceIte,ofD]
theorem atk_spec (key ws : List Int) (hk : key.length = 32) (hk' : ∀ x ∈ key,0 ≤ x ∧ x < 256) (hl : ws.length = 8) (hw : ∀ w ∈ ws,0 ≤ w ∧ w < 4294967296) : FnC Tryz.prog 235 [.ints .u8 32 key,.ints .u32 8 ws] [] (.ints .u8 32 (ofD 3 key (bytesA ws))) []:=by
  have hbl:=bytesA_len ws
  refine fn0 mix pl235 0 2 [.cell 4 25] Tryz.func235 rfl (by kernel_rfl) (by kernel_rfl) rfl (by kernel_rfl) (by kernel_rfl) (by simp) ?_
  simp -implicitDefEqProofs (disch:=omega) only [go_sem,↓reduceIte]
  refine callF 1 (bytes_spec ws hl hw) ?_
  simp -implicitDefEqProofs (disch:=omega) only [go_sem,↓reduceIte]
  refine callB (prf_spec key (bytesA ws) 32 hk (by omega) (by decide) hk' (bytesA_mem ws)) ?_ ?_
  · simp -implicitDefEqProofs (disch:=omega) only [go_sem,↓reduceIte]
  simp -implicitDefEqProofs (disch:=omega) only [go_sem,↓reduceIte]
theorem mask_spec (a b : List Int) (ha : a.length = 32) (hb : b.length = 32) : FnC Tryz.prog 246 [.ints .u8 32 a,.ints .u8 32 b] [] (.ints .u8 32 (maskD a b)) []:=by
  have hml:=maskD_len ha hb
  refine fn0 mix pl246 0 2 [.cell 4 25] Tryz.func246 rfl (by kernel_rfl) (by kernel_rfl) rfl (by kernel_rfl) (by kernel_rfl) (by simp) ?_
  simp -implicitDefEqProofs (disch:=omega) only [go_sem,↓reduceIte]
  refine loop (ι:=Nat) 3 (fun i => i ≤ 32) (fun i => [(2,.ref 0 []),(3,.ref 1 []),(4,.ref 2 []),(6,.int .i64 i)]) (fun i => [(0,.var (.ints .u8 32 ((maskD a b).take i ++ a.drop i))),(1,.var (.ints .u8 32 b)),(2,.var (.ints .u8 32 (List.replicate 32 0)))]) (fun i => 32 - i) 0 [(0,0),(1,1),(2,2)] [] (Nat.zero_le _) rfl ?_ ?_ ?_ (fun i hi => ?_)
  · simp -implicitDefEqProofs (disch:=omega) only [go_sem,↓reduceIte]
  · simp -implicitDefEqProofs (disch:=omega) only [go_sem,↓reduceIte]
  · simp -implicitDefEqProofs (disch:=omega) only [go_sem,↓reduceIte]
  simp -implicitDefEqProofs (disch:=omega) only [go_sem,↓reduceIte]
  refine brd (fun h => ?_) (fun h => ?_)
  · have e1:=mix_get hml ha (show i < 32 by omega)
    have e2:=mix_set hml ha (show i < 32 by omega)
    rw [maskD_get (by omega) (by omega)] at e2
    simp -implicitDefEqProofs (disch:=omega) only [go_sem,↓reduceIte,e1,e2]
    refine ⟨i + 1,[(0,0),(1,1),(2,2)],[],[],by dsimp only; omega,by dsimp only; omega,rfl,?_,?_,?_⟩ <;> simp -implicitDefEqProofs (disch:=omega) only [go_sem,↓reduceIte,e2]
  obtain rfl : i = 32:=by omega
  have e3 : (maskD a b).take 32 ++ a.drop 32 = maskD a b:=by rw [List.take_of_length_le (by omega),List.drop_of_length_le (by omega),List.append_nil]
  rw [e3]
  simp -implicitDefEqProofs (disch:=omega) only [go_sem,↓reduceIte]
def msgD (r root : List Int) (index : Int) (m : List Int) : List Int:=ofD 2 r (root ++ (be index 32 ++ m))
theorem message_spec (r root : List Int) (index : Int) (ps : List (List Int)) (hr : r.length = 32) (hr' : ∀ x ∈ r,0 ≤ x ∧ x < 256) (ht : root.length = 32) (ht' : ∀ x ∈ root,0 ≤ x ∧ x < 256)
    (hp : ∀ p ∈ ps,∀ x ∈ p,0 ≤ x ∧ x < 256) (hc : (cat ps).length ≤ 100000) (hps : ps.length ≤ 100000) :
    FnC Tryz.prog 170 [.ints .u8 32 r,.ints .u8 32 root,.int .u64 index,.sl (.lst 1 ps.length (ps.map bsl))] [] (.ints .u8 32 (msgD r root index (cat ps))) []:=by
  have hl1:=be_len 2 32
  have hl2:=be_len index 32
  have h1:=sums_spec (be 2 32 :: r :: root :: be index 32 :: ps) (fun p h => by
    rcases List.mem_cons.1 h with rfl | h
    · exact be_mem 2 32
    rcases List.mem_cons.1 h with rfl | h
    · exact hr'
    rcases List.mem_cons.1 h with rfl | h
    · exact ht'
    rcases List.mem_cons.1 h with rfl | h
    · exact be_mem index 32
    · exact hp p h) (by simp only [cat,List.flatMap_cons,List.length_append,id] at hc ⊢; omega) (by simp only [List.length_cons]; omega)
  have hcc : cat (be 2 32 :: r :: root :: be index 32 :: ps) = be 2 32 ++ (r ++ (root ++ (be index 32 ++ cat ps))):=by simp [cat]
  rw [hcc] at h1
  have e1 : (be 2 32 :: r :: root :: be index 32 :: ps).length = 4 + ps.length:=by simp only [List.length_cons]; omega
  refine fn0 mix pl170 0 4 [.cell 8 25] Tryz.func170 rfl (by kernel_rfl) (by kernel_rfl) rfl (by kernel_rfl) (by kernel_rfl) (by simp) ?_
  simp -implicitDefEqProofs (disch:=omega) only [go_sem,↓reduceIte]
  refine callF 1 (ahead_spec 2) ?_
  simp -implicitDefEqProofs (disch:=omega) only [go_sem,↓reduceIte]
  refine callF 1 (ahead_spec index) ?_
  simp -implicitDefEqProofs (disch:=omega) only [go_sem,↓reduceIte]
  refine callB h1 ?_ ?_
  · simp -implicitDefEqProofs (disch:=omega) only [go_sem,↓reduceIte,bsl,hl1,hl2,hr,ht,e1]
  simp -implicitDefEqProofs (disch:=omega) only [go_sem,↓reduceIte,msgD,ofD]
end Go.Proofs.YtololahjocfbeaaGreat
