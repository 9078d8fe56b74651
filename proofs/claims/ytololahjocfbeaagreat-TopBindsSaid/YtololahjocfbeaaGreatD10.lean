/- Texts,joined. -/
import Derived.Test.YtololahjocfbeaaGreatD06
import Derived.Test.YtololahjocfbeaaGreatD08
namespace Go.Proofs.YtololahjocfbeaaGreat
open Go Go.Sy Go.Proofs.Tryz
set_option maxRecDepth 100000
set_option maxHeartbeats 8000000
set_option linter.unusedSimpArgs false
set_option linter.unusedVariables false
attribute [go_sem] pl154 pl262
theorem rotl_spec (x : Int) (n m : Nat) (hnm : n + m = 32) (hn : 0 < n) (hm : 0 < m) (hx : isW x) : FnC Tryz.prog 272 [.int .u32 x,.int .i64 (-(n : Int))] [] (.int .u32 (rot (2 ^ n) (2 ^ m) x)) []:=by
  have e1 : IntKind.u64.wrap (-(n : Int)) = 18446744073709551616 - n:=by rw [u64_mod]; omega
  have e2 : iand .u64 (18446744073709551616 - (n : Int)) 31 = m:=by
    rw [iand_mask 5 (by decide) (by decide) (by omega) (by show _ < (2 : Int) ^ 64; omega)]
    omega
  have e3 : IntKind.u64.wrap (32 - (m : Int)) = n:=by rw [u64_mod]; omega
  have e4:=rot_left n m hnm hx
  refine fn0 mix [] 0 2 [.tmp 4] Tryz.func272 rfl (by kernel_rfl) (by kernel_rfl) rfl (by kernel_rfl) (by kernel_rfl) (by simp) ?_
  simp -implicitDefEqProofs (disch:=omega) only [go_sem,↓reduceIte,e1,e2,e3,e4]
  omega
theorem turn_spec (x : Int) (n m : Nat) (hnm : n + m = 32) (hn : 0 < n) (hm : 0 < m) (hx : isW x) : FnC Tryz.prog 264 [.int .u32 x,.int .i64 n] [] (.int .u32 (rot (2 ^ n) (2 ^ m) x)) []:=by
  have e1 : IntKind.i64.wrap (0 - (n : Int)) = -(n : Int):=by rw [wrap_i64 (by omega) (by omega)]; omega
  refine fn0 mix [] 0 2 [.tmp 4] Tryz.func264 rfl (by kernel_rfl) (by kernel_rfl) rfl (by kernel_rfl) (by kernel_rfl) (by simp) ?_
  simp -implicitDefEqProofs only [go_sem,↓reduceIte,e1]
  refine call0 (rotl_spec x n m hnm hn hm hx) ?_
  simp -implicitDefEqProofs (disch:=omega) only [go_sem,↓reduceIte]
theorem right_spec (x p q : Int) (h : p * q = 4294967296) (hp : 0 < p) (hq : 0 < q) (hx : isW x) : FnC Tryz.prog 154 [.int .u32 x,.int .u32 p,.int .u32 q] [] (.int .u32 (rot p q x)) []:=by
  have e:=rot_right h hp hq hx
  refine fn0 mix pl154 0 3 [.tmp 6] Tryz.func154 rfl (by kernel_rfl) (by kernel_rfl) rfl (by kernel_rfl) (by kernel_rfl) (by simp) ?_
  have e0 : IntKind.u32.wrap (x.tdiv p) = x.tdiv p:=by
    obtain ⟨h1,h2,h3,h4⟩:=rot_bound h hp hq hx
    rw [Int.tdiv_eq_ediv_of_nonneg hx.1]
    exact wrap_u32 h1 (by omega)
  simp -implicitDefEqProofs (disch:=omega) only [go_sem,↓reduceIte]
  rw [e0,e]
def kk : List Int:=[1116352408,1899447441,3049323471,3921009573,961987163,1508970993,2453635748,2870763221,3624381080,310598401,607225278,1426881987,1925078388,2162078206,2614888103,3248222580,3835390401,4022224774,264347078,604807628,770255983,1249150122,1555081692,1996064986,2554220882,2821834349,2952996808,3210313671,3336571891,3584528711,113926993,338241895,666307205,773529912,1294757372,1396182291,1695183700,1986661051,2177026350,2456956037,2730485921,2820302411,3259730800,3345764771,3516065817,3600352804,4094571909,275423344,430227734,506948616,659060556,883997877,958139571,1322822218,1537002063,1747873779,1955562222,2024104815,2227730452,2361852424,2428436474,2756734187,3204031479,3329325298]
theorem keys_spec : FnC Tryz.prog 263 [] [] (.ints .u32 64 kk) []:=by
  refine fn0 mix [] 0 0 [.cell 0 392] Tryz.func263 rfl (by kernel_rfl) (by kernel_rfl) rfl (by kernel_rfl) (by kernel_rfl) (by simp) ?_
  simp -implicitDefEqProofs (disch:=omega) only [go_sem,↓reduceIte,kk]
theorem refkeys_spec : FnC Tryz.prog 152 [] [] (.osl 0 [] 1 0 64) [(0,.row (.ints .u32 64 kk))]:=by
  refine fnN mix [] 0 0 [.tmp 0] Tryz.func152 rfl (by kernel_rfl) (by kernel_rfl) rfl (by kernel_rfl) (by kernel_rfl) (by simp) ?_
  simp -implicitDefEqProofs (disch:=omega) only [go_sem,↓reduceIte]
  refine ⟨[(0,0)],[],[],rfl,?_,?_,?_⟩ <;> simp -implicitDefEqProofs (disch:=omega) only [go_sem,↓reduceIte,kk]
theorem shl_orW {a x : Int} (ha : 0 ≤ a) (ha' : a < 16777216) (hx : 0 ≤ x) (hx' : x < 256) : ior .u32 (ishl .u32 a 8) x = a * 256 + x:=by
  have e : ishl .u32 a 8 = a * 256:=by
    unfold ishl
    have h8 : (2 : Int) ^ (min 8 IntKind.u32.bits) = 256:=by decide
    rw [h8]
    exact wrap_u32 (by omega) (by omega)
  rw [e,orW ⟨by omega,by omega⟩ ⟨hx,by omega⟩]
  have h:=Nat.shiftLeft_add_eq_or_of_lt (i:=8) (b:=x.toNat) (by omega) a.toNat
  have e2 : (a * 256).toNat = a.toNat <<< 8:=by rw [Nat.shiftLeft_eq]; omega
  rw [e2,← h,Nat.shiftLeft_eq]
  omega
def midS (xs : List Int) (i k : Nat) : List Int:=(words 16 xs).take i ++ ofb (((xs.drop (4 * i)).take 4).take k) :: List.replicate (63 - i) 0
theorem midS_zero (xs : List Int) {i : Nat} (hi : i < 16) : midS xs i 0 = (words 16 xs).take i ++ List.replicate (64 - i) 0:=by
  unfold midS
  rw [show 64 - i = 63 - i + 1 by omega,List.replicate_succ]
  rfl
theorem midS_four (xs : List Int) {i : Nat} (hi : i < 16) : midS xs i 4 = (words 16 xs).take (i + 1) ++ List.replicate (64 - (i + 1)) 0:=by
  have hw:=words_get 16 i xs hi
  have hl : i < (words 16 xs).length:=by rw [words_len]; exact hi
  have ht : List.take (i + 1) (words 16 xs) = List.take i (words 16 xs) ++ [(words 16 xs).getD i 0]:=by
    rw [List.take_add_one,List.getElem?_eq_getElem hl]
    simp only [Option.toList_some,List.getD,List.getElem?_eq_getElem hl,Option.getD_some]
  unfold midS
  rw [ht,hw,List.take_take,Nat.min_self,List.append_assoc,show 64 - (i + 1) = 63 - i by omega]
  rfl
theorem midS_get (xs : List Int) {i : Nat} (k : Nat) (hi : i < 16) : (midS xs i k).getD i 0 = ofb (((xs.drop (4 * i)).take 4).take k):=by
  unfold midS
  have hl : ((words 16 xs).take i).length = i:=by rw [List.length_take,words_len]; omega
  simp only [List.getD,List.getElem?_append_right (Nat.le_of_eq hl),hl,Nat.sub_self,List.getElem?_cons_zero,Option.getD_some]
theorem midS_set (xs : List Int) {i : Nat} (k j : Nat) (hi : i < 16) : (midS xs i k).set i (ofb (((xs.drop (4 * i)).take 4).take j)) = midS xs i j:=by
  unfold midS
  have hl : ((words 16 xs).take i).length = i:=by rw [List.length_take,words_len]; omega
  rw [List.set_append_right _ _ (Nat.le_of_eq hl),hl,Nat.sub_self,List.set_cons_zero]
def wnext (l : List Int) (j : Nat) : Int :=
  IntKind.u32.wrap (IntKind.u32.wrap (IntKind.u32.wrap (ixor .u32 (ixor .u32 (rot (2 ^ 17) (2 ^ 15) (l.getD (j + 14) 0)) (rot (2 ^ 19) (2 ^ 13) (l.getD (j + 14) 0))) (l.getD (j + 14) 0 / 1024) + l.getD (j + 9) 0) +
    ixor .u32 (ixor .u32 (rot (2 ^ 7) (2 ^ 25) (l.getD (j + 1) 0)) (rot (2 ^ 18) (2 ^ 14) (l.getD (j + 1) 0))) (l.getD (j + 1) 0 / 8)) + l.getD j 0)
def sched (b : List Int) : Nat → List Int
  | 0 => words 16 b
  | j + 1 => sched b j ++ [wnext (sched b j) j]
theorem sched_len (b : List Int) : ∀ j,(sched b j).length = 16 + j
  | 0 => by rw [sched,words_len]
  | j + 1 => by rw [sched,List.length_append,sched_len b j]; rfl
theorem sched_isW {b : List Int} (hb : ∀ x ∈ b,0 ≤ x ∧ x < 256) : ∀ j,∀ x ∈ sched b j,isW x
  | 0,x,h => words_mem 16 b hb x h
  | j + 1,x,h => by
    simp only [sched,List.mem_append,List.mem_singleton] at h
    rcases h with h | rfl
    · exact sched_isW hb j x h
    · exact wrap_isW _
theorem sched_set (b : List Int) {j : Nat} (hj : j < 48) {w : Int} (hw : wnext (sched b j) j = w) : (sched b j ++ List.replicate (48 - j) 0).set (16 + j) w = sched b (j + 1) ++ List.replicate (48 - (j + 1)) 0:=by
  subst hw
  rw [show 48 - j = 48 - (j + 1) + 1 by omega,List.replicate_succ,List.set_append_right _ _ (Nat.le_of_eq (sched_len b j)),sched_len,Nat.sub_self,List.set_cons_zero,sched,List.append_assoc]
  rfl
theorem getD_left {l r : List Int} {n : Nat} (h : n < l.length) : (l ++ r).getD n 0 = l.getD n 0:=by
  simp only [List.getD,List.getElem?_append_left h]
theorem schedule_spec (b : List Int) (hl : b.length = 64) (hb : ∀ x ∈ b,0 ≤ x ∧ x < 256) : FnC Tryz.prog 262 [.sl (.ints .u8 64 b)] [] (.ints .u32 64 (sched b 48)) []:=by
  refine fn0 mix pl262 0 1 [.cell 2 392] Tryz.func262 rfl (by kernel_rfl) (by kernel_rfl) rfl (by kernel_rfl) (by kernel_rfl) (by simp) ?_
  simp -implicitDefEqProofs (disch:=omega) only [go_sem,↓reduceIte]
  refine loop (ι:=Nat) 2 (fun i => i ≤ 16) (fun i => [(0,.sl (.ints .u8 64 b)),(10,.int .i64 i),(2,.ref 0 []),(3,.ref 1 [])]) (fun i => [(0,.var (.ints .u32 64 (List.replicate 64 0))),(1,.var (.ints .u32 64 ((words 16 b).take i ++ List.replicate (64 - i) 0)))]) (fun i => 16 - i) 0 [(0,0),(1,1)] [] (Nat.zero_le _) rfl ?_ ?_ ?_ (fun i hi => ?_)
  · simp -implicitDefEqProofs (disch:=omega) only [go_sem,↓reduceIte]
  · simp -implicitDefEqProofs (disch:=omega) only [go_sem,↓reduceIte]
  · simp -implicitDefEqProofs (disch:=omega) only [go_sem,↓reduceIte,List.nil_append]
  simp -implicitDefEqProofs (disch:=omega) only [go_sem,↓reduceIte]
  refine brd (fun h => ?_) (fun h => ?_)
  · have hi8 : i < 16:=by omega
    have e1 : (4 * (i : Int)).toNat = 4 * i:=by omega
    have e2 : (4 * (i : Int) + 4).toNat = 4 * i + 4:=by omega
    have e3 : 4 * i + 4 - 4 * i = 4:=by omega
    simp -implicitDefEqProofs (disch:=omega) only [go_sem,↓reduceIte,e1,e2,e3]
    refine loop (ι:=Nat) 2 (fun k => k ≤ 4) (fun k => [(0,.sl (.ints .u8 64 b)),(10,.int .i64 i),(4,.int .i64 i),(19,.sl (.ints .u8 4 ((b.drop (4 * i)).take 4))),(20,.int .i64 4),(21,.int .i64 k),(2,.ref 0 []),(3,.ref 1 [])]) (fun k => [(0,.var (.ints .u32 64 (List.replicate 64 0))),(1,.var (.ints .u32 64 (midS b i k)))]) (fun k => 4 - k) 0 [(0,0),(1,1)] [] (Nat.zero_le _) rfl ?_ ?_ ?_ (fun k hk => ?_)
    · simp -implicitDefEqProofs (disch:=omega) only [go_sem,↓reduceIte]
    · simp -implicitDefEqProofs (disch:=omega) only [go_sem,↓reduceIte]
    · simp -implicitDefEqProofs (disch:=omega) only [go_sem,↓reduceIte,midS_zero b hi8]
    simp -implicitDefEqProofs (disch:=omega) only [go_sem,↓reduceIte]
    refine brd (fun h2 => ?_) (fun h2 => ?_)
    · have hc : ((b.drop (4 * i)).take 4).length = 4:=by rw [List.length_take,List.length_drop]; omega
      have hcb : ∀ x ∈ (b.drop (4 * i)).take 4,0 ≤ x ∧ x < 256:=fun x hx => hb x (List.mem_of_mem_drop (List.mem_of_mem_take hx))
      have hx:=getD_all' hcb (show k < ((b.drop (4 * i)).take 4).length by omega)
      have hs:=ofb_succ (xs:=(b.drop (4 * i)).take 4) (i:=k) (by omega)
      have hp:=ofb_lt hcb k
      have hp2 : (256 : Int) ^ k ≤ 256 ^ 3:=by
        have:=Nat.pow_le_pow_right (show 0 < 256 by decide) (show k ≤ 3 by omega)
        exact_mod_cast this
      have hp3 : ofb (((b.drop (4 * i)).take 4).take k) < 16777216:=Int.lt_of_lt_of_le hp.2 hp2
      have e5:=shl_orW hp.1 hp3 hx.1 hx.2
      rw [← hs] at e5
      simp -implicitDefEqProofs (disch:=omega) only [go_sem,↓reduceIte,midS_get b k hi8,e5]
      refine ⟨k + 1,[(0,0),(1,1)],[],[],by dsimp only; omega,by dsimp only; omega,rfl,?_,?_,?_⟩ <;> simp -implicitDefEqProofs (disch:=omega) only [go_sem,↓reduceIte,midS_set b k (k + 1) hi8]
    obtain rfl : k = 4:=by omega
    simp -implicitDefEqProofs (disch:=omega) only [go_sem,↓reduceIte]
    refine ⟨i + 1,[(0,0),(1,1)],[],[],by dsimp only; omega,by dsimp only; omega,rfl,?_,?_,?_⟩ <;> simp -implicitDefEqProofs (disch:=omega) only [go_sem,↓reduceIte,midS_four b hi8]
  obtain rfl : i = 16:=by omega
  have e0 : List.take 16 (words 16 b) ++ List.replicate (64 - 16) 0 = sched b 0 ++ List.replicate (48 - 0) 0:=by rw [List.take_of_length_le (by rw [words_len]; omega)]; rfl
  rw [e0]
  simp -implicitDefEqProofs (disch:=omega) only [go_sem,↓reduceIte]
  refine loop (ι:=Nat) 2 (fun j => j ≤ 48) (fun j => [(7,.int .i64 (16 + j)),(2,.ref 0 []),(3,.ref 1 [])]) (fun j => [(0,.var (.ints .u32 64 (List.replicate 64 0))),(1,.var (.ints .u32 64 (sched b j ++ List.replicate (48 - j) 0)))]) (fun j => 48 - j) 0 [(0,0),(1,1)] [] (Nat.zero_le _) rfl ?_ ?_ ?_ (fun j hj => ?_)
  · simp -implicitDefEqProofs (disch:=omega) only [go_sem,↓reduceIte]
  · simp -implicitDefEqProofs (disch:=omega) only [go_sem,↓reduceIte]
  · simp -implicitDefEqProofs (disch:=omega) only [go_sem,↓reduceIte]
  simp -implicitDefEqProofs (disch:=omega) only [go_sem,↓reduceIte]
  refine brd (fun h2 => ?_) (fun h2 => ?_)
  · have hj8 : j < 48:=by omega
    have hW:=sched_isW hb j
    have hL:=sched_len b j
    have i0 : (16 + (j : Int)).toNat = 16 + j:=by omega
    have i1 : (16 + (j : Int) - 15).toNat = j + 1:=by omega
    have i2 : (16 + (j : Int) - 2).toNat = j + 14:=by omega
    have i3 : (16 + (j : Int) - 7).toNat = j + 9:=by omega
    have i4 : (16 + (j : Int) - 16).toNat = j:=by omega
    have g1:=getD_left (r:=List.replicate (48 - j) 0) (show j + 1 < (sched b j).length by omega)
    have g2:=getD_left (r:=List.replicate (48 - j) 0) (show j + 14 < (sched b j).length by omega)
    have g3:=getD_left (r:=List.replicate (48 - j) 0) (show j + 9 < (sched b j).length by omega)
    have g4:=getD_left (r:=List.replicate (48 - j) 0) (show j < (sched b j).length by omega)
    have w1:=getD_all' hW (show j + 1 < (sched b j).length by omega)
    have w2:=getD_all' hW (show j + 14 < (sched b j).length by omega)
    have r1 : ishr .u32 ((sched b j).getD (j + 14) 0) 10 = (sched b j).getD (j + 14) 0 / 1024:=ishr_div _ _ 10 (by decide)
    have r2 : ishr .u32 ((sched b j).getD (j + 1) 0) 3 = (sched b j).getD (j + 1) 0 / 8:=ishr_div _ _ 3 (by decide)
    have ss:=sched_set b hj8 rfl
    simp -implicitDefEqProofs (disch:=omega) only [go_sem,↓reduceIte,i0,i1,i2,i3,i4,g1,g2,g3,g4,r1,r2]
    refine call0 (turn_spec _ 17 15 rfl (by decide) (by decide) w2) ?_
    simp -implicitDefEqProofs (disch:=omega) only [go_sem,↓reduceIte,i0,i1,i2,i3,i4,g1,g2,g3,g4,r1,r2]
    refine call0 (turn_spec _ 19 13 rfl (by decide) (by decide) w2) ?_
    simp -implicitDefEqProofs (disch:=omega) only [go_sem,↓reduceIte,i0,i1,i2,i3,i4,g1,g2,g3,g4,r1,r2]
    refine call0 (turn_spec _ 7 25 rfl (by decide) (by decide) w1) ?_
    simp -implicitDefEqProofs (disch:=omega) only [go_sem,↓reduceIte,i0,i1,i2,i3,i4,g1,g2,g3,g4,r1,r2]
    refine call0 (turn_spec _ 18 14 rfl (by decide) (by decide) w1) ?_
    simp -implicitDefEqProofs (disch:=omega) only [go_sem,↓reduceIte,i0,i1,i2,i3,i4,g1,g2,g3,g4,r1,r2]
    have i5 : 16 + (j : Int) + 1 = 16 + (j + 1):=by omega
    simp only [wnext] at ss
    refine ⟨j + 1,[(0,0),(1,1)],[],[],by dsimp only; omega,by dsimp only; omega,rfl,?_,?_,?_⟩ <;> simp -implicitDefEqProofs (disch:=omega) only [go_sem,↓reduceIte,ss,i5]
  obtain rfl : j = 48:=by omega
  rw [show List.replicate (48 - 48) (0 : Int) = [] from rfl,List.append_nil]
  simp -implicitDefEqProofs (disch:=omega) only [go_sem,↓reduceIte]
end Go.Proofs.YtololahjocfbeaaGreat
