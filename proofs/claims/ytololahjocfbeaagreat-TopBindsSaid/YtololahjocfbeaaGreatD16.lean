/- Texts,joined. -/
import Derived.Test.YtololahjocfbeaaGreatD15
namespace Go.Proofs.YtololahjocfbeaaGreat
open Go Go.Sy Go.Proofs.Tryz
set_option maxRecDepth 100000
set_option maxHeartbeats 8000000
set_option linter.unusedSimpArgs false
set_option linter.unusedVariables false
attribute [go_sem] pl185
structure SS where
  turn : Nat
  text : List Int
  gone : Bool
abbrev slV (S : SS) : AV:=.agg [.ref 0 [],.int .i64 0,.int .i64 S.turn,.sl (.ints .u8 S.text.length S.text),.bool S.gone]
abbrev slO (i j : Nat) (D : DS) (S : SS) : OO:=[(0,.var (dskV i j D)),(1,.var (slV S)),(i,.row (.ints .u8 D.b.length D.b)),(j,.row (.lst 2 D.wait.length (D.wait.map wtV)))]
attribute [go_sem] slV slO
attribute [simp] slO
def sectorL (z T : Nat) (t : List Int) : List Int:=(((be T 8 ++ be t.length 2) ++ t) ++ List.replicate (z - 18 - t.length) 0) ++ be T 8
theorem sectorL_len {z T : Nat} {t : List Int} (h : t.length + 18 ≤ z) : (sectorL z T t).length = z:=by
  unfold sectorL
  simp only [List.length_append,be_len,List.length_replicate]
  omega
def readV (z : Nat) (c : List Int) : Nat × List Int :=
  if ofb (c.take 8) = ofb (c.drop (z - 8)) ∧ 1 ≤ ofb (c.take 8) ∧ ofb (c.take 8) ≤ 4611686018427387904 ∧ ofb ((c.drop 8).take 2) ≤ (z : Int) - 18 then ((ofb (c.take 8)).toNat,(c.drop 10).take (ofb ((c.drop 8).take 2)).toNat) else (0,[])
theorem room_spec (D : DS) (h : okD D) (S : SS) : FnC Tryz.prog 179 [.ref 1 []] (slO 2 3 D S) (.int .i64 ((D.sz : Int) - 18)) (slO 4 5 D S):=by
  have h2:=h.sz2
  refine fnV mix [] 2 4 1 [.tmp 2] Tryz.func179 rfl (by kernel_rfl) (by kernel_rfl) rfl (by kernel_rfl) (by kernel_rfl) (by simp) rfl rfl ?_
  simp -implicitDefEqProofs (disch:=omega) only [go_sem,↓reduceIte]
  refine callG false [(0,0),(1,2),(2,3)] [(0,0),(3,4),(4,5)] 6 (dsize_spec D) ?_ ?_
  · simp [keys]
  simp -implicitDefEqProofs (disch:=omega) only [go_sem,↓reduceIte]
  refine ⟨[(0,0),(1,1),(4,4),(5,5)],[],[],rfl,?_,?_,?_⟩ <;> simp -implicitDefEqProofs (disch:=omega) only [go_sem,↓reduceIte]
theorem sturn_spec (D : DS) (S : SS) : FnC Tryz.prog 119 [.ref 1 []] (slO 2 3 D S) (.int .i64 S.turn) (slO 4 5 D S):=by
  refine fnV mix [] 2 4 1 [.tmp 2] Tryz.func119 rfl (by kernel_rfl) (by kernel_rfl) rfl (by kernel_rfl) (by kernel_rfl) (by simp) rfl rfl ?_
  simp -implicitDefEqProofs (disch:=omega) only [go_sem,↓reduceIte]
  refine ⟨[(0,0),(1,1),(4,2),(5,3)],[],[],rfl,?_,?_,?_⟩ <;> simp -implicitDefEqProofs (disch:=omega) only [go_sem,↓reduceIte]
theorem text_spec (D : DS) (S : SS) (hl : S.text.length ≤ 100000) : FnC Tryz.prog 118 [.ref 1 []] (slO 2 3 D S) (.osl 6 [] 1 0 S.text.length) (slO 4 5 D S ++ [(6,.row (.ints .u8 S.text.length S.text))]):=by
  refine fnV mix [] 2 4 1 [.tmp 2] Tryz.func118 rfl (by kernel_rfl) (by kernel_rfl) rfl (by kernel_rfl) (by kernel_rfl) (by simp) rfl rfl ?_
  simp -implicitDefEqProofs (disch:=omega) only [go_sem,↓reduceIte,List.nil_append]
  refine ⟨[(0,0),(1,1),(4,2),(5,3),(6,5)],[],[],rfl,?_,?_,?_⟩ <;> simp -implicitDefEqProofs (disch:=omega) only [go_sem,↓reduceIte]
abbrev dskP (D : DS) : AV:=.agg [.int .i64 D.sz,.sl (.ints .u8 D.b.length D.b),.sl (.lst 2 D.wait.length (D.wait.map wtV)),.bool D.off,.bool D.set,.int .i64 D.left,.sl (.ints .i64 D.keep.length D.keep)]
abbrev slP (D : DS) (S : SS) : AV:=.agg [.pp (dskP D) [],.int .i64 0,.int .i64 S.turn,.sl (.ints .u8 S.text.length S.text),.bool S.gone]
attribute [go_sem] dskP slP
theorem dsize_pp (D : DS) : FnC Tryz.prog 126 [.pp (dskP D) []] [] (.int .i64 D.sz) []:=by
  refine fn0 mix [] 0 1 [.tmp 2] Tryz.func126 rfl (by kernel_rfl) (by kernel_rfl) rfl (by kernel_rfl) (by kernel_rfl) (by simp) ?_
  simp -implicitDefEqProofs (disch:=omega) only [go_sem,↓reduceIte]
theorem room_pp (D : DS) (h : okD D) (S : SS) : FnC Tryz.prog 179 [.pp (slP D S) []] [] (.int .i64 ((D.sz : Int) - 18)) []:=by
  have h2:=h.sz2
  refine fn0 mix [] 0 1 [.tmp 2] Tryz.func179 rfl (by kernel_rfl) (by kernel_rfl) rfl (by kernel_rfl) (by kernel_rfl) (by simp) ?_
  simp -implicitDefEqProofs (disch:=omega) only [go_sem,↓reduceIte]
  refine call0 (dsize_pp D) ?_
  simp -implicitDefEqProofs (disch:=omega) only [go_sem,↓reduceIte]
theorem sector_pp (D : DS) (h : okD D) (S : SS) (T : Nat) (hT : T ≤ 4611686018427387904) (t : List Int) (n : Nat) (hn : t.length = n) (hl : n + 18 ≤ D.sz) :
    FnC Tryz.prog 201 [.pp (slP D S) [],.int .i64 T,.sl (.ints .u8 n t)] [] (.osl 0 [] 1 0 D.sz) [(0,.row (.ints .u8 D.sz (sectorL D.sz T t)))]:=by
  have h2:=h.sz2
  have k1:=number_spec T 8 8 rfl
  have k2:=number_spec n 2 2 rfl
  have i1 : (D.sz : Int) - 18 - (n : Int) = ((D.sz - 18 - n : Nat) : Int):=by omega
  have i2 : 8 + 2 + n + (D.sz - 18 - n) + 8 = D.sz:=by omega
  unfold sectorL
  rw [hn]
  refine fnN mix [] 0 3 [.tmp 6] Tryz.func201 rfl (by kernel_rfl) (by kernel_rfl) rfl (by kernel_rfl) (by kernel_rfl) (by simp) ?_
  simp -implicitDefEqProofs (disch:=omega) only [go_sem,↓reduceIte]
  refine callF 1 k1 ?_
  simp -implicitDefEqProofs (disch:=omega) only [go_sem,↓reduceIte]
  refine callF 1 k2 ?_
  simp -implicitDefEqProofs (disch:=omega) only [go_sem,↓reduceIte,List.nil_append]
  refine call0 (room_pp D h S) ?_
  simp -implicitDefEqProofs (disch:=omega) only [go_sem,↓reduceIte,i1]
  refine ⟨[(0,7)],[],[],rfl,?_,?_,?_⟩ <;> simp -implicitDefEqProofs (disch:=omega) only [go_sem,↓reduceIte,i2]
theorem read_gen (z : Nat) (c : List Int) (hz : 18 ≤ z) (hz2 : z ≤ 512) (hc : c.length = z) (hb : ∀ x ∈ c,0 ≤ x ∧ x < 256) :
    FnC Tryz.prog 186 [.sl (.ints .u8 z c)] [] (.tup [.int .i64 (readV z c).1,if (readV z c).1 = 0 then .nils else .osl 0 [] 1 0 (readV z c).2.length]) (if (readV z c).1 = 0 then [] else [(0,.row (.ints .u8 (readV z c).2.length (readV z c).2))]):=by
  have m1 : ∀ x ∈ c.take 8,0 ≤ x ∧ x < 256:=fun x h => hb x (List.mem_of_mem_take h)
  have m2 : ∀ x ∈ c.drop (z - 8),0 ≤ x ∧ x < 256:=fun x h => hb x (List.mem_of_mem_drop h)
  have m3 : ∀ x ∈ (c.drop 8).take 2,0 ≤ x ∧ x < 256:=fun x h => hb x (List.mem_of_mem_drop (List.mem_of_mem_take h))
  have l1 : (c.take 8).length = 8:=by rw [List.length_take]; omega
  have l2 : (c.drop (z - 8)).length = 8:=by rw [List.length_drop]; omega
  have l3 : ((c.drop 8).take 2).length = 2:=by rw [List.length_take,List.length_drop]; omega
  have k1:=pof_spec (c.take 8) (by omega) m1
  have k2:=pof_spec (c.drop (z - 8)) (by omega) m2
  have k3:=pof_spec ((c.drop 8).take 2) (by omega) m3
  rw [l1] at k1
  rw [l2] at k2
  rw [l3] at k3
  have b1:=ofb_lt m1 8
  have b2:=ofb_lt m2 8
  have b3:=ofb_lt m3 2
  rw [List.take_of_length_le (by omega)] at b1 b2 b3
  have p8 : (256 : Int) ^ 8 = 18446744073709551616:=by decide
  have p2 : (256 : Int) ^ 2 = 65536:=by decide
  rw [p8] at b1 b2
  rw [p2] at b3
  have t2 : (c.drop (z - 8)).take 8 = c.drop (z - 8):=List.take_of_length_le (by omega)
  have i0 : z - (z - 8) = 8:=by omega
  have i1 : ((z : Int) - 8).toNat = z - 8:=by omega
  have hrv : ∀ H : ofb (c.take 8) = ofb (c.drop (z - 8)) ∧ 1 ≤ ofb (c.take 8) ∧ ofb (c.take 8) ≤ 4611686018427387904 ∧ ofb ((c.drop 8).take 2) ≤ (z : Int) - 18,readV z c = ((ofb (c.take 8)).toNat,(c.drop 10).take (ofb ((c.drop 8).take 2)).toNat):=fun H => by unfold readV; rw [if_pos H]
  have hrv0 : ∀ H : ¬ (ofb (c.take 8) = ofb (c.drop (z - 8)) ∧ 1 ≤ ofb (c.take 8) ∧ ofb (c.take 8) ≤ 4611686018427387904 ∧ ofb ((c.drop 8).take 2) ≤ (z : Int) - 18),readV z c = (0,[]):=fun H => by unfold readV; rw [if_neg H]
  generalize ofb (c.take 8) = h at *
  generalize ofb (c.drop (z - 8)) = tl at *
  generalize ofb ((c.drop 8).take 2) = n at *
  have d8 : ¬ 8 = z:=by omega
  have d8' : ¬ z - 8 = 0:=by omega
  by_cases c1 : h = tl
  case neg =>
    rw [hrv0 (fun H => c1 H.1)]
    have e1 : decide (h = tl) = false:=decide_eq_false c1
    refine fn0 mix [] 0 1 [.tmp 2,.tmp 3] Tryz.func186 rfl (by kernel_rfl) (by kernel_rfl) rfl (by kernel_rfl) (by kernel_rfl) (by simp) ?_
    simp -implicitDefEqProofs (disch:=omega) only [go_sem,↓reduceIte,d8,d8',i0,i1,t2]
    refine call0 k1 ?_
    simp -implicitDefEqProofs (disch:=omega) only [go_sem,↓reduceIte,d8,d8',i0,i1,t2]
    refine call0 k2 ?_
    simp -implicitDefEqProofs (disch:=omega) only [go_sem,↓reduceIte,d8,d8',i0,i1,t2]
    refine call0 k3 ?_
    simp -implicitDefEqProofs (disch:=omega) only [go_sem,↓reduceIte,e1]
  have e1 : decide (h = tl) = true:=decide_eq_true c1
  by_cases c2 : h < 1
  · rw [hrv0 (fun H => by omega)]
    have e2 : decide (h < 1) = true:=decide_eq_true c2
    refine fn0 mix [] 0 1 [.tmp 2,.tmp 3] Tryz.func186 rfl (by kernel_rfl) (by kernel_rfl) rfl (by kernel_rfl) (by kernel_rfl) (by simp) ?_
    simp -implicitDefEqProofs (disch:=omega) only [go_sem,↓reduceIte,d8,d8',i0,i1,t2]
    refine call0 k1 ?_
    simp -implicitDefEqProofs (disch:=omega) only [go_sem,↓reduceIte,d8,d8',i0,i1,t2]
    refine call0 k2 ?_
    simp -implicitDefEqProofs (disch:=omega) only [go_sem,↓reduceIte,d8,d8',i0,i1,t2]
    refine call0 k3 ?_
    simp -implicitDefEqProofs (disch:=omega) only [go_sem,↓reduceIte,e1,e2]
  have e2 : decide (h < 1) = false:=decide_eq_false c2
  by_cases c3 : 4611686018427387904 < h
  · rw [hrv0 (fun H => by omega)]
    have e3 : decide (4611686018427387904 < h) = true:=decide_eq_true c3
    refine fn0 mix [] 0 1 [.tmp 2,.tmp 3] Tryz.func186 rfl (by kernel_rfl) (by kernel_rfl) rfl (by kernel_rfl) (by kernel_rfl) (by simp) ?_
    simp -implicitDefEqProofs (disch:=omega) only [go_sem,↓reduceIte,d8,d8',i0,i1,t2]
    refine call0 k1 ?_
    simp -implicitDefEqProofs (disch:=omega) only [go_sem,↓reduceIte,d8,d8',i0,i1,t2]
    refine call0 k2 ?_
    simp -implicitDefEqProofs (disch:=omega) only [go_sem,↓reduceIte,d8,d8',i0,i1,t2]
    refine call0 k3 ?_
    simp -implicitDefEqProofs (disch:=omega) only [go_sem,↓reduceIte,e1,e2,e3]
  have e3 : decide (4611686018427387904 < h) = false:=decide_eq_false c3
  by_cases c4 : (z : Int) - 18 < n
  · rw [hrv0 (fun H => by omega)]
    have e4 : decide ((z : Int) - 18 < n) = true:=decide_eq_true c4
    refine fn0 mix [] 0 1 [.tmp 2,.tmp 3] Tryz.func186 rfl (by kernel_rfl) (by kernel_rfl) rfl (by kernel_rfl) (by kernel_rfl) (by simp) ?_
    simp -implicitDefEqProofs (disch:=omega) only [go_sem,↓reduceIte,d8,d8',i0,i1,t2]
    refine call0 k1 ?_
    simp -implicitDefEqProofs (disch:=omega) only [go_sem,↓reduceIte,d8,d8',i0,i1,t2]
    refine call0 k2 ?_
    simp -implicitDefEqProofs (disch:=omega) only [go_sem,↓reduceIte,d8,d8',i0,i1,t2]
    refine call0 k3 ?_
    simp -implicitDefEqProofs (disch:=omega) only [go_sem,↓reduceIte,e1,e2,e3,e4]
  have e4 : decide ((z : Int) - 18 < n) = false:=decide_eq_false c4
  rw [hrv ⟨c1,by omega,by omega,by omega⟩]
  clear hrv hrv0
  obtain ⟨m,rfl⟩:=Int.eq_ofNat_of_zero_le b3.1
  obtain ⟨H,rfl⟩:=Int.eq_ofNat_of_zero_le b1.1
  rw [Int.toNat_natCast,Int.toNat_natCast]
  have hH : ¬ H = 0:=by omega
  have l4 : ((c.drop 10).take m).length = m:=by rw [List.length_take,List.length_drop]; omega
  dsimp only
  rw [if_neg hH,if_neg hH,l4]
  have i5 : (10 + (m : Int)).toNat - 10 = m:=by omega
  have i6 : (10 + (m : Int)).toNat = 10 + m:=by omega
  have i7 : 10 + m - 10 = m:=by omega
  refine fnN mix [] 0 1 [.tmp 2,.tmp 3] Tryz.func186 rfl (by kernel_rfl) (by kernel_rfl) rfl (by kernel_rfl) (by kernel_rfl) (by simp) ?_
  simp -implicitDefEqProofs (disch:=omega) only [go_sem,↓reduceIte,d8,d8',i0,i1,t2]
  refine call0 k1 ?_
  simp -implicitDefEqProofs (disch:=omega) only [go_sem,↓reduceIte,d8,d8',i0,i1,t2]
  refine call0 k2 ?_
  simp -implicitDefEqProofs (disch:=omega) only [go_sem,↓reduceIte,d8,d8',i0,i1,t2]
  refine call0 k3 ?_
  simp -implicitDefEqProofs (disch:=omega) only [go_sem,↓reduceIte,e1,e2,e3,e4,i5,i6,i7,List.nil_append]
  refine ⟨[(0,1)],[],[],rfl,?_,?_,?_⟩ <;> simp -implicitDefEqProofs (disch:=omega) only [go_sem,↓reduceIte]
def lookS (S : SS) (r : Nat × List Int) : SS:=if S.turn < r.1 then { S with turn:=r.1,text:=r.2 } else S
abbrev lkO (i j : Nat) (D : DS) (S : SS) : OO:=[(0,.var (dskV i j D)),(1,.var (slV S)),(2,.var (.ref 0 [])),(3,.var (.int .i64 0)),(4,.var (.ref 1 [])),(i,.row (.ints .u8 D.b.length D.b)),(j,.row (.lst 2 D.wait.length (D.wait.map wtV)))]
attribute [go_sem] lkO
attribute [simp] lkO
theorem look_spec (D : DS) (h : okD D) (ho : D.off = false) (hz : 18 ≤ D.sz) (S : SS) (hS : S.turn ≤ 4611686018427387904) (I : Nat) (hi : thereD D I) (hb : ∀ x ∈ readB D I,0 ≤ x ∧ x < 256) :
    FnC Tryz.prog 185 [.int .i64 I,.ref 2 [],.ref 3 [],.ref 4 []] (lkO 5 6 D S) (.tup []) (lkO 7 8 D (lookS S (readV D.sz (readB D I)))):=by
  obtain ⟨I',e,hI⟩:=there_at h hi
  obtain rfl : I = I':=by omega
  have hrl:=readB_len h hI
  have k1:=read_ok D h ho I hi
  have k2:=read_gen D.sz (readB D I) hz h.sz2 hrl hb
  have hIl : I ≤ 32768:=by have:=h.bl; have:=Nat.le_mul_of_pos_right I h.sz1; omega
  have hr0 : (readV D.sz (readB D I)).1 ≤ 4611686018427387904:=by
    unfold readV
    split
    · rename_i c; dsimp only; omega
    · exact Nat.zero_le _
  have hr1 : (readV D.sz (readB D I)).2.length ≤ 1000:=by
    have:=h.sz2
    unfold readV
    split
    · dsimp only; rw [List.length_take,List.length_drop]; omega
    · exact Nat.zero_le _
  unfold lookS
  generalize readV D.sz (readB D I) = r at *
  obtain ⟨r,x⟩:=r
  dsimp only at k2 hr0 hr1 ⊢
  generalize readB D I = c at *
  by_cases c0 : r = 0
  · subst c0
    rw [if_pos rfl,if_pos rfl] at k2
    rw [if_neg (by omega)]
    have e1 : decide ((S.turn : Int) < 0) = false:=decide_eq_false (by omega)
    refine fnV mix pl185 5 7 4 [] Tryz.func185 rfl (by kernel_rfl) (by kernel_rfl) rfl (by kernel_rfl) (by kernel_rfl) (by simp) rfl rfl ?_
    simp -implicitDefEqProofs (disch:=omega) only [go_sem,↓reduceIte]
    refine callG false [(0,0),(1,5),(2,6)] [(0,0),(3,7),(4,8),(5,9)] 10 k1 ?_ ?_
    · simp [keys]
    simp -implicitDefEqProofs (disch:=omega) only [go_sem,↓reduceIte]
    refine callB k2 ?_ ?_
    · simp -implicitDefEqProofs (disch:=omega) only [go_sem,↓reduceIte]
    simp -implicitDefEqProofs (disch:=omega) only [go_sem,↓reduceIte,e1]
    refine ⟨[(0,0),(1,1),(2,2),(3,3),(4,4),(7,7),(8,8)],[],[],rfl,?_,?_,?_⟩ <;> simp -implicitDefEqProofs (disch:=omega) only [go_sem,↓reduceIte]
  · rw [if_neg c0,if_neg c0] at k2
    by_cases c1 : S.turn < r
    · rw [if_pos c1]
      have e1 : decide ((S.turn : Int) < (r : Int)) = true:=decide_eq_true (by omega)
      refine fnV mix pl185 5 7 4 [] Tryz.func185 rfl (by kernel_rfl) (by kernel_rfl) rfl (by kernel_rfl) (by kernel_rfl) (by simp) rfl rfl ?_
      simp -implicitDefEqProofs (disch:=omega) only [go_sem,↓reduceIte]
      refine callG false [(0,0),(1,5),(2,6)] [(0,0),(3,7),(4,8),(5,9)] 10 k1 ?_ ?_
      · simp [keys]
      simp -implicitDefEqProofs (disch:=omega) only [go_sem,↓reduceIte]
      refine callBF 1 k2 ?_ ?_
      · simp -implicitDefEqProofs (disch:=omega) only [go_sem,↓reduceIte]
      simp -implicitDefEqProofs (disch:=omega) only [go_sem,↓reduceIte,e1]
      refine ⟨[(0,0),(1,1),(2,2),(3,3),(4,4),(7,7),(8,8)],[],[10],rfl,?_,?_,?_⟩ <;> simp -implicitDefEqProofs (disch:=omega) only [go_sem,↓reduceIte]
    · rw [if_neg c1]
      have e1 : decide ((S.turn : Int) < (r : Int)) = false:=decide_eq_false (by omega)
      refine fnV mix pl185 5 7 4 [] Tryz.func185 rfl (by kernel_rfl) (by kernel_rfl) rfl (by kernel_rfl) (by kernel_rfl) (by simp) rfl rfl ?_
      simp -implicitDefEqProofs (disch:=omega) only [go_sem,↓reduceIte]
      refine callG false [(0,0),(1,5),(2,6)] [(0,0),(3,7),(4,8),(5,9)] 10 k1 ?_ ?_
      · simp [keys]
      simp -implicitDefEqProofs (disch:=omega) only [go_sem,↓reduceIte]
      refine callBF 1 k2 ?_ ?_
      · simp -implicitDefEqProofs (disch:=omega) only [go_sem,↓reduceIte]
      simp -implicitDefEqProofs (disch:=omega) only [go_sem,↓reduceIte,e1]
      refine ⟨[(0,0),(1,1),(2,2),(3,3),(4,4),(7,7),(8,8)],[],[],rfl,?_,?_,?_⟩ <;> simp -implicitDefEqProofs (disch:=omega) only [go_sem,↓reduceIte]
def plOp : List (Nat × Plan):=[(4,[(0,[],none),(1,[],some [17]),(2,[],none),(3,[],none),(4,[],none),(5,[],none),(6,[],none),(7,[],none),(9,[],none),(10,[],some [26]),(8,[9,10],none),(11,[8],none),(12,[],none),(13,[],none)])]
attribute [go_sem] plOp
def openS (D : DS) : SS:=lookS (lookS ⟨0,[],false⟩ (readV D.sz (readB D 0))) (readV D.sz (readB D 1))
theorem open_spec (D : DS) (h : okD D) (ho : D.off = false) (hz : 18 ≤ D.sz) (hi : thereD D 1) (hb : ∀ I : Nat,I ≤ 1 → ∀ x ∈ readB D I,0 ≤ x ∧ x < 256) :
    FnC Tryz.prog 117 [.ref 0 [],.int .i64 0] (dskO 1 2 D) (.tup [.ref 6 [],.int .i64 0]) (dskO 3 4 D ++ [(6,.var (slV (openS D)))]):=by
  have hi0 : thereD D (0 : Nat):=⟨by omega,by have:=hi.2; omega⟩
  have hi1 : thereD D (1 : Nat):=hi
  have k1:=read_ok D h ho 0 hi0
  have k2:=dsize_spec D
  have k3:=sectors_spec D h
  have h2:=hi.2
  have h3 : D.b.length / D.sz ≤ 32768:=Nat.le_trans (Nat.div_le_self _ _) h.bl
  have hrt : ∀ I,(readV D.sz (readB D I)).1 ≤ 4611686018427387904:=fun I => by
    unfold readV
    split
    · rename_i c; dsimp only; omega
    · exact Nat.zero_le _
  have k4:=look_spec D h ho hz ⟨0,[],false⟩ (Nat.zero_le _) 0 hi0 (hb 0 (by omega))
  have hS1 : (lookS ⟨0,[],false⟩ (readV D.sz (readB D 0))).turn ≤ 4611686018427387904:=by
    unfold lookS; split
    · exact hrt 0
    · exact Nat.zero_le _
  have k5:=look_spec D h ho hz (lookS ⟨0,[],false⟩ (readV D.sz (readB D 0))) hS1 1 hi1 (hb 1 (by omega))
  unfold openS
  generalize lookS (lookS ⟨0,[],false⟩ (readV D.sz (readB D 0))) (readV D.sz (readB D 1)) = S2 at *
  generalize lookS ⟨0,[],false⟩ (readV D.sz (readB D 0)) = S1 at *
  have hszl:=h.sz2
  have k4' : FnC Tryz.prog 185 [.int .i64 (0 : Nat),.ref 2 [],.ref 3 [],.ref 4 []] [(0,.var (dskV 5 6 D)),(1,.var (.agg [.ref 0 [],.int .i64 0,.int .i64 0,.nils,.bool false])),(2,.var (.ref 0 [])),(3,.var (.int .i64 0)),(4,.var (.ref 1 [])),(5,.row (.ints .u8 D.b.length D.b)),(6,.row (.lst 2 D.wait.length (D.wait.map wtV)))] (.tup []) (lkO 7 8 D S1):=by
    refine k4.sub [(0,0),(1,1),(2,2),(3,3),(4,4),(5,5),(6,6)] [] [] rfl ?_ ?_
    · simp -implicitDefEqProofs (disch:=omega) only [go_sem,↓reduceIte]
    · simp -implicitDefEqProofs (disch:=omega) only [go_sem,↓reduceIte,List.length_nil]
  have e1 : decide ((D.sz : Int) < 18) = false:=decide_eq_false (by omega)
  have e2 : decide ((D.b.length / D.sz : Nat) - 1 ≤ (0 : Int)) = false:=decide_eq_false (by omega)
  generalize D.b.length / D.sz = q at *
  generalize readB D 0 = c0 at *
  generalize readB D 1 = c1 at *
  refine fnV mix plOp 1 3 2 [.tmp 4,.tmp 5] Tryz.func117 rfl (by kernel_rfl) (by kernel_rfl) rfl (by kernel_rfl) (by kernel_rfl) (by simp) rfl rfl ?_
  simp -implicitDefEqProofs (disch:=omega) only [go_sem,↓reduceIte]
  refine callG false [(0,0),(1,1),(2,2)] [(0,0),(3,5),(4,6),(5,7)] 8 k1 ?_ ?_
  · simp [keys]
  simp -implicitDefEqProofs (disch:=omega) only [go_sem,↓reduceIte]
  refine callG false [(0,0),(1,5),(2,6)] [(0,0),(3,8),(4,9)] 10 k2 ?_ ?_
  · simp [keys]
  simp -implicitDefEqProofs (disch:=omega) only [go_sem,↓reduceIte,e1]
  refine callG false [(0,0),(1,8),(2,9)] [(0,0),(3,10),(4,11)] 12 k3 ?_ ?_
  · simp [keys]
  simp -implicitDefEqProofs (disch:=omega) only [go_sem,↓reduceIte,e2]
  refine callG false [(0,0),(1,12),(2,3),(3,4),(4,13),(5,10),(6,11)] [(0,0),(1,12),(2,3),(3,4),(4,13),(7,14),(8,15)] 16 k4' ?_ ?_
  · simp [keys]
  simp -implicitDefEqProofs (disch:=omega) only [go_sem,↓reduceIte]
  refine callG false [(0,0),(1,12),(2,3),(3,4),(4,13),(5,14),(6,15)] [(0,0),(1,12),(2,3),(3,4),(4,13),(7,16),(8,17)] 18 k5 ?_ ?_
  · simp [keys]
  simp -implicitDefEqProofs (disch:=omega) only [go_sem,↓reduceIte]
  refine ⟨[(0,0),(3,16),(4,17),(6,12)],[],[],rfl,?_,?_,?_⟩ <;> simp -implicitDefEqProofs (disch:=omega) only [go_sem,↓reduceIte]
end Go.Proofs.YtololahjocfbeaaGreat
