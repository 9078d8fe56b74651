/- Texts,joined. -/
import Derived.Test.YtololahjocfbeaaGreatD16
import Derived.Test.YtololahjocfbeaaGreatD18
import Derived.Test.YtololahjocfbeaaGreatD26
namespace Go.Proofs.YtololahjocfbeaaGreat
open Go Go.Sy Go.Proofs.Tryz
set_option maxRecDepth 100000
set_option maxHeartbeats 8000000
set_option linter.unusedSimpArgs false
set_option linter.unusedVariables false
attribute [go_sem] pl185
abbrev slVA (A : Nat) (S : SS) : AV:=.agg [.ref 0 [],.int .i64 A,.int .i64 S.turn,.sl (.ints .u8 S.text.length S.text),.bool S.gone]
abbrev slOA (A i j : Nat) (D : DS) (S : SS) : OO:=[(0,.var (dskV i j D)),(1,.var (slVA A S)),(i,.row (.ints .u8 D.b.length D.b)),(j,.row (.lst 2 D.wait.length (D.wait.map wtV)))]
attribute [go_sem] slVA slOA
attribute [simp] slOA
abbrev lkOA (A i j : Nat) (D : DS) (S : SS) : OO:=[(0,.var (dskV i j D)),(1,.var (slVA A S)),(2,.var (.ref 0 [])),(3,.var (.int .i64 A)),(4,.var (.ref 1 [])),(i,.row (.ints .u8 D.b.length D.b)),(j,.row (.lst 2 D.wait.length (D.wait.map wtV)))]
attribute [go_sem] lkOA
attribute [simp] lkOA
theorem look_specA (A : Nat) (D : DS) (h : okD D) (ho : D.off = false) (hz : 18 ≤ D.sz) (S : SS) (hS : S.turn ≤ 4611686018427387904) (I : Nat) (hi : thereD D ((A + I : Nat) : Int)) (hb : ∀ x ∈ readB D (A + I),0 ≤ x ∧ x < 256) :
    FnC Tryz.prog 185 [.int .i64 I,.ref 2 [],.ref 3 [],.ref 4 []] (lkOA A 5 6 D S) (.tup []) (lkOA A 7 8 D (lookS S (readV D.sz (readB D (A + I))))):=by
  obtain ⟨I',e,hI⟩:=there_at h hi
  obtain rfl : A + I = I':=by omega
  have hrl:=readB_len h hI
  have k1:=read_ok D h ho (A + I) hi
  have k2:=read_gen D.sz (readB D (A + I)) hz h.sz2 hrl hb
  have hIl : A + I ≤ 32768:=by have:=h.bl; have:=Nat.le_mul_of_pos_right (A + I) h.sz1; omega
  rw [Int.natCast_add] at k1
  have hr0 : (readV D.sz (readB D (A + I))).1 ≤ 4611686018427387904:=by
    unfold readV
    split
    · rename_i c; dsimp only; omega
    · exact Nat.zero_le _
  have hr1 : (readV D.sz (readB D (A + I))).2.length ≤ 1000:=by
    have:=h.sz2
    unfold readV
    split
    · dsimp only; rw [List.length_take,List.length_drop]; omega
    · exact Nat.zero_le _
  unfold lookS
  generalize readV D.sz (readB D (A + I)) = r at *
  obtain ⟨r,x⟩:=r
  dsimp only at k2 hr0 hr1 ⊢
  generalize readB D (A + I) = c at *
  by_cases c0 : r = 0
  · subst c0
    rw [if_pos rfl,if_pos rfl] at k2
    rw [if_neg (by omega)]
    have e1 : decide ((S.turn : Int) < 0) = false:=decide_eq_false (by omega)
    refine fnV mix pl185 5 7 4 [] Tryz.func185 rfl (by kernel_rfl) (by kernel_rfl) rfl (by kernel_rfl) (by kernel_rfl) (by simp) rfl rfl ?_
    simp -implicitDefEqProofs (disch:=omega) only [go_sem,↓reduceIte]
    refine callG false [(0,0),(1,5),(2,6)] [(0,0),(3,7),(4,8),(5,9)] 10 k1 ?_ ?_
    · simp [keys]
    simp -implicitDefEqProofs (disch:=omega) only [go_sem,↓reduceIte]
    refine callB k2 ?_ ?_
    · simp -implicitDefEqProofs (disch:=omega) only [go_sem,↓reduceIte]
    simp -implicitDefEqProofs (disch:=omega) only [go_sem,↓reduceIte,e1]
    refine ⟨[(0,0),(1,1),(2,2),(3,3),(4,4),(7,7),(8,8)],[],[],rfl,?_,?_,?_⟩ <;> simp -implicitDefEqProofs (disch:=omega) only [go_sem,↓reduceIte]
  · rw [if_neg c0,if_neg c0] at k2
    by_cases c1 : S.turn < r
    · rw [if_pos c1]
      have e1 : decide ((S.turn : Int) < (r : Int)) = true:=decide_eq_true (by omega)
      refine fnV mix pl185 5 7 4 [] Tryz.func185 rfl (by kernel_rfl) (by kernel_rfl) rfl (by kernel_rfl) (by kernel_rfl) (by simp) rfl rfl ?_
      simp -implicitDefEqProofs (disch:=omega) only [go_sem,↓reduceIte]
      refine callG false [(0,0),(1,5),(2,6)] [(0,0),(3,7),(4,8),(5,9)] 10 k1 ?_ ?_
      · simp [keys]
      simp -implicitDefEqProofs (disch:=omega) only [go_sem,↓reduceIte]
      refine callBF 1 k2 ?_ ?_
      · simp -implicitDefEqProofs (disch:=omega) only [go_sem,↓reduceIte]
      simp -implicitDefEqProofs (disch:=omega) only [go_sem,↓reduceIte,e1]
      refine ⟨[(0,0),(1,1),(2,2),(3,3),(4,4),(7,7),(8,8)],[],[10],rfl,?_,?_,?_⟩ <;> simp -implicitDefEqProofs (disch:=omega) only [go_sem,↓reduceIte]
    · rw [if_neg c1]
      have e1 : decide ((S.turn : Int) < (r : Int)) = false:=decide_eq_false (by omega)
      refine fnV mix pl185 5 7 4 [] Tryz.func185 rfl (by kernel_rfl) (by kernel_rfl) rfl (by kernel_rfl) (by kernel_rfl) (by simp) rfl rfl ?_
      simp -implicitDefEqProofs (disch:=omega) only [go_sem,↓reduceIte]
      refine callG false [(0,0),(1,5),(2,6)] [(0,0),(3,7),(4,8),(5,9)] 10 k1 ?_ ?_
      · simp [keys]
      simp -implicitDefEqProofs (disch:=omega) only [go_sem,↓reduceIte]
      refine callBF 1 k2 ?_ ?_
      · simp -implicitDefEqProofs (disch:=omega) only [go_sem,↓reduceIte]
      simp -implicitDefEqProofs (disch:=omega) only [go_sem,↓reduceIte,e1]
      refine ⟨[(0,0),(1,1),(2,2),(3,3),(4,4),(7,7),(8,8)],[],[],rfl,?_,?_,?_⟩ <;> simp -implicitDefEqProofs (disch:=omega) only [go_sem,↓reduceIte]
def openSA (A : Nat) (D : DS) : SS:=lookS (lookS ⟨0,[],false⟩ (readV D.sz (readB D (A + 0)))) (readV D.sz (readB D (A + 1)))
theorem open_specA (A : Nat) (D : DS) (h : okD D) (ho : D.off = false) (hz : 18 ≤ D.sz) (hi : thereD D ((A + 1 : Nat) : Int)) (hb : ∀ I : Nat,I ≤ 1 → ∀ x ∈ readB D (A + I),0 ≤ x ∧ x < 256) :
    FnC Tryz.prog 117 [.ref 0 [],.int .i64 A] (dskO 1 2 D) (.tup [.ref 6 [],.int .i64 0]) (dskO 3 4 D ++ [(6,.var (slVA A (openSA A D)))]):=by
  have hi0 : thereD D (0 : Nat):=⟨by omega,by have:=hi.2; omega⟩
  have hi1 : thereD D ((A + 1 : Nat) : Int):=hi
  have hiA : thereD D ((A + 0 : Nat) : Int):=⟨by omega,by have:=hi.2; omega⟩
  have k1:=read_ok D h ho 0 hi0
  have k2:=dsize_spec D
  have k3:=sectors_spec D h
  have h2:=hi.2
  have h3 : D.b.length / D.sz ≤ 32768:=Nat.le_trans (Nat.div_le_self _ _) h.bl
  have hrt : ∀ I,(readV D.sz (readB D I)).1 ≤ 4611686018427387904:=fun I => by
    unfold readV
    split
    · rename_i c; dsimp only; omega
    · exact Nat.zero_le _
  have k4:=look_specA A D h ho hz ⟨0,[],false⟩ (Nat.zero_le _) 0 hiA (hb 0 (by omega))
  have hS1 : (lookS ⟨0,[],false⟩ (readV D.sz (readB D (A + 0)))).turn ≤ 4611686018427387904:=by
    unfold lookS; split
    · exact hrt (A + 0)
    · exact Nat.zero_le _
  have k5:=look_specA A D h ho hz (lookS ⟨0,[],false⟩ (readV D.sz (readB D (A + 0)))) hS1 1 hi1 (hb 1 (by omega))
  unfold openSA
  generalize lookS (lookS ⟨0,[],false⟩ (readV D.sz (readB D (A + 0)))) (readV D.sz (readB D (A + 1))) = S2 at *
  generalize lookS ⟨0,[],false⟩ (readV D.sz (readB D (A + 0))) = S1 at *
  have hszl:=h.sz2
  have k4' : FnC Tryz.prog 185 [.int .i64 (0 : Nat),.ref 2 [],.ref 3 [],.ref 4 []] [(0,.var (dskV 5 6 D)),(1,.var (.agg [.ref 0 [],.int .i64 A,.int .i64 0,.nils,.bool false])),(2,.var (.ref 0 [])),(3,.var (.int .i64 A)),(4,.var (.ref 1 [])),(5,.row (.ints .u8 D.b.length D.b)),(6,.row (.lst 2 D.wait.length (D.wait.map wtV)))] (.tup []) (lkOA A 7 8 D S1):=by
    refine k4.sub [(0,0),(1,1),(2,2),(3,3),(4,4),(5,5),(6,6)] [] [] rfl ?_ ?_
    · simp -implicitDefEqProofs (disch:=omega) only [go_sem,↓reduceIte]
    · simp -implicitDefEqProofs (disch:=omega) only [go_sem,↓reduceIte,List.length_nil]
  have e1 : decide ((D.sz : Int) < 18) = false:=decide_eq_false (by omega)
  have e2 : decide (((D.b.length / D.sz : Nat) : Int) - 1 ≤ (A : Int)) = false:=decide_eq_false (by omega)
  have e3 : decide ((A : Int) < 0) = false:=decide_eq_false (by omega)
  generalize D.b.length / D.sz = q at *
  generalize readB D 0 = c0 at *
  refine fnV mix plOp 1 3 2 [.tmp 4,.tmp 5] Tryz.func117 rfl (by kernel_rfl) (by kernel_rfl) rfl (by kernel_rfl) (by kernel_rfl) (by simp) rfl rfl ?_
  simp -implicitDefEqProofs (disch:=omega) only [go_sem,↓reduceIte]
  refine callG false [(0,0),(1,1),(2,2)] [(0,0),(3,5),(4,6),(5,7)] 8 k1 ?_ ?_
  · simp [keys]
  simp -implicitDefEqProofs (disch:=omega) only [go_sem,↓reduceIte]
  refine callG false [(0,0),(1,5),(2,6)] [(0,0),(3,8),(4,9)] 10 k2 ?_ ?_
  · simp [keys]
  simp -implicitDefEqProofs (disch:=omega) only [go_sem,↓reduceIte,e1,e3]
  refine callG false [(0,0),(1,8),(2,9)] [(0,0),(3,10),(4,11)] 12 k3 ?_ ?_
  · simp [keys]
  simp -implicitDefEqProofs (disch:=omega) only [go_sem,↓reduceIte,e2,e3]
  refine callG false [(0,0),(1,12),(2,3),(3,4),(4,13),(5,10),(6,11)] [(0,0),(1,12),(2,3),(3,4),(4,13),(7,14),(8,15)] 16 k4' ?_ ?_
  · simp [keys]
  simp -implicitDefEqProofs (disch:=omega) only [go_sem,↓reduceIte]
  refine callG false [(0,0),(1,12),(2,3),(3,4),(4,13),(5,14),(6,15)] [(0,0),(1,12),(2,3),(3,4),(4,13),(7,16),(8,17)] 18 k5 ?_ ?_
  · simp [keys]
  simp -implicitDefEqProofs (disch:=omega) only [go_sem,↓reduceIte]
  refine ⟨[(0,0),(3,16),(4,17),(6,12)],[],[],rfl,?_,?_,?_⟩ <;> simp -implicitDefEqProofs (disch:=omega) only [go_sem,↓reduceIte]
attribute [go_sem] pl138
abbrev slPA (A : Nat) (D : DS) (S : SS) : AV:=.agg [.pp (dskP D) [],.int .i64 A,.int .i64 S.turn,.sl (.ints .u8 S.text.length S.text),.bool S.gone]
attribute [go_sem] slPA
theorem room_specA (A : Nat) (D : DS) (h : okD D) (S : SS) : FnC Tryz.prog 179 [.ref 1 []] (slOA A 2 3 D S) (.int .i64 ((D.sz : Int) - 18)) (slOA A 4 5 D S):=by
  have h2:=h.sz2
  refine fnV mix [] 2 4 1 [.tmp 2] Tryz.func179 rfl (by kernel_rfl) (by kernel_rfl) rfl (by kernel_rfl) (by kernel_rfl) (by simp) rfl rfl ?_
  simp -implicitDefEqProofs (disch:=omega) only [go_sem,↓reduceIte]
  refine callG false [(0,0),(1,2),(2,3)] [(0,0),(3,4),(4,5)] 6 (dsize_spec D) ?_ ?_
  · simp [keys]
  simp -implicitDefEqProofs (disch:=omega) only [go_sem,↓reduceIte]
  refine ⟨[(0,0),(1,1),(4,4),(5,5)],[],[],rfl,?_,?_,?_⟩ <;> simp -implicitDefEqProofs (disch:=omega) only [go_sem,↓reduceIte]
theorem room_ppA (A : Nat) (D : DS) (h : okD D) (S : SS) : FnC Tryz.prog 179 [.pp (slPA A D S) []] [] (.int .i64 ((D.sz : Int) - 18)) []:=by
  have h2:=h.sz2
  refine fn0 mix [] 0 1 [.tmp 2] Tryz.func179 rfl (by kernel_rfl) (by kernel_rfl) rfl (by kernel_rfl) (by kernel_rfl) (by simp) ?_
  simp -implicitDefEqProofs (disch:=omega) only [go_sem,↓reduceIte]
  refine call0 (dsize_pp D) ?_
  simp -implicitDefEqProofs (disch:=omega) only [go_sem,↓reduceIte]
theorem sector_ppA (A : Nat) (D : DS) (h : okD D) (S : SS) (T : Nat) (hT : T ≤ 4611686018427387904) (t : List Int) (n : Nat) (hn : t.length = n) (hl : n + 18 ≤ D.sz) :
    FnC Tryz.prog 201 [.pp (slPA A D S) [],.int .i64 T,.sl (.ints .u8 n t)] [] (.osl 0 [] 1 0 D.sz) [(0,.row (.ints .u8 D.sz (sectorL D.sz T t)))]:=by
  have h2:=h.sz2
  have k1:=number_spec T 8 8 rfl
  have k2:=number_spec n 2 2 rfl
  have i1 : (D.sz : Int) - 18 - (n : Int) = ((D.sz - 18 - n : Nat) : Int):=by omega
  have i2 : 8 + 2 + n + (D.sz - 18 - n) + 8 = D.sz:=by omega
  unfold sectorL
  rw [hn]
  refine fnN mix [] 0 3 [.tmp 6] Tryz.func201 rfl (by kernel_rfl) (by kernel_rfl) rfl (by kernel_rfl) (by kernel_rfl) (by simp) ?_
  simp -implicitDefEqProofs (disch:=omega) only [go_sem,↓reduceIte]
  refine callF 1 k1 ?_
  simp -implicitDefEqProofs (disch:=omega) only [go_sem,↓reduceIte]
  refine callF 1 k2 ?_
  simp -implicitDefEqProofs (disch:=omega) only [go_sem,↓reduceIte,List.nil_append]
  refine call0 (room_ppA A D h S) ?_
  simp -implicitDefEqProofs (disch:=omega) only [go_sem,↓reduceIte,i1]
  refine ⟨[(0,7)],[],[],rfl,?_,?_,?_⟩ <;> simp -implicitDefEqProofs (disch:=omega) only [go_sem,↓reduceIte,i2]
def replDA (A : Nat) (D : DS) (S : SS) (b : List Int) : Int × DS × SS :=
  if (writeD D ((A + (S.turn + 1) % 2 : Nat) : Int) (sectorL D.sz (S.turn + 1) b)).1 = 0 then
    (if (syncD (writeD D ((A + (S.turn + 1) % 2 : Nat) : Int) (sectorL D.sz (S.turn + 1) b)).2).1 = 0 then (0,(syncD (writeD D ((A + (S.turn + 1) % 2 : Nat) : Int) (sectorL D.sz (S.turn + 1) b)).2).2,{ S with turn:=S.turn + 1,text:=b })
    else ((syncD (writeD D ((A + (S.turn + 1) % 2 : Nat) : Int) (sectorL D.sz (S.turn + 1) b)).2).1,(syncD (writeD D ((A + (S.turn + 1) % 2 : Nat) : Int) (sectorL D.sz (S.turn + 1) b)).2).2,{ S with gone:=true }))
  else ((writeD D ((A + (S.turn + 1) % 2 : Nat) : Int) (sectorL D.sz (S.turn + 1) b)).1,(writeD D ((A + (S.turn + 1) % 2 : Nat) : Int) (sectorL D.sz (S.turn + 1) b)).2,{ S with gone:=true })
theorem replace_specA (A : Nat) (D : DS) (h : okD D) (hw : D.wait.length ≤ 90000) (S : SS) (hg : S.gone = false) (hA : A ≤ 1000) (hT : S.turn ≤ 4611686018427387000) (b : List Int) (n : Nat) (hn : b.length = n) (hl : n + 18 ≤ D.sz) :
    FnC Tryz.prog 138 [.ref 1 [],.sl (.ints .u8 n b)] (slOA A 2 3 D S) (.int .i64 (replDA A D S b).1) (slOA A 4 5 (replDA A D S b).2.1 (replDA A D S b).2.2):=by
  have h2:=h.sz2
  obtain ⟨T,t,g⟩:=S
  dsimp only at hg hT
  subst hg
  have e1 : decide ((D.sz : Int) - 18 < (n : Int)) = false:=decide_eq_false (by omega)
  have k1:=room_specA A D h ⟨T,t,false⟩
  have k2:=sector_ppA A D h ⟨T,t,false⟩ (T + 1) (by omega) b n hn hl
  have hsl:=sectorL_len (z:=D.sz) (T:=T + 1) (t:=b) (by omega)
  have k3:=write_any_own D h hw ((A + (T + 1) % 2 : Nat) : Int) (sectorL D.sz (T + 1) b) D.sz hsl (by omega)
  have hok1:=writeD_okD h hw ((A + (T + 1) % 2 : Nat) : Int) (sectorL D.sz (T + 1) b)
  have k4:=sync_spec _ hok1
  have tm : ((T : Int) + 1).tmod 2 = ((T + 1) % 2 : Nat):=by rw [Int.tmod_eq_emod_of_nonneg (by omega)]; omega
  unfold replDA
  dsimp only
  generalize sectorL D.sz (T + 1) b = X at *
  have hj : (T + 1) % 2 ≤ 1:=by omega
  generalize (T + 1) % 2 = j at *
  generalize writeD D ((A + j : Nat) : Int) X = R at *
  obtain ⟨w1,D1⟩:=R
  dsimp only at k3 k4 hok1 ⊢
  rw [Int.natCast_add] at k3
  generalize syncD D1 = Y at *
  obtain ⟨y1,D2⟩:=Y
  dsimp only at k4 ⊢
  refine fnV mix pl138 2 4 2 [.tmp 4] Tryz.func138 rfl (by kernel_rfl) (by kernel_rfl) rfl (by kernel_rfl) (by kernel_rfl) (by simp) rfl rfl ?_
  simp -implicitDefEqProofs (disch:=omega) only [go_sem,↓reduceIte]
  refine callG false [(0,0),(1,1),(2,2),(3,3)] [(0,0),(1,1),(4,4),(5,5)] 6 k1 ?_ ?_
  · simp [keys]
  simp -implicitDefEqProofs (disch:=omega) only [go_sem,↓reduceIte,e1]
  refine callBF 1 k2 ?_ ?_
  · simp -implicitDefEqProofs (disch:=omega) only [go_sem,↓reduceIte]
  simp -implicitDefEqProofs (disch:=omega) only [go_sem,↓reduceIte,tm]
  refine callG false [(5,6),(0,0),(1,4),(2,5)] [(0,0),(3,9),(4,10)] 11 k3 ?_ ?_
  · simp [keys]
  by_cases c1 : w1 = 0
  · rw [if_pos c1]
    have d1 : decide (w1 = 0) = true:=decide_eq_true c1
    simp -implicitDefEqProofs (disch:=omega) only [go_sem,↓reduceIte,d1]
    refine callG false [(0,0),(1,9),(2,10)] [(0,0),(3,11),(4,12)] 13 k4 ?_ ?_
    · simp [keys]
    by_cases c2 : y1 = 0
    · rw [if_pos c2]
      have d2 : decide (y1 = 0) = true:=decide_eq_true c2
      simp -implicitDefEqProofs (disch:=omega) only [go_sem,↓reduceIte,d2,List.nil_append]
      refine ⟨[(0,0),(1,1),(4,11),(5,12)],[],[14],rfl,?_,?_,?_⟩ <;> simp -implicitDefEqProofs (disch:=omega) only [go_sem,↓reduceIte,hn]
    · rw [if_neg c2]
      have d2 : decide (y1 = 0) = false:=decide_eq_false c2
      simp -implicitDefEqProofs (disch:=omega) only [go_sem,↓reduceIte,d2]
      refine ⟨[(0,0),(1,1),(4,11),(5,12)],[],[],rfl,?_,?_,?_⟩ <;> simp -implicitDefEqProofs (disch:=omega) only [go_sem,↓reduceIte]
  · rw [if_neg c1]
    have d1 : decide (w1 = 0) = false:=decide_eq_false c1
    simp -implicitDefEqProofs (disch:=omega) only [go_sem,↓reduceIte,d1]
    refine ⟨[(0,0),(1,1),(4,9),(5,10)],[],[],rfl,?_,?_,?_⟩ <;> simp -implicitDefEqProofs (disch:=omega) only [go_sem,↓reduceIte]
theorem replace_ownA (A : Nat) (D : DS) (h : okD D) (hw : D.wait.length ≤ 90000) (S : SS) (hg : S.gone = false) (hA : A ≤ 1000) (hT : S.turn ≤ 4611686018427387000) (b : List Int) (n : Nat) (hn : b.length = n) (hl : n + 18 ≤ D.sz) :
    FnC Tryz.prog 138 [.ref 1 [],.osl 6 [] 1 0 n] ((6,.row (.ints .u8 n b)) :: slOA A 2 3 D S) (.int .i64 (replDA A D S b).1) (slOA A 4 5 (replDA A D S b).2.1 (replDA A D S b).2.2):=by
  refine (replace_specA A D h hw S hg hA hT b n hn hl).sub [(0,0),(1,1),(2,2),(3,3)] [] [6] rfl ?_ ?_
  · simp -implicitDefEqProofs (disch:=omega) only [go_sem,↓reduceIte]
  · simp -implicitDefEqProofs (disch:=omega) only [go_sem,↓reduceIte]
theorem repl_calmA (A : Nat) {D : DS} (ho : D.off = false) (hs : D.set = false) (hw : D.wait = []) (S : SS) (b : List Int) (hi : thereD D ((A + (S.turn + 1) % 2 : Nat) : Int)) (hl : b.length + 18 ≤ D.sz) :
    replDA A D S b = (0,{ D with b:=putB D.sz D.b (A + (S.turn + 1) % 2) (sectorL D.sz (S.turn + 1) b) D.sz,wait:=[],left:=IntKind.i64.wrap (IntKind.i64.wrap (D.left - 1) - 1) },{ S with turn:=S.turn + 1,text:=b }):=by
  have hsl:=sectorL_len (z:=D.sz) (T:=S.turn + 1) (t:=b) hl
  obtain ⟨sz,B,W,off,set,left,kp⟩:=D
  dsimp only at ho hs hw hsl ⊢
  subst ho; subst hs; subst hw
  have e1 : writeD ⟨sz,B,[],false,false,left,kp⟩ ((A + (S.turn + 1) % 2 : Nat) : Int) (sectorL sz (S.turn + 1) b) = (0,⟨sz,B,[(A + (S.turn + 1) % 2,sectorL sz (S.turn + 1) b)],false,false,IntKind.i64.wrap (left - 1),kp⟩):=by
    unfold writeD
    rw [if_neg (fun h => by cases h),if_pos ⟨hi,hsl⟩,Int.toNat_natCast,failed_calm rfl]
    rfl
  have e2 : syncD ⟨sz,B,[(A + (S.turn + 1) % 2,sectorL sz (S.turn + 1) b)],false,false,IntKind.i64.wrap (left - 1),kp⟩ = (0,⟨sz,putB sz B (A + (S.turn + 1) % 2) (sectorL sz (S.turn + 1) b) sz,[],false,false,IntKind.i64.wrap (IntKind.i64.wrap (left - 1) - 1),kp⟩):=by
    unfold syncD
    rw [if_neg (fun h => by cases h),failed_calm rfl,if_neg (fun h => by cases h)]
    rfl
  unfold replDA
  rw [e1,if_pos rfl,e2,if_pos rfl]
theorem ofb_zerosN : ∀ n,ofb (List.replicate n 0) = 0
  | 0 => rfl
  | n + 1 => by rw [List.replicate_succ',ofb_snoc,ofb_zerosN n]; rfl
theorem readV_zerosN (z : Nat) : readV z (List.replicate z 0) = (0,[]):=by
  unfold readV
  rw [if_neg]
  rintro ⟨_,h,_⟩
  rw [List.take_replicate,ofb_zerosN] at h
  omega
theorem zerosN_mem {n : Nat} : ∀ x ∈ List.replicate n (0 : Int),0 ≤ x ∧ x < 256:=fun x hx => by rw [(List.mem_replicate.1 hx).2]; decide
section
variable (ns : Nat)
def dN : DS:=⟨400,List.replicate (ns * 400) 0,[],false,false,0,[]⟩
def xN : ST:=opX (0,0,0) ⟨0,0,0,0,0,[]⟩
def fN : Int × Int × Int:=opF (0,0,0) ⟨0,0,0,0,0,[]⟩
def dM : DS:=⟨400,putB 400 (List.replicate (ns * 400) 0) 1 (sectorL 400 1 (tx xN)) 400,[],false,false,IntKind.i64.wrap (IntKind.i64.wrap (0 - 1) - 1),[]⟩
theorem nlen : (List.replicate (ns * 400) (0 : Int)).length = ns * 400:=by rw [List.length_replicate]
theorem chunkN {q : Nat} (h : q < ns) : chunk 400 (List.replicate (ns * 400) (0 : Int)) q = List.replicate 400 0:=by
  unfold chunk
  rw [List.drop_replicate,List.take_replicate]
  congr 1
  have : (q + 1) * 400 ≤ ns * 400:=Nat.mul_le_mul_right _ h
  omega
variable (hns : 5 ≤ ns ∧ ns ≤ 64)
include hns in
theorem dN_ok : okD (dN ns):=⟨show 1 ≤ 400 by decide,show 400 ≤ 512 by decide,by show (List.replicate (ns * 400) (0 : Int)).length ≤ _; rw [List.length_replicate]; omega,Nat.zero_le _,Nat.zero_le _,fun w h => by cases h⟩
theorem thereN {i : Nat} (h : i < ns) : thereD (dN ns) i:=by
  show (0 : Int) ≤ i ∧ (i : Int) < (((List.replicate (ns * 400) (0 : Int)).length / 400 : Nat) : Int)
  rw [List.length_replicate]
  omega
theorem readN {i : Nat} (h : i < ns) : readB (dN ns) i = List.replicate 400 0:=chunkN ns h
include hns in
theorem openN : openS (dN ns) = ⟨0,[],false⟩:=by
  unfold openS
  rw [readN ns (by omega),readN ns (by omega),show (dN ns).sz = 400 from rfl,readV_zerosN]
  rfl
theorem txN : (tx xN).length + 18 ≤ 400:=by rw [tx_len]; decide
include hns in
theorem replN : replD (dN ns) ⟨0,[],false⟩ (tx xN) = (0,dM ns,⟨1,tx xN,false⟩) :=
  repl_calm (D:=dN ns) rfl rfl rfl ⟨0,[],false⟩ (tx xN) (thereN ns (i:=1) (by omega)) txN
include hns in
theorem sopen_newN (total : Int) (ht : 2 ≤ total ∧ total ≤ 65536) :
    FnC Tryz.prog 116 [.ref 0 [],.int .i64 0,.ref 1 [],.int .i64 total,.int .i64 1] [(0,.var (dskV 2 3 (dN ns))),(1,.var (fcV (0,0,0))),(2,.row (.ints .u8 (dN ns).b.length (dN ns).b)),(3,.row (.lst 2 (dN ns).wait.length ((dN ns).wait.map wtV)))]
      (.tup [.ref 7 [],.int .i64 0]) (spO 4 5 6 7 (dM ns) ⟨1,tx xN,false⟩ fN xN total 1 0 false):=by
  have k:=sopen_spec (dN ns) (dN_ok ns hns) rfl (show 318 ≤ 400 by decide) (thereN ns (i:=1) (by omega)) (fun I h => by rw [readN ns (by omega)]; exact zerosN_mem) rfl (0,0,0) ⟨0,0,0,0,0,[]⟩ total 1 ht (by decide) 0 [] (by decide) (openN ns hns) (.inl ⟨rfl,rfl⟩) (by decide) (by rw [show opX (0,0,0) ⟨0,0,0,0,0,[]⟩ = xN from rfl,replN ns hns])
  rw [show opX (0,0,0) ⟨0,0,0,0,0,[]⟩ = xN from rfl,replN ns hns] at k
  exact k
include hns in
theorem dM_len : (dM ns).b.length = ns * 400:=by
  show (putB 400 (List.replicate (ns * 400) 0) 1 (sectorL 400 1 (tx xN)) 400).length = ns * 400
  rw [putB_len (by rw [List.length_replicate]; omega) (by rw [sectorL_len txN]; exact Nat.le_refl _),List.length_replicate]
include hns in
theorem dM_ok : okD (dM ns):=⟨show 1 ≤ 400 by decide,show 400 ≤ 512 by decide,by rw [dM_len ns hns]; omega,Nat.zero_le _,Nat.zero_le _,fun w h => by cases h⟩
include hns in
theorem thereM {i : Nat} (h : i < ns) : thereD (dM ns) i:=by
  unfold thereD
  rw [dM_len ns hns,show (dM ns).sz = 400 from rfl]
  omega
include hns in
theorem readM {i : Nat} (h : i < ns) (h1 : i ≠ 1) : readB (dM ns) i = List.replicate 400 0:=by
  have:=chunk_put (sz:=400) (ns:=ns) (b:=List.replicate (ns * 400) (0 : Int)) (t:=sectorL 400 1 (tx xN)) (at':=1) (m:=400) (q:=i) (nlen ns) (by omega) h (sectorL_len txN) (Nat.le_refl _)
  rw [if_neg h1,chunkN ns h] at this
  exact this
include hns in
theorem openM : openSA 2 (dM ns) = ⟨0,[],false⟩:=by
  unfold openSA
  rw [readM ns hns (by omega) (by decide),readM ns hns (by omega) (by decide),show (dM ns).sz = 400 from rfl,readV_zerosN]
  rfl
include hns in
theorem eopen_newN : FnC Tryz.prog 117 [.ref 0 [],.int .i64 2] (dskO 1 2 (dM ns)) (.tup [.ref 6 [],.int .i64 0]) (dskO 3 4 (dM ns) ++ [(6,.var (slVA 2 ⟨0,[],false⟩))]):=by
  have k:=open_specA 2 (dM ns) (dM_ok ns hns) rfl (show 18 ≤ 400 by decide) (thereM ns hns (i:=3) (by omega)) (fun I h => by rw [readM ns hns (by omega) (by omega)]; exact zerosN_mem)
  rw [openM ns hns] at k
  exact k
end
end Go.Proofs.YtololahjocfbeaaGreat
namespace Go.Proofs.YtololahjocfbeaaGreat
open Go Go.Sy Go.Proofs.Tryz
set_option maxRecDepth 100000
set_option linter.unusedSimpArgs false
set_option linter.unusedVariables false
structure Calm (ns : Nat) (D : DS) : Prop where
  sz : D.sz = 400
  bl : D.b.length = ns * 400
  wt : D.wait = []
  off : D.off = false
  set : D.set = false
  kp : D.keep.length ≤ 9223372036854775807
theorem Calm.ok {ns : Nat} {D : DS} (h : Calm ns D) (hns : ns ≤ 64) : okD D :=
  ⟨by rw [h.sz]; decide,by rw [h.sz]; decide,by rw [h.bl]; omega,by rw [h.wt]; exact Nat.zero_le _,h.kp,fun w hw => by rw [h.wt] at hw; cases hw⟩
theorem Calm.there {ns : Nat} {D : DS} (h : Calm ns D) {i : Nat} (hi : i < ns) : thereD D (i : Int):=by
  unfold thereD
  rw [h.bl,h.sz]
  omega
theorem Calm.put {ns : Nat} {D : DS} (h : Calm ns D) {i : Nat} (hi : i < ns) {t : List Int} (ht : t.length = 400) (left : Int) : Calm ns { sz:=400,b:=putB 400 D.b i t 400,wait:=[],off:=D.off,set:=D.set,left:=left,keep:=D.keep } :=
  ⟨rfl,by
    show (putB 400 D.b i t 400).length = ns * 400
    have : (i + 1) * 400 ≤ ns * 400:=Nat.mul_le_mul_right _ hi
    rw [putB_len (by rw [h.bl]; omega) (by omega),h.bl],rfl,h.off,h.set,h.kp⟩
theorem Calm.repl {ns : Nat} {D : DS} (h : Calm ns D) (hns : ns ≤ 64) (S : SS) (hg : S.gone = false) (t : List Int) (ht : t.length + 18 ≤ 400) (h2 : 2 ≤ ns) :
    ∃ D',replD D S t = (0,D',⟨S.turn + 1,t,false⟩) ∧ Calm ns D':=by
  have k:=repl_calm h.off h.set h.wt S t (h.there (by omega)) (by rw [h.sz]; exact ht)
  rw [h.sz] at k
  obtain ⟨T,tt,g⟩:=S
  dsimp only at hg
  subst hg
  exact ⟨_,k,h.put (by omega) (sectorL_len ht) _⟩
theorem Calm.replA {ns : Nat} {D : DS} (h : Calm ns D) (hns : ns ≤ 64) (A : Nat) (hA : A + 2 ≤ ns) (S : SS) (hg : S.gone = false) (t : List Int) (ht : t.length + 18 ≤ 400) :
    ∃ D',replDA A D S t = (0,D',⟨S.turn + 1,t,false⟩) ∧ Calm ns D':=by
  have k:=repl_calmA A h.off h.set h.wt S t (h.there (by omega)) (by rw [h.sz]; exact ht)
  rw [h.sz] at k
  obtain ⟨T,tt,g⟩:=S
  dsimp only at hg
  subst hg
  exact ⟨_,k,h.put (by omega) (sectorL_len ht) _⟩
theorem Calm.write {ns : Nat} {D : DS} (h : Calm ns D) (hns : ns ≤ 64) {i : Nat} (hi : i < ns) {t : List Int} (ht : t.length = 400) :
    ∃ D1,writeD D (i : Int) t = (0,D1) ∧ okD D1 ∧ ∃ D2,syncD D1 = (0,D2) ∧ Calm ns D2:=by
  have h1:=h.there hi
  have ho:=h.ok hns
  have hiS : i * D.sz + D.sz ≤ D.b.length:=by
    rw [h.sz,h.bl]
    have : (i + 1) * 400 ≤ ns * 400:=Nat.mul_le_mul_right _ hi
    omega
  refine ⟨{ D with wait:=D.wait ++ [(i,t)],left:=IntKind.i64.wrap (D.left - 1) },?_,?_,{ sz:=400,b:=putB 400 D.b i t 400,wait:=[],off:=D.off,set:=D.set,left:=IntKind.i64.wrap (IntKind.i64.wrap (D.left - 1) - 1),keep:=D.keep },?_,h.put hi ht _⟩
  · unfold writeD
    rw [if_neg (by rw [h.off]; decide),if_pos ⟨h1,by rw [ht,h.sz]⟩,Int.toNat_natCast,failed_calm (show ({ D with wait:=D.wait ++ [(i,t)] } : DS).set = false from h.set)]
    rfl
  · have o:=okD_wait ho (by rw [h.wt]; exact Nat.zero_le _) hiS (t:=t) (by rw [ht,h.sz])
    exact ⟨o.sz1,o.sz2,o.bl,o.wl,o.kl,o.wt⟩
  · obtain ⟨sz,B,W,off,set,left,kp⟩:=D
    have e1:=h.sz
    have e2:=h.wt
    have e3:=h.off
    have e4:=h.set
    dsimp only at e1 e2 e3 e4 ⊢
    subst e1; subst e2; subst e3; subst e4
    unfold syncD
    rw [if_neg (fun h => by cases h),failed_calm rfl,if_neg (fun h => by cases h)]
    rfl
theorem dM_calm {ns : Nat} (hns : 5 ≤ ns ∧ ns ≤ 64) : Calm ns (dM ns):=⟨rfl,dM_len ns hns,rfl,rfl,rfl,show 0 ≤ _ by decide⟩
end Go.Proofs.YtololahjocfbeaaGreat
