/- Texts,joined. -/
import Derived.Test.YtololahjocfbeaaGreatD23
namespace Go.Proofs.YtololahjocfbeaaGreat
open Go Go.Sy Go.Proofs.Tryz
set_option maxRecDepth 100000
set_option maxHeartbeats 8000000
set_option linter.unusedSimpArgs false
set_option linter.unusedVariables false
def opX (F : Int × Int × Int) (x : ST) : ST:=⟨(lst3 F (x.gen,x.key,x.res)).1 + 1,(lst3 F (x.gen,x.key,x.res)).2.1,(lst3 F (x.gen,x.key,x.res)).2.2,x.lk,x.li,x.msg⟩
def opF (F : Int × Int × Int) (x : ST) : Int × Int × Int:=lst3 F ((opX F x).gen,(opX F x).key,(opX F x).res)
abbrev spO (i j s g : Nat) (D : DS) (S : SS) (F : Int × Int × Int) (x : ST) (total batch next : Int) (gone : Bool) : OO :=
  [(0,.var (dskV i j D)),(1,.var (fcV F)),(s,.var (slV S)),(g,.var (sgV s 1 x total batch next gone)),(i,.row (.ints .u8 D.b.length D.b)),(j,.row (.lst 2 D.wait.length (D.wait.map wtV)))]
attribute [go_sem] spO
attribute [simp] spO
theorem sopen_spec (D : DS) (h : okD D) (ho : D.off = false) (hsz : 318 ≤ D.sz) (hi : thereD D 1) (hb : ∀ I : Nat,I ≤ 1 → ∀ x ∈ readB D I,0 ≤ x ∧ x < 256) (hw : D.wait = []) (F : Int × Int × Int) (x : ST) (total batch : Int) (ht : 2 ≤ total ∧ total ≤ 65536) (hbt : 1 ≤ batch ∧ batch ≤ 16)
    (T : Nat) (t : List Int) (hT : T ≤ 1000) (hop : openS D = ⟨T,t,false⟩) (hx : (T = 0 ∧ x = ⟨0,0,0,0,0,[]⟩) ∨ (1 ≤ T ∧ t = tx x ∧ x.msg.length ≤ 200 ∧ ∀ v ∈ [x.gen,x.key,x.res,x.lk,x.li],0 ≤ v ∧ v ≤ 4611686018427387904))
    (hF : 0 ≤ F.1 ∧ F.1 ≤ 4611686018427387000) (hr : (replD D ⟨T,t,false⟩ (tx (opX F x))).1 = 0) :
    FnC Tryz.prog 116 [.ref 0 [],.int .i64 0,.ref 1 [],.int .i64 total,.int .i64 batch] [(0,.var (dskV 2 3 D)),(1,.var (fcV F)),(2,.row (.ints .u8 D.b.length D.b)),(3,.row (.lst 2 D.wait.length (D.wait.map wtV)))]
      (.tup [.ref 7 [],.int .i64 0]) (spO 4 5 6 7 (replD D ⟨T,t,false⟩ (tx (opX F x))).2.1 (replD D ⟨T,t,false⟩ (tx (opX F x))).2.2 (opF F x) (opX F x) total batch (opX F x).res false):=by
  have k1:=open_spec D h ho (by omega) hi hb
  rw [hop] at k1
  have k2:=room_spec D h ⟨T,t,false⟩
  have k3:=sturn_spec D ⟨T,t,false⟩
  have hxm : x.msg.length ≤ 200:=by
    rcases hx with ⟨_,rfl⟩ | ⟨_,_,h,_⟩
    · exact Nat.zero_le _
    · exact h
  have ke:=least3_spec F (x.gen,x.key,x.res)
  have kr:=sraise_spec D ⟨T,t,false⟩ F (opX F x) total batch (opX F x).res false (opX F x).key (opX F x).res
  have ks:=store_spec D h (by rw [hw]; simp) ⟨T,t,false⟩ rfl (by dsimp only; omega) (opF F x) (opX F x) (opX F x) hxm (by omega) total batch (opX F x).res
  rw [hr,if_pos rfl,if_pos rfl,decide_eq_false (fun h => h rfl)] at ks
  have d1 : decide ((D.sz : Int) - 18 < 300) = false:=decide_eq_false (by omega)
  have b1 : decide (total < 2) = false:=decide_eq_false (by omega)
  have b2 : decide (65536 < total) = false:=decide_eq_false (by omega)
  have b3 : decide (batch < 1) = false:=decide_eq_false (by omega)
  have b4 : decide (16 < batch) = false:=decide_eq_false (by omega)
  have hM : 0 ≤ (lst3 F (x.gen,x.key,x.res)).1 ∧ (lst3 F (x.gen,x.key,x.res)).1 ≤ 4611686018427387904:=by
    have : (lst3 F (x.gen,x.key,x.res)).1 = max F.1 x.gen:=rfl
    rcases hx with ⟨_,rfl⟩ | ⟨_,_,_,hv⟩
    · rw [this]; dsimp only; omega
    · have:=hv x.gen (by simp)
      omega
  unfold opF opX at *
  generalize replD D ⟨T,t,false⟩ (tx ⟨(lst3 F (x.gen,x.key,x.res)).1 + 1,(lst3 F (x.gen,x.key,x.res)).2.1,(lst3 F (x.gen,x.key,x.res)).2.2,x.lk,x.li,x.msg⟩) = R at *
  obtain ⟨r,D',S'⟩:=R
  dsimp only at ke kr ks hM ⊢
  rcases hx with ⟨rfl,rfl⟩ | ⟨hT1,rfl,_,hv⟩
  · refine fnV mix plSO 2 4 5 [.tmp 10,.tmp 11] Tryz.func116 rfl (by kernel_rfl) (by kernel_rfl) rfl (by kernel_rfl) (by kernel_rfl) (by simp) rfl rfl ?_
    simp -implicitDefEqProofs (disch:=omega) only [go_sem,↓reduceIte,b1,b2,b3,b4]
    refine callG false [(0,0),(1,2),(2,3)] [(0,0),(3,4),(4,5),(6,6)] 7 k1 ?_ ?_
    · simp [keys]
    simp -implicitDefEqProofs (disch:=omega) only [go_sem,↓reduceIte]
    refine callG false [(0,0),(1,6),(2,4),(3,5)] [(0,0),(1,6),(4,7),(5,8)] 9 k2 ?_ ?_
    · simp [keys]
    simp -implicitDefEqProofs (disch:=omega) only [go_sem,↓reduceIte,d1]
    refine callG false [(0,0),(1,6),(2,7),(3,8)] [(0,0),(1,6),(4,10),(5,11)] 12 k3 ?_ ?_
    · simp [keys]
    simp -implicitDefEqProofs (disch:=omega) only [go_sem,↓reduceIte]
    dsimp only at ke kr ks hM ⊢
    generalize lst3 F (0,0,0) = M at *
    refine callG false [(0,1)] [(0,1)] 13 (marks3_spec F) ?_ ?_
    · simp [keys]
    simp -implicitDefEqProofs (disch:=omega) only [go_sem,↓reduceIte]
    refine call0 ke ?_
    simp -implicitDefEqProofs (disch:=omega) only [go_sem,↓reduceIte]
    refine callG false [(0,0),(1,6),(2,1),(3,9),(4,10),(5,11)] [(0,0),(1,6),(2,1),(3,9),(6,14),(7,15)] 16 kr ?_ ?_
    · simp [keys]
    simp -implicitDefEqProofs (disch:=omega) only [go_sem,↓reduceIte]
    refine callG false [(0,0),(1,6),(2,1),(3,9),(4,14),(5,15)] [(0,0),(1,6),(2,1),(3,9),(6,16),(7,17)] 18 ks ?_ ?_
    · simp [keys]
    simp -implicitDefEqProofs (disch:=omega) only [go_sem,↓reduceIte]
    refine ⟨[(0,0),(1,1),(6,6),(7,9),(4,16),(5,17)],[],[],rfl,?_,?_,?_⟩ <;> simp -implicitDefEqProofs (disch:=omega) only [go_sem,↓reduceIte]
  · have ktx:=text_spec D ⟨T,tx x,false⟩ (by dsimp only; rw [tx_len]; omega)
    have krd:=read_row x.gen x.key x.res x.lk x.li x.msg hxm hv
    have et : rowS [x.gen,x.key,x.res,x.lk,x.li] x.msg = tx x:=rfl
    rw [et,← tx_len x] at krd
    have dT : decide (0 < (T : Int)) = true:=decide_eq_true (by omega)
    generalize lst3 F (x.gen,x.key,x.res) = M at *
    generalize tx x = X at *
    refine fnV mix plSO 2 4 5 [.tmp 10,.tmp 11] Tryz.func116 rfl (by kernel_rfl) (by kernel_rfl) rfl (by kernel_rfl) (by kernel_rfl) (by simp) rfl rfl ?_
    simp -implicitDefEqProofs (disch:=omega) only [go_sem,↓reduceIte,b1,b2,b3,b4]
    refine callG false [(0,0),(1,2),(2,3)] [(0,0),(3,4),(4,5),(6,6)] 7 k1 ?_ ?_
    · simp [keys]
    simp -implicitDefEqProofs (disch:=omega) only [go_sem,↓reduceIte]
    refine callG false [(0,0),(1,6),(2,4),(3,5)] [(0,0),(1,6),(4,7),(5,8)] 9 k2 ?_ ?_
    · simp [keys]
    simp -implicitDefEqProofs (disch:=omega) only [go_sem,↓reduceIte,d1]
    refine callG false [(0,0),(1,6),(2,7),(3,8)] [(0,0),(1,6),(4,10),(5,11)] 12 k3 ?_ ?_
    · simp [keys]
    simp -implicitDefEqProofs (disch:=omega) only [go_sem,↓reduceIte,dT]
    refine callG false [(0,0),(1,6),(2,10),(3,11)] [(0,0),(1,6),(4,12),(5,13),(6,14)] 15 ktx ?_ ?_
    · simp [keys]
    simp -implicitDefEqProofs (disch:=omega) only [go_sem,↓reduceIte]
    refine callB krd ?_ ?_
    · simp -implicitDefEqProofs (disch:=omega) only [go_sem,↓reduceIte]
    simp -implicitDefEqProofs (disch:=omega) only [go_sem,↓reduceIte]
    refine callG false [(0,1)] [(0,1)] 16 (marks3_spec F) ?_ ?_
    · simp [keys]
    simp -implicitDefEqProofs (disch:=omega) only [go_sem,↓reduceIte]
    refine call0 ke ?_
    simp -implicitDefEqProofs (disch:=omega) only [go_sem,↓reduceIte]
    refine callG false [(0,0),(1,6),(2,1),(3,9),(4,12),(5,13)] [(0,0),(1,6),(2,1),(3,9),(6,17),(7,18)] 19 kr ?_ ?_
    · simp [keys]
    simp -implicitDefEqProofs (disch:=omega) only [go_sem,↓reduceIte]
    refine callG false [(0,0),(1,6),(2,1),(3,9),(4,17),(5,18)] [(0,0),(1,6),(2,1),(3,9),(6,19),(7,20)] 21 ks ?_ ?_
    · simp [keys]
    simp -implicitDefEqProofs (disch:=omega) only [go_sem,↓reduceIte]
    refine ⟨[(0,0),(1,1),(6,6),(7,9),(4,19),(5,20)],[],[],rfl,?_,?_,?_⟩ <;> simp -implicitDefEqProofs (disch:=omega) only [go_sem,↓reduceIte]
end Go.Proofs.YtololahjocfbeaaGreat
