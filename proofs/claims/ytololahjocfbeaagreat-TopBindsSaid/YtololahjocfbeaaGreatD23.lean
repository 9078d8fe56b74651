/- Texts,joined. -/
import Derived.Test.YtololahjocfbeaaGreatD21
namespace Go.Proofs.YtololahjocfbeaaGreat
open Go Go.Sy Go.Proofs.Tryz
set_option maxRecDepth 100000
set_option maxHeartbeats 8000000
set_option linter.unusedSimpArgs false
set_option linter.unusedVariables false
theorem deal_spent (D : DS) (S : SS) (F : Int × Int × Int) (x : ST) (total batch next : Int) (m : List Int) (n : Nat) (hn : m.length = n) (hc : ¬ (n = 0 ∨ 200 < n)) (he : toU m ≠ x.msg) (hs : total - 1 ≤ next) (ht : 0 ≤ total ∧ total ≤ 65536) :
    FnC Tryz.prog 78 [.ref 3 [],.sl (.ints .u8 n m)] (sgO 4 5 D S F x total batch next false) (.tup [.int .i64 0,.int .i64 0,.int .i64 6]) (sgO 6 7 D S F x total batch next false):=by
  have k:=may_spec D S F x total batch next m n hn (by omega)
  rw [if_neg hc] at k
  have e1 : decide ((m.map fun x => UInt8.ofNat x.toNat) = x.msg) = false:=decide_eq_false he
  have e2 : decide (total - 1 ≤ next) = true:=decide_eq_true hs
  refine fnV mix plSD 4 6 2 [.tmp 4,.tmp 5,.tmp 6] Tryz.func78 rfl (by kernel_rfl) (by kernel_rfl) rfl (by kernel_rfl) (by kernel_rfl) (by simp) rfl rfl ?_
  simp -implicitDefEqProofs (disch:=omega) only [go_sem,↓reduceIte]
  refine callG false [(0,0),(1,1),(2,2),(3,3),(4,4),(5,5)] [(0,0),(1,1),(2,2),(3,3),(6,6),(7,7)] 8 k ?_ ?_
  · simp [keys]
  simp -implicitDefEqProofs (disch:=omega) only [go_sem,↓reduceIte,e1,e2]
  refine ⟨[(0,0),(1,1),(2,2),(3,3),(6,6),(7,7)],[],[],rfl,?_,?_,?_⟩ <;> simp -implicitDefEqProofs (disch:=omega) only [go_sem,↓reduceIte]
def dealY (x : ST) (total batch next : Int) (m : List UInt8) : ST:=⟨x.gen,x.key,if x.res ≤ next then min (next + batch) (total - 1) else x.res,x.key,next,m⟩
def dealF (F : Int × Int × Int) (x : ST) (total batch next : Int) : Int × Int × Int:=if x.res ≤ next then lst3 F (x.gen,x.key,min (next + batch) (total - 1)) else F
theorem deal_new (D : DS) (h : okD D) (hw : D.wait.length ≤ 90000) (S : SS) (hg : S.gone = false) (hT : S.turn ≤ 4611686018427387000) (hsz : 272 ≤ D.sz) (F : Int × Int × Int) (x : ST) (total batch next : Int) (m : List Int) (n : Nat) (hn : m.length = n) (hc : ¬ (n = 0 ∨ 200 < n)) (he : toU m ≠ x.msg) (hs : ¬ total - 1 ≤ next) (ht : 0 ≤ total ∧ total ≤ 65536) (hb : 0 ≤ batch ∧ batch ≤ 100) (hx : 0 ≤ next) :
    FnC Tryz.prog 78 [.ref 3 [],.sl (.ints .u8 n m)] (sgO 4 5 D S F x total batch next false)
      (if (replD D S (tx (dealY x total batch next (toU m)))).1 = 0 then .tup [.int .i64 x.key,.int .i64 next,.int .i64 0] else .tup [.int .i64 0,.int .i64 0,.int .i64 9])
      (sgO 6 7 (replD D S (tx (dealY x total batch next (toU m)))).2.1 (replD D S (tx (dealY x total batch next (toU m)))).2.2 (dealF F x total batch next) (if (replD D S (tx (dealY x total batch next (toU m)))).1 = 0 then dealY x total batch next (toU m) else x) total batch
        (if (replD D S (tx (dealY x total batch next (toU m)))).1 = 0 then next + 1 else next) (decide ((replD D S (tx (dealY x total batch next (toU m)))).1 ≠ 0))):=by
  have k:=may_spec D S F x total batch next m n hn (by omega)
  rw [if_neg hc] at k
  have e1 : decide ((m.map fun x => UInt8.ofNat x.toNat) = x.msg) = false:=decide_eq_false he
  have e2 : decide (total - 1 ≤ next) = false:=decide_eq_false hs
  have hml : (toU m).length ≤ 200:=by rw [toU_len]; omega
  have k2:=store_spec D h hw S hg hT (dealF F x total batch next) x (dealY x total batch next (toU m)) hml hsz total batch next
  by_cases c1 : x.res ≤ next
  · have e3 : decide (x.res ≤ next) = true:=decide_eq_true c1
    have eY : dealY x total batch next (toU m) = ⟨x.gen,x.key,min (next + batch) (total - 1),x.key,next,toU m⟩:=by unfold dealY; rw [if_pos c1]
    have eF : dealF F x total batch next = lst3 F (x.gen,x.key,min (next + batch) (total - 1)):=by unfold dealF; rw [if_pos c1]
    have kr:=sraise_spec D S F x total batch next false x.key (min (next + batch) (total - 1))
    rw [eY,eF] at k2 ⊢
    generalize replD D S (tx ⟨x.gen,x.key,min (next + batch) (total - 1),x.key,next,toU m⟩) = R at *
    obtain ⟨r,D',S'⟩:=R
    dsimp only at k2 ⊢
    by_cases c : r = 0
    · rw [if_pos c,if_pos c,decide_eq_false (fun h => h c)] at k2
      rw [if_pos c,if_pos c,if_pos c,decide_eq_false (fun h => h c)]
      generalize lst3 F (x.gen,x.key,min (next + batch) (total - 1)) = F' at *
      refine fnV mix plSD 4 6 2 [.tmp 4,.tmp 5,.tmp 6] Tryz.func78 rfl (by kernel_rfl) (by kernel_rfl) rfl (by kernel_rfl) (by kernel_rfl) (by simp) rfl rfl ?_
      simp -implicitDefEqProofs (disch:=omega) only [go_sem,↓reduceIte]
      refine callG false [(0,0),(1,1),(2,2),(3,3),(4,4),(5,5)] [(0,0),(1,1),(2,2),(3,3),(6,6),(7,7)] 8 k ?_ ?_
      · simp [keys]
      simp -implicitDefEqProofs (disch:=omega) only [go_sem,↓reduceIte,e1,e2,e3]
      refine callG false [(0,0),(1,1),(2,2),(3,3),(4,6),(5,7)] [(0,0),(1,1),(2,2),(3,3),(6,9),(7,10)] 11 kr ?_ ?_
      · simp [keys]
      simp -implicitDefEqProofs (disch:=omega) only [go_sem,↓reduceIte]
      refine callG false [(0,0),(1,1),(2,2),(3,3),(4,9),(5,10)] [(0,0),(1,1),(2,2),(3,3),(6,11),(7,12)] 13 k2 ?_ ?_
      · simp [keys,toU]
      simp -implicitDefEqProofs (disch:=omega) only [go_sem,↓reduceIte,toU]
      refine ⟨[(0,0),(1,1),(2,2),(3,3),(6,11),(7,12)],[],[],rfl,?_,?_,?_⟩ <;> simp -implicitDefEqProofs (disch:=omega) only [go_sem,↓reduceIte,toU]
    · rw [if_neg c,if_neg c,decide_eq_true c] at k2
      rw [if_neg c,if_neg c,if_neg c,decide_eq_true c]
      generalize lst3 F (x.gen,x.key,min (next + batch) (total - 1)) = F' at *
      refine fnV mix plSD 4 6 2 [.tmp 4,.tmp 5,.tmp 6] Tryz.func78 rfl (by kernel_rfl) (by kernel_rfl) rfl (by kernel_rfl) (by kernel_rfl) (by simp) rfl rfl ?_
      simp -implicitDefEqProofs (disch:=omega) only [go_sem,↓reduceIte]
      refine callG false [(0,0),(1,1),(2,2),(3,3),(4,4),(5,5)] [(0,0),(1,1),(2,2),(3,3),(6,6),(7,7)] 8 k ?_ ?_
      · simp [keys]
      simp -implicitDefEqProofs (disch:=omega) only [go_sem,↓reduceIte,e1,e2,e3]
      refine callG false [(0,0),(1,1),(2,2),(3,3),(4,6),(5,7)] [(0,0),(1,1),(2,2),(3,3),(6,9),(7,10)] 11 kr ?_ ?_
      · simp [keys]
      simp -implicitDefEqProofs (disch:=omega) only [go_sem,↓reduceIte]
      refine callG false [(0,0),(1,1),(2,2),(3,3),(4,9),(5,10)] [(0,0),(1,1),(2,2),(3,3),(6,11),(7,12)] 13 k2 ?_ ?_
      · simp [keys,toU]
      simp -implicitDefEqProofs (disch:=omega) only [go_sem,↓reduceIte,toU]
      refine ⟨[(0,0),(1,1),(2,2),(3,3),(6,11),(7,12)],[],[],rfl,?_,?_,?_⟩ <;> simp -implicitDefEqProofs (disch:=omega) only [go_sem,↓reduceIte,toU]
  · have e3 : decide (x.res ≤ next) = false:=decide_eq_false c1
    have eY : dealY x total batch next (toU m) = ⟨x.gen,x.key,x.res,x.key,next,toU m⟩:=by unfold dealY; rw [if_neg c1]
    have eF : dealF F x total batch next = F:=by unfold dealF; rw [if_neg c1]
    rw [eY,eF] at k2 ⊢
    generalize replD D S (tx ⟨x.gen,x.key,x.res,x.key,next,toU m⟩) = R at *
    obtain ⟨r,D',S'⟩:=R
    dsimp only at k2 ⊢
    by_cases c : r = 0
    · rw [if_pos c,if_pos c,decide_eq_false (fun h => h c)] at k2
      rw [if_pos c,if_pos c,if_pos c,decide_eq_false (fun h => h c)]
      refine fnV mix plSD 4 6 2 [.tmp 4,.tmp 5,.tmp 6] Tryz.func78 rfl (by kernel_rfl) (by kernel_rfl) rfl (by kernel_rfl) (by kernel_rfl) (by simp) rfl rfl ?_
      simp -implicitDefEqProofs (disch:=omega) only [go_sem,↓reduceIte]
      refine callG false [(0,0),(1,1),(2,2),(3,3),(4,4),(5,5)] [(0,0),(1,1),(2,2),(3,3),(6,6),(7,7)] 8 k ?_ ?_
      · simp [keys]
      simp -implicitDefEqProofs (disch:=omega) only [go_sem,↓reduceIte,e1,e2,e3]
      refine callG false [(0,0),(1,1),(2,2),(3,3),(4,6),(5,7)] [(0,0),(1,1),(2,2),(3,3),(6,9),(7,10)] 11 k2 ?_ ?_
      · simp [keys,toU]
      simp -implicitDefEqProofs (disch:=omega) only [go_sem,↓reduceIte,toU]
      refine ⟨[(0,0),(1,1),(2,2),(3,3),(6,9),(7,10)],[],[],rfl,?_,?_,?_⟩ <;> simp -implicitDefEqProofs (disch:=omega) only [go_sem,↓reduceIte,toU]
    · rw [if_neg c,if_neg c,decide_eq_true c] at k2
      rw [if_neg c,if_neg c,if_neg c,decide_eq_true c]
      refine fnV mix plSD 4 6 2 [.tmp 4,.tmp 5,.tmp 6] Tryz.func78 rfl (by kernel_rfl) (by kernel_rfl) rfl (by kernel_rfl) (by kernel_rfl) (by simp) rfl rfl ?_
      simp -implicitDefEqProofs (disch:=omega) only [go_sem,↓reduceIte]
      refine callG false [(0,0),(1,1),(2,2),(3,3),(4,4),(5,5)] [(0,0),(1,1),(2,2),(3,3),(6,6),(7,7)] 8 k ?_ ?_
      · simp [keys]
      simp -implicitDefEqProofs (disch:=omega) only [go_sem,↓reduceIte,e1,e2,e3]
      refine callG false [(0,0),(1,1),(2,2),(3,3),(4,6),(5,7)] [(0,0),(1,1),(2,2),(3,3),(6,9),(7,10)] 11 k2 ?_ ?_
      · simp [keys,toU]
      simp -implicitDefEqProofs (disch:=omega) only [go_sem,↓reduceIte,toU]
      refine ⟨[(0,0),(1,1),(2,2),(3,3),(6,9),(7,10)],[],[],rfl,?_,?_,?_⟩ <;> simp -implicitDefEqProofs (disch:=omega) only [go_sem,↓reduceIte,toU]
end Go.Proofs.YtololahjocfbeaaGreat
