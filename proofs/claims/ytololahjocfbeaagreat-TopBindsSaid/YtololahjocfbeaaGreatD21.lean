/- Texts,joined. -/
import Derived.Test.YtololahjocfbeaaGreatD18
import Derived.Test.YtololahjocfbeaaGreatD11
import Derived.Test.YtololahjocfbeaaGreatD19
namespace Go.Proofs.YtololahjocfbeaaGreat
open Go Go.Sy Go.Proofs.Tryz
set_option maxRecDepth 100000
set_option maxHeartbeats 8000000
set_option linter.unusedSimpArgs false
set_option linter.unusedVariables false
structure ST where
  gen : Int
  key : Int
  res : Int
  lk : Int
  li : Int
  msg : List UInt8
abbrev sgstV (x : ST) : AV:=.agg [.int .i64 x.gen,.int .i64 x.key,.int .i64 x.res,.agg [.int .i64 x.lk,.int .i64 x.li,.str x.msg]]
abbrev sgV (a b : Nat) (x : ST) (total batch next : Int) (gone : Bool) : AV:=.agg [sgstV x,.ref a [],.ref b [],.int .i64 total,.int .i64 batch,.int .i64 next,.bool gone]
abbrev fcV (F : Int × Int × Int) : AV:=.agg [.agg [.int .i64 F.1,.int .i64 F.2.1,.int .i64 F.2.2]]
abbrev sgO (i j : Nat) (D : DS) (S : SS) (F : Int × Int × Int) (x : ST) (total batch next : Int) (gone : Bool) : OO :=
  [(0,.var (dskV i j D)),(1,.var (slV S)),(2,.var (fcV F)),(3,.var (sgV 1 2 x total batch next gone)),(i,.row (.ints .u8 D.b.length D.b)),(j,.row (.lst 2 D.wait.length (D.wait.map wtV)))]
attribute [go_sem] sgstV sgV fcV sgO
attribute [simp] sgO
def tx (x : ST) : List Int:=rowS [x.gen,x.key,x.res,x.lk,x.li] x.msg
theorem tx_len (x : ST) : (tx x).length = 54 + x.msg.length:=rowS_len rfl _
def plSO : List (Nat × Plan):=[(14,[(0,[],none),(1,[],some [72]),(2,[0,1],none),(3,[0,1],none),(4,[0,1],none),(5,[0,1],none),(6,[0,1],none),(7,[0,1,2,3,4,5,6],none),(8,[0,1,2,3,4,5,6],none),(9,[0,1,2,3,4,5,6],none),(10,[0,1,2,3,4,5,6],none),(11,[0,1,2,3,4,5,6],none),(12,[0,1,2,3,4,5,6,7,8,9,10,11],none),(13,[0,1,2,3,4,5,6,7,8,9,10,11],none),(14,[0,1,2,3,4,5,6,7,8,9,10,11],none),(15,[0,1,2,3,4,5,6,7,8,9,10,11],none),(16,[0,1,2,3,4,5,6,7,8,9,10,11],none),(17,[0,1],none),(18,[],none),(19,[0,1,2,3,4,5,6,7,8,9,10,11,12,13,14,15,16,17,18],none),(20,[],some [17])]),(15,[(0,[],none),(4,[0],none),(5,[0],none),(6,[0],none),(13,[],none),(14,[],none),(15,[],none),(16,[],some [106]),(1,[0,4,5,6,13,14,15,16],none),(7,[0,4,5,6,13,14,15,16,1],none),(8,[0,4,5,6,13,14,15,16,1],none),(17,[],none),(18,[],none),(19,[],none),(20,[],some [109]),(2,[0,4,5,6,13,14,15,16,1,7,8,17,18,19,20],none),(9,[0,4,5,6,13,14,15,16,1,7,8,17,18,19,20,2],none),(10,[0,4,5,6,13,14,15,16,1,7,8,17,18,19,20,2],none),(21,[],none),(22,[],none),(23,[],none),(24,[],some [112]),(3,[0,4,5,6,13,14,15,16,1,7,8,17,18,19,20,2,9,10,21,22,23,24],none),(11,[0,4,5,6,13,14,15,16,1,7,8,17,18,19,20,2,9,10,21,22,23,24,3],none),(12,[0,4,5,6,13,14,15,16,1,7,8,17,18,19,20,2,9,10,21,22,23,24,3],none),(25,[],none),(26,[],none),(27,[],some [114])]),(16,[(0,[],none),(1,[0],none),(2,[0],none),(3,[0],none),(4,[0],none),(5,[0],none),(6,[0,1,2,3,4,5],none),(7,[0,1,2,3,4,5],none),(8,[0,1,2,3,4,5],none),(9,[0,1,2,3,4,5],none),(10,[],some [115,120,124])])]
attribute [go_sem] plSO
def plSD : List (Nat × Plan):=[(4,[(0,[],none),(1,[],none),(2,[0,1],none),(3,[0,1],none),(4,[0,1],none),(5,[0,1],none),(6,[0,1],none),(7,[0,1],none),(8,[],none),(9,[],none)]),(5,[(0,[],none),(1,[],none),(2,[],none),(3,[],none),(4,[],none),(5,[],none),(6,[0,1,2,3,4,5],none),(7,[0,1,2,3,4,5],none),(8,[0,1,2,3,4,5],none),(9,[0,1,2,3,4,5],none),(10,[0,1,2,3,4,5],none),(11,[0,1,2,3,4,5],none),(12,[6,7,8,9,10,11],none),(13,[],none),(14,[],none)]),(6,[(0,[],none),(1,[],none),(2,[],none),(3,[],none),(4,[0,1,2,3],none),(5,[0,1,2,3],none),(6,[0,1,2,3],none),(7,[0,1,2,3],none),(8,[0,1,2,3],none),(9,[],none),(10,[],none)]),(9,[(0,[],none),(1,[],none),(2,[],none),(3,[],none),(4,[0,1,2,3],none),(5,[0,1,2,3],none),(6,[0,1,2,3],none),(7,[0,1,2,3],none),(8,[0,1,2,3],none),(9,[],none)]),(10,[(0,[],none),(1,[],none),(2,[],none),(3,[],none),(4,[0,1,2,3],none),(5,[0,1,2,3],none),(6,[0,1,2,3],none),(7,[0,1,2,3],none),(8,[],none),(9,[0,1,2,3,4,5,6,7,8],none),(10,[0,1,2,3,4,5,6,7,8],none),(11,[0,1,2,3,4,5,6,7,8],none),(12,[0,1,2,3,4,5,6,7,8],none),(13,[0,1,2,3,4,5,6,7,8],none),(14,[],none),(15,[],none),(16,[],some [78])]),(11,[(0,[],none),(1,[0],none),(2,[0],none),(3,[0],none),(4,[0],none),(5,[0],none),(6,[0,1,2,3,4,5],none),(7,[0,1,2,3,4,5],none),(8,[],some [79,84,86])]),(12,[(0,[],none),(1,[],none),(2,[],none),(3,[],none),(4,[],none),(5,[0,1,2,3,4],none),(6,[0,1,2,3,4],none),(7,[0,1,2,3,4],none),(8,[0,1,2,3,4],none),(9,[0,1,2,3,4,5,6,7,8],none),(10,[0,1,2,3,4,5,6,7,8],none),(11,[],none),(12,[],none),(13,[],some [100])]),(17,[(0,[],none),(1,[],none),(2,[],none),(3,[],none),(4,[],none),(5,[],none),(6,[0,1,2,3,4,5],none),(7,[0,1,2,3,4,5],none),(8,[0,1,2,3,4,5],none),(9,[0,1,2,3,4,5],none),(10,[0,1,2,3,4,5],none),(11,[0,1,2,3,4,5],none),(12,[6,7,8,9,10,11],none),(13,[],none),(14,[],none)])]
attribute [go_sem] plSD
def plSs : List (Nat × Plan):=[(1,[(0,[],none),(1,[],none),(2,[],none),(3,[],none),(4,[0,1,2,3],none),(5,[0,1,2,3],none),(6,[0,1,2,3],none),(7,[0,1,2,3,4,5,6],none),(8,[0,1,2,3,4,5,6],none),(9,[0,1,2,3,4,5,6,7,8],none),(10,[0,1,2,3,4,5,6,7,8],none),(11,[0,1,2,3,4,5,6,7,8,9,10],none),(12,[0,1,2,3,4,5,6,7,8,9,10],none),(13,[0,1,2,3,4,5,6,7,8,9,10,11,12],none),(14,[0,1,2,3,4,5,6,7,8,9,10,11,12],none),(15,[0,1,2,3,4,5,6,7,8,9,10,11,12],none),(16,[0,1,2,3,4,5,6,7,8,9,10,11,12,13,14,15],none),(17,[0,1,2,3,4,5,6,7,8,9,10,11,12,13,14,15],none),(18,[0,1,2,3,4,5,6,7,8,9,10,11,12,13,14,15],none),(19,[0,1,2,3,4,5,6],none),(20,[0,1,2,3],none),(21,[],some [9,26]),(22,[],none)])]
attribute [go_sem] plSs
def plSr : List (Nat × Plan):=[(0,[(0,[],none),(1,[],none),(2,[],none),(3,[],none),(4,[0,1,2,3],none),(5,[0,1,2,3],none),(6,[0,1,2,3],none),(7,[0,1,2,3],none),(8,[0,1,2,3],none),(9,[0,1,2,3,4,5,6,7,8],none),(10,[0,1,2,3,4,5,6,7,8,9],none),(11,[0,1,2,3],none),(12,[],some [9,17])])]
attribute [go_sem] plSr
theorem raise3_spec (F : Int × Int × Int) (b0 b1 b2 : Int) : FnC Tryz.prog 197 [.ref 0 [],.agg [.int .i64 b0,.int .i64 b1,.int .i64 b2]] [(0,.var (fcV F))] (.agg [.int .i64 (lst3 F (b0,b1,b2)).1,.int .i64 (lst3 F (b0,b1,b2)).2.1,.int .i64 (lst3 F (b0,b1,b2)).2.2]) [(0,.var (fcV (lst3 F (b0,b1,b2))))]:=by
  obtain ⟨a0,a1,a2⟩:=F
  exact raise_spec a0 a1 a2 b0 b1 b2
theorem marks3_spec (F : Int × Int × Int) : FnC Tryz.prog 182 [.ref 0 []] [(0,.var (fcV F))] (.agg [.int .i64 F.1,.int .i64 F.2.1,.int .i64 F.2.2]) [(0,.var (fcV F))]:=by
  obtain ⟨a0,a1,a2⟩:=F
  exact marks_spec a0 a1 a2
theorem least3_spec (F G : Int × Int × Int) : FnC Tryz.prog 181 [.agg [.int .i64 F.1,.int .i64 F.2.1,.int .i64 F.2.2],.agg [.int .i64 G.1,.int .i64 G.2.1,.int .i64 G.2.2]] [] (.agg [.int .i64 (lst3 F G).1,.int .i64 (lst3 F G).2.1,.int .i64 (lst3 F G).2.2]) []:=by
  obtain ⟨a0,a1,a2⟩:=F
  obtain ⟨b0,b1,b2⟩:=G
  exact least_spec a0 a1 a2 b0 b1 b2
theorem sraise_spec (D : DS) (S : SS) (F : Int × Int × Int) (x : ST) (total batch next : Int) (gone : Bool) (key high : Int) :
    FnC Tryz.prog 134 [.ref 3 [],.int .i64 key,.int .i64 high] (sgO 4 5 D S F x total batch next gone) (.tup []) (sgO 6 7 D S (lst3 F (x.gen,key,high)) x total batch next gone):=by
  refine fnV mix plSr 4 6 3 [] Tryz.func134 rfl (by kernel_rfl) (by kernel_rfl) rfl (by kernel_rfl) (by kernel_rfl) (by simp) rfl rfl ?_
  simp -implicitDefEqProofs (disch:=omega) only [go_sem,↓reduceIte]
  refine callG false [(0,2)] [(0,2)] 6 (raise3_spec F x.gen key high) ?_ ?_
  · simp [keys]
  simp -implicitDefEqProofs (disch:=omega) only [go_sem,↓reduceIte]
  refine ⟨[(0,0),(1,1),(2,2),(3,3),(6,4),(7,5)],[],[],rfl,?_,?_,?_⟩ <;> simp -implicitDefEqProofs (disch:=omega) only [go_sem,↓reduceIte]
theorem store_spec (D : DS) (h : okD D) (hw : D.wait.length ≤ 90000) (S : SS) (hg : S.gone = false) (hT : S.turn ≤ 4611686018427387000) (F : Int × Int × Int) (x y : ST) (hm : y.msg.length ≤ 200) (hs : 272 ≤ D.sz) (total batch next : Int) :
    FnC Tryz.prog 135 [.ref 3 [],sgstV y] (sgO 4 5 D S F x total batch next false) (.int .i64 (if (replD D S (tx y)).1 = 0 then 0 else 9))
      (sgO 6 7 (replD D S (tx y)).2.1 (replD D S (tx y)).2.2 F (if (replD D S (tx y)).1 = 0 then y else x) total batch next (decide ((replD D S (tx y)).1 ≠ 0))):=by
  have k1:=row_spec y.msg (by omega) [y.gen,y.key,y.res,y.lk,y.li] rfl
  have k2:=replace_own D h hw S hg hT (tx y) (54 + y.msg.length) (tx_len y) (by omega)
  have et : rowS [y.gen,y.key,y.res,y.lk,y.li] y.msg = tx y:=rfl
  rw [et] at k1
  generalize tx y = Y at *
  generalize replD D S Y = R at *
  obtain ⟨r,D',S'⟩:=R
  dsimp only at k2 ⊢
  by_cases c : r = 0
  · subst c
    rw [if_pos rfl,if_pos rfl,decide_eq_false (fun h => h rfl)]
    refine fnV mix plSs 4 6 2 [.tmp 4] Tryz.func135 rfl (by kernel_rfl) (by kernel_rfl) rfl (by kernel_rfl) (by kernel_rfl) (by simp) rfl rfl ?_
    simp -implicitDefEqProofs (disch:=omega) only [go_sem,↓reduceIte]
    refine callBF 1 k1 ?_ ?_
    · simp -implicitDefEqProofs (disch:=omega) only [go_sem,↓reduceIte]
    simp -implicitDefEqProofs (disch:=omega) only [go_sem,↓reduceIte]
    refine callG false [(6,8),(0,0),(1,1),(2,4),(3,5)] [(0,0),(1,1),(4,9),(5,10)] 11 k2 ?_ ?_
    · simp [keys]
    simp -implicitDefEqProofs (disch:=omega) only [go_sem,↓reduceIte]
    refine ⟨[(0,0),(1,1),(2,2),(3,3),(6,9),(7,10)],[],[],rfl,?_,?_,?_⟩ <;> simp -implicitDefEqProofs (disch:=omega) only [go_sem,↓reduceIte]
  · rw [if_neg c,if_neg c,decide_eq_true c]
    have d1 : decide (r = 0) = false:=decide_eq_false c
    refine fnV mix plSs 4 6 2 [.tmp 4] Tryz.func135 rfl (by kernel_rfl) (by kernel_rfl) rfl (by kernel_rfl) (by kernel_rfl) (by simp) rfl rfl ?_
    simp -implicitDefEqProofs (disch:=omega) only [go_sem,↓reduceIte]
    refine callBF 1 k1 ?_ ?_
    · simp -implicitDefEqProofs (disch:=omega) only [go_sem,↓reduceIte]
    simp -implicitDefEqProofs (disch:=omega) only [go_sem,↓reduceIte]
    refine callG false [(6,8),(0,0),(1,1),(2,4),(3,5)] [(0,0),(1,1),(4,9),(5,10)] 11 k2 ?_ ?_
    · simp [keys]
    simp -implicitDefEqProofs (disch:=omega) only [go_sem,↓reduceIte,d1]
    refine ⟨[(0,0),(1,1),(2,2),(3,3),(6,9),(7,10)],[],[],rfl,?_,?_,?_⟩ <;> simp -implicitDefEqProofs (disch:=omega) only [go_sem,↓reduceIte]
theorem may_spec (D : DS) (S : SS) (F : Int × Int × Int) (x : ST) (total batch next : Int) (m : List Int) (n : Nat) (hn : m.length = n) (hnl : n ≤ 9223372036854775807) :
    FnC Tryz.prog 133 [.ref 3 [],.sl (.ints .u8 n m)] (sgO 4 5 D S F x total batch next false) (.int .i64 (if n = 0 ∨ 200 < n then 1 else 0)) (sgO 6 7 D S F x total batch next false):=by
  by_cases c0 : n = 0
  · subst c0
    rw [if_pos (.inl rfl)]
    refine fnV mix [] 4 6 2 [.tmp 4] Tryz.func133 rfl (by kernel_rfl) (by kernel_rfl) rfl (by kernel_rfl) (by kernel_rfl) (by simp) rfl rfl ?_
    simp -implicitDefEqProofs (disch:=omega) only [go_sem,↓reduceIte]
    refine ⟨[(0,0),(1,1),(2,2),(3,3),(6,4),(7,5)],[],[],rfl,?_,?_,?_⟩ <;> simp -implicitDefEqProofs (disch:=omega) only [go_sem,↓reduceIte]
  have d0 : decide ((n : Int) = 0) = false:=decide_eq_false (by omega)
  by_cases c1 : 200 < n
  · rw [if_pos (.inr c1)]
    have d1 : decide (200 < (n : Int)) = true:=decide_eq_true (by omega)
    refine fnV mix [] 4 6 2 [.tmp 4] Tryz.func133 rfl (by kernel_rfl) (by kernel_rfl) rfl (by kernel_rfl) (by kernel_rfl) (by simp) rfl rfl ?_
    simp -implicitDefEqProofs (disch:=omega) only [go_sem,↓reduceIte,d0,d1]
    refine ⟨[(0,0),(1,1),(2,2),(3,3),(6,4),(7,5)],[],[],rfl,?_,?_,?_⟩ <;> simp -implicitDefEqProofs (disch:=omega) only [go_sem,↓reduceIte]
  · rw [if_neg (by omega)]
    have d1 : decide (200 < (n : Int)) = false:=decide_eq_false (by omega)
    refine fnV mix [] 4 6 2 [.tmp 4] Tryz.func133 rfl (by kernel_rfl) (by kernel_rfl) rfl (by kernel_rfl) (by kernel_rfl) (by simp) rfl rfl ?_
    simp -implicitDefEqProofs (disch:=omega) only [go_sem,↓reduceIte,d0,d1]
    refine ⟨[(0,0),(1,1),(2,2),(3,3),(6,4),(7,5)],[],[],rfl,?_,?_,?_⟩ <;> simp -implicitDefEqProofs (disch:=omega) only [go_sem,↓reduceIte]
attribute [go_sem] pl96 pl97 pl144 pl196
def namedP (name : List Int) (v : Int) : Prop:=1 ≤ name.length ∧ name.length ≤ 64 ∧ 1 ≤ v
instance (name : List Int) (v : Int) : Decidable (namedP name v):=by unfold namedP; infer_instance
def verB (v : Int) : List Int:=be (IntKind.u64.wrap v) 8
theorem verB_len (v : Int) : (verB v).length = 8:=be_len _ _
theorem verB_mem (v : Int) : ∀ x ∈ verB v,0 ≤ x ∧ x < 256:=be_mem _ _
theorem named_spec (name : List Int) (v : Int) (n : Nat) (hl : name.length = n) : FnC Tryz.prog 155 [.sl (.ints .u8 n name),.int .i64 v] [] (.bool (decide (namedP name v))) []:=by
  refine fn0 mix [] 0 2 [.tmp 4] Tryz.func155 rfl (by kernel_rfl) (by kernel_rfl) rfl (by kernel_rfl) (by kernel_rfl) (by simp) ?_
  simp -implicitDefEqProofs (disch:=omega) only [go_sem,↓reduceIte]
  by_cases hn : namedP name v
  · obtain ⟨h1,h2,h3⟩:=id hn
    have d1 : decide (1 ≤ (n : Int)) = true:=decide_eq_true (by omega)
    have d2 : decide ((n : Int) ≤ 64) = true:=decide_eq_true (by omega)
    have d3 : decide (1 ≤ v) = true:=decide_eq_true (by omega)
    have e : decide (namedP name v) = true:=decide_eq_true hn
    simp -implicitDefEqProofs (disch:=omega) only [go_sem,↓reduceIte,d1,d2,d3,e]
  · have e : decide (namedP name v) = false:=decide_eq_false hn
    unfold namedP at hn
    rw [e]
    simp -implicitDefEqProofs (disch:=omega) only [go_sem,↓reduceIte]
    refine brd (fun h1 => ?_) (fun h1 => ?_)
    case' refine_2 => simp -implicitDefEqProofs (disch:=omega) only [go_sem,↓reduceIte]
    simp -implicitDefEqProofs (disch:=omega) only [go_sem,↓reduceIte]
    refine brd (fun h2 => ?_) (fun h2 => ?_)
    case' refine_2 => simp -implicitDefEqProofs (disch:=omega) only [go_sem,↓reduceIte]
    have d3 : decide (1 ≤ v) = false:=decide_eq_false (by omega)
    simp -implicitDefEqProofs (disch:=omega) only [go_sem,↓reduceIte,d3]
theorem count_spec (v : Int) : FnC Tryz.prog 158 [.int .i64 v] [] (.osl 0 [] 1 0 8) [(0,.row (.ints .u8 8 (verB v)))]:=by
  refine fnN mix [] 0 1 [.tmp 2] Tryz.func158 rfl (by kernel_rfl) (by kernel_rfl) rfl (by kernel_rfl) (by kernel_rfl) (by simp) ?_
  simp -implicitDefEqProofs (disch:=omega) only [go_sem,↓reduceIte]
  refine callF 1 (number_spec (IntKind.u64.wrap v) 8 8 rfl) ?_
  simp -implicitDefEqProofs (disch:=omega) only [go_sem,↓reduceIte]
  refine ⟨[(0,0)],[],[],rfl,?_,?_,?_⟩ <;> simp -implicitDefEqProofs (disch:=omega) only [go_sem,↓reduceIte,verB]
theorem with1_spec (key : List Int) (ps : List (List Int)) (hk : key.length = 32) (hk' : ∀ x ∈ key,0 ≤ x ∧ x < 256) (hp : ∀ p ∈ ps,∀ x ∈ p,0 ≤ x ∧ x < 256) (hc : (cat ps).length ≤ 100000) (hps : ps.length ≤ 100000) :
    FnC Tryz.prog 238 [.sl (.lst 1 ps.length (ps.map bsl)),.ref 0 []] [(0,.var (.ints .u8 32 key))] (.ints .u8 32 (code key (cat ps))) [(0,.var (.ints .u8 32 key))]:=by
  refine fnN mix [] 1 2 [.cell 3 25] Tryz.func238 rfl (by kernel_rfl) (by kernel_rfl) rfl (by kernel_rfl) (by kernel_rfl) (by simp) ?_
  simp -implicitDefEqProofs (disch:=omega) only [go_sem,↓reduceIte]
  refine callB (code_spec key ps 32 hk hk' hp (by decide) hc hps) ?_ ?_
  · simp -implicitDefEqProofs (disch:=omega) only [go_sem,↓reduceIte]
  simp -implicitDefEqProofs (disch:=omega) only [go_sem,↓reduceIte]
  refine ⟨[(0,0)],[],[],rfl,?_,?_,?_⟩ <;> simp -implicitDefEqProofs (disch:=omega) only [go_sem,↓reduceIte]
theorem with_spec (key : List Int) : FnC Tryz.prog 208 [.ints .u8 32 key] [] (.fn (.func 238) [.ref 0 []]) [(0,.var (.ints .u8 32 key))]:=by
  refine fnN mix [] 0 1 [.tmp 2] Tryz.func208 rfl (by kernel_rfl) (by kernel_rfl) rfl (by kernel_rfl) (by kernel_rfl) (by simp) ?_
  simp -implicitDefEqProofs (disch:=omega) only [go_sem,↓reduceIte]
  refine ⟨[(0,0)],[],[],rfl,?_,?_,?_⟩ <;> simp -implicitDefEqProofs (disch:=omega) only [go_sem,↓reduceIte]
theorem plain_spec : FnC Tryz.prog 156 [] [] (.fn (.func 167) []) []:=by
  refine fn0 mix [] 0 0 [.tmp 0] Tryz.func156 rfl (by kernel_rfl) (by kernel_rfl) rfl (by kernel_rfl) (by kernel_rfl) (by simp) ?_
  simp -implicitDefEqProofs (disch:=omega) only [go_sem,↓reduceIte]
theorem cat_cons (a : List Int) (ps : List (List Int)) : cat (a :: ps) = a ++ cat ps:=by simp [cat]
theorem ofw_spec (key : List Int) (kind : Int) (ps : List (List Int)) (n : Nat) (hn : ps.length = n) (hkd : 0 ≤ kind ∧ kind < 256) (hk : key.length = 32) (hk' : ∀ x ∈ key,0 ≤ x ∧ x < 256) (hp : ∀ p ∈ ps,∀ x ∈ p,0 ≤ x ∧ x < 256) (hc : (cat ps).length ≤ 10000) (hps : n ≤ 10000) :
    FnC Tryz.prog 157 [.fn (.func 238) [.ref 0 []],.int .u8 kind,.sl (.lst 1 n (ps.map bsl))] [(0,.var (.ints .u8 32 key))] (.ints .u8 32 (code key (kind :: cat ps))) [(0,.var (.ints .u8 32 key))]:=by
  have h1:=with1_spec key ([kind] :: ps) hk hk' (fun p h => by
    rcases List.mem_cons.1 h with rfl | h
    · intro x hx; rw [List.mem_singleton] at hx; subst hx; exact hkd
    · exact hp p h) (by rw [cat_cons]; simp only [List.length_append,List.length_singleton]; omega) (by rw [List.length_cons]; omega)
  have hcc : cat ([kind] :: ps) = kind :: cat ps:=by rw [cat_cons]; rfl
  have e1 : ([kind] :: ps).length = 1 + n:=by rw [List.length_cons]; omega
  rw [hcc] at h1
  refine fnN mix [] 1 3 [.cell 6 25] Tryz.func157 rfl (by kernel_rfl) (by kernel_rfl) rfl (by kernel_rfl) (by kernel_rfl) (by simp) ?_
  simp -implicitDefEqProofs (disch:=omega) only [go_sem,↓reduceIte]
  refine callGB [(0,0)] [(0,0)] 5 h1 ?_ ?_
  · simp [keys]
  simp -implicitDefEqProofs (disch:=omega) only [go_sem,↓reduceIte,bsl,e1,List.singleton_append]
  refine ⟨[(0,0)],[],[],rfl,?_,?_,?_⟩ <;> simp -implicitDefEqProofs (disch:=omega) only [go_sem,↓reduceIte]
theorem ofp_spec (kind : Int) (ps : List (List Int)) (n : Nat) (hn : ps.length = n) (hkd : 0 ≤ kind ∧ kind < 256) (hp : ∀ p ∈ ps,∀ x ∈ p,0 ≤ x ∧ x < 256) (hc : (cat ps).length ≤ 10000) (hps : n ≤ 10000) :
    FnC Tryz.prog 157 [.fn (.func 167) [],.int .u8 kind,.sl (.lst 1 n (ps.map bsl))] [] (.ints .u8 32 (sumD (kind :: cat ps))) []:=by
  have h1:=sums_spec ([kind] :: ps) (fun p h => by
    rcases List.mem_cons.1 h with rfl | h
    · intro x hx; rw [List.mem_singleton] at hx; subst hx; exact hkd
    · exact hp p h) (by rw [cat_cons]; simp only [List.length_append,List.length_singleton]; omega) (by rw [List.length_cons]; omega)
  have hcc : cat ([kind] :: ps) = kind :: cat ps:=by rw [cat_cons]; rfl
  have e1 : ([kind] :: ps).length = 1 + n:=by rw [List.length_cons]; omega
  rw [hcc] at h1
  refine fn0 mix [] 0 3 [.cell 6 25] Tryz.func157 rfl (by kernel_rfl) (by kernel_rfl) rfl (by kernel_rfl) (by kernel_rfl) (by simp) ?_
  simp -implicitDefEqProofs (disch:=omega) only [go_sem,↓reduceIte]
  refine callB h1 ?_ ?_
  · simp -implicitDefEqProofs (disch:=omega) only [go_sem,↓reduceIte,bsl,e1,List.singleton_append]
  simp -implicitDefEqProofs (disch:=omega) only [go_sem,↓reduceIte]
def fromD (nonce name : List Int) (v : Int) : List Int:=sumD (1 :: (nonce ++ (verB v ++ name)))
def nonceD (key name : List Int) (v : Int) : List Int:=code key (1 :: (verB v ++ name))
def madeD (salt value : List Int) : List Int:=sumD (2 :: (salt ++ value))
def saltD (key index value : List Int) : List Int:=code key (2 :: (index ++ value))
theorem code_len (k t : List Int) : (code k t).length = 32:=sumD_len _
theorem code_mem (k t : List Int) : ∀ x ∈ code k t,0 ≤ x ∧ x < 256:=sumD_mem _
theorem mem2 {a b : List Int} (ha : ∀ x ∈ a,0 ≤ x ∧ x < 256) (hb : ∀ x ∈ b,0 ≤ x ∧ x < 256) : ∀ p ∈ [a,b],∀ x ∈ p,0 ≤ x ∧ x < 256:=by
  intro p hp; simp only [List.mem_cons,List.not_mem_nil,or_false] at hp; rcases hp with rfl | rfl <;> assumption
theorem mem3 {a b c : List Int} (ha : ∀ x ∈ a,0 ≤ x ∧ x < 256) (hb : ∀ x ∈ b,0 ≤ x ∧ x < 256) (hc : ∀ x ∈ c,0 ≤ x ∧ x < 256) : ∀ p ∈ [a,b,c],∀ x ∈ p,0 ≤ x ∧ x < 256:=by
  intro p hp; simp only [List.mem_cons,List.not_mem_nil,or_false] at hp; rcases hp with rfl | rfl | rfl <;> assumption
theorem cat2 (a b : List Int) : cat [a,b] = a ++ b:=by simp [cat]
theorem cat3 (a b c : List Int) : cat [a,b,c] = a ++ (b ++ c):=by simp [cat]
section
variable (nonce name key index salt value : List Int) (v : Int) (n : Nat)
theorem from16_bad (hn : name.length = n) (h : ¬ namedP name v) : FnC Tryz.prog 96 [.ints .u8 32 nonce,.sl (.ints .u8 n name),.int .i64 v] [] (.tup [.ints .u8 32 (List.replicate 32 0),.int .i64 1]) []:=by
  refine fn0 mix pl96 0 3 [.cell 6 25,.tmp 7] Tryz.func96 rfl (by kernel_rfl) (by kernel_rfl) rfl (by kernel_rfl) (by kernel_rfl) (by simp) ?_
  simp -implicitDefEqProofs (disch:=omega) only [go_sem,↓reduceIte]
  refine call0 (named_spec name v n hn) ?_
  rw [decide_eq_false h]
  simp -implicitDefEqProofs (disch:=omega) only [go_sem,↓reduceIte]
theorem from16_ok (hn : name.length = n) (h : namedP name v) (hk : nonce.length = 32) (hk' : ∀ x ∈ nonce,0 ≤ x ∧ x < 256) (hm : ∀ x ∈ name,0 ≤ x ∧ x < 256) : FnC Tryz.prog 96 [.ints .u8 32 nonce,.sl (.ints .u8 n name),.int .i64 v] [] (.tup [.ints .u8 32 (fromD nonce name v),.int .i64 0]) []:=by
  have hl:=h.2.1
  have hv:=verB_len v
  have h1:=ofp_spec 1 [nonce,verB v,name] 3 rfl (by decide) (mem3 hk' (verB_mem v) hm) (by rw [cat3]; simp only [List.length_append]; omega) (by decide)
  rw [cat3] at h1
  refine fn0 mix pl96 0 3 [.cell 6 25,.tmp 7] Tryz.func96 rfl (by kernel_rfl) (by kernel_rfl) rfl (by kernel_rfl) (by kernel_rfl) (by simp) ?_
  simp -implicitDefEqProofs (disch:=omega) only [go_sem,↓reduceIte]
  refine call0 (named_spec name v n hn) ?_
  rw [decide_eq_true h]
  simp -implicitDefEqProofs (disch:=omega) only [go_sem,↓reduceIte]
  refine call0 plain_spec ?_
  simp -implicitDefEqProofs (disch:=omega) only [go_sem,↓reduceIte]
  refine callF 1 (count_spec v) ?_
  simp -implicitDefEqProofs (disch:=omega) only [go_sem,↓reduceIte]
  refine callB h1 ?_ ?_
  · simp -implicitDefEqProofs (disch:=omega) only [go_sem,↓reduceIte,bsl,hk,hv,hn]
  simp -implicitDefEqProofs (disch:=omega) only [go_sem,↓reduceIte,fromD]
theorem index16_bad (hn : name.length = n) (h : ¬ namedP name v) : FnC Tryz.prog 144 [.ints .u8 32 key,.sl (.ints .u8 n name),.int .i64 v] [] (.tup [.ints .u8 32 (List.replicate 32 0),.ints .u8 32 (List.replicate 32 0),.int .i64 1]) []:=by
  refine fn0 mix pl144 0 3 [.cell 6 25,.cell 7 25,.tmp 8] Tryz.func144 rfl (by kernel_rfl) (by kernel_rfl) rfl (by kernel_rfl) (by kernel_rfl) (by simp) ?_
  simp -implicitDefEqProofs (disch:=omega) only [go_sem,↓reduceIte]
  refine call0 (named_spec name v n hn) ?_
  rw [decide_eq_false h]
  simp -implicitDefEqProofs (disch:=omega) only [go_sem,↓reduceIte]
theorem index16_ok (hn : name.length = n) (h : namedP name v) (hk : key.length = 32) (hk' : ∀ x ∈ key,0 ≤ x ∧ x < 256) (hm : ∀ x ∈ name,0 ≤ x ∧ x < 256) : FnC Tryz.prog 144 [.ints .u8 32 key,.sl (.ints .u8 n name),.int .i64 v] [] (.tup [.ints .u8 32 (fromD (nonceD key name v) name v),.ints .u8 32 (nonceD key name v),.int .i64 0]) []:=by
  have hl:=h.2.1
  have hv:=verB_len v
  have h1:=ofw_spec key 1 [verB v,name] 2 rfl (by decide) hk hk' (mem2 (verB_mem v) hm) (by rw [cat2]; simp only [List.length_append]; omega) (by decide)
  rw [cat2] at h1
  have hnl : (nonceD key name v).length = 32:=code_len _ _
  have hnm : ∀ x ∈ nonceD key name v,0 ≤ x ∧ x < 256:=code_mem _ _
  have e : code key (1 :: (verB v ++ name)) = nonceD key name v:=rfl
  rw [e] at h1
  refine fn0 mix pl144 0 3 [.cell 6 25,.cell 7 25,.tmp 8] Tryz.func144 rfl (by kernel_rfl) (by kernel_rfl) rfl (by kernel_rfl) (by kernel_rfl) (by simp) ?_
  simp -implicitDefEqProofs (disch:=omega) only [go_sem,↓reduceIte]
  refine call0 (named_spec name v n hn) ?_
  rw [decide_eq_true h]
  simp -implicitDefEqProofs (disch:=omega) only [go_sem,↓reduceIte]
  refine callF 1 (with_spec key) ?_
  simp -implicitDefEqProofs (disch:=omega) only [go_sem,↓reduceIte]
  refine callF 1 (count_spec v) ?_
  simp -implicitDefEqProofs (disch:=omega) only [go_sem,↓reduceIte]
  refine callGB [(0,3)] [(0,3)] 6 h1 ?_ ?_
  · simp [keys]
  simp -implicitDefEqProofs (disch:=omega) only [go_sem,↓reduceIte,bsl,hv,hn]
  refine call0 (from16_ok (nonceD key name v) name v n hn h hnl hnm hm) ?_
  simp -implicitDefEqProofs (disch:=omega) only [go_sem,↓reduceIte]
theorem made16_bad (hn : value.length = n) (h : 64 < n) : FnC Tryz.prog 97 [.ints .u8 32 salt,.sl (.ints .u8 n value)] [] (.tup [.ints .u8 32 (List.replicate 32 0),.int .i64 1]) []:=by
  refine fn0 mix pl97 0 2 [.cell 4 25,.tmp 5] Tryz.func97 rfl (by kernel_rfl) (by kernel_rfl) rfl (by kernel_rfl) (by kernel_rfl) (by simp) ?_
  simp -implicitDefEqProofs (disch:=omega) only [go_sem,↓reduceIte]
  refine brd (fun h => ?_) (fun h => by omega)
  simp -implicitDefEqProofs (disch:=omega) only [go_sem,↓reduceIte]
theorem made16_ok (hn : value.length = n) (h : n ≤ 64) (hk : salt.length = 32) (hk' : ∀ x ∈ salt,0 ≤ x ∧ x < 256) (hm : ∀ x ∈ value,0 ≤ x ∧ x < 256) : FnC Tryz.prog 97 [.ints .u8 32 salt,.sl (.ints .u8 n value)] [] (.tup [.ints .u8 32 (madeD salt value),.int .i64 0]) []:=by
  have h1:=ofp_spec 2 [salt,value] 2 rfl (by decide) (mem2 hk' hm) (by rw [cat2]; simp only [List.length_append]; omega) (by decide)
  rw [cat2] at h1
  refine fn0 mix pl97 0 2 [.cell 4 25,.tmp 5] Tryz.func97 rfl (by kernel_rfl) (by kernel_rfl) rfl (by kernel_rfl) (by kernel_rfl) (by simp) ?_
  simp -implicitDefEqProofs (disch:=omega) only [go_sem,↓reduceIte]
  refine brd (fun h => by omega) (fun h => ?_)
  simp -implicitDefEqProofs (disch:=omega) only [go_sem,↓reduceIte]
  refine call0 plain_spec ?_
  simp -implicitDefEqProofs (disch:=omega) only [go_sem,↓reduceIte]
  refine callB h1 ?_ ?_
  · simp -implicitDefEqProofs (disch:=omega) only [go_sem,↓reduceIte,bsl,hk,hn]
  simp -implicitDefEqProofs (disch:=omega) only [go_sem,↓reduceIte,madeD]
theorem value16_bad (hn : value.length = n) (h : 64 < n) : FnC Tryz.prog 196 [.ints .u8 32 key,.ints .u8 32 index,.sl (.ints .u8 n value)] [] (.tup [.ints .u8 32 (List.replicate 32 0),.ints .u8 32 (List.replicate 32 0),.int .i64 1]) []:=by
  refine fn0 mix pl196 0 3 [.cell 6 25,.cell 7 25,.tmp 8] Tryz.func196 rfl (by kernel_rfl) (by kernel_rfl) rfl (by kernel_rfl) (by kernel_rfl) (by simp) ?_
  simp -implicitDefEqProofs (disch:=omega) only [go_sem,↓reduceIte]
  refine brd (fun h => ?_) (fun h => by omega)
  simp -implicitDefEqProofs (disch:=omega) only [go_sem,↓reduceIte]
theorem value16_ok (hn : value.length = n) (h : n ≤ 64) (hk : key.length = 32) (hk' : ∀ x ∈ key,0 ≤ x ∧ x < 256) (hi : index.length = 32) (hi' : ∀ x ∈ index,0 ≤ x ∧ x < 256) (hm : ∀ x ∈ value,0 ≤ x ∧ x < 256) :
    FnC Tryz.prog 196 [.ints .u8 32 key,.ints .u8 32 index,.sl (.ints .u8 n value)] [] (.tup [.ints .u8 32 (madeD (saltD key index value) value),.ints .u8 32 (saltD key index value),.int .i64 0]) []:=by
  have h1:=ofw_spec key 2 [index,value] 2 rfl (by decide) hk hk' (mem2 hi' hm) (by rw [cat2]; simp only [List.length_append]; omega) (by decide)
  rw [cat2] at h1
  have hsl : (saltD key index value).length = 32:=code_len _ _
  have hsm : ∀ x ∈ saltD key index value,0 ≤ x ∧ x < 256:=code_mem _ _
  have e : code key (2 :: (index ++ value)) = saltD key index value:=rfl
  rw [e] at h1
  refine fn0 mix pl196 0 3 [.cell 6 25,.cell 7 25,.tmp 8] Tryz.func196 rfl (by kernel_rfl) (by kernel_rfl) rfl (by kernel_rfl) (by kernel_rfl) (by simp) ?_
  simp -implicitDefEqProofs (disch:=omega) only [go_sem,↓reduceIte]
  refine brd (fun h => by omega) (fun h => ?_)
  simp -implicitDefEqProofs (disch:=omega) only [go_sem,↓reduceIte]
  refine callF 1 (with_spec key) ?_
  simp -implicitDefEqProofs (disch:=omega) only [go_sem,↓reduceIte]
  refine callGB [(0,4)] [(0,4)] 6 h1 ?_ ?_
  · simp [keys]
  simp -implicitDefEqProofs (disch:=omega) only [go_sem,↓reduceIte,bsl,hi,hn]
  refine call0 (made16_ok (saltD key index value) value n hn (by omega) hsl hsm hm) ?_
  simp -implicitDefEqProofs (disch:=omega) only [go_sem,↓reduceIte]
theorem isValue_spec (hn : value.length = n) (hnn : n ≤ 1000) (hk : salt.length = 32) (hk' : ∀ x ∈ salt,0 ≤ x ∧ x < 256) (hm : ∀ x ∈ value,0 ≤ x ∧ x < 256) : FnC Tryz.prog 104 [.ints .u8 32 index,.ints .u8 32 salt,.sl (.ints .u8 n value)] [] (.bool (decide (n ≤ 64) && decide (index = madeD salt value))) []:=by
  refine fn0 mix [] 0 3 [.tmp 6] Tryz.func104 rfl (by kernel_rfl) (by kernel_rfl) rfl (by kernel_rfl) (by kernel_rfl) (by simp) ?_
  simp -implicitDefEqProofs (disch:=omega) only [go_sem,↓reduceIte]
  by_cases h : n ≤ 64
  · rw [decide_eq_true h,Bool.true_and]
    refine call0 (made16_ok salt value n hn h hk hk' hm) ?_
    simp -implicitDefEqProofs (disch:=omega) only [go_sem,↓reduceIte]
  · rw [decide_eq_false h,Bool.false_and]
    refine call0 (made16_bad salt value n hn (by omega)) ?_
    simp -implicitDefEqProofs (disch:=omega) only [go_sem,↓reduceIte]
end
theorem bytes_inj : ∀ {a b : List Int},(∀ x ∈ a,0 ≤ x ∧ x < 256) → (∀ x ∈ b,0 ≤ x ∧ x < 256) → ((a.map fun x => UInt8.ofNat x.toNat) = (b.map fun x => UInt8.ofNat x.toNat) ↔ a = b)
  | [],[],_,_ => by simp
  | [],y :: b,_,_ => by simp
  | x :: a,[],_,_ => by simp
  | x :: a,y :: b,ha,hb => by
    have ih:=bytes_inj (a:=a) (b:=b) (fun z hz => ha z (by simp [hz])) (fun z hz => hb z (by simp [hz]))
    have hx:=ha x (by simp)
    have hy:=hb y (by simp)
    have e : UInt8.ofNat x.toNat = UInt8.ofNat y.toNat ↔ x = y:=by
      constructor
      · intro h
        have:=congrArg UInt8.toNat h
        rw [UInt8.toNat_ofNat',UInt8.toNat_ofNat'] at this
        omega
      · intro h; rw [h]
    simp only [List.map_cons,List.cons.injEq,e,ih]
end Go.Proofs.YtololahjocfbeaaGreat
