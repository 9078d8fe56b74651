/- The reckoning: which words simp unfolds. -/
import Derived.Test.YtnonjfknpajpaaaS28
namespace Go.Sy
open Go
/-- The argument is reckoned first. -/
def ev {α : Type} (x : α) (K : α → Prop) : Prop := K x
def mk {α : Type} (x : α) : α := x
def mk3 {α : Type} (x : α) : α := x
theorem mk_in {α : Type} (x : α) : mk x = mk3 x := Eq.trans (Eq.refl (mk x)) (Eq.refl x)
theorem mk_eq {α : Type} (x : α) : mk3 x = x := Eq.trans (Eq.refl (mk3 x)) (Eq.refl x)
@[congr] theorem ev_congr {α : Type} {x y : α} {K : α → Prop} (h : mk x = y) : ev x K = ev y K := by rw [← h]; rfl
theorem ev_eq {α : Type} (x : α) (K : α → Prop) : ev x K = K x := rfl
@[congr] theorem CallP_congr {P : Program} {f : FuncId} {args args' : List AV} {O : OO} {n : Nat} {κ : AV → OO → Nat → Prop} (h : mk args = args') : CallP P f args O n κ = CallP P f args' O n κ := by rw [← h]; rfl
@[congr] theorem VLoop_congr {k : Nat} {F : CK → CK} {T T' : TT} {O : OO} {n : Nat} (h : mk T = T') : VLoop k F T O n = VLoop k F T' O n := by rw [← h]; rfl
/-- Two roads: which one is told by a Boolean that is reckoned first; neither is gone into before it is known. -/
def brC (b : Bool) (A B : Prop) : Prop := (b = true → A) ∧ (b = false → B)
@[congr] theorem brC_congr {b b' : Bool} {A B : Prop} (h : mk b = b') : brC b A B = brC b' A B := by rw [← h]; rfl
theorem brC_true (A B : Prop) : brC true A B = A := by simp [brC]
theorem brC_false (A B : Prop) : brC false A B = B := by simp [brC]
theorem brC_not (b : Bool) (A B : Prop) : brC (!b) A B = brC b B A := by cases b <;> simp [brC]
theorem br {b : Bool} {A B : Prop} (h1 : b = true → A) (h2 : b = false → B) : brC b A B := ⟨h1, h2⟩
theorem brd {p : Prop} [Decidable p] {A B : Prop} (h1 : p → A) (h2 : ¬ p → B) : brC (decide p) A B := ⟨fun h => h1 (of_decide_eq_true h), fun h => h2 (of_decide_eq_false h)⟩
theorem imp_br {c A B : Prop} [Decidable c] : ((c → A) ∧ (¬ c → B)) = brC (decide c) A B := by
  by_cases h : c <;> simp [h, brC]
theorem iteC_br (b : Bool) (K : Bool → Prop) : iteC b K = brC b (K true) (K false) := by
  cases b <;> simp [iteC, brC]
/-- The guard's Boolean, as it is wanted, or not. -/
def wantC (b want : Bool) (A B : Prop) : Prop := (b = want → A) ∧ (b = !want → B)
theorem wantC_true (b : Bool) (A B : Prop) : wantC b true A B = brC b A B := rfl
theorem wantC_false (b : Bool) (A B : Prop) : wantC b false A B = brC b B A := by cases b <;> simp [wantC, brC]
/-- An element of a list: of a list that is written out it is reckoned; else the road ends here. -/
def getP (es : List AV) (i : Nat) (K : AV → Prop) : Prop := ∀ q, es[i]? = some q → K q
@[congr] theorem getP_congr {es es' : List AV} {i i' : Nat} {K : AV → Prop} (h : mk es = es') (h' : mk i = i') : getP es i K = getP es' i' K := by rw [← h, ← h']; rfl
theorem getP_zero (a : AV) (l : List AV) (K : AV → Prop) : getP (a :: l) 0 K = K a := by simp [getP]
theorem getP_succ (a : AV) (l : List AV) (i : Nat) (K : AV → Prop) : getP (a :: l) (i + 1) K = getP l i K := by simp [getP]
theorem getP_lit (a : AV) (l : List AV) (i : Nat) (K : AV → Prop) : getP (a :: l) (OfNat.ofNat (i + 1)) K = getP l i K := by simp [getP, OfNat.ofNat]
theorem got {es : List AV} {i : Nat} {K : AV → Prop} (h : ∀ q, es[i]? = some q → K q) : getP es i K := h
section
variable {P : Program} {tb : List (Nat × Plan)} {k : Nat} {K : CK} {X : Nat → CK} {R : CK} {T : TT} {O : OO} {n : Nat}
theorem vcC_cond (c : Operand) (x y : Code) : vcC P tb k (.cond c x y) K X R T O n = evC T c fun v => boolC v fun b => brC b (vcC P tb k x K X R T O n) (vcC P tb k y K X R T O n) := by
  simp only [vcC]
  rfl
def nxt (d : Option Tmp) (v : AV) (O : OO) (n : Nat) (T : TT) (K : CK) : Prop := ev v fun v => ev O fun O => ev n fun n => match d with | some d => K ((d, v) :: T) O n | none => K T O n
theorem nxt_eq (d : Option Tmp) (v : AV) (O : OO) (n : Nat) (T : TT) (K : CK) : nxt d v O n T K = K (putT d v T) O n := by cases d <;> rfl
theorem vcOps_cons (all : List Oper) (o : Oper) (rest : List Oper) : vcOps P all (o :: rest) K T O n = match o.guard with
    | none => vcOp P o.op T O n fun v O' n' => nxt o.dst v O' n' T (vcOps P all rest K)
    | some (j, want) => gdC all j want T (fun T => vcOp P o.op T O n fun v O' n' => nxt o.dst v O' n' T (vcOps P all rest K)) (fun T => nxt o.dst (.tup []) O n T (vcOps P all rest K)) := by
  simp only [vcOps, nxt_eq]
  cases o.guard <;> rfl
def wOp2 (P : Program) (op : Op) (acc : List (Nat × List Nat)) (us : List Nat) (ld : Option (List Nat)) (d : Option Tmp) (T : TT) (O : OO) (n : Nat) (K : List Nat → CK) : Prop :=
  ev (hidX acc us) fun X => rmsO O X fun V => keepC O X fun R => vcOp P op T V n fun v V' n' => ev v fun v => ev V' fun V' => ev n' fun n' => ev (touch V T ld) fun W => (sameC W V' V ∧ newC (keys V) n n' V' ∧ ltC W n ∧ n ≤ n') ∧
    ev (W ++ rng n (n' - n)) fun W => nxt d v (V' ++ R) n' T (K W)
theorem wOp2_eq (op : Op) (acc : List (Nat × List Nat)) (us : List Nat) (ld : Option (List Nat)) (d : Option Tmp) (K : List Nat → CK) : wOp2 P op acc us ld d T O n K = wOp P op (hidX acc us) ld T O n fun v O' n' W => K W (putT d v T) O' n' := by
  simp only [wOp2, wOp, ev_eq, nxt_eq]
def opAt : List Oper → Nat → Option Oper
  | [], _ => none
  | o :: _, 0 => some o
  | _ :: l, j + 1 => opAt l j
theorem opAt_eq : ∀ (l : List Oper) (j : Nat), l[j]? = opAt l j
  | [], _ => by simp [opAt]
  | _ :: _, 0 => by simp [opAt]
  | _ :: l, j + 1 => by simp [opAt, opAt_eq l j]
theorem vcWalk_cons (all : List Oper) (i : Nat) (us : List Nat) (ld : Option (List Nat)) (pl : Plan) (acc : List (Nat × List Nat)) : vcWalk P all ((i, us, ld) :: pl) acc K T O n = ev (opAt all i) fun r => match r with
    | none => False
    | some o => match o.guard with
      | none => wOp2 P o.op acc us ld o.dst T O n fun W => vcWalk P all pl ((i, W) :: acc) K
      | some (j, want) => gdC all j want T (fun T => wOp2 P o.op acc us ld o.dst T O n fun W => vcWalk P all pl ((i, W) :: acc) K)
          (fun T => nxt o.dst (.tup []) O n T (vcWalk P all pl ((i, []) :: acc) K)) := by
  simp only [vcWalk, nxt_eq, wOp2_eq, ev_eq, opAt_eq]
  cases opAt all i with
  | none => rfl
  | some o => simp only []; cases o.guard <;> rfl
theorem tmpsOK_frz (σ : List (Nat × Nat)) (Z F : List Nat) (I : TT) : tmpsOK σ Z (frzO O F) T I = ev (frzO O F) fun OF => tmpsOK σ Z OF T I := rfl
theorem holdsN_frz (σ : List (Nat × Nat)) (Z F : List Nat) (O' J : OO) : holdsN O' σ Z (frzO O F) J = ev (frzO O F) fun OF => holdsN O' σ Z OF J := rfl
theorem matC_frz (σ : List (Nat × Nat)) (Z F : List Nat) (v u : AV) : matC σ Z (frzO O F) v u = ev (frzO O F) fun OF => matC σ Z OF v u := rfl
theorem vcOps_nil (all : List Oper) : vcOps P all [] K T O n = K T O n := rfl
theorem vcWalk_nil (all : List Oper) (acc : List (Nat × List Nat)) : vcWalk P all [] acc K T O n = K T O n := rfl
theorem subC_arr (sz : Nat) (ps : List AV) (lo len : Nat) (κ : AV → Prop) : subC (.arr sz ps) lo len κ = (lo + len ≤ ps.length ∧ ev ((ps.drop lo).take len) fun qs => κ (.arr sz qs)) := rfl
def gdV (g : Nat) (want : Bool) (T : TT) (A B : TT → Prop) : AV → Prop
  | .bool b => wantC b want (ev ((g, .bool want) :: T) A) (ev ((g, .bool (!want)) :: T) B)
  | .tup [] => ev T B
  | _ => False
theorem gdC_ev (all : List Oper) (j : Nat) (want : Bool) (A B : TT → Prop) : gdC all j want T A B = ev (opAt all j) fun r => match r with | none => False | some o => match o.dst with | none => False | some g => lkC T g (gdV g want T A B) := by
  simp only [gdC, ev_eq, opAt_eq]
  have e : ∀ g v, (match v with
    | AV.bool b => (b = want → A ((g, .bool want) :: T)) ∧ (b = !want → B ((g, .bool (!want)) :: T))
    | .tup [] => B T
    | _ => False) = gdV g want T A B v := fun g v => by cases v <;> first | rfl | (rename_i vs; cases vs <;> rfl)
  cases opAt all j with
  | none => rfl
  | some o =>
    cases h : o.dst with
    | none => simp [h]
    | some g =>
      simp only [h, Option.bind_some]
      congr 1
theorem vcOps_arr (l l' : List Oper) : vcOps P l.toArray.toList l'.toArray.toList K T O n = vcOps P l l' K T O n := rfl
theorem vcC_draw (id : Nat) (l : List Oper) : vcC P tb k (.region id l.toArray true) K X R T O n = ev (lk tb id) fun r => match r with | some pl => vcWalk P l pl [] K T O n | none => False := by
  simp only [vcC, ev_eq]
  cases lk tb id <;> rfl
theorem partsC_arr (l : List (Nat × Operand)) (κ : List (Nat × AV) → Prop) : partsC T l.toArray.toList κ = partsC T l κ := rfl
theorem evsC_arr (l : List Operand) (κ : List AV → Prop) : evsC T l.toArray.toList κ = evsC T l κ := rfl
theorem bltC_arr (b : Builtin) (l : List TypeId) (vs : List AV) (κ : KK) : bltC P b l.toArray.toList vs O n κ = bltC P b l vs O n κ := rfl
theorem bldS_zeros (ts : List Ty) (l : List (Nat × AV)) (κ : List AV → Prop) : bldS (Ty.zeros ts) l κ = ev (Ty.zeros ts) fun ps => bldS ps l κ := rfl
theorem cutC_map (v : AV) (l : Nat) (h : Option Int) (κ : AV → Prop) : cutC v l (h.map Int.toNat) κ = ev (h.map Int.toNat) fun h => cutC v l h κ := rfl
theorem cutS_map (v : AV) (l : Nat) (h : Option Int) (κ : AV → Prop) : cutS v l (h.map Int.toNat) κ = ev (h.map Int.toNat) fun h => cutS v l h κ := rfl
theorem cutA_map (sz m : Nat) (v : AV) (l : Nat) (h : Option Int) (κ : AV → Prop) : cutA O sz m v l (h.map Int.toNat) κ = ev (h.map Int.toNat) fun h => cutA O sz m v l h κ := rfl
theorem subC_ints (kk : IntKind) (m : Nat) (xs : List Int) (lo len : Nat) (κ : AV → Prop) : subC (.ints kk m xs) lo len κ = (lo + len ≤ m ∧ brC (decide (lo = 0 ∧ len = m)) (κ (.ints kk m xs)) (κ (.ints kk len ((xs.drop lo).take len)))) := by
  simp only [subC, imp_br]
theorem subC_lst (sz m : Nat) (es : List AV) (lo len : Nat) (κ : AV → Prop) : subC (.lst sz m es) lo len κ = (lo + len ≤ m ∧ brC (decide (lo = 0 ∧ len = m)) (κ (.lst sz m es)) (κ (.lst sz len ((es.drop lo).take len)))) := by
  simp only [subC, imp_br]
theorem navC_arr (i sz : Nat) (p : List Stp) (s : Nat) (ps : List AV) (κ : AV → Prop) : navC (.at i sz :: p) (.arr s ps) κ = (s = sz ∧ i < ps.length ∧ getP ps i fun q => navC p q κ) := by simp only [navC, getP]
theorem navC_lst (i sz : Nat) (p : List Stp) (s m : Nat) (ps : List AV) (κ : AV → Prop) : navC (.at i sz :: p) (.lst s m ps) κ = (s = sz ∧ i < ps.length ∧ getP ps i fun q => navC p q κ) := by simp only [navC, getP]
theorem updC_arr (i sz : Nat) (p : List Stp) (s : Nat) (ps : List AV) (x : AV) (κ : AV → Prop) : updC (.at i sz :: p) (.arr s ps) x κ = (s = sz ∧ i < ps.length ∧ getP ps i fun q => updC p q x fun q' => κ (.arr s (ps.set i q'))) := by simp only [updC, getP]
theorem updC_lst (i sz : Nat) (p : List Stp) (s m : Nat) (ps : List AV) (x : AV) (κ : AV → Prop) : updC (.at i sz :: p) (.lst s m ps) x κ = (s = sz ∧ i < ps.length ∧ x.nid = true ∧ getP ps i fun q => updC p q x fun q' => κ (.lst s m (ps.set i q'))) := by simp only [updC, getP]
theorem idxV_lst (te : Ty) (n' sz m : Nat) (es : List AV) (i : Int) (κ : AV → Prop) : idxV te n' (.lst sz m es) i κ = (m = n' ∧ 0 ≤ i ∧ i < n' ∧ sz = te.size ∧ i.toNat < es.length ∧ getP es i.toNat fun q => fitC te q (κ q)) := by simp only [idxV, getP]
theorem idxV_arr (te : Ty) (n' sz : Nat) (es : List AV) (i : Int) (κ : AV → Prop) : idxV te n' (.arr sz es) i κ = (es.length = n' ∧ 0 ≤ i ∧ i < n' ∧ sz = te.size ∧ getP es i.toNat fun q => fitC te q (κ q)) := by simp only [idxV, getP]
theorem elemsC_br (n' : Nat) (te : Ty) (l : List (Nat × AV)) (κ : AV → Prop) : elemsC n' te l κ = match te with
    | .int k => seqI k 0 l fun m xs => m ≤ n' ∧ κ (.ints k n' (xs ++ List.replicate (n' - m) 0))
    | te => brC (decide (l.isEmpty = true ∧ n' = 0)) (κ (.lst te.size 0 [])) (seqV te.size 0 l fun m vs => m ≤ n' ∧ κ (.arr te.size (vs ++ List.replicate (n' - m) te.zero))) := by
  have e : (l.isEmpty = true) = (l = []) := by cases l <;> simp
  cases te <;> simp only [elemsC, e] <;> exact imp_br
theorem cp_br (d l : Nat) (A B C : Prop) : ((d = 0 ∨ l = 0 → A) ∧ (0 < d → 0 < l → d ≤ l → B) ∧ (0 < d → 0 < l → ¬ d ≤ l → C)) = brC (decide (d = 0 ∨ l = 0)) A (brC (decide (d ≤ l)) B C) := by
  by_cases h1 : d = 0 ∨ l = 0
  · have : ¬ (0 < d ∧ 0 < l) := by omega
    have h2 : ((0 < d → 0 < l → d ≤ l → B) ∧ (0 < d → 0 < l → ¬ d ≤ l → C)) = True := by
      simp only [eq_iff_iff, iff_true]
      exact ⟨fun a b => absurd ⟨a, b⟩ this, fun a b => absurd ⟨a, b⟩ this⟩
    rw [h2]
    simp [h1, brC]
  · have h3 : 0 < d := by omega
    have h4 : 0 < l := by omega
    rw [decide_eq_false h1, brC_false]
    simp only [h1, false_imp_iff, true_and, h3, h4, true_implies, imp_br]
theorem copyC_br (ts : List TypeId) (s x : AV) (κ : Nat → OO → Prop) : copyC P ts s x O κ = (match ts with
  | st :: _ => tyC P st fun sty =>
    match sty with
    | .slice e => tyC P e fun te => 0 < te.size ∧
      match s with
      | .osl o p sz lo len => sz = te.size ∧ contC O te x fun d => brC (decide (d.cnt = 0 ∨ len = 0)) (κ 0 O)
          (brC (decide (d.cnt ≤ len)) (objC O o fun ob => obC ob fun c => navC p c fun q => putC q lo d fun q' => updO O o p q' fun O' => κ d.cnt O')
           (subC d 0 len fun d' => objC O o fun ob => obC ob fun c => navC p c fun q => putC q lo d' fun q' => updO O o p q' fun O' => κ len O'))
      | .nils => contC O te x fun _ => κ 0 O
      | _ => False
    | _ => False
  | _ => False) := by
  simp only [copyC, cp_br]
  rfl
end
attribute [go_sem ↓ high] tmpsOK_frz holdsN_frz matC_frz gdC_ev vcOps_arr vcC_draw partsC_arr evsC_arr bltC_arr iteC_br wantC_true wantC_false brC_true brC_false brC_not elemsC_br copyC_br navC_arr navC_lst updC_arr updC_lst idxV_lst idxV_arr vcC_cond vcOps_cons vcWalk_cons vcOps_nil vcWalk_nil subC_arr subC_ints subC_lst bldS_zeros cutC_map cutS_map cutA_map
attribute [go_sem ↓] nxt wOp2 gdV
attribute [go_sem ↓] mk_in
attribute [go_sem] brC_true brC_false brC_not getP_zero getP_succ getP_lit
attribute [go_sem] ev_eq mk_eq Option.map_some Option.map_none Option.getD_some Option.getD_none
attribute [go_sem] opAt
attribute [go_sem ↓] vcC vcOp evC evsC lkC objC obC rowC cstC putT boolC intC fitC nthC nthTC setC intB strB eqC eqsC binC unC loadC updOB updO rmO rmsO renC rensC idC renOB renOO
  partsC bldS seqI seqV elemsC zerosC catC contC lenC strL bytesOf cutC cutS varC cutA optC viewC viewC.views lenK appC ownC appendC putC copyC bltC convC s2aC fldA idxA idxV navC fldC fldU intU updC keepC hidX
  resC sameC newC ltC tmpsOK idsOK holdsO argsOK homesOK varsOK matC matsC matOB homeC holdsN frzO dropO
attribute [go_sem] AV.void OB.void List.isEmpty_nil List.isEmpty_cons
attribute [go_sem] lk AV.csz AV.cszs AV.multi AV.mem AV.cnt AV.esz AV.isRow AV.nid AV.nids AV.pf AV.pf.pfs OB.pf Ty.size Ty.sizes Ty.multi Ty.zero Ty.zeros poff keys rng touch reach idsT idsV idsVs idsO idsOB packC numT
  Bool.true_and Bool.and_true Bool.false_and Bool.and_false Bool.not_true Bool.not_false decide_true decide_false List.map_cons List.map_nil List.cons_append List.nil_append List.append_nil true_and and_true and_self if_true if_false
  Nat.reduceAdd Nat.reduceMul Nat.reduceLT Nat.reduceSub Nat.reduceEqDiff Nat.lt_irrefl Nat.le_refl eq_self Option.some.injEq Option.bind Option.map Option.getD List.length_cons List.length_nil Int.cast_ofNat_Int
  Int.reduceLE Int.reduceLT Int.reduceToNat Int.reduceAdd Int.reduceSub Int.reduceMul Int.reduceEq Int.reduceNe Int.reduceNeg Nat.reduceLeDiff Nat.reduceBEq Nat.reduceBNe Nat.reduceEqDiff
end Go.Sy
