/- Texts,joined. -/
import Derived.Orders
import Derived.Test.YtololahjocfbeaaGreatD05
import Derived.Control
import Derived.KernelRfl
namespace Go.Sy
open Go
set_option linter.unusedSimpArgs false
set_option linter.unusedVariables false
def gdC (all : List Oper) (j : Nat) (want : Bool) (T : TT) (A B : TT → Prop) : Prop :=
  match (all[j]?).bind (·.dst) with
  | none => False
  | some g => lkC T g fun v => match v with
    | .bool b => (b = want → A ((g,.bool want) :: T)) ∧ (b = !want → B ((g,.bool (!want)) :: T))
    | .tup [] => B T
    | _ => False
def vcOps (P : Program) (all : List Oper) : List Oper → CK → CK
  | [],K,T,O,n => K T O n
  | o :: rest,K,T,O,n =>
    match o.guard with
    | none => vcOp P o.op T O n fun v O' n' => vcOps P all rest K (putT o.dst v T) O' n'
    | some (j,want) => gdC all j want T (fun T => vcOp P o.op T O n fun v O' n' => vcOps P all rest K (putT o.dst v T) O' n') (fun T => vcOps P all rest K (putT o.dst (.tup []) T) O n)
section
variable {E : Env} {N : Nat} {M M' M1 : Pool} {β β' β1 : Bmap} {T : TT} {O O' O1 O2 J : OO} {n : Nat} {a : Act} {w w' : World} {P : Program} {o : Oper}
theorem RelAt.know (hr : RelAt E N M β T O n a w) {g : Nat} {b : Bool} (hg : a.tmps[g]? = some (.bool b)) : RelAt E N M β ((g,.bool b) :: T) O n a w :=
  ⟨hr.st,hr.ids,fun t v hl => by
    simp only [lk] at hl
    split at hl
    · rename_i e; subst e; cases hl; exact ⟨_,hg,.one rfl (.bool b)⟩
    · exact hr.tmps t v hl,hr.nd,hr.sz,hr.base,hr.le0⟩
theorem gdC_spec (hr : RelAt E N M β T O n a w) {ops : Array Oper} {j : Nat} {want : Bool} {A B : TT → Prop} (h : gdC ops.toList j want T A B) :
    ∃ T',RelAt E N M β T' O n a w ∧ ((A T' ∧ yielded ops a.tmps j = some want) ∨ (B T' ∧ (yielded ops a.tmps j == some want) = false)):=by
  unfold gdC at h
  split at h
  · exact h.elim
  · rename_i g hg
    obtain ⟨v,hl,h⟩:=lkC_spec h
    obtain ⟨x,hx,hv⟩:=hr.tmps g _ hl
    have e : (ops[j]?).bind (·.dst) = some g:=by simpa using hg
    split at h
    · rename_i b
      have:=hv.bool_inv
      subst this
      have hy : yielded ops a.tmps j = some b:=by
        unfold yielded
        rw [e]
        simp [hx]
      by_cases eb : b = want
      · subst eb
        exact ⟨_,hr.know hx,.inl ⟨h.1 rfl,hy⟩⟩
      · have e2 : b = !want:=by cases b <;> cases want <;> simp_all
        exact ⟨_,hr.know (by rw [← e2]; exact hx),.inr ⟨h.2 e2,by rw [hy]; simpa using eb⟩⟩
    · have : x = .tuple #[]:=by
        cases hv with
        | tup h => cases h; rfl
        | one hm h => cases h
        | agg hm h => cases h
      subst this
      refine ⟨T,hr,.inr ⟨h,?_⟩⟩
      unfold yielded
      rw [e]
      simp [hx]
    · exact h.elim
theorem wanted_of {ops : Array Oper} {j : Nat} {want b : Bool} (hg : o.guard = some (j,want)) (hy : yielded ops a.tmps j = some b) : Region.wanted o (yielded ops a.tmps) = (b == want):=by
  unfold Region.wanted
  rw [hg]
  simp only [hy]
  cases b <;> cases want <;> rfl
theorem vcOps_sound (hE : ∀ o,E.ok o) {ops : Array Oper} {Q : Exit → Act → World → Prop} {K : CK} (hd : ∀ o ∈ ops.toList,∀ t,o.dst = some t → t < N) (h : vcOps P ops.toList ops.toList K T O n) (hr : Rel E N T O n a w)
    (hK : ∀ T O n a w,K T O n → Rel E N T O n a w → Q .normal a w) : wpOps P ops Q (List.range ops.size) a w:=by
  have key : ∀ (rest : List Oper) (i : Nat) (T : TT) (O : OO) (n : Nat) (a : Act) (w : World),ops.toList.drop i = rest → vcOps P ops.toList rest K T O n → Rel E N T O n a w → wpOps P ops Q (List.range' i rest.length) a w:=by
    intro rest
    induction rest with
    | nil => intro i T O n a w _ h hr; exact hK _ _ _ _ _ h hr
    | cons o rest ih =>
      intro i T O n a w hi h hr
      have hio : ops[i]? = some o:=by
        have : (ops.toList.drop i)[0]? = some o:=by rw [hi]; rfl
        simpa using this
      have hmem : o ∈ ops.toList:=List.mem_of_mem_drop (by rw [hi]; simp)
      have hi' : ops.toList.drop (i + 1) = rest:=by
        have:=congrArg List.tail hi
        simpa using this
      simp only [List.length_cons,List.range'_succ,wpOps,hio]
      obtain ⟨M,β,hr⟩:=hr
      simp only [vcOps] at h
      split at h
      · rename_i hg
        have : Region.wanted o (yielded ops a.tmps) = true:=by unfold Region.wanted; rw [hg]
        rw [if_pos this]
        refine .inl (vcOp_sound (fun _ _ _ _ o _ _ => hE o) rfl h hr _ _ fun v O' n' x w' M' β' hk hr' hv => ih _ _ _ _ _ _ hi' hk ⟨M',β',hr'.value (hd o hmem) hv⟩)
      · rename_i j want hg
        obtain ⟨T',hr,⟨h1,hy⟩ | ⟨h2,hy⟩⟩:=gdC_spec hr h
        · have : Region.wanted o (yielded ops a.tmps) = true:=by unfold Region.wanted; rw [hg]; simp [hy]
          rw [if_pos this]
          exact .inl (vcOp_sound (fun _ _ _ _ o _ _ => hE o) rfl h1 hr _ _ fun v O' n' x w' M' β' hk hr' hv => ih _ _ _ _ _ _ hi' hk ⟨M',β',hr'.value (hd o hmem) hv⟩)
        · have : Region.wanted o (yielded ops a.tmps) = false:=by unfold Region.wanted; rw [hg]; simpa using hy
          rw [this,if_neg (by simp)]
          exact ih _ _ _ _ _ _ hi' h2 ⟨M,β,hr.value (hd o hmem) (.tup .nil)⟩
  have:=key ops.toList 0 T O n a w rfl h hr
  rwa [Array.length_toList,← List.range_eq_range'] at this
end
end Go.Sy
namespace Go.Sy
open Go
set_option linter.unusedSimpArgs false
set_option linter.unusedVariables false
section
variable {E : Env} {N : Nat} {M M' M1 : Pool} {β β' β1 β2 : Bmap} {T T' : TT} {O O' O1 O2 J V V' : OO} {n : Nat} {a : Act} {w w' : World} {P : Program} {o : Oper}
theorem lkC_eq (T : TT) (t : Nat) (K : AV → Prop) : lkC T t K = match lk T t with | some v => K v | none => False:=by
  induction T with
  | nil => rfl
  | cons p T ih =>
    obtain ⟨i,v⟩:=p
    simp only [lkC,lk]
    split
    · rfl
    · exact ih
theorem evC_congr {x : Operand} (h : ∀ t,x = .tmp t → lk T' t = lk T t) : evC T' x = evC T x:=by
  funext K
  cases x with
  | tmp t => simp only [evC,lkC_eq,h t rfl]
  | _ => rfl
theorem evsC_congr {xs : List Operand} (h : ∀ x ∈ xs,evC T' x = evC T x) : evsC T' xs = evsC T xs:=by
  induction xs with
  | nil => rfl
  | cons x xs ih =>
    funext K
    simp only [evsC,h x (by simp),ih fun y hy => h y (by simp [hy])]
theorem partsC_congr {ps : List (Nat × Operand)} (h : ∀ x ∈ ps.map (·.2),evC T' x = evC T x) : partsC T' ps = partsC T ps:=by
  induction ps with
  | nil => rfl
  | cons p ps ih =>
    obtain ⟨j,x⟩:=p
    funext K
    simp only [partsC,h x (by simp),ih fun y hy => h y (by simp only [List.map_cons,List.mem_cons]; exact .inr hy)]
theorem optC_congr {x : Option Operand} (h : ∀ y,x = some y → evC T' y = evC T y) : optC T' x = optC T x:=by
  funext K
  cases x with
  | none => rfl
  | some x => simp only [optC,h x rfl]
theorem vcOp_congr {op : Op} {κ : KK} (h : ∀ x ∈ op.operands.toList,evC T' x = evC T x) : vcOp P op T' O n κ = vcOp P op T O n κ:=by
  cases op with
  | build t ps => simp only [vcOp,partsC_congr (T':=T') (T:=T) (ps:=ps.toList) (fun x hx => h x (by simpa [Op.operands] using hx))]
  | buildSlice t m ps => simp only [vcOp,partsC_congr (T':=T') (T:=T) (ps:=ps.toList) (fun x hx => h x (by simpa [Op.operands] using hx))]
  | makeFunc f fs cs => simp only [vcOp,evsC_congr (T':=T') (T:=T) (xs:=cs.toList) (fun x hx => h x (by simp [Op.operands] at hx ⊢; exact .inr hx)),evsC_congr (T':=T') (T:=T) (xs:=fs.toList) (fun x hx => h x (by simp [Op.operands] at hx ⊢; exact .inl hx))]
  | slice t x lo hi mx =>
    cases mx with
    | some _ => rfl
    | none =>
      simp only [vcOp,h x (by simp [Op.operands]),optC_congr (T':=T') (T:=T) (x:=lo) (fun y hy => h y (by simp [Op.operands,hy])),optC_congr (T':=T') (T:=T) (x:=hi) (fun y hy => h y (by simp [Op.operands,hy]))]
  | call c =>
    obtain ⟨callee,args,ats⟩:=c
    have ha:=evsC_congr (T':=T') (T:=T) (xs:=args.toList) (fun x hx => h x (by simp [Op.operands,Call.operands] at hx ⊢; exact .inr hx))
    cases callee with
    | value f => simp only [vcOp,h f (by simp [Op.operands,Call.operands]),ha]
    | builtin b => simp only [vcOp,ha]
    | invoke x m => rfl
  | move x => simp only [vcOp,h x (by simp [Op.operands])]
  | assign x => simp only [vcOp,h x (by simp [Op.operands])]
  | pick c x y => simp only [vcOp,h c (by simp [Op.operands]),h x (by simp [Op.operands]),h y (by simp [Op.operands])]
  | alloc t => rfl
  | box t x => simp only [vcOp,h x (by simp [Op.operands])]
  | load t x => simp only [vcOp,h x (by simp [Op.operands])]
  | store t x y => simp only [vcOp,h x (by simp [Op.operands]),h y (by simp [Op.operands])]
  | nilCheck x => simp only [vcOp,h x (by simp [Op.operands])]
  | binOp op t x y t' => simp only [vcOp,h x (by simp [Op.operands]),h y (by simp [Op.operands])]
  | unOp op t x => simp only [vcOp,h x (by simp [Op.operands])]
  | convert q t x => simp only [vcOp,h x (by simp [Op.operands])]
  | makeSlice t x y => simp only [vcOp,h x (by simp [Op.operands]),h y (by simp [Op.operands])]
  | sliceToArrayPointer t x => simp only [vcOp,h x (by simp [Op.operands])]
  | fieldAddr s x f => simp only [vcOp,h x (by simp [Op.operands])]
  | field s x f => simp only [vcOp,h x (by simp [Op.operands])]
  | indexAddr t x i => simp only [vcOp,h x (by simp [Op.operands]),h i (by simp [Op.operands])]
  | index t x i => simp only [vcOp,h x (by simp [Op.operands]),h i (by simp [Op.operands])]
  | extract x i => simp only [vcOp,h x (by simp [Op.operands])]
  | makeMap t r => cases r <;> rfl
  | lookup t x i ok => simp only [vcOp,h x (by simp [Op.operands]),h i (by simp [Op.operands])]
  | mapUpdate t m k x => simp only [vcOp,h m (by simp [Op.operands]),h k (by simp [Op.operands]),h x (by simp [Op.operands])]
  | insert t m k x => simp only [vcOp,h m (by simp [Op.operands]),h k (by simp [Op.operands]),h x (by simp [Op.operands])]
  | _ => rfl
theorem St.view (h : St E M β O w) (hV : ∀ o ob,lk V o = some ob → lk O o = some ob) (B0 : Bmap) (n0 : Nat) (ok : Nat → Prop) : St ⟨w,ownOf V β,M,B0,n0,ok⟩ M β V w :=
  ⟨h.pool,fun _ _ _ h => h,fun _ _ _ h => .inl h,fun o ob hl => h.objs _ _ (hV _ _ hl),fun o ob b κ hl hb hk => ⟨(h.mine _ _ _ _ (hV _ _ hl) hb hk).1,.inl ⟨o,ob,κ,hl,hb,hk⟩⟩,
    fun o o' ob ob' b κ κ' hl hl' => h.inj _ _ _ _ _ _ _ (hV _ _ hl) (hV _ _ hl'),Nat.le_refl _,fun _ _ _ => rfl,rfl,rfl,rfl⟩
theorem St.frame (h : St E M β O w) (hV : ∀ o ob,lk V o = some ob → lk O o = some ob) {B0 : Bmap} {n0 : Nat} {ok : Nat → Prop} (h' : St ⟨w,ownOf V β,M,B0,n0,ok⟩ M' β' V' w') (hb : BLe β β')
    {O2 : OO} (hO2 : ∀ o ob,lk O2 o = some ob → lk V' o = some ob ∨ (lk O o = some ob ∧ lk V o = none)) : St E M' β' O2 w':=by
  have hMM : PLe M M':=h'.sub
  have mineO : ∀ b,ownOf V β b → (∀ i,M b i = none) ∧ (E.own b ∨ E.w0.heap.size ≤ b):=fun b ⟨o,ob,κ,h1,h2,h3⟩ => h.mine _ _ _ _ (hV _ _ h1) h2 h3
  have far : ∀ o ob b κ,lk O o = some ob → lk V o = none → β o = some (b,κ) → κ ≠ 0 → b < w.heap.size ∧ ¬ ownOf V β b:=fun o ob b κ h1 h2 h3 h4 => by
    refine ⟨?_,?_⟩
    · obtain ⟨b',κ',g1,g2⟩:=h.objs _ _ h1
      rw [h3] at g1; cases g1
      exact g2.lt h4
    · rintro ⟨o',ob',κ',g1,g2,g3⟩
      have:=h.inj _ _ _ _ _ _ _ h1 (hV _ _ g1) h3 g2 h4 g3
      subst this
      rw [h2] at g1; cases g1
  have back : ∀ o ob b κ,lk O o = some ob → β' o = some (b,κ) → β o = some (b,κ):=fun o ob b κ h1 h2 => by
    obtain ⟨b',κ',g1,_⟩:=h.objs _ _ h1
    have:=hb _ _ g1
    rw [h2] at this; cases this
    exact g1
  have cross : ∀ o ob o' ob' b κ κ',lk V' o = some ob → β' o = some (b,κ) → κ ≠ 0 → lk O o' = some ob' → lk V o' = none → β' o' = some (b,κ') → κ' ≠ 0 → False:=fun o ob o' ob' b κ κ' h1 h2 h3 h4 h5 h6 h7 => by
    obtain ⟨g1,g2⟩:=far _ _ _ _ h4 h5 (back _ _ _ _ h4 h6) h7
    rcases (h'.mine _ _ _ _ h1 h2 h3).2 with g | g
    · exact g2 g
    · have g : w.heap.size ≤ b:=g
      omega
  refine ⟨h'.pool,fun b i v hm => hMM _ _ _ (h.sub _ _ _ hm),fun b i v hm => ?_,fun o ob hl => ?_,fun o ob b κ hl hbo hk => ?_,fun o o' ob ob' b κ κ' hl hl' hbo hbo' hk hk' => ?_,
    Nat.le_trans h.size h'.size,fun b hb' hn => ?_,by rw [h'.os]; exact h.os,by rw [h'.tape]; exact h.tape,by rw [h'.output]; exact h.output⟩
  · rcases h'.only _ _ _ hm with g | g | g
    · exact h.only _ _ _ g
    · exact .inr (mineO b g).2
    · exact .inr (.inr (Nat.le_trans h.size g))
  · rcases hO2 _ _ hl with g | ⟨g1,g2⟩
    · exact h'.objs _ _ g
    · obtain ⟨b,κ,g3,g4⟩:=h.objs _ _ g1
      refine ⟨b,κ,hb _ _ g3,g4.mono2 hMM hb fun hk => ?_⟩
      obtain ⟨g5,g6⟩:=far _ _ _ _ g1 g2 g3 hk
      exact h'.keep b g5 g6
  · rcases hO2 _ _ hl with g | ⟨g1,g2⟩
    · obtain ⟨g3,g4⟩:=h'.mine _ _ _ _ g hbo hk
      refine ⟨g3,?_⟩
      rcases g4 with g4 | g4
      · exact (mineO b g4).2
      · exact .inr (Nat.le_trans h.size g4)
    · have hbo:=back _ _ _ _ g1 hbo
      obtain ⟨g3,g4⟩:=h.mine _ _ _ _ g1 hbo hk
      refine ⟨fun i => ?_,g4⟩
      cases hm : M' b i with
      | none => rfl
      | some v =>
        exfalso
        obtain ⟨g5,g6⟩:=far _ _ _ _ g1 g2 hbo hk
        rcases h'.only _ _ _ hm with g | g | g
        · have g : M b i = some v:=g
          rw [g3] at g; cases g
        · exact g6 g
        · have g : w.heap.size ≤ b:=g
          omega
  · rcases hO2 _ _ hl with g | ⟨g1,g2⟩
    · rcases hO2 _ _ hl' with g' | ⟨g1',g2'⟩
      · exact h'.inj _ _ _ _ _ _ _ g g' hbo hbo' hk hk'
      · exact (cross _ _ _ _ _ _ _ g hbo hk g1' g2' hbo' hk').elim
    · rcases hO2 _ _ hl' with g' | ⟨g1',g2'⟩
      · exact (cross _ _ _ _ _ _ _ g' hbo' hk' g1 g2 hbo hk).elim
      · exact h.inj _ _ _ _ _ _ _ g1 g1' (back _ _ _ _ g1 hbo) (back _ _ _ _ g1' hbo') hk hk'
  · rw [← h.keep b hb' hn]
    refine h'.keep b (Nat.lt_of_lt_of_le hb' h.size) fun hown => ?_
    rcases (mineO b hown).2 with g | g
    · exact hn g
    · omega
theorem lk_filter {α : Type} {O : List (Nat × α)} {q : Nat → Bool} {o : Nat} : lk (O.filter fun p => q p.1) o = if q o = true then lk O o else none:=by
  induction O with
  | nil => simp [lk]
  | cons p O ih =>
    obtain ⟨i,v⟩:=p
    by_cases hq : q i = true
    · by_cases e : i = o
      · subst e; simp [List.filter_cons,lk,hq]
      · simp [List.filter_cons,lk,hq,e,ih]
    · by_cases e : i = o
      · subst e; simp [List.filter_cons,hq,ih]
      · simp [List.filter_cons,lk,hq,e,ih]
end
end Go.Sy
namespace Go.Sy
open Go
set_option linter.unusedSimpArgs false
set_option linter.unusedVariables false
abbrev Plan:=List (Nat × List Nat × Option (List Nat))
def hidX : List (Nat × List Nat) → List Nat → List Nat
  | [],_ => []
  | (p,W) :: acc,us => if us.contains p = true then W ++ hidX acc us else hidX acc us
def keepC : OO → List Nat → (OO → Prop) → Prop
  | [],_,K => K []
  | (o,ob) :: O,X,K => if X.contains o = true then keepC O X fun O' => K ((o,ob) :: O') else keepC O X K
def idsT (T : TT) : List Nat → List Nat
  | [] => []
  | t :: ts => (match lk T t with | some v => idsV v | none => []) ++ idsT T ts
def touch (V : OO) (T : TT) : Option (List Nat) → List Nat
  | none => []
  | some ts => reach V 3 (idsT T ts)
def rng : Nat → Nat → List Nat
  | _,0 => []
  | n,k + 1 => n :: rng (n + 1) k
def sameC (W : List Nat) (V' : OO) : OO → Prop
  | [] => True
  | (o,ob) :: V => (W.contains o = false → objC V' o fun ob' => ob' = ob) ∧ sameC W V' V
def newC (ks : List Nat) (n n' : Nat) : OO → Prop
  | [] => True
  | (o,_) :: V => (ks.contains o = true ∨ (n ≤ o ∧ o < n')) ∧ newC ks n n' V
def ltC : List Nat → Nat → Prop
  | [],_ => True
  | o :: W,n => o < n ∧ ltC W n
def wOp (P : Program) (op : Op) (X : List Nat) (ld : Option (List Nat)) (T : TT) (O : OO) (n : Nat) (K : AV → OO → Nat → List Nat → Prop) : Prop :=
  rmsO O X fun V => keepC O X fun R => vcOp P op T V n fun v V' n' => (sameC (touch V T ld) V' V ∧ newC (keys V) n n' V' ∧ ltC (touch V T ld) n ∧ n ≤ n') ∧ K v (V' ++ R) n' (touch V T ld ++ rng n (n' - n))
def vcWalk (P : Program) (all : List Oper) : Plan → List (Nat × List Nat) → CK → CK
  | [],_,K,T,O,n => K T O n
  | (i,us,ld) :: pl,acc,K,T,O,n =>
    match all[i]? with
    | none => False
    | some o =>
      match o.guard with
      | none => wOp P o.op (hidX acc us) ld T O n fun v O' n' W => vcWalk P all pl ((i,W) :: acc) K (putT o.dst v T) O' n'
      | some (j,want) => gdC all j want T (fun T => wOp P o.op (hidX acc us) ld T O n fun v O' n' W => vcWalk P all pl ((i,W) :: acc) K (putT o.dst v T) O' n')
          (fun T => vcWalk P all pl ((i,[]) :: acc) K (putT o.dst (.tup []) T) O n)
def waits (o : Oper) (b : Nat) : Bool:=o.after.toList.any fun e => Region.binds .any e && e.on == b
def okPlan (ops : Array Oper) : List (Nat × List Nat) → Plan → Bool
  | acc,[] => (List.range ops.size).all fun j => (acc.map (·.1)).contains j
  | acc,(i,us,ld) :: pl =>
    match ops[i]? with
    | none => false
    | some o =>
      let B:=(acc.map (·.1)).filter fun b => !us.contains b
      !(acc.map (·.1)).contains i && B.all (fun b => waits o b || acc.any fun c => waits o c.1 && c.2.contains b) &&
      o.after.toList.all (fun e => !Region.binds .any e || B.contains e.on) &&
      (acc.map (·.1)).all (fun u => !us.contains u || match ops[u]? with | some x => x.apart ops o | none => false) && (ld.isNone || us.isEmpty) && okPlan ops ((i,B) :: acc) pl
structure Rec where
  i : Nat
  us : List Nat
  o : Oper
  T : TT
  n : Nat
  V : OO
  v : AV
  V' : OO
  n' : Nat
  W : List Nat
  B : List Nat
  loud : Bool
def updR (r : Rec) (O : OO) : OO:=(r.V'.filter fun p => r.W.contains p.1) ++ (O.filter fun p => !r.W.contains p.1)
theorem lk_updR (r : Rec) (O : OO) (o : Nat) : lk (updR r O) o = if r.W.contains o = true then lk r.V' o else lk O o:=by
  unfold updR
  rw [lk_append,lk_filter (q:=fun o => r.W.contains o),lk_filter (q:=fun o => !r.W.contains o)]
  cases h : r.W.contains o
  · simp
  · simp
    cases lk r.V' o <;> rfl
def OS (S : Nat → Bool) : List Rec → OO → OO
  | [],O => O
  | r :: rs,O => OS S rs (if S r.i = true then updR r O else O)
def TS (S : Nat → Bool) : List Rec → TT → TT
  | [],T => T
  | r :: rs,T => TS S rs (if S r.i = true then putT r.o.dst r.v T else T)
section
variable {S S' : Nat → Bool}
theorem OS_append (l1 l2 : List Rec) : ∀ O,OS S (l1 ++ l2) O = OS S l2 (OS S l1 O):=by
  induction l1 with
  | nil => intro O; rfl
  | cons r l ih => intro O; simp only [List.cons_append,OS,ih]
theorem TS_append (l1 l2 : List Rec) : ∀ O,TS S (l1 ++ l2) O = TS S l2 (TS S l1 O):=by
  induction l1 with
  | nil => intro O; rfl
  | cons r l ih => intro O; simp only [List.cons_append,TS,ih]
theorem OS_skip {o : Nat} (l : List Rec) (h : ∀ r ∈ l,S r.i = true → r.W.contains o = false) : ∀ O,lk (OS S l O) o = lk O o:=by
  induction l with
  | nil => intro O; rfl
  | cons r l ih =>
    intro O
    simp only [OS]
    rw [ih fun q hq => h q (by simp [hq])]
    split
    · rename_i e; rw [lk_updR,h r (by simp) e]; simp
    · rfl
theorem OS_lk {o : Nat} (l : List Rec) : ∀ {O O' : OO},lk O o = lk O' o → lk (OS S l O) o = lk (OS S l O') o:=by
  induction l with
  | nil => intro O O' h; exact h
  | cons r l ih =>
    intro O O' h
    simp only [OS]
    refine ih ?_
    split
    · rw [lk_updR,lk_updR,h]
    · exact h
theorem OS_agree {o : Nat} (l : List Rec) (h : ∀ r ∈ l,S r.i = false → r.W.contains o = false) : ∀ {O O' : OO},lk O o = lk O' o → lk (OS S l O) o = lk (OS (fun _ => true) l O') o:=by
  induction l with
  | nil => intro O O' h; exact h
  | cons r l ih =>
    intro O O' ho
    simp only [OS,if_true]
    refine ih (fun q hq => h q (by simp [hq])) ?_
    rw [lk_updR]
    cases e : S r.i with
    | true => simp only [if_true]; rw [lk_updR,ho]
    | false => simp only [Bool.false_eq_true,if_false,h r (by simp) e]; exact ho
theorem OS_congr (l : List Rec) (h : ∀ r ∈ l,S r.i = S' r.i) : ∀ O,OS S l O = OS S' l O:=by
  induction l with
  | nil => intro O; rfl
  | cons r l ih => intro O; simp only [OS,h r (by simp)]; exact ih (fun q hq => h q (by simp [hq])) _
theorem lk_putT (d : Option Tmp) (v : AV) (T : TT) (t : Nat) : lk (putT d v T) t = if d = some t then some v else lk T t:=by
  cases d with
  | none => simp [putT]
  | some d => simp [putT,lk]
theorem TS_skip {t : Nat} (l : List Rec) (h : ∀ r ∈ l,S r.i = true → r.o.dst ≠ some t) : ∀ T,lk (TS S l T) t = lk T t:=by
  induction l with
  | nil => intro O; rfl
  | cons r l ih =>
    intro O
    simp only [TS]
    rw [ih fun q hq => h q (by simp [hq])]
    split
    · rename_i e; rw [lk_putT,if_neg (h r (by simp) e)]
    · rfl
theorem TS_lk {o : Nat} (l : List Rec) : ∀ {O O' : TT},lk O o = lk O' o → lk (TS S l O) o = lk (TS S l O') o:=by
  induction l with
  | nil => intro O O' h; exact h
  | cons r l ih =>
    intro O O' h
    simp only [TS]
    refine ih ?_
    split
    · rw [lk_putT,lk_putT,h]
    · exact h
theorem TS_agree {t : Nat} (l : List Rec) (h : ∀ r ∈ l,S r.i = false → r.o.dst ≠ some t) : ∀ {T T' : TT},lk T t = lk T' t → lk (TS S l T) t = lk (TS (fun _ => true) l T') t:=by
  induction l with
  | nil => intro O O' h; exact h
  | cons r l ih =>
    intro T T' ho
    simp only [TS,if_true]
    refine ih (fun q hq => h q (by simp [hq])) ?_
    rw [lk_putT]
    cases e : S r.i with
    | true => simp only [if_true]; rw [lk_putT,ho]
    | false => simp only [Bool.false_eq_true,if_false]; rw [if_neg (h r (by simp) e)]; exact ho
theorem TS_congr (l : List Rec) (h : ∀ r ∈ l,S r.i = S' r.i) : ∀ O,TS S l O = TS S' l O:=by
  induction l with
  | nil => intro O; rfl
  | cons r l ih => intro O; simp only [TS,h r (by simp)]; exact ih (fun q hq => h q (by simp [hq])) _
end
structure RecOK (P : Program) (ops : Array Oper) (T0 : TT) (O0 : OO) (pre : List Rec) (r : Rec) : Prop where
  op : ops[r.i]? = some r.o
  fresh : ∀ p ∈ pre,p.i ≠ r.i
  mem : ∀ p ∈ pre,p.i ∈ r.B ∨ p.i ∈ r.us
  bef : ∀ b ∈ r.B,waits r.o b = true ∨ ∃ c ∈ pre,waits r.o c.i = true ∧ b ∈ c.B
  isB : ∀ b ∈ r.B,∃ p ∈ pre,p.i = b
  edge : ∀ e ∈ r.o.after,Region.binds .any e = true → e.on ∈ r.B
  apart : ∀ p ∈ pre,p.i ∈ r.us → p.o.apart ops r.o = true
  loud : r.loud = true → ∀ p ∈ pre,p.i ∈ r.B
  quiet : r.loud = false → ∀ o ∈ r.W,r.n ≤ o
  wlt : ∀ o ∈ r.W,o < r.n'
  nle : r.n ≤ r.n'
  view : ∀ o ob,lk r.V o = some ob → lk (OS (fun _ => true) pre O0) o = some ob ∧ (∀ p ∈ pre,p.i ∈ r.us → o ∉ p.W) ∧ o < r.n
  tmps : ∀ t,lk r.T t = lk (TS (fun _ => true) pre T0) t
  same : ∀ o,o ∉ r.W → lk r.V' o = lk r.V o
  newer : ∀ p ∈ pre,p.n' ≤ r.n
  run : (vcOp P r.o.op r.T r.V r.n (fun v V' n' => v = r.v ∧ V' = r.V' ∧ n' = r.n') ∧ (r.o.guard = none ∨ ∃ j want g,r.o.guard = some (j,want) ∧ (ops[j]?).bind (·.dst) = some g ∧ lk r.T g = some (.bool want))) ∨
    (r.v = .tup [] ∧ r.W = [] ∧ ∃ j want g u,r.o.guard = some (j,want) ∧ (ops[j]?).bind (·.dst) = some g ∧ lk r.T g = some u ∧ (u = .bool (!want) ∨ u = .tup []))
theorem keepC_spec : ∀ {O : OO} {X : List Nat} {κ : OO → Prop},keepC O X κ → ∃ R,κ R ∧ ∀ o,lk R o = if X.contains o = true then lk O o else none:=by
  intro O
  induction O with
  | nil => intro X κ h; exact ⟨[],h,fun o => by simp [lk]⟩
  | cons p O ih =>
    obtain ⟨i,ob⟩:=p
    intro X κ h
    simp only [keepC] at h
    split at h
    · rename_i e
      obtain ⟨R,h1,h2⟩:=ih h
      refine ⟨_,h1,fun o => ?_⟩
      simp only [lk,h2]
      by_cases hi : i = o
      · subst hi; simp only [if_true,e]
      · simp [hi]
    · rename_i e
      obtain ⟨R,h1,h2⟩:=ih h
      refine ⟨_,h1,fun o => ?_⟩
      rw [h2]
      by_cases hi : i = o
      · subst hi; simp only [if_neg e]
      · simp [lk,hi]
theorem mem_rng {o n k : Nat} : o ∈ rng n k ↔ n ≤ o ∧ o < n + k:=by
  induction k generalizing n with
  | zero => simp [rng]
  | succ k ih => simp only [rng,List.mem_cons,ih]; omega
theorem sameC_spec {W : List Nat} {V' : OO} : ∀ {V : OO},sameC W V' V → ∀ o ob,lk V o = some ob → o ∉ W → lk V' o = some ob:=by
  intro V
  induction V with
  | nil => intro _ o ob h; cases h
  | cons p V ih =>
    obtain ⟨i,b⟩:=p
    intro h o ob hl hw
    simp only [lk] at hl
    split at hl
    · rename_i e
      subst e
      cases hl
      obtain ⟨ob',h1,h2⟩:=objC_spec (h.1 (by simpa using hw))
      rw [h1,h2]
    · exact ih h.2 _ _ hl hw
theorem newC_spec {ks : List Nat} {n n' : Nat} : ∀ {V : OO},newC ks n n' V → ∀ o ob,lk V o = some ob → o ∈ ks ∨ (n ≤ o ∧ o < n'):=by
  intro V
  induction V with
  | nil => intro _ o ob h; cases h
  | cons p V ih =>
    obtain ⟨i,b⟩:=p
    intro h o ob hl
    simp only [lk] at hl
    split at hl
    · rename_i e
      subst e
      exact h.1.imp (by simp) id
    · exact ih h.2 _ _ hl
theorem ltC_spec {n : Nat} : ∀ {W : List Nat},ltC W n → ∀ o ∈ W,o < n:=by
  intro W
  induction W with
  | nil => intro _ o h; cases h
  | cons a W ih => intro h o ho; rcases List.mem_cons.1 ho with rfl | ho; exact h.1; exact ih h.2 o ho
end Go.Sy
namespace Go.Sy
open Go
set_option linter.unusedSimpArgs false
set_option linter.unusedVariables false
section
variable {P : Program} {ops : Array Oper} {T0 : TT} {O0 : OO} {K : CK}
abbrev tt : Nat → Bool:=fun _ => true
theorem contains_iff {l : List Nat} {o : Nat} : l.contains o = true ↔ o ∈ l:=by simp
structure Here (ops : Array Oper) (T0 : TT) (O0 : OO) (pre : List Rec) (acc accB : List (Nat × List Nat)) (T : TT) (O : OO) (n : Nat) : Prop where
  acc : ∀ us o,o ∈ hidX acc us ↔ ∃ p ∈ pre,p.i ∈ us ∧ o ∈ p.W
  accB : ∀ q,q ∈ accB ↔ ∃ p ∈ pre,q = (p.i,p.B)
  eT : ∀ t,lk T t = lk (TS tt pre T0) t
  eO : ∀ o,lk O o = lk (OS tt pre O0) o
  lt : ∀ o ob,lk O o = some ob → o < n
  n' : ∀ p ∈ pre,p.n' ≤ n
  W : ∀ p ∈ pre,∀ o ∈ p.W,o < n
theorem OS_tt_cons (r : Rec) (O : OO) : OS tt [r] O = updR r O:=by simp [OS]
theorem Here.next {pre : List Rec} {acc accB : List (Nat × List Nat)} {T T' : TT} {O O' : OO} {n : Nat} (h : Here ops T0 O0 pre acc accB T O n) (r : Rec)
    (hT : ∀ t,lk T' t = lk (putT r.o.dst r.v T) t) (hO : ∀ o,lk O' o = if r.W.contains o = true then lk r.V' o else lk O o) (hlt : ∀ o ob,lk O' o = some ob → o < r.n') (hn : n ≤ r.n') (hW : ∀ o ∈ r.W,o < r.n') :
    Here ops T0 O0 (pre ++ [r]) ((r.i,r.W) :: acc) ((r.i,r.B) :: accB) T' O' r.n':=by
  refine ⟨fun us o => ?_,fun q => ?_,fun t => ?_,fun o => ?_,hlt,fun p hp => ?_,fun p hp o ho => ?_⟩
  · simp only [hidX]
    constructor
    · intro hm
      split at hm
      · rename_i e
        rcases List.mem_append.1 hm with hm | hm
        · exact ⟨r,by simp,by simpa using e,hm⟩
        · obtain ⟨p,hp,g⟩:=(h.acc us o).1 hm
          exact ⟨p,by simp [hp],g⟩
      · obtain ⟨p,hp,g⟩:=(h.acc us o).1 hm
        exact ⟨p,by simp [hp],g⟩
    · rintro ⟨p,hp,g1,g2⟩
      rcases List.mem_append.1 hp with hp | hp
      · have:=(h.acc us o).2 ⟨p,hp,g1,g2⟩
        split
        · exact List.mem_append.2 (.inr this)
        · exact this
      · simp only [List.mem_singleton] at hp
        subst hp
        rw [if_pos (by simpa using g1)]
        exact List.mem_append.2 (.inl g2)
  · simp only [List.mem_cons,h.accB,List.mem_append,List.mem_nil_iff,or_false]
    constructor
    · rintro (rfl | ⟨p,hp,rfl⟩)
      · exact ⟨r,.inr rfl,rfl⟩
      · exact ⟨p,.inl hp,rfl⟩
    · rintro ⟨p,hp | rfl,rfl⟩
      · exact .inr ⟨p,hp,rfl⟩
      · exact .inl rfl
  · rw [hT,TS_append]
    simp only [TS,if_true]
    rw [lk_putT,lk_putT,h.eT]
  · rw [hO,OS_append,OS_tt_cons,lk_updR,h.eO]
  · rcases List.mem_append.1 hp with hp | hp
    · exact Nat.le_trans (h.n' p hp) hn
    · simp only [List.mem_singleton] at hp; subst hp; exact Nat.le_refl _
  · rcases List.mem_append.1 hp with hp | hp
    · exact Nat.lt_of_lt_of_le (h.W p hp o ho) hn
    · simp only [List.mem_singleton] at hp; subst hp; exact hW o ho
theorem okPlan_spec {accB : List (Nat × List Nat)} {i : Nat} {us : List Nat} {ld : Option (List Nat)} {pl : Plan} (h : okPlan ops accB ((i,us,ld) :: pl) = true) :
    ∃ o,ops[i]? = some o ∧ (∀ p ∈ accB,p.1 ≠ i) ∧ (∀ b,b ∈ accB.map (·.1) → b ∉ us → waits o b = true ∨ ∃ c ∈ accB,waits o c.1 = true ∧ b ∈ c.2) ∧
      (∀ e ∈ o.after,Region.binds .any e = true → e.on ∈ accB.map (·.1) ∧ e.on ∉ us) ∧ (∀ u,u ∈ accB.map (·.1) → u ∈ us → ∃ x,ops[u]? = some x ∧ x.apart ops o = true) ∧ (ld = none ∨ us = []) ∧
      okPlan ops ((i,(accB.map (·.1)).filter fun b => !us.contains b) :: accB) pl = true:=by
  simp only [okPlan] at h
  split at h
  · cases h
  · rename_i o ho
    simp only [Bool.and_eq_true,Bool.not_eq_true',List.all_eq_true,Bool.or_eq_true,List.any_eq_true] at h
    obtain ⟨⟨⟨⟨⟨h1,h2⟩,h3⟩,h4⟩,h5⟩,h6⟩:=h
    refine ⟨o,ho,fun p hp e => ?_,fun b hb hu => ?_,fun e he hbd => ?_,fun u hu hus => ?_,?_,h6⟩
    · have : (accB.map (·.1)).contains i = true:=by simp only [contains_iff,List.mem_map]; exact ⟨p,hp,e⟩
      rw [h1] at this; cases this
    · rcases h2 b (List.mem_filter.2 ⟨hb,by simpa using hu⟩) with g | ⟨c,hc,g⟩
      · exact .inl g
      · exact .inr ⟨c,hc,g.1,by simpa using g.2⟩
    · have:=(h3 e (by simpa using he)).resolve_left (by simp [hbd])
      simp only [contains_iff,List.mem_filter] at this
      exact ⟨this.1,by simpa using this.2⟩
    · have:=(h4 u hu).resolve_left (by simpa using hus)
      split at this
      · rename_i x hx; exact ⟨x,hx,this⟩
      · cases this
    · rcases h5 with h5 | h5
      · exact .inl (by simpa using h5)
      · exact .inr (by simpa using h5)
theorem chain : ∀ (pl : Plan) (pre : List Rec) (acc accB : List (Nat × List Nat)) (T : TT) (O : OO) (n : Nat),Here ops T0 O0 pre acc accB T O n → (∀ p ∈ pre,ops[p.i]? = some p.o) → okPlan ops accB pl = true → vcWalk P ops.toList pl acc K T O n →
    ∃ rs Tf Of nf,K Tf Of nf ∧ (∀ l r post,rs = l ++ r :: post → RecOK P ops T0 O0 (pre ++ l) r ∧ n ≤ r.n ∧ r.n' ≤ nf) ∧ (∀ t,lk Tf t = lk (TS tt (pre ++ rs) T0) t) ∧ (∀ o,lk Of o = lk (OS tt (pre ++ rs) O0) o) ∧ n ≤ nf ∧
      ∀ j,j < ops.size → ∃ r ∈ pre ++ rs,r.i = j:=by
  intro pl
  induction pl with
  | nil =>
    intro pre acc accB T O n hh _ hp h
    refine ⟨[],T,O,n,h,fun l r post e => by simp at e,by simpa using hh.eT,by simpa using hh.eO,Nat.le_refl _,fun j hj => ?_⟩
    simp only [okPlan,List.all_eq_true,List.mem_range,contains_iff] at hp
    obtain ⟨q,hq,rfl⟩:=List.mem_map.1 (hp j hj)
    obtain ⟨p,hp',rfl⟩:=(hh.accB q).1 hq
    exact ⟨p,by simpa using hp',rfl⟩
  | cons q pl ih =>
    obtain ⟨i,us,ld⟩:=q
    intro pre acc accB T O n hh hpo hp h
    obtain ⟨o,hio,hfr,hbef,hedge,hap,hld,hp'⟩:=okPlan_spec hp
    have hiol : ops.toList[i]? = some o:=by simpa using hio
    simp only [vcWalk,hiol] at h
    have memA : ∀ b,b ∈ accB.map (·.1) ↔ ∃ p ∈ pre,p.i = b:=fun b => by
      simp only [List.mem_map]
      constructor
      · rintro ⟨q,hq,rfl⟩
        obtain ⟨p,hp,rfl⟩:=(hh.accB q).1 hq
        exact ⟨p,hp,rfl⟩
      · rintro ⟨p,hp,rfl⟩
        exact ⟨_,(hh.accB _).2 ⟨p,hp,rfl⟩,rfl⟩
    -- the rest,behind a record
    have fin : ∀ (r : Rec) (T' : TT) (O' : OO),r.i = i → r.o = o → r.B = (accB.map (·.1)).filter (fun b => !us.contains b) → RecOK P ops T0 O0 pre r → n ≤ r.n → Here ops T0 O0 (pre ++ [r]) ((r.i,r.W) :: acc) ((r.i,r.B) :: accB) T' O' r.n' →
        vcWalk P ops.toList pl ((r.i,r.W) :: acc) K T' O' r.n' →
        ∃ rs Tf Of nf,K Tf Of nf ∧ (∀ l r post,rs = l ++ r :: post → RecOK P ops T0 O0 (pre ++ l) r ∧ n ≤ r.n ∧ r.n' ≤ nf) ∧ (∀ t,lk Tf t = lk (TS tt (pre ++ rs) T0) t) ∧ (∀ o,lk Of o = lk (OS tt (pre ++ rs) O0) o) ∧ n ≤ nf ∧
          ∀ j,j < ops.size → ∃ r ∈ pre ++ rs,r.i = j:=by
      intro r T' O' e1 e2 e3 hr hn hh' hw
      obtain ⟨rs,Tf,Of,nf,k1,k2,k3,k4,k5,k6⟩:=ih (pre ++ [r]) _ _ T' O' r.n' hh' (fun p hp => by
        rcases List.mem_append.1 hp with hp | hp
        · exact hpo p hp
        · simp only [List.mem_singleton] at hp; subst hp; exact hr.op) (by rw [e3,e1]; exact hp') hw
      refine ⟨r :: rs,Tf,Of,nf,k1,fun l q post e => ?_,by simpa using k3,by simpa using k4,Nat.le_trans (Nat.le_trans hn hr.nle) k5,by simpa using k6⟩
      cases l with
      | nil =>
        simp only [List.nil_append,List.cons.injEq] at e
        obtain ⟨rfl,_⟩:=e
        exact ⟨by simpa using hr,hn,k5⟩
      | cons q' l =>
        simp only [List.cons_append,List.cons.injEq] at e
        obtain ⟨rfl,e⟩:=e
        obtain ⟨g1,g2,g3⟩:=k2 l q post e
        exact ⟨by simpa using g1,Nat.le_trans (Nat.le_trans hn hr.nle) g2,g3⟩
    -- what each record has
    have base : ∀ (r : Rec),r.i = i → r.us = us → r.o = o → r.B = (accB.map (·.1)).filter (fun b => !us.contains b) → r.n = n → r.loud = ld.isSome → r.n ≤ r.n' → (r.loud = false → ∀ o ∈ r.W,r.n ≤ o) → (∀ o ∈ r.W,o < r.n') →
        (∀ o,lk r.V o = if o ∈ hidX acc us then none else lk O o) → (∀ t,lk r.T t = lk T t) → (∀ o,o ∉ r.W → lk r.V' o = lk r.V o) →
        ((vcOp P r.o.op r.T r.V r.n (fun v V' n' => v = r.v ∧ V' = r.V' ∧ n' = r.n') ∧ (r.o.guard = none ∨ ∃ j want g,r.o.guard = some (j,want) ∧ (ops[j]?).bind (·.dst) = some g ∧ lk r.T g = some (.bool want))) ∨
          (r.v = .tup [] ∧ r.W = [] ∧ ∃ j want g u,r.o.guard = some (j,want) ∧ (ops[j]?).bind (·.dst) = some g ∧ lk r.T g = some u ∧ (u = .bool (!want) ∨ u = .tup []))) → RecOK P ops T0 O0 pre r:=by
      intro r e1 e2 e3 e4 e5 e6 g1 g2 g3 g4 g5 g6 g7
      have inB : ∀ b,b ∈ r.B ↔ (∃ p ∈ pre,p.i = b) ∧ b ∉ us:=fun b => by rw [e4,List.mem_filter,memA]; simp
      refine ⟨by rw [e1,e3]; exact hio,fun p hp => ?_,fun p hp => ?_,fun b hb => ?_,fun b hb => ((inB b).1 hb).1,fun e he hbd => ?_,fun p hp hu => ?_,fun hl p hp => ?_,g2,g3,g1,fun o' ob hl => ?_,fun t => by rw [g5]; exact hh.eT t,g6,fun p hp => by rw [e5]; exact hh.n' p hp,g7⟩
      · rw [e1]; exact hfr _ ((hh.accB _).2 ⟨p,hp,rfl⟩)
      · by_cases hu : p.i ∈ us
        · exact .inr (by rw [e2]; exact hu)
        · exact .inl ((inB _).2 ⟨⟨p,hp,rfl⟩,hu⟩)
      · obtain ⟨⟨p,hp,rfl⟩,hu⟩:=(inB b).1 hb
        rw [e3]
        rcases hbef _ ((memA _).2 ⟨p,hp,rfl⟩) hu with g | ⟨c,hc,g⟩
        · exact .inl g
        · obtain ⟨p',hp',rfl⟩:=(hh.accB c).1 hc
          exact .inr ⟨p',hp',g⟩
      · rw [e3] at he
        obtain ⟨h1,h2⟩:=hedge e he hbd
        exact (inB _).2 ⟨(memA _).1 h1,h2⟩
      · rw [e2] at hu
        obtain ⟨x,hx,ha⟩:=hap _ ((memA _).2 ⟨p,hp,rfl⟩) hu
        rw [hpo p hp] at hx; cases hx
        rw [e3]; exact ha
      · rw [e6] at hl
        rcases hld with h | h
        · rw [h] at hl; cases hl
        · exact (inB _).2 ⟨⟨p,hp,rfl⟩,by rw [h]; simp⟩
      · rw [g4] at hl
        split at hl
        · cases hl
        · rename_i hx
          refine ⟨by rw [← hh.eO]; exact hl,fun p hp hu hw => hx ?_,by rw [e5]; exact hh.lt _ _ hl⟩
          exact (hh.acc us o').2 ⟨p,hp,by rw [e2] at hu; exact hu,hw⟩
    -- an operation that is carried out
    have run : ∀ Tg : TT,(∀ t,lk Tg t = lk T t) → (o.guard = none ∨ ∃ j want g,o.guard = some (j,want) ∧ (ops[j]?).bind (·.dst) = some g ∧ lk Tg g = some (.bool want)) →
        wOp P o.op (hidX acc us) ld Tg O n (fun v O' n' W => vcWalk P ops.toList pl ((i,W) :: acc) K (putT o.dst v Tg) O' n') →
        ∃ rs Tf Of nf,K Tf Of nf ∧ (∀ l r post,rs = l ++ r :: post → RecOK P ops T0 O0 (pre ++ l) r ∧ n ≤ r.n ∧ r.n' ≤ nf) ∧ (∀ t,lk Tf t = lk (TS tt (pre ++ rs) T0) t) ∧ (∀ o,lk Of o = lk (OS tt (pre ++ rs) O0) o) ∧ n ≤ nf ∧
          ∀ j,j < ops.size → ∃ r ∈ pre ++ rs,r.i = j:=by
      intro Tg hTg hgd h
      obtain ⟨V,h,hV⟩:=rmsO_spec h
      obtain ⟨R,h,hR⟩:=keepC_spec h
      obtain ⟨⟨v,V',n'⟩,⟨⟨c1,c2,c3,c4⟩,hk⟩,hpt⟩:=vcOp_pt (P:=P) (T:=Tg) (O:=V) (n:=n) o.op (fun q => (sameC (touch V Tg ld) q.2.1 V ∧ newC (keys V) n q.2.2 q.2.1 ∧ ltC (touch V Tg ld) n ∧ n ≤ q.2.2) ∧
        vcWalk P ops.toList pl ((i,touch V Tg ld ++ rng n (q.2.2 - n)) :: acc) K (putT o.dst q.1 Tg) (q.2.1 ++ R) q.2.2) h
      have hrun:=hpt (fun q => q.1 = v ∧ q.2.1 = V' ∧ q.2.2 = n') ⟨rfl,rfl,rfl⟩
      simp only at c1 c2 c3 c4 hk
      have hWlt : ∀ x ∈ touch V Tg ld ++ rng n (n' - n),x < n':=fun x hx => by
        rcases List.mem_append.1 hx with hx | hx
        · exact Nat.lt_of_lt_of_le (ltC_spec c3 x hx) c4
        · rw [mem_rng] at hx; omega
      have hsame : ∀ x,x ∉ touch V Tg ld ++ rng n (n' - n) → lk V' x = lk V x:=fun x hx => by
        simp only [List.mem_append,not_or] at hx
        cases hl : lk V x with
        | some ob => exact sameC_spec c1 x ob hl hx.1
        | none =>
          cases hl' : lk V' x with
          | none => rfl
          | some ob =>
            exfalso
            rcases newC_spec c2 x ob hl' with g | g
            · rw [lk_none] at hl; exact hl g
            · exact hx.2 (mem_rng.2 (by omega))
      let r : Rec:=⟨i,us,o,Tg,n,V,v,V',n',touch V Tg ld ++ rng n (n' - n),(accB.map (·.1)).filter (fun b => !us.contains b),ld.isSome⟩
      have hrec : RecOK P ops T0 O0 pre r:=base r rfl rfl rfl rfl rfl rfl c4 (fun hl x hx => by
          have hl : ld.isSome = false:=hl
          have : ld = none:=by cases ld <;> first | rfl | cases hl
          have hx : x ∈ touch V Tg ld ++ rng n (n' - n):=hx
          rw [this] at hx
          simp only [touch,List.nil_append,mem_rng] at hx
          exact hx.1) hWlt hV hTg hsame (.inl ⟨hrun,hgd⟩)
      refine fin r (putT o.dst v Tg) (V' ++ R) rfl rfl rfl hrec (Nat.le_refl _) (hh.next r (fun t => by rw [lk_putT,lk_putT,hTg]) (fun x => ?_) (fun x ob hl => ?_) c4 hWlt) hk
      · show lk (V' ++ R) x = if (touch V Tg ld ++ rng n (n' - n)).contains x = true then lk V' x else lk O x
        rw [lk_append]
        by_cases hx : x ∈ touch V Tg ld ++ rng n (n' - n)
        · rw [if_pos (by simpa using hx)]
          have hxX : lk R x = none:=by
            rw [hR]
            by_cases hX : (hidX acc us).contains x = true
            · have hX2 : x ∈ hidX acc us:=by simpa using hX
              obtain ⟨p,hp,hu,hw⟩:=(hh.acc us x).1 hX2
              rcases List.mem_append.1 hx with hx | hx
              · rcases hld with h | h
                · rw [h] at hx; simp [touch] at hx
                · rw [h] at hu; cases hu
              · rw [mem_rng] at hx
                have:=hh.W p hp x hw
                omega
            · rw [if_neg hX]
          rw [hxX]
          cases lk V' x <;> rfl
        · rw [if_neg (by simpa using hx),hsame x hx,hV,hR]
          by_cases hX : x ∈ hidX acc us
          · rw [if_pos hX,if_pos (by simpa using hX)]
          · rw [if_neg hX,if_neg (by simpa using hX)]
            cases lk O x <;> rfl
      · rw [lk_append] at hl
        split at hl
        · rename_i y e
          rcases newC_spec c2 x y e with g | g
          · have : lk V x ≠ none:=by rw [Ne,lk_none]; exact fun h => h g
            rw [hV] at this
            split at this
            · exact absurd rfl this
            · cases h0 : lk O x with
              | none => exact absurd h0 this
              | some ob0 => exact Nat.lt_of_lt_of_le (hh.lt _ _ h0) c4
          · exact g.2
        · rw [hR] at hl
          split at hl
          · exact Nat.lt_of_lt_of_le (hh.lt _ _ hl) c4
          · cases hl
    split at h
    · rename_i hg
      exact run T (fun _ => rfl) (.inl hg) h
    · rename_i j want hg
      have hgd : ∃ g u,(ops[j]?).bind (·.dst) = some g ∧ lk T g = some u ∧ ((u = .bool want ∧ wOp P o.op (hidX acc us) ld ((g,.bool want) :: T) O n fun v O' n' W => vcWalk P ops.toList pl ((i,W) :: acc) K (putT o.dst v ((g,.bool want) :: T)) O' n') ∨
          ∃ Tg : TT,(∀ t,lk Tg t = lk T t) ∧ (u = .bool (!want) ∨ u = .tup []) ∧ vcWalk P ops.toList pl ((i,[]) :: acc) K (putT o.dst (.tup []) Tg) O n):=by
        unfold gdC at h
        split at h
        · exact h.elim
        · rename_i g hgg
          obtain ⟨v,hl,h⟩:=lkC_spec h
          refine ⟨g,v,by simpa using hgg,hl,?_⟩
          split at h
          · rename_i b
            by_cases eb : b = want
            · subst eb; exact .inl ⟨rfl,h.1 rfl⟩
            · have e2 : b = !want:=(by decide : ∀ x y : Bool,¬ x = y → x = !y) b want eb
              refine .inr ⟨_,fun t => ?_,.inl (by rw [e2]),h.2 e2⟩
              simp only [lk]
              split
              · rename_i e3; subst e3; rw [hl,e2]
              · rfl
          · exact .inr ⟨T,fun _ => rfl,.inr rfl,h⟩
          · exact h.elim
      obtain ⟨g,u,hgj,hlb,⟨rfl,h1⟩ | ⟨Tg,hTg,hu,h2⟩⟩:=hgd
      · refine run _ (fun t => ?_) (.inr ⟨j,want,g,hg,hgj,by simp [lk]⟩) h1
        simp only [lk]
        split
        · rename_i e2; subst e2; rw [hlb]
        · rfl
      · -- not carried out
        obtain ⟨V,_,hV⟩:=rmsO_spec (κ:=fun _ => True) (os:=hidX acc us) (O:=O) (by
          have : ∀ (os : List Nat) (O : OO),rmsO O os fun _ => True:=by
            intro os
            induction os with
            | nil => intro O; cases O <;> trivial
            | cons x os ih =>
              intro O
              have h0 : ∀ (O : OO) (κ : OO → Prop),(∀ O',κ O') → rmO O x κ:=by
                intro O
                induction O with
                | nil => intro κ h; exact h _
                | cons p O ih2 =>
                  intro κ h
                  obtain ⟨y,ob⟩:=p
                  simp only [rmO]
                  split
                  · exact ih2 _ h
                  · exact ih2 _ fun O' => h _
              have:=h0 O (fun O' => rmsO O' os fun _ => True) ih
              cases O <;> exact this
          exact this _ _)
        let r : Rec:=⟨i,us,o,Tg,n,V,.tup [],V,n,[],(accB.map (·.1)).filter (fun b => !us.contains b),ld.isSome⟩
        have hrec : RecOK P ops T0 O0 pre r:=base r rfl rfl rfl rfl rfl rfl (Nat.le_refl _) (fun _ x hx => by cases hx) (fun x hx => by cases hx) hV hTg (fun _ _ => rfl) (.inr ⟨rfl,rfl,j,want,g,u,hg,hgj,by show lk Tg g = _; rw [hTg,hlb],hu⟩)
        exact fin r (putT o.dst (.tup []) Tg) O rfl rfl rfl hrec (Nat.le_refl _) (hh.next r (fun t => by rw [lk_putT,lk_putT,hTg]) (fun x => by
          show lk O x = if ([] : List Nat).contains x = true then lk V x else lk O x
          rw [if_neg (by simp)]) (fun x ob hl => hh.lt _ _ hl) (Nat.le_refl _) (fun x hx => by cases hx)) h2
end
end Go.Sy
namespace Go.Sy
open Go
set_option linter.unusedSimpArgs false
set_option linter.unusedVariables false
section
variable {E : Env} {N : Nat} {M M' M1 : Pool} {β β' β1 β2 : Bmap} {T T' T0 : TT} {O O' O1 O2 J V V' O0 : OO} {n n0 nf : Nat} {a : Act} {w w' : World} {P : Program} {ops : Array Oper} {rs : List Rec}
structure Inv (E : Env) (N : Nat) (rs : List Rec) (T0 : TT) (O0 : OO) (nf : Nat) (S : Nat → Bool) (M : Pool) (β : Bmap) (a : Act) (w : World) : Prop where
  st : St E M β (OS S rs O0) w
  tmps : ∀ t v,lk (TS S rs T0) t = some v → ∃ x,a.tmps[t]? = some x ∧ VR M β v x
  nd : a.defers = []
  sz : a.tmps.size = N
  base : ∀ o,o < E.n0 → β o = E.B0 o
  top : ∀ o,nf ≤ o → β o = none
  free : ∀ r ∈ rs,S r.i = false → ∀ o,r.n ≤ o → o < r.n' → β o = none
structure Recs (P : Program) (ops : Array Oper) (T0 : TT) (O0 : OO) (n0 nf : Nat) (rs : List Rec) : Prop where
  ok : ∀ l r post,rs = l ++ r :: post → RecOK P ops T0 O0 l r ∧ n0 ≤ r.n ∧ r.n' ≤ nf
  all : ∀ j,j < ops.size → ∃ r ∈ rs,r.i = j
def Dn (rs : List Rec) (S : Nat → Bool) : Prop:=∀ r ∈ rs,S r.i = true → ∀ b ∈ r.B,S b = true
theorem split_mem {r : Rec} (h : r ∈ rs) : ∃ l post,rs = l ++ r :: post:=List.append_of_mem h
theorem apart_dst {x y : Oper} (h : x.apart ops y = true) : (∀ d,x.dst = some d → d ∉ y.looksAt ops) ∧ (∀ d,x.dst = some d → y.dst ≠ some d) ∧ (∀ d,y.dst = some d → d ∉ x.looksAt ops):=Oper.apart_spec h
theorem Recs.sees (h : Recs P ops T0 O0 n0 nf rs) {S : Nat → Bool} (hd : Dn rs S) {l post : List Rec} {r : Rec} (e : rs = l ++ r :: post) (hS : S r.i = false) (hB : ∀ b ∈ r.B,S b = true) :
    (∀ o ob,lk r.V o = some ob → lk (OS S rs O0) o = some ob) ∧ (∀ t ∈ r.o.looksAt ops,lk (TS S rs T0) t = lk r.T t) ∧
    (∀ o,lk (OS (fun k => S k || k == r.i) rs O0) o = if r.W.contains o = true then lk r.V' o else lk (OS S rs O0) o) ∧ (∀ t,lk (TS (fun k => S k || k == r.i) rs T0) t = lk (putT r.o.dst r.v (TS S rs T0)) t):=by
  obtain ⟨hr,_,_⟩:=h.ok l r post e
  -- an earlier one that has not come up is not waited for
  have early : ∀ p ∈ l,S p.i = false → p.i ∈ r.us:=fun p hp hs => by
    rcases hr.mem p hp with g | g
    · rw [hB _ g] at hs; cases hs
    · exact g
  have later : ∀ q ∈ post,∃ l2 post2,rs = l2 ++ q :: post2 ∧ r ∈ l2 ∧ RecOK P ops T0 O0 l2 q:=fun q hq => by
    obtain ⟨l1,p1,e1⟩:=split_mem hq
    refine ⟨l ++ r :: l1,p1,by rw [e,e1]; simp,by simp,?_⟩
    exact (h.ok _ _ p1 (by rw [e,e1]; simp)).1
  -- a later one that has come up does not wait for it
  have late : ∀ q ∈ post,S q.i = true → r.i ∈ q.us ∧ q.loud = false ∧ r.n' ≤ q.n ∧ r.o.apart ops q.o = true:=fun q hq hs => by
    obtain ⟨l2,post2,e2,hm,hq'⟩:=later q hq
    have hqm : q ∈ rs:=by rw [e]; simp [hq]
    have hnB : r.i ∉ q.B:=fun hb => by have:=hd q hqm hs _ hb; rw [hS] at this; cases this
    have hus:=(hq'.mem r hm).resolve_left hnB
    refine ⟨hus,?_,hq'.newer r hm,hq'.apart r hm hus⟩
    cases hl : q.loud with
    | false => rfl
    | true => exact absurd (hq'.loud hl r hm) hnB
  have lateW : ∀ q ∈ post,S q.i = true → ∀ o,o < r.n' → q.W.contains o = false:=fun q hq hs o ho => by
    obtain ⟨_,h1,h2,_⟩:=late q hq hs
    obtain ⟨_,_,_,_,hq'⟩:=later q hq
    cases hc : q.W.contains o with
    | false => rfl
    | true =>
      have:=hq'.quiet h1 o (by simpa using hc)
      omega
  have hdiff : ∀ q ∈ post,q.i ≠ r.i:=fun q hq => by
    obtain ⟨_,_,_,hm,hq'⟩:=later q hq
    exact fun e' => hq'.fresh r hm e'.symm
  have hl' : ∀ p ∈ l,(S p.i || p.i == r.i) = S p.i:=fun p hp => by simp [hr.fresh p hp]
  have hp' : ∀ p ∈ post,(S p.i || p.i == r.i) = S p.i:=fun p hp => by simp [hdiff p hp]
  refine ⟨fun o ob hl => ?_,fun t ht => ?_,fun o => ?_,fun t => ?_⟩
  · obtain ⟨g1,g2,g3⟩:=hr.view o ob hl
    rw [e,OS_append]
    simp only [OS,hS,Bool.false_eq_true,if_false]
    rw [OS_skip post fun q hq hs => lateW q hq hs o (Nat.lt_of_lt_of_le g3 hr.nle)]
    rw [OS_agree l (fun p hp hs => by simpa using g2 p hp (early p hp hs)) rfl]
    exact g1
  · rw [e,TS_append]
    simp only [TS,hS,Bool.false_eq_true,if_false]
    rw [TS_skip post fun q hq hs hdq => (apart_dst (late q hq hs).2.2.2).2.2 _ hdq ht]
    rw [hr.tmps]
    exact TS_agree l (fun p hp hs hdp => (apart_dst (hr.apart p hp (early p hp hs))).1 _ hdp ht) rfl
  · rw [e,OS_append,OS_append]
    simp only [OS,hS,Bool.false_or,beq_self_eq_true,if_true,Bool.false_eq_true,if_false]
    rw [OS_congr (S':=S) l hl',OS_congr (S':=S) post hp']
    by_cases hw : r.W.contains o = true
    · rw [if_pos hw]
      rw [OS_skip post fun q hq hs => lateW q hq hs o (hr.wlt o (by simpa using hw)),lk_updR,if_pos hw]
    · rw [if_neg hw]
      exact OS_lk post (by rw [lk_updR,if_neg hw])
  · rw [e,TS_append,TS_append,lk_putT]
    simp only [TS,hS,Bool.false_or,beq_self_eq_true,if_true,Bool.false_eq_true,if_false]
    rw [TS_congr (S':=S) l hl',TS_congr (S':=S) post hp']
    by_cases hdt : r.o.dst = some t
    · rw [if_pos hdt,TS_skip post fun q hq hs hdq => (apart_dst (late q hq hs).2.2.2).2.1 _ hdt hdq,lk_putT,if_pos hdt]
    · rw [if_neg hdt]
      exact TS_lk post (by rw [lk_putT,if_neg hdt])
theorem Inv.step (h : Recs P ops T0 O0 n0 nf rs) (hE : ∀ o,E.ok o) (hn0 : E.n0 ≤ n0) {S : Nat → Bool} (hd : Dn rs S) {l post : List Rec} {r : Rec} (e : rs = l ++ r :: post) (hS : S r.i = false) (hB : ∀ b ∈ r.B,S b = true)
    (hdst : ∀ t,r.o.dst = some t → t < N) (hi : Inv E N rs T0 O0 nf S M β a w) {Q : Exit → Act → World → Prop} {next : Act → World → Prop}
    (hnext : ∀ a' w' M' β',Inv E N rs T0 O0 nf (fun k => S k || k == r.i) M' β' a' w' → next a' w') : wpOp P ops Q r.i next a w:=by
  obtain ⟨hr,hnr,hnf⟩:=h.ok l r post e
  obtain ⟨s1,s2,s3,s4⟩:=h.sees hd e hS hB
  have hrm : r ∈ rs:=by rw [e]; simp
  have order : ∀ q ∈ rs,q.i ≠ r.i → q.n' ≤ r.n ∨ r.n' ≤ q.n:=fun q hq hne => by
    rw [e] at hq
    rcases List.mem_append.1 hq with hq | hq
    · exact .inl (hr.newer q hq)
    · rcases List.mem_cons.1 hq with rfl | hq
      · exact absurd rfl hne
      · obtain ⟨l1,p1,e1⟩:=split_mem hq
        have:=(h.ok (l ++ r :: l1) q p1 (by rw [e,e1]; simp)).1
        exact .inr (this.newer r (by simp))
  -- what the guard says
  have gd : ∀ j want g b,r.o.guard = some (j,want) → (ops[j]?).bind (·.dst) = some g → lk r.T g = some (.bool b) → Region.wanted r.o (yielded ops a.tmps) = (b == want):=fun j want g b h1 h2 h3 => by
    have hg : g ∈ r.o.looksAt ops:=by simp only [Oper.looksAt,h1,h2]; simp
    obtain ⟨x,hx,hv⟩:=hi.tmps g _ (by rw [s2 g hg]; exact h3)
    have:=hv.bool_inv
    subst this
    refine wanted_of h1 ?_
    unfold yielded
    rw [h2]
    simp [hx]
  unfold wpOp
  simp only [hr.op]
  rcases hr.run with ⟨hrun,hg⟩ | ⟨hv,hW,j,want,g,u,h1,h2,h3,hu⟩
  · have hw : Region.wanted r.o (yielded ops a.tmps) = true:=by
      rcases hg with hg | ⟨j,want,g,h1,h2,h3⟩
      · unfold Region.wanted; rw [hg]
      · rw [gd j want g want h1 h2 h3]; simp
    rw [if_pos hw]
    refine .inl ?_
    have hrun' : vcOp P r.o.op (TS S rs T0) r.V r.n (fun v V' n' => v = r.v ∧ V' = r.V' ∧ n' = r.n'):=by
      rw [vcOp_congr (T:=r.T) fun x hx => evC_congr fun t ht => s2 t ?_]
      · exact hrun
      · subst ht
        exact List.mem_append_left _ (List.mem_filterMap.2 ⟨.tmp t,hx,rfl⟩)
    have hrel : RelAt ⟨w,ownOf r.V β,M,β,r.n,fun o => o < r.n'⟩ N M β (TS S rs T0) r.V r.n a w :=
      ⟨hi.st.view s1 _ _ _,fun o h1 h2 => hi.free r hrm hS o h1 h2,hi.tmps,hi.nd,hi.sz,fun _ _ => rfl,Nat.le_refl _⟩
    refine vcOp_sound (fun v O' n' hk o h1 h2 => by rw [hk.2.2] at h2; exact h2) rfl hrun' hrel next Q ?_
    rintro v V' n' x w' M' β' ⟨rfl,rfl,rfl⟩ hr' hv
    have hout : ∀ o,(o < r.n ∨ ¬ o < r.n') → β' o = β o:=hr'.base
    have hbl : BLe β β':=fun o y hy => by
      by_cases h1 : r.n ≤ o ∧ o < r.n'
      · rw [hi.free r hrm hS o h1.1 h1.2] at hy; cases hy
      · rw [hout o (by omega)]; exact hy
    have hval:=hr'.value hdst hv
    refine hnext _ _ M' β' ⟨hi.st.frame s1 hr'.st hbl fun o ob hl => ?_,fun t v hl => ?_,hval.nd,hval.sz,fun o ho => ?_,fun o ho => ?_,fun q hq hs o h1 h2 => ?_⟩
    · rw [s3] at hl
      split at hl
      · exact .inl hl
      · rename_i hw
        cases hl2 : lk r.V o with
        | none => exact .inr ⟨hl,rfl⟩
        | some ob2 =>
          have:=s1 o ob2 hl2
          rw [hl] at this; cases this
          exact .inl (by rw [hr.same o (by simpa using hw)]; exact hl2)
    · rw [s4] at hl
      exact hval.tmps t v hl
    · rw [hout o (.inl (by omega))]; exact hi.base o ho
    · rw [hout o (.inr (by omega))]; exact hi.top o ho
    · have hs' : S q.i = false ∧ q.i ≠ r.i:=by simpa using hs
      rw [hout o (by rcases order q hq hs'.2 with g | g <;> omega)]
      exact hi.free q hq hs'.1 o h1 h2
  · have hw : Region.wanted r.o (yielded ops a.tmps) = false:=by
      rcases hu with rfl | rfl
      · rw [gd j want g (!want) h1 h2 h3]
        cases want <;> rfl
      · have hg : g ∈ r.o.looksAt ops:=by simp only [Oper.looksAt,h1,h2]; simp
        obtain ⟨x,hx,hv⟩:=hi.tmps g _ (by rw [s2 g hg]; exact h3)
        have : x = .tuple #[]:=by
          cases hv with
          | tup h => cases h; rfl
          | one hm h => cases h
          | agg hm h => cases h
        subst this
        unfold Region.wanted
        rw [h1]
        have : yielded ops a.tmps j = none:=by unfold yielded; rw [h2]; simp [hx]
        simp [this]
    rw [hw]
    simp only [Bool.false_eq_true,if_false]
    have hsz : ∀ t,r.o.dst = some t → t < a.tmps.size:=fun t ht => by rw [hi.sz]; exact hdst t ht
    refine hnext _ _ M β ⟨?_,fun t v hl => ?_,by cases r.o.dst <;> exact hi.nd,by cases hd : r.o.dst <;> simp [Act.put,hi.sz],hi.base,hi.top,fun q hq hs => hi.free q hq (by simp at hs; exact hs.1)⟩
    · refine ⟨hi.st.pool,hi.st.sub,hi.st.only,fun o ob hl => ?_,fun o ob b κ hl => ?_,fun o o' ob ob' b κ κ' hl hl' => ?_,hi.st.size,hi.st.keep,hi.st.os,hi.st.tape,hi.st.output⟩
      · rw [s3,hW] at hl; exact hi.st.objs o ob (by simpa using hl)
      · rw [s3,hW] at hl; exact hi.st.mine o ob b κ (by simpa using hl)
      · rw [s3,hW] at hl hl'; exact hi.st.inj o o' ob ob' b κ κ' (by simpa using hl) (by simpa using hl')
    · rw [s4,lk_putT,hv] at hl
      rw [put_tmps]
      split at hl
      · rename_i e'
        rw [if_pos e',if_pos (hsz t e')]
        cases hl
        exact ⟨_,rfl,.tup .nil⟩
      · rename_i e'
        rw [if_neg e']
        exact hi.tmps t v hl
end
end Go.Sy
namespace Go.Sy
open Go
set_option linter.unusedSimpArgs false
set_option linter.unusedVariables false
section
variable {E : Env} {N : Nat} {M M' M1 : Pool} {β β' β1 β2 : Bmap} {T T' T0 : TT} {O O' O1 O2 J V V' O0 : OO} {n n0 nf : Nat} {a : Act} {w w' : World} {P : Program} {ops : Array Oper} {rs : List Rec}
theorem OS_none {S : Nat → Bool} (h : ∀ i,S i = false) : ∀ (l : List Rec) (O : OO),OS S l O = O:=by
  intro l
  induction l with
  | nil => intro O; rfl
  | cons r l ih => intro O; simp only [OS,h,Bool.false_eq_true,if_false]; exact ih O
theorem TS_none {S : Nat → Bool} (h : ∀ i,S i = false) : ∀ (l : List Rec) (O : TT),TS S l O = O:=by
  intro l
  induction l with
  | nil => intro O; rfl
  | cons r l ih => intro O; simp only [TS,h,Bool.false_eq_true,if_false]; exact ih O
theorem St.lkeq (h : St E M β O w) (he : ∀ o,lk O' o = lk O o) : St E M β O' w :=
  ⟨h.pool,h.sub,h.only,fun o ob hl => h.objs o ob (by rw [← he]; exact hl),fun o ob b κ hl => h.mine o ob b κ (by rw [← he]; exact hl),
    fun o o' ob ob' b κ κ' hl hl' => h.inj o o' ob ob' b κ κ' (by rw [← he]; exact hl) (by rw [← he]; exact hl'),h.size,h.keep,h.os,h.tape,h.output⟩
theorem filter_lt {p q : Nat → Bool} {x : Nat} : ∀ {l : List Nat},(∀ i,q i = true → p i = true) → x ∈ l → p x = true → q x = false → (l.filter q).length < (l.filter p).length:=by
  intro l
  induction l with
  | nil => intro _ h; cases h
  | cons a l ih =>
    intro hpq hx hp hq
    have le : ∀ l : List Nat,(l.filter q).length ≤ (l.filter p).length:=by
      intro l
      induction l with
      | nil => simp
      | cons b l ih =>
        simp only [List.filter_cons]
        cases hb : q b
        · simp only [Bool.false_eq_true,if_false]; split <;> (try simp) <;> omega
        · simp only [hpq b hb,if_true,List.length_cons]; omega
    rcases List.mem_cons.1 hx with rfl | hx
    · simp only [List.filter_cons,hp,hq,if_true,Bool.false_eq_true,if_false,List.length_cons]
      have:=le l
      omega
    · have:=ih hpq hx hp hq
      simp only [List.filter_cons]
      cases hb : q a
      · simp only [Bool.false_eq_true,if_false]; split <;> (try simp) <;> omega
      · simp only [hpq a hb,if_true,List.length_cons]; omega
theorem waits_spec {o : Oper} {b : Nat} (h : waits o b = true) : ∃ e ∈ o.after,Region.binds .any e = true ∧ e.on = b:=by
  simp only [waits,List.any_eq_true,Bool.and_eq_true,beq_iff_eq] at h
  obtain ⟨e,he,h1,h2⟩:=h
  exact ⟨e,by simpa using he,h1,h2⟩
theorem draw_any (h : Recs P ops T0 O0 n0 nf rs) (hE : ∀ o,E.ok o) (hn0 : E.n0 ≤ n0) (hd : ∀ o ∈ ops.toList,∀ t,o.dst = some t → t < N) {Q : Exit → Act → World → Prop}
    (hQ : ∀ a w M β,Inv E N rs T0 O0 nf (fun _ => true) M β a w → Q .normal a w) : ∀ (fuel : Nat) (listed : Array Bool) (a : Act) (w : World) (M : Pool) (β : Bmap),listed.size = ops.size →
      Dn rs (fun i => listed.getD i false) → Inv E N rs T0 O0 nf (fun i => listed.getD i false) M β a w → ((List.range ops.size).filter fun i => !listed.getD i false).length ≤ fuel → wpAny P .any ops Q fuel listed a w:=by
  have done : ∀ (listed : Array Bool) (a : Act) (w : World) (M : Pool) (β : Bmap),listed.size = ops.size → Inv E N rs T0 O0 nf (fun i => listed.getD i false) M β a w → Region.ready .any ops listed = [] → Q .normal a w:=by
    intro listed a w M β hsz hi hrd
    have all : ∀ (l pre post : List Rec),rs = pre ++ (l ++ post) → (∀ r ∈ pre,listed.getD r.i false = true) → ∀ r ∈ l,listed.getD r.i false = true:=by
      intro l
      induction l with
      | nil => intro pre post e _ r hr; cases hr
      | cons q l ih =>
        intro pre post e hpre r hr'
        have hq : listed.getD q.i false = true:=by
          obtain ⟨hr,_,_⟩:=h.ok pre q (l ++ post) (by rw [e]; simp)
          cases hs : listed.getD q.i false with
          | true => rfl
          | false =>
            exfalso
            have hlt : q.i < ops.size:=(Array.getElem?_eq_some_iff.1 hr.op).1
            have : q.i ∈ Region.ready .any ops listed:=by
              rw [mem_ready]
              refine ⟨?_,q.o,hr.op,fun e' he hb => ?_⟩
              · have hlt' : q.i < listed.size:=by omega
                simp only [Array.getD_eq_getD_getElem?,Array.getElem?_eq_getElem hlt',Option.getD_some] at hs ⊢
                exact hs
              · obtain ⟨p,hp,ep⟩:=hr.isB _ (hr.edge e' he hb)
                rw [← ep]; exact hpre p hp
            rw [hrd] at this
            cases this
        rcases List.mem_cons.1 hr' with rfl | hr'
        · exact hq
        · refine ih (pre ++ [q]) post (by rw [e]; simp) (fun p hp => ?_) r hr'
          rcases List.mem_append.1 hp with hp | hp
          · exact hpre p hp
          · simp only [List.mem_singleton] at hp; subst hp; exact hq
    have hall : ∀ r ∈ rs,listed.getD r.i false = true:=all rs [] [] (by simp) (fun r hr => (by cases hr))
    refine hQ a w M β ⟨by rw [← OS_congr rs (S:=fun i => listed.getD i false) hall]; exact hi.st,by rw [← TS_congr rs (S:=fun i => listed.getD i false) hall]; exact hi.tmps,hi.nd,hi.sz,hi.base,hi.top,fun r hr hs => by cases hs⟩
  intro fuel
  induction fuel with
  | zero =>
    intro listed a w M β hsz hdn hi hf
    have hrd : Region.ready .any ops listed = []:=by
      cases hr : Region.ready .any ops listed with
      | nil => rfl
      | cons j l =>
        exfalso
        have hj : j ∈ Region.ready .any ops listed:=by rw [hr]; simp
        obtain ⟨h1,o,h2,_⟩:=mem_ready.1 hj
        have hlt : j < ops.size:=(Array.getElem?_eq_some_iff.1 h2).1
        have hlt' : j < listed.size:=by omega
        have : j ∈ (List.range ops.size).filter fun i => !listed.getD i false:=by
          rw [List.mem_filter]
          refine ⟨by simpa using hlt,?_⟩
          simp only [Array.getD_eq_getD_getElem?,Array.getElem?_eq_getElem hlt',Option.getD_some] at h1 ⊢
          simp [h1]
        rw [List.eq_nil_of_length_eq_zero (Nat.le_zero.1 hf)] at this
        cases this
    exact ⟨hrd,done listed a w M β hsz hi hrd⟩
  | succ fuel ih =>
    intro listed a w M β hsz hdn hi hf
    refine ⟨fun hrd => done listed a w M β hsz hi hrd,fun i hir => ?_⟩
    obtain ⟨h1,o,h2,h3⟩:=mem_ready.1 hir
    have hlt : i < ops.size:=(Array.getElem?_eq_some_iff.1 h2).1
    have hlt' : i < listed.size:=by omega
    have hSi : listed.getD i false = false:=by
      simp only [Array.getD_eq_getD_getElem?,Array.getElem?_eq_getElem hlt',Option.getD_some] at h1 ⊢
      exact h1
    have hBi : ∀ q ∈ rs,q.i = i → ∀ b ∈ q.B,listed.getD b false = true:=fun q hq e b hb => by
      obtain ⟨l,post,e2⟩:=split_mem hq
      obtain ⟨hr,_,_⟩:=h.ok l q post e2
      have hop:=hr.op
      rw [e,h2] at hop
      cases hop
      rcases hr.bef b hb with g | ⟨c,hc,g1,g2⟩
      · obtain ⟨e',he,hbd,rfl⟩:=waits_spec g
        exact h3 e' he hbd
      · obtain ⟨e',he,hbd,ec⟩:=waits_spec g1
        have:=h3 e' he hbd
        rw [ec] at this
        exact hdn c (by rw [e2]; simp [hc]) this b g2
    obtain ⟨r,hr,rfl⟩:=h.all i hlt
    obtain ⟨l,post,e2⟩:=split_mem hr
    have hnew : (fun k => listed.getD k false || k == r.i) = fun k => (listed.setIfInBounds r.i true).getD k false:=by
      funext k
      by_cases hk : k = r.i
      · subst hk
        simp [hlt']
      · rw [getD_set_ne false (Ne.symm hk)]
        simp [hk]
    refine Inv.step h hE hn0 hdn e2 hSi (hBi r hr rfl) (fun t ht => hd r.o (by
      have:=(h.ok l r post e2).1.op
      have:=Array.mem_of_getElem? this
      simpa using this) t ht) hi fun a' w' M' β' hi' => ih _ a' w' M' β' (by simpa using hsz) ?_ (by rw [← hnew]; exact hi') ?_
    · intro q hq hs b hb
      have hs' : (listed.getD q.i false || q.i == r.i) = true:=by rw [congrFun hnew q.i]; exact hs
      show (listed.setIfInBounds r.i true).getD b false = true
      rw [← congrFun hnew b]
      simp only [Bool.or_eq_true,beq_iff_eq] at hs' ⊢
      rcases hs' with g | g
      · exact .inl (hdn q hq g b hb)
      · exact .inl (hBi q hq g b hb)
    · have:=filter_lt (l:=List.range ops.size) (p:=fun i => !listed.getD i false) (q:=fun i => !(listed.setIfInBounds r.i true).getD i false) (x:=r.i) (fun k hk => by
        rw [← congrFun hnew k] at hk
        simp only [Bool.not_or,Bool.and_eq_true] at hk
        exact hk.1) (by simpa using hlt) (by simp only [hSi]; rfl) (by rw [← congrFun hnew r.i]; simp)
      omega
theorem vcWalk_sound (hm : P.follows .mixedOrders = true) (hE : ∀ o,E.ok o) {pl : Plan} {K : CK} {id : Nat} {Q : Exit → Act → World → Prop} (hd : ∀ o ∈ ops.toList,∀ t,o.dst = some t → t < N) (hp : okPlan ops [] pl = true)
    (h : vcWalk P ops.toList pl [] K T O n) (hr : Rel E N T O n a w) (hK : ∀ T O n a w,K T O n → Rel E N T O n a w → Q .normal a w) : (Code.region id ops true).wp P Q a w:=by
  obtain ⟨M,β,hr⟩:=hr
  have hlt : ∀ o ob,lk O o = some ob → o < n:=fun o ob hl => by
    obtain ⟨b,κ,hb,_⟩:=hr.st.objs _ _ hl
    by_cases hn : o < n
    · exact hn
    · rw [hr.ids o (by omega) (hE o)] at hb; cases hb
  obtain ⟨rs,Tf,Of,nf,k1,k2,k3,k4,k5,k6⟩:=chain (T0:=T) (O0:=O) pl [] [] [] T O n ⟨fun us o => by simp [hidX],fun q => by simp,fun t => rfl,fun o => rfl,hlt,fun p hp => (by cases hp),fun p hp => (by cases hp)⟩ (fun p hp => (by cases hp)) hp h
  have hrec : Recs P ops T O n nf rs:=⟨fun l r post e => by have:=k2 l r post e; simpa using this,by simpa using k6⟩
  refine wp_region_any hm (draw_any hrec hE hr.le0 hd (fun a w M β hi => hK Tf Of nf a w k1 ⟨M,β,hi.st.lkeq (by simpa using k4),fun o ho _ => hi.top o ho,fun t v hl => hi.tmps t v (by rw [← hl]; simpa using (k3 t).symm),hi.nd,hi.sz,fun o ho => hi.base o (ho.resolve_right fun h => h (hE o)),Nat.le_trans hr.le0 k5⟩) _ _ _ _ M β (by simp) ?_ ?_ ?_)
  · intro r _ hs
    exfalso
    simp [Array.getElem?_replicate] at hs
    split at hs <;> simp at hs
  · have hS : ∀ i,(fun i => (Array.replicate ops.size false).getD i false) i = false:=fun i => by
      simp only [Array.getD_eq_getD_getElem?,Array.getElem?_replicate]
      split <;> rfl
    refine ⟨by rw [OS_none hS]; exact hr.st.drew,by rw [TS_none hS]; exact hr.tmps,hr.nd,hr.sz,fun o ho => hr.base o (.inl ho),fun o ho => hr.ids o (by omega) (hE o),fun r hr' _ o h1 _ => ?_⟩
    obtain ⟨l,post,e⟩:=split_mem hr'
    have:=(k2 l r post e).2.1
    exact hr.ids o (by omega) (hE o)
  · have:=List.length_filter_le (fun i => !(Array.replicate ops.size false).getD i false) (List.range ops.size)
    simpa using this
end
end Go.Sy
namespace Go.Sy
open Go
set_option linter.unusedSimpArgs false
set_option linter.unusedVariables false
def AV.void : AV → Bool
  | .ints _ n xs => n == 0 && xs.isEmpty
  | .lst _ n es => n == 0 && es.isEmpty
  | .arr _ ps => ps.isEmpty
  | _ => false
def OB.void : OB → Bool
  | .row c => c.void && decide (1 ≤ c.esz)
  | _ => false
mutual
def matC (σ : List (Nat × Nat)) (Z : List Nat) (OF : OO) : AV → AV → Prop
  | .osl o p sz lo len,u => (match u with
    | .nils => p = [] ∧ lo = 0 ∧ len = 0 ∧ Z.contains o = true
    | u => idC σ o fun o' => AV.osl o' p sz lo len = u)
  | .agg ps,u => (match u with | .agg us => matsC σ Z OF ps us | _ => False)
  | .arr sz ps,u => (match u with | .arr sz' us => sz = sz' ∧ matsC σ Z OF ps us | _ => False)
  | .tup ps,u => (match u with | .tup us => matsC σ Z OF ps us | _ => False)
  | .lst sz n es,u => (match u with | .arr sz' us => sz = sz' ∧ viewC.views (viewC OF 9) us fun qs => n = qs.length ∧ es = qs | u => AV.lst sz n es = u)
  | .sl c,u => (match u with | .nils => c.void = true | .osl o p sz lo len => viewC OF 9 (.osl o p sz lo len) fun u' => AV.sl c = u' | u => AV.sl c = u)
  | .ref o p,u => idC σ o fun o' => AV.ref o' p = u
  | .mp o,u => idC σ o fun o' => AV.mp o' = u
  | .fn f ps,u => renC σ (.fn f ps) fun v' => v' = u
  | .fb f ps,u => renC σ (.fb f ps) fun v' => v' = u
  | .int k n,u => AV.int k n = u
  | .bool b,u => AV.bool b = u
  | .str s,u => AV.str s = u
  | .nilp,u => AV.nilp = u
  | .ints k n xs,u => AV.ints k n xs = u
  | .nils,u => AV.nils = u
  | .pp c p,u => AV.pp c p = u
  | .nilf,u => AV.nilf = u
  | .nilm,u => AV.nilm = u
  | .opq,u => AV.opq = u
  | .junk,_ => False
def matsC (σ : List (Nat × Nat)) (Z : List Nat) (OF : OO) : List AV → List AV → Prop
  | [],us => us = []
  | v :: vs,us => (match us with | u :: us => matC σ Z OF v u ∧ matsC σ Z OF vs us | [] => False)
end
def NilOK (Z : List Nat) (β1 : Bmap) : Prop:=∀ o,Z.contains o = true → β1 o = some (0,0)
structure Mat (σ : List (Nat × Nat)) (Z : List Nat) (OF : OO) (v u : AV) : Prop where
  csz : ∀ {M M1 : Pool} {β : Bmap},Views M M1 β OF → v.csz = u.csz
  row : v.isRow = u.isRow
  cnt : v.isRow = true → ∀ {M M1 : Pool} {β : Bmap},Views M M1 β OF → v.cnt = u.cnt
  esz : v.isRow = true → v.esz = u.esz
  rv : ∀ {M M1 : Pool} {β1 β : Bmap} {cs : List Value},PLe M M1 → Views M M1 β OF → Agr σ β1 β → NilOK Z β1 → RV M β u cs → RV M1 β1 v cs
  vr : ∀ {M M1 : Pool} {β1 β : Bmap} {x : Value},PLe M M1 → Views M M1 β OF → Agr σ β1 β → NilOK Z β1 → VR M β u x → VR M1 β1 v x
structure Mats (σ : List (Nat × Nat)) (Z : List Nat) (OF : OO) (vs us : List AV) : Prop where
  len : vs.length = us.length
  cszs : ∀ {M M1 : Pool} {β : Bmap},Views M M1 β OF → AV.cszs vs = AV.cszs us
  all : ∀ {M M1 : Pool} {β : Bmap},Views M M1 β OF → ∀ sz,(∀ p ∈ us,p.csz = sz) → (∀ p ∈ vs,p.csz = sz)
  rv : ∀ {M M1 : Pool} {β1 β : Bmap} {cs : List Value},PLe M M1 → Views M M1 β OF → Agr σ β1 β → NilOK Z β1 → RVs M β us cs → RVs M1 β1 vs cs
  vr : ∀ {M M1 : Pool} {β1 β : Bmap} {xs : List Value},PLe M M1 → Views M M1 β OF → Agr σ β1 β → NilOK Z β1 → VRs M β us xs → VRs M1 β1 vs xs
theorem Mat.of_ren {σ : List (Nat × Nat)} {Z : List Nat} {OF : OO} {v u : AV} (h : Ren σ v u) : Mat σ Z OF v u :=
  ⟨fun _ => h.csz.symm,h.row.symm,fun _ {_ _ _} _ => h.cnt.symm,fun _ => h.esz.symm,fun hM _ ha _ g => ((h.rv ha).2 g).mono hM (BLe.refl _),fun hM _ ha _ g => ((h.vr ha).2 g).mono hM (BLe.refl _)⟩
theorem Mat.of_renC {σ : List (Nat × Nat)} {Z : List Nat} {OF : OO} {v u : AV} (h : renC σ v fun v' => v' = u) : Mat σ Z OF v u:=by
  obtain ⟨v',rfl,hr⟩:=renC_spec σ v _ h
  exact .of_ren hr
theorem rv_void {M : Pool} {β : Bmap} {c : AV} (h : c.void = true) : RV M β c []:=by
  cases c with
  | ints k n xs =>
    simp [AV.void] at h
    obtain ⟨rfl,rfl⟩:=h
    exact RV.ints (xs:=[]) k rfl
  | lst sz n es =>
    simp [AV.void] at h
    obtain ⟨rfl,rfl⟩:=h
    exact .lst .nil (by simp) rfl
  | arr sz ps =>
    simp [AV.void] at h
    subst h
    exact .arr .nil (by simp)
  | _ => cases h
theorem void_row {c : AV} (h : c.void = true) : c.isRow = true ∧ c.cnt = 0:=by
  cases c <;> simp_all [AV.void,AV.isRow,AV.cnt]
theorem views_spec {M M1 : Pool} {β : Bmap} {OF : OO} (hV : Views M M1 β OF) : ∀ (ps : List AV) (κ : List AV → Prop),viewC.views (viewC OF 9) ps κ → ∃ qs,κ qs ∧ qs.length = ps.length ∧ (∀ sz,(∀ p ∈ ps,p.csz = sz) → ∀ p ∈ qs,p.csz = sz) ∧ ∀ {cs : List Value},RVs M β ps cs → RVs M1 nob qs cs
  | [],κ,h => ⟨[],h,rfl,fun _ h => h,fun g => by cases g; exact .nil⟩
  | p :: ps,κ,h => by
    obtain ⟨q,h,hq⟩:=hV _ _ h
    obtain ⟨qs,h,l,al,g⟩:=views_spec hV ps _ h
    refine ⟨_,h,by simp [l],fun sz hs => ?_,fun g' => ?_⟩
    · simp only [List.mem_cons,forall_eq_or_imp] at hs ⊢
      exact ⟨by rw [hq.csz]; exact hs.1,al sz hs.2⟩
    · cases g' with | cons g1 g2 => exact .cons (hq.rv g1) (g g2)
mutual
theorem matC_spec (σ : List (Nat × Nat)) (Z : List Nat) (OF : OO) : ∀ (v u : AV),matC σ Z OF v u → Mat σ Z OF v u
  | .osl o p sz lo len,u,h => by
    have gen : ∀ u,(idC σ o fun o' => AV.osl o' p sz lo len = u) → Mat σ Z OF (.osl o p sz lo len) u:=fun u h => .of_renC (by simpa only [renC] using h)
    cases u with
    | nils =>
      simp only [matC] at h
      obtain ⟨rfl,rfl,rfl,h1⟩:=h
      have key : ∀ {M M1 : Pool} {β1 β : Bmap} {cs : List Value},Agr σ β1 β → NilOK Z β1 → RV M β .nils cs → RV M1 β1 (.osl o [] sz 0 0) cs:=fun ha hn g => by
        cases g
        exact .osl (hn _ h1) (Nat.le_refl _) (fun _ => by simp) (.inl rfl)
      exact ⟨fun _ => rfl,rfl,(fun h => by cases h),(fun h => by cases h),fun _ _ ha hn g => key ha hn g,fun _ _ ha hn g => .one rfl (key ha hn (g.one_inv rfl rfl))⟩
    | _ => exact gen _ (by simpa only [matC] using h)
  | .agg ps,u,h => by
    cases u with
    | agg us =>
      have hs:=matsC_spec σ Z OF ps us (by simpa only [matC] using h)
      have key : ∀ {M M1 : Pool} {β1 β : Bmap} {cs : List Value},PLe M M1 → Views M M1 β OF → Agr σ β1 β → NilOK Z β1 → RV M β (.agg us) cs → RV M1 β1 (.agg ps) cs:=fun hM hV ha hn g => by
        cases g with | agg g => exact .agg (hs.rv hM hV ha hn g)
      refine ⟨fun hV => hs.cszs hV,rfl,(fun h => by cases h),(fun h => by cases h),key,fun hM hV ha hn g => ?_⟩
      obtain ⟨cs,rfl,g'⟩:=g.agg_inv rfl rfl
      exact .agg rfl (key hM hV ha hn g')
    | _ => simp only [matC] at h
  | .arr sz ps,u,h => by
    cases u with
    | arr sz' us =>
      simp only [matC] at h
      obtain ⟨rfl,h⟩:=h
      have hs:=matsC_spec σ Z OF ps us h
      have key : ∀ {M M1 : Pool} {β1 β : Bmap} {cs : List Value},PLe M M1 → Views M M1 β OF → Agr σ β1 β → NilOK Z β1 → RV M β (.arr sz us) cs → RV M1 β1 (.arr sz ps) cs:=fun hM hV ha hn g => by
        cases g with | arr g hz => exact .arr (hs.rv hM hV ha hn g) (hs.all hV _ hz)
      refine ⟨fun _ => by simp only [AV.csz,hs.len],rfl,fun _ {_ _ _} _ => hs.len,fun _ => rfl,key,fun hM hV ha hn g => ?_⟩
      obtain ⟨cs,rfl,g'⟩:=g.agg_inv rfl rfl
      exact .agg rfl (key hM hV ha hn g')
    | _ => simp only [matC] at h
  | .tup ps,u,h => by
    cases u with
    | tup us =>
      have hs:=matsC_spec σ Z OF ps us (by simpa only [matC] using h)
      refine ⟨fun _ => by simp only [AV.csz],rfl,(fun h => by cases h),(fun h => by cases h),(fun _ _ ha hn g => by cases g),fun hM hV ha hn g => ?_⟩
      cases g with
      | tup g => exact .tup (hs.vr hM hV ha hn g)
      | one hm _ => cases hm
      | agg _ g => cases g
    | _ => simp only [matC] at h
  | .lst sz n es,u,h => by
    cases u with
    | arr sz' us =>
      simp only [matC] at h
      obtain ⟨rfl,h⟩:=h
      have key : ∀ {M M1 : Pool} {β1 β : Bmap} {cs : List Value},Views M M1 β OF → RV M β (.arr sz us) cs → RV M1 β1 (.lst sz n es) cs:=fun hV g => by
        obtain ⟨qs,⟨rfl,rfl⟩,hl,hz,hr⟩:=views_spec hV us _ h
        cases g with | arr g hz' => exact .lst (hr g) (hz _ hz') rfl
      have cnt : ∀ {M M1 : Pool} {β : Bmap},Views M M1 β OF → n = us.length:=fun hV => by
        obtain ⟨qs,⟨rfl,rfl⟩,hl,hz,hr⟩:=views_spec hV us _ h
        exact hl
      refine ⟨fun hV => by simp only [AV.csz,cnt hV],rfl,fun _ {_ _ _} hV => cnt hV,fun _ => rfl,fun _ hV _ _ g => key hV g,fun _ hV _ _ g => ?_⟩
      obtain ⟨cs,rfl,g'⟩:=g.agg_inv rfl rfl
      exact .agg rfl (key hV g')
    | _ => exact .of_renC (by simpa only [matC,renC] using h)
  | .sl c,u,h => by
    cases u with
    | nils =>
      simp only [matC] at h
      have key : ∀ {M M1 : Pool} {β1 β : Bmap} {cs : List Value},RV M β .nils cs → RV M1 β1 (.sl c) cs:=fun g => by
        cases g
        exact .sl (cc:=[]) (rv_void h) (void_row h).1 (void_row h).2 (Nat.le_refl _) (.inl rfl)
      exact ⟨fun _ => rfl,rfl,(fun h => by cases h),(fun h => by cases h),fun _ _ _ _ g => key g,fun _ _ _ _ g => .one rfl (key (g.one_inv rfl rfl))⟩
    | osl o p sz lo len =>
      simp only [matC] at h
      have key : ∀ {M M1 : Pool} {β1 β : Bmap} {cs : List Value},Views M M1 β OF → RV M β (.osl o p sz lo len) cs → RV M1 β1 (.sl c) cs:=fun hV g => by
        obtain ⟨u',rfl,hv⟩:=hV _ _ h
        exact (hv.rv g).nid rfl _
      exact ⟨fun _ => rfl,rfl,(fun h => by cases h),(fun h => by cases h),fun _ hV _ _ g => key hV g,fun _ hV _ _ g => .one rfl (key hV (g.one_inv rfl rfl))⟩
    | _ => exact .of_renC (by simpa only [matC,renC] using h)
  | .ref o p,u,h => .of_renC (by simpa only [matC,renC] using h)
  | .mp o,u,h => .of_renC (by simpa only [matC,renC] using h)
  | .fn f ps,u,h => .of_renC (by simpa only [matC] using h)
  | .fb f ps,u,h => .of_renC (by simpa only [matC] using h)
  | .int k n,u,h => .of_renC (by simpa only [matC,renC] using h)
  | .bool b,u,h => .of_renC (by simpa only [matC,renC] using h)
  | .str s,u,h => .of_renC (by simpa only [matC,renC] using h)
  | .nilp,u,h => .of_renC (by simpa only [matC,renC] using h)
  | .ints k n xs,u,h => .of_renC (by simpa only [matC,renC] using h)
  | .nils,u,h => .of_renC (by simpa only [matC,renC] using h)
  | .pp c p,u,h => .of_renC (by simpa only [matC,renC] using h)
  | .nilf,u,h => .of_renC (by simpa only [matC,renC] using h)
  | .nilm,u,h => .of_renC (by simpa only [matC,renC] using h)
  | .opq,u,h => .of_renC (by simpa only [matC,renC] using h)
  | .junk,u,h => by simp only [matC] at h
theorem matsC_spec (σ : List (Nat × Nat)) (Z : List Nat) (OF : OO) : ∀ (vs us : List AV),matsC σ Z OF vs us → Mats σ Z OF vs us
  | [],us,h => by
    simp only [matsC] at h
    subst h
    exact ⟨rfl,fun _ => rfl,fun _ _ h => h,(fun _ _ _ _ g => by cases g; exact .nil),(fun _ _ _ _ g => by cases g; exact .nil)⟩
  | v :: vs,us,h => by
    cases us with
    | nil => simp only [matsC] at h
    | cons u us =>
      simp only [matsC] at h
      have h1:=matC_spec σ Z OF v u h.1
      have h2:=matsC_spec σ Z OF vs us h.2
      refine ⟨by simp [h2.len],fun hV => by simp only [AV.cszs,h1.csz hV,h2.cszs hV],fun hV sz hz => ?_,fun hM hV ha hn g => ?_,fun hM hV ha hn g => ?_⟩
      · simp only [List.mem_cons,forall_eq_or_imp] at hz ⊢
        exact ⟨by rw [h1.csz hV]; exact hz.1,h2.all hV _ hz.2⟩
      · cases g with | cons g1 g2 => exact .cons (h1.rv hM hV ha hn g1) (h2.rv hM hV ha hn g2)
      · cases g with | cons g1 g2 => exact .cons (h1.vr hM hV ha hn g1) (h2.vr hM hV ha hn g2)
end
def matOB (σ : List (Nat × Nat)) (Z : List Nat) (OF : OO) : OB → OB → Prop
  | .var c,ob => (match ob with | .var d => matC σ Z OF c d | _ => False)
  | .row c,ob => (match ob with | .row d => matC σ Z OF c d | _ => False)
  | .map ds,ob => (match ob with | .map es => ds = es | _ => False)
  | .gm f ks vs,ob => (match ob with | .gm g ls us => f = g ∧ ks = ls ∧ matsC σ Z OF vs us | .map ds => ds = [] ∧ ks = [] ∧ vs = [] | _ => False)
theorem matOB_spec {σ : List (Nat × Nat)} {Z : List Nat} {OF : OO} {ob ob' : OB} (h : matOB σ Z OF ob ob') {M M1 : Pool} {β1 β : Bmap} {b κ : Nat} {w : World} (hM : PLe M M1) (hV : Views M M1 β OF) (ha : Agr σ β1 β) (hn : NilOK Z β1) (g : OR M β b κ w ob') : OR M1 β1 b κ w ob:=by
  cases ob with
  | var c =>
    cases ob' with
    | var d =>
      have hm:=matC_spec σ Z OF c d h
      obtain ⟨h1,h2,cs,e,fz,h3,h4,h5⟩:=g
      exact ⟨h1,by rw [hm.csz hV]; exact h2,cs,e,fz,h3,h4,hm.rv hM hV ha hn h5⟩
    | _ => exact h.elim
  | row c =>
    cases ob' with
    | row d =>
      have hm:=matC_spec σ Z OF c d h
      obtain ⟨h1,h2,h3⟩:=g
      have hr : c.isRow = true:=by rw [hm.row]; exact h1
      refine ⟨hr,by rw [hm.esz hr]; exact h2,?_⟩
      rw [hm.cnt hr hV,hm.esz hr]
      rcases h3 with ⟨k1,k2,k3⟩ | ⟨k1,cc,sp,e,fz,k2,k3,k4,k5⟩
      · exact .inl ⟨k1,k2,hm.rv hM hV ha hn k3⟩
      · exact .inr ⟨k1,cc,sp,e,fz,k2,k3,hm.rv hM hV ha hn k4,k5⟩
    | _ => exact h.elim
  | map ks =>
    cases ob' with
    | map es =>
      obtain rfl : ks = es:=h
      exact g
    | _ => exact h.elim
  | gm f ks vs =>
    cases ob' with
    | gm g' ls us =>
      obtain ⟨rfl,rfl,h⟩:=h
      have hm:=matsC_spec σ Z OF vs us h
      obtain ⟨h1,es,cl,h3,h4,h5,h6⟩:=g
      exact ⟨h1,es,cl,h3,h4,hm.vr hM hV ha hn h5,h6⟩
    | map ds =>
      obtain ⟨rfl,rfl,rfl⟩:=h
      obtain ⟨h1,es,cl,h3,h4,_⟩:=g
      have e : es.toList = []:=by
        cases hl : es.toList with
        | nil => rfl
        | cons a l => rw [hl] at h4; cases h4
      exact ⟨h1,es,cl,h3,by rw [e]; rfl,by rw [e]; exact .nil,fun k hk => by cases hk⟩
    | _ => exact h.elim
def homeC (σ : List (Nat × Nat)) (Z : List Nat) (OF : OO) (O : OO) (o : Nat) (ob : OB) : Prop:=match lk σ o with
  | some o' => objC O o' fun ob' => matOB σ Z OF ob ob'
  | none => ob.void = true ∧ Z.contains o = true
def holdsN (O : OO) (σ : List (Nat × Nat)) (Z : List Nat) (OF : OO) : OO → Prop
  | [] => True
  | (o,ob) :: O1 => homeC σ Z OF O o ob ∧ holdsN O σ Z OF O1
theorem holdsN_spec {O : OO} {σ : List (Nat × Nat)} {Z : List Nat} {OF : OO} : ∀ {O1 : OO},holdsN O σ Z OF O1 → ∀ p ∈ O1,(∃ o' ob',lk σ p.1 = some o' ∧ lk O o' = some ob' ∧ matOB σ Z OF p.2 ob') ∨ (p.2.void = true ∧ Z.contains p.1 = true):=by
  intro O1
  induction O1 with
  | nil => intro _ p hp; cases hp
  | cons q O1 ih =>
    intro h p hp
    obtain ⟨o,ob⟩:=q
    obtain ⟨h1,h2⟩:=h
    rcases List.mem_cons.1 hp with rfl | hp
    · unfold homeC at h1
      split at h1
      · rename_i o' e
        obtain ⟨ob',hl',h1⟩:=objC_spec h1
        exact .inl ⟨o',ob',e,hl',h1⟩
      · exact .inr ⟨h1.1,h1.2⟩
    · exact ih h2 p hp
end Go.Sy
namespace Go.Sy
open Go
set_option linter.unusedSimpArgs false
set_option linter.unusedVariables false
def idsOK (σ : List (Nat × Nat)) : Nat → Prop
  | 0 => True
  | k + 1 => (idC σ k fun o => o = k) ∧ idsOK σ k
def tmpsOK (σ : List (Nat × Nat)) (Z : List Nat) (OF : OO) (T' : TT) : TT → Prop
  | [] => True
  | (t,v) :: I => (lkC T' t fun u => matC σ Z OF v u) ∧ tmpsOK σ Z OF T' I
def okσ (k m : Nat) (σ : List (Nat × Nat)) (Z F : List Nat) : Bool:=F.all (fun f => !(σ.map (·.2)).contains f) && σ.all (fun p => decide (p.1 < m) && !Z.contains p.1) && decide ((σ.map (·.2)).Nodup) && Nat.ble k m && Z.all (fun z => decide (z < m) && decide (k ≤ z))
def Sub (k : Nat) (T' : TT) (O' : OO) (I : TT) (J : OO) (m : Nat) : Prop :=
  ∃ (σ : List (Nat × Nat)) (Z F : List Nat),okσ k m σ Z F = true ∧ idsOK σ k ∧ tmpsOK σ Z (frzO O' F) T' I ∧ holdsN O' σ Z (frzO O' F) J
def VLoop (k : Nat) (F : CK → CK) (T : TT) (O : OO) (n : Nat) : Prop :=
  ∃ (ι : Type) (I : ι → TT) (J : ι → OO) (m : ι → Nat) (μ : ι → Nat) (i0 : ι),Sub k T O (I i0) (J i0) (m i0) ∧ ∀ i,F (fun T' O' _ => ∃ i',μ i' < μ i ∧ Sub k T' O' (I i') (J i') (m i')) (I i) (J i) (m i)
def Cut (k : Nat) (F : CK) (T : TT) (O : OO) (n : Nat) : Prop:=∃ I J m,Sub k T O I J m ∧ F I J m
def vcC (P : Program) (tb : List (Nat × Plan)) (k : Nat) : Code → CK → (Nat → CK) → CK → CK
  | .skip,K,_,_,T,O,n => K T O n
  | .region id ops true,K,_,_,T,O,n => (match lk tb (100000 + id) with
      | none => (match lk tb id with | some pl => vcWalk P ops.toList pl [] K T O n | none => False)
      | some _ => Cut k (fun T O n => (match lk tb id with | some pl => vcWalk P ops.toList pl [] K T O n | none => False)) T O n)
  | .region id ops false,K,_,_,T,O,n => (match lk tb (100000 + id) with
      | none => vcOps P ops.toList ops.toList K T O n
      | some _ => Cut k (vcOps P ops.toList ops.toList K) T O n)
  | .seq a b,K,X,R,T,O,n => vcC P tb k a (vcC P tb k b K X R) X R T O n
  | .cond c x y,K,X,R,T,O,n => evC T c fun v => boolC v fun b => (b = true → vcC P tb k x K X R T O n) ∧ (b = false → vcC P tb k y K X R T O n)
  | .block id c,K,X,R,T,O,n => vcC P tb k c K (fun i => if i = id then K else X i) R T O n
  | .loop c,_,X,R,T,O,n => VLoop k (fun K' => vcC P tb k c K' X R) T O n
  | .exit id,_,X,_,T,O,n => X id T O n
  | .label _,K,_,_,T,O,n => K T O n
  | .ret,_,_,R,T,O,n => R T O n
  | _,_,_,_,_,_,_ => False
def dstOK (tb : List (Nat × Plan)) (N : Nat) : Code → Bool
  | .region id ops draw => (ops.toList.all fun o => match o.dst with | some t => decide (t < N) | none => true) && (!draw || match lk tb id with | some pl => okPlan ops [] pl | none => true)
  | .seq a b => dstOK tb N a && dstOK tb N b
  | .cond _ a b => dstOK tb N a && dstOK tb N b
  | .block _ c => dstOK tb N c
  | .loop c => dstOK tb N c
  | _ => true
section
variable {E : Env} {N : Nat} {M M' M1 : Pool} {β β' β1 : Bmap} {T : TT} {O O' O1 O2 J : OO} {n : Nat} {a : Act} {w w' : World} {P : Program} {o : Oper} {K : KK}
theorem St.ren (h : St E M β O w) {σ : List (Nat × Nat)} {Z F : List Nat} (hF : ∀ f ∈ F,∀ o,lk σ o ≠ some f) (hn : (σ.map (·.2)).Nodup) (ha : Agr σ β1 β) (hz : NilOK Z β1) (hH : holdsN O σ Z (frzO O F) J) : ∃ M1,PLe M M1 ∧ Views M M1 β (frzO O F) ∧ St E M1 β1 J w:=by
  obtain ⟨M1,hM,hV,hs⟩:=h.freeze F
  refine ⟨M1,hM,hV,?_⟩
  have hH:=holdsN_spec hH
  have hO1 : ∀ o ob,lk J o = some ob → (∃ o' ob',lk σ o = some o' ∧ lk O o' = some ob' ∧ lk (dropO O F) o' = some ob' ∧ matOB σ Z (frzO O F) ob ob') ∨ (ob.void = true ∧ β1 o = some (0,0)):=fun o ob hl =>
    (hH _ (lk_mem hl)).imp (fun ⟨o',ob',h1,h2,h3⟩ => ⟨o',ob',h1,h2,by
      rw [lk_dropO,if_neg]
      · exact h2
      · intro hc
        exact hF o' (by simpa using hc) _ h1,h3⟩) fun ⟨h1,h2⟩ => ⟨h1,hz _ h2⟩
  refine ⟨hs.pool,hs.sub,hs.only,fun o ob hl => ?_,fun o ob b κ hl hb hk => ?_,fun o o' ob ob' b κ κ' hl hl' hb hb' hk hk' => ?_,h.size,h.keep,h.os,h.tape,h.output⟩
  · rcases hO1 _ _ hl with ⟨o',ob',h1,h2,h2',h3⟩ | ⟨h1,h2⟩
    · obtain ⟨b,κ,hb,hor⟩:=h.objs _ _ h2
      exact ⟨b,κ,by rw [ha _ _ h1]; exact hb,matOB_spec h3 hM hV ha hz hor⟩
    · refine ⟨0,0,h2,?_⟩
      cases ob with
      | row c =>
        simp only [OB.void,Bool.and_eq_true,decide_eq_true_eq] at h1
        exact ⟨(void_row h1.1).1,h1.2,.inl ⟨rfl,(void_row h1.1).2,rv_void h1.1⟩⟩
      | _ => cases h1
  · rcases hO1 _ _ hl with ⟨o',ob',h1,h2,h2',h3⟩ | ⟨h1,h2⟩
    · rw [ha _ _ h1] at hb
      exact hs.mine _ _ _ _ h2' hb hk
    · rw [h2] at hb; cases hb; exact absurd rfl hk
  · rcases hO1 _ _ hl with ⟨p,ob1,h1,h2,h2x,h3⟩ | ⟨h1,h2⟩
    · rcases hO1 _ _ hl' with ⟨p',ob1',h1',h2',h2x',h3'⟩ | ⟨h1',h2'⟩
      · rw [ha _ _ h1] at hb
        rw [ha _ _ h1'] at hb'
        have:=h.inj _ _ _ _ _ _ _ h2 h2' hb hb' hk hk'
        subst this
        have e1:=lk_swap' hn h1
        have e2:=lk_swap' hn h1'
        rw [e1] at e2
        exact Option.some.inj e2
      · rw [h2'] at hb'; cases hb'; exact absurd rfl hk'
    · rw [h2] at hb; cases hb; exact absurd rfl hk
theorem idsOK_spec {σ : List (Nat × Nat)} : ∀ {k : Nat},idsOK σ k → ∀ o,o < k → lk σ o = some o:=by
  intro k
  induction k with
  | zero => intro _ o ho; omega
  | succ k ih =>
    intro h o ho
    by_cases e : o = k
    · subst e
      obtain ⟨o',h1,rfl⟩:=idC_spec h.1
      exact h1
    · exact ih h.2 o (by omega)
theorem tmpsOK_spec {σ : List (Nat × Nat)} {Z : List Nat} {OF : OO} {T' : TT} (hM : PLe M M1) (hV : Views M M1 β OF) (ha : Agr σ β1 β) (hz : NilOK Z β1) (hT : ∀ t v,lk T' t = some v → ∃ x,a.tmps[t]? = some x ∧ VR M β v x) :
    ∀ {I : TT},tmpsOK σ Z OF T' I → ∀ t v,lk I t = some v → ∃ x,a.tmps[t]? = some x ∧ VR M1 β1 v x:=by
  intro I
  induction I with
  | nil => intro _ t v h; cases h
  | cons p I ih =>
    obtain ⟨s,u⟩:=p
    intro h t v hl
    simp only [lk] at hl
    split at hl
    · rename_i e
      subst e
      cases hl
      obtain ⟨y,h1,h2⟩:=lkC_spec h.1
      obtain ⟨x,hx,hv⟩:=hT _ _ h1
      exact ⟨x,hx,(matC_spec σ Z OF _ _ h2).vr hM hV ha hz hv⟩
    · exact ih h.2 _ _ hl
theorem RelAt.ren (hE : ∀ o,E.ok o) (h : RelAt E N M β T O n a w) {I : TT} {m : Nat} (hs : Sub E.n0 T O I J m) : ∃ M1 β1,RelAt E N M1 β1 I J m a w:=by
  obtain ⟨σ,Z,F,h1,h4,h5,h6⟩:=hs
  simp only [okσ,Bool.and_eq_true,List.all_eq_true,decide_eq_true_eq,Bool.not_eq_true'] at h1
  obtain ⟨⟨⟨⟨hF,h1⟩,h2⟩,h3⟩,hZ⟩:=h1
  have h3:=Nat.le_of_ble_eq_true h3
  have h4:=idsOK_spec h4
  let b1 : Bmap:=fun o => match lk σ o with | some o' => β o' | none => if Z.contains o = true then some (0,0) else none
  have ha : Agr σ b1 β:=fun o o' h => by show (match lk σ o with | some o' => β o' | none => _) = _; rw [h]
  have hz : NilOK Z b1:=fun o ho => by
    have : lk σ o = none:=by
      rw [lk_none]
      intro hm
      obtain ⟨p,hp,rfl⟩:=List.mem_map.1 hm
      have:=(h1 p hp).2
      rw [ho] at this
      cases this
    show (match lk σ o with | some o' => β o' | none => if Z.contains o = true then some (0,0) else none) = _
    rw [this]
    simp only [ho,if_true]
  have hF' : ∀ f ∈ F,∀ o,lk σ o ≠ some f:=fun f hf o e => by
    have:=hF f hf
    have hm : f ∈ σ.map (·.2):=List.mem_map.2 ⟨_,lk_mem e,rfl⟩
    simp only [Bool.eq_false_iff] at this
    exact this (by simpa using hm)
  obtain ⟨M1,hM,hV,hst⟩:=h.st.ren hF' h2 ha hz h6
  refine ⟨M1,b1,hst,fun o ho _ => ?_,tmpsOK_spec hM hV ha hz h.tmps h5,h.nd,h.sz,fun o ho => ?_,h3⟩
  · have : lk σ o = none:=by
      rw [lk_none]
      intro hm
      obtain ⟨p,hp,rfl⟩:=List.mem_map.1 hm
      have:=(h1 p hp).1
      omega
    show (match lk σ o with | some o' => β o' | none => if Z.contains o = true then some (0,0) else none) = none
    rw [this]
    have : Z.contains o = false:=by
      rw [Bool.eq_false_iff]
      intro hc
      have:=(hZ o (by simpa using hc)).1
      omega
    simp only [this,if_false,Bool.false_eq_true]
  · rw [← h.base o ho]
    exact ha _ _ (h4 o (ho.resolve_right fun h => h (hE o)))
structure Cont3 (E : Env) (N : Nat) (Q : Exit → Act → World → Prop) (K : CK) (X : Nat → CK) (R : CK) : Prop where
  norm : ∀ T O n a w,K T O n → Rel E N T O n a w → Q .normal a w
  exit : ∀ i T O n a w,X i T O n → Rel E N T O n a w → Q (.exit i) a w
  ret : ∀ T O n a w,R T O n → Rel E N T O n a w → Q .ret a w
theorem vcC_sound (hm : P.follows .mixedOrders = true) (hE : ∀ o,E.ok o) (tb : List (Nat × Plan)) : ∀ (c : Code) {Q : Exit → Act → World → Prop} {K : CK} {X : Nat → CK} {R : CK} {T : TT} {O : OO} {n : Nat} {a : Act} {w : World},Cont3 E N Q K X R → dstOK tb N c = true →
    vcC P tb E.n0 c K X R T O n → Rel E N T O n a w → c.wp P Q a w:=by
  intro c
  induction c with
  | skip => intro Q K X R T O n a w hc _ h hr; exact wp_skip (hc.norm _ _ _ _ _ h hr)
  | label l => intro Q K X R T O n a w hc _ h hr; exact wp_label (hc.norm _ _ _ _ _ h hr)
  | region id ops draw =>
    intro Q K X R T O n a w hc hd h hr
    simp only [dstOK,Bool.and_eq_true,List.all_eq_true] at hd
    obtain ⟨hd1,hd2⟩:=hd
    have hd : ∀ o ∈ ops.toList,∀ t,o.dst = some t → t < N:=fun o ho t e => by
      have:=hd1 o ho
      rw [e] at this
      simpa using this
    cases draw with
    | false =>
      simp only [vcC] at h
      cases hq : lk tb (100000 + id) with
      | none =>
        rw [hq] at h
        exact wp_region (vcOps_sound hE hd h hr fun T O n a w => hc.norm T O n a w)
      | some q =>
        rw [hq] at h
        obtain ⟨I,J,m,hs,h⟩:=h
        obtain ⟨M,β,hr⟩:=hr
        obtain ⟨M1,β1,hr⟩:=hr.ren hE hs
        exact wp_region (vcOps_sound hE hd h ⟨M1,β1,hr⟩ fun T O n a w => hc.norm T O n a w)
    | true =>
      have go : ∀ {T : TT} {O : OO} {n : Nat} {a : Act} {w : World},(match lk tb id with | some pl => vcWalk P ops.toList pl [] K T O n | none => False) → Rel E N T O n a w → (Code.region id ops true).wp P Q a w:=fun {T O n a w} h hr => by
        cases hl : lk tb id with
        | none => rw [hl] at h; exact h.elim
        | some pl =>
          rw [hl] at h
          rw [hl] at hd2
          exact vcWalk_sound hm hE hd (by simpa using hd2) h hr fun T O n a w => hc.norm T O n a w
      simp only [vcC] at h
      cases hq : lk tb (100000 + id) with
      | none => rw [hq] at h; exact go h hr
      | some q =>
        rw [hq] at h
        obtain ⟨I,J,m,hs,h⟩:=h
        obtain ⟨M,β,hr⟩:=hr
        obtain ⟨M1,β1,hr⟩:=hr.ren hE hs
        exact go h ⟨M1,β1,hr⟩
  | seq x y ihx ihy =>
    intro Q K X R T O n a w hc hd h hr
    simp only [dstOK,Bool.and_eq_true] at hd
    exact wp_seq (ihx ⟨fun T O n a w hk hr => ihy hc hd.2 hk hr,fun i T O n a w => hc.exit i T O n a w,fun T O n a w => hc.ret T O n a w⟩ hd.1 h hr)
  | cond c x y ihx ihy =>
    intro Q K X R T O n a w hc hd h hr
    simp only [dstOK,Bool.and_eq_true] at hd
    obtain ⟨M,β,hr⟩:=hr
    obtain ⟨v,h,hv⟩:=evC_spec hr h
    obtain ⟨b,rfl,h1,h2⟩:=boolC_spec h
    exact wp_cond_split hv.bool_inv (fun e => ihx hc hd.1 (h1 e) ⟨M,β,hr⟩) fun e => ihy hc hd.2 (h2 e) ⟨M,β,hr⟩
  | block id c ih =>
    intro Q K X R T O n a w hc hd h hr
    refine wp_block (ih ⟨fun T O n a w => hc.norm T O n a w,fun i T O n a w hx hr => ?_,fun T O n a w => hc.ret T O n a w⟩ hd h hr)
    simp only [Exit.inBlock]
    split at hx
    · rename_i e; rw [if_pos e]; exact hc.norm _ _ _ _ _ hx hr
    · rename_i e; rw [if_neg e]; exact hc.exit _ _ _ _ _ _ hx hr
  | loop c ih =>
    intro Q K X R T O n a w hc hd h hr
    obtain ⟨ι,I,J,m,μ,i0,h0,hi⟩:=h
    let Inv : Act → World → Prop:=fun a w => ∃ i,Rel E N (I i) (J i) (m i) a w
    let Lv : Act → World → Nat → Prop:=fun a w z => ∃ i,μ i = z ∧ Rel E N (I i) (J i) (m i) a w
    have least : ∀ a w,Inv a w → ∃ z,Lv a w z ∧ ∀ z',Lv a w z' → z ≤ z':=fun a w ⟨i,hi⟩ => by
      have : ∀ z,(∃ z',z' ≤ z ∧ Lv a w z') → ∃ z,Lv a w z ∧ ∀ z',Lv a w z' → z ≤ z':=by
        intro z
        induction z using Nat.strongRecOn with
        | _ z ih =>
          rintro ⟨z',hz,hl⟩
          by_cases hm : ∀ z'',Lv a w z'' → z' ≤ z''
          · exact ⟨z',hl,hm⟩
          · simp only [Classical.not_forall] at hm
            obtain ⟨z'',hl'',hlt⟩:=hm
            exact ih z'' (by omega) ⟨z'',Nat.le_refl _,hl''⟩
      exact this (μ i) ⟨μ i,Nat.le_refl _,i,rfl,hi⟩
    have hlv : ∀ a w,∃ z,Inv a w → Lv a w z ∧ ∀ z',Lv a w z' → z ≤ z':=fun a w => by
      by_cases h : Inv a w
      · obtain ⟨z,hz⟩:=least a w h; exact ⟨z,fun _ => hz⟩
      · exact ⟨0,fun h' => absurd h' h⟩
    let ν : Act → World → Nat:=fun a w => Classical.choose (hlv a w)
    have hν : ∀ a w,Inv a w → Lv a w (ν a w) ∧ ∀ z',Lv a w z' → ν a w ≤ z':=fun a w => Classical.choose_spec (hlv a w)
    obtain ⟨M,β,hr⟩:=hr
    obtain ⟨M1,β1,hr1⟩:=hr.ren hE h0
    refine wp_loop Inv ν ⟨i0,M1,β1,hr1⟩ fun a w hinv => ?_
    obtain ⟨⟨i,hz,hri⟩,_⟩:=hν a w hinv
    refine ih ⟨fun T O n a' w' ⟨i',hlt,hs⟩ hr' => ?_,fun i T O n a w => hc.exit i T O n a w,fun T O n a w => hc.ret T O n a w⟩ hd (hi i) hri
    obtain ⟨M',β',hr'⟩:=hr'
    obtain ⟨M2,β2,hr2⟩:=hr'.ren hE hs
    have hinv' : Inv a' w':=⟨i',M2,β2,hr2⟩
    exact ⟨hinv',Nat.lt_of_le_of_lt ((hν a' w' hinv').2 _ ⟨i',rfl,M2,β2,hr2⟩) (by omega)⟩
  | exit id => intro Q K X R T O n a w hc _ h hr; exact wp_exit (hc.exit _ _ _ _ _ _ h hr)
  | ret => intro Q K X R T O n a w hc _ h hr; exact wp_ret (hc.ret _ _ _ _ _ h hr)
  | _ => intro Q K X R T O n a w hc _ h hr; exact h.elim
def resC (P : Program) (T : TT) (O : OO) : List ResultVar → (List AV → Prop) → Prop
  | [],K => K []
  | .tmp t :: rs,K => lkC T t fun v => resC P T O rs fun vs => K (v :: vs)
  | .cell t ty :: rs,K => lkC T t fun p => tyC P ty fun y => loadC O p fun q => fitC y q (resC P T O rs fun vs => K (q :: vs))
def packC : List AV → AV
  | [v] => v
  | vs => .tup vs
def varsOK (σ : List (Nat × Nat)) : OO → Prop
  | [] => True
  | (o,ob) :: O => ((∃ c,ob = .var c) → ∀ o',lk σ o = some o' → o' = o) ∧ varsOK σ O
def okE (σ : List (Nat × Nat)) (Z F : List Nat) (O0 : OO) : Bool:=F.all (fun f => !(σ.map (·.2)).contains f) && decide ((σ.map (·.2)).Nodup) && σ.all (fun p => !Z.contains p.1) && Z.all (fun z => !(keys O0).contains z)
def EndC (P : Program) (rs : List ResultVar) (O0 : OO) (r : AV) (O' : OO) : CK:=fun T O _ =>
  resC P T O rs fun vs => ∃ (σ : List (Nat × Nat)) (Z F : List Nat),okE σ Z F O0 = true ∧ matC σ Z (frzO O F) r (packC vs) ∧ holdsN O σ Z (frzO O F) O' ∧ varsOK σ O0
def numT : Nat → List AV → TT
  | _,[] => []
  | i,v :: vs => (i,v) :: numT (i + 1) vs
end
end Go.Sy
namespace Go.Sy
open Go
set_option linter.unusedSimpArgs false
set_option linter.unusedVariables false
section
variable {E : Env} {N : Nat} {M M' M1 : Pool} {β β' β1 : Bmap} {T : TT} {O O' O1 O2 J : OO} {n : Nat} {a : Act} {w w' : World} {P : Program} {o : Oper} {K : KK}
def resV (a : Act) : ResultVar → Sem Value
  | .tmp t => pure (a.tmps.getD t undef)
  | .cell x t => do loadVar t (← asAddr (a.tmps.getD x undef))
theorem resC_spec (hr : RelAt E N M β T O n a w) : ∀ {rs : List ResultVar} {κ : List AV → Prop},resC P T O rs κ → ∃ vs xs,κ vs ∧ (rs.mapM (resV a)).run P w = .ok xs w ∧ VRs M β vs xs:=by
  intro rs
  induction rs with
  | nil => intro κ h; exact ⟨[],[],h,by simp,.nil⟩
  | cons r rs ih =>
    intro κ h
    cases r with
    | tmp t =>
      obtain ⟨v,hl,h⟩:=lkC_spec h
      obtain ⟨x,hx,hv⟩:=hr.tmps t v hl
      obtain ⟨vs,xs,hk,hrun,hvs⟩:=ih h
      refine ⟨v :: vs,x :: xs,hk,?_,.cons hv hvs⟩
      simp only [List.mapM_cons,resV,Sem.run_bind,Sem.run_pure,Result.andThen_ok,hrun,Array.getD_eq_getD_getElem?,hx,Option.getD_some]
    | cell p ty =>
      obtain ⟨v,hl,h⟩:=lkC_spec h
      obtain ⟨x,hx,hv⟩:=hr.tmps p v hl
      obtain ⟨y,hok,_,h⟩:=tyC_spec h
      have fin : ∀ (b off : Nat) (q : AV) (cs : List Value),x = .pointer (some ⟨b,off,none⟩) → RV M β q cs → CellsAt w b off cs → fitC y q (resC P T O rs fun vs => κ (q :: vs)) →
          ∃ vs xs,κ vs ∧ ((ResultVar.cell p ty :: rs).mapM (resV a)).run P w = .ok xs w ∧ VRs M β vs xs:=fun b off q cs ex hq hc hf => by
        obtain ⟨f1,f2,hk⟩:=hf
        obtain ⟨z,hrun,hz⟩:=run_loadVar (w:=w) hok hc hq f1 f2
        obtain ⟨vs,xs,hk,hrun2,hvs⟩:=ih hk
        refine ⟨q :: vs,z :: xs,hk,?_,.cons hz hvs⟩
        simp only [List.mapM_cons,resV,Sem.run_bind,Sem.run_pure,Result.andThen_ok,Array.getD_eq_getD_getElem?,hx,Option.getD_some,ex,asAddr,hrun,hrun2]
      cases v with
      | ref i p' =>
        obtain ⟨ob,hl,h3⟩:=objC_spec h
        obtain ⟨c,hc,h4⟩:=obC_spec h3
        obtain ⟨b,κ0,hb,ex⟩:=hv.ref_inv
        obtain ⟨cc,hcc,hca⟩:=hr.st.cells hl hb hc
        obtain ⟨q,hf,hq⟩:=nav_spec _ _ _ h4
        obtain ⟨_,hq2⟩:=hq hcc
        exact fin b (poff p') q _ ex hq2 (by have:=hca.piece (m:=poff p') (k:=q.csz); rwa [Nat.zero_add] at this) hf
      | pp c p' =>
        obtain ⟨q,hf,hq⟩:=nav_spec _ _ _ h
        obtain ⟨cc,b,off,ex,hcc,hm⟩:=hv.pp_inv
        obtain ⟨_,hq2⟩:=hq hcc
        exact fin b (off + poff p') q _ ex (hq2.mono (PLe.refl _) (BLe.nob _)) (CellsAt.piece fun i v hi => hr.st.pool _ _ _ (hm i v hi)) hf
      | _ => exact h.elim
theorem results_run (hr : RelAt E N M β T O n a w) {fn : Func} {κ : List AV → Prop} (h : resC P T O fn.results.toList κ) : ∃ vs x,κ vs ∧ (results fn a.tmps).run P w = .ok x w ∧ VR M β (packC vs) x:=by
  obtain ⟨vs,xs,hk,hrun,hv⟩:=resC_spec hr h
  have hm : (fn.results.mapM (resV a)).run P w = .ok xs.toArray w:=by
    rw [Array.mapM_eq_mapM_toList]
    simp only [Sem.run_map,hrun,Result.andThen_ok]
  have e : results fn a.tmps = (do let vs ← fn.results.mapM (resV a); pure (if h : vs.size = 1 then vs[0] else .tuple vs)):=by
    unfold results
    congr 1
  refine ⟨vs,if h : xs.toArray.size = 1 then xs.toArray[0] else .tuple xs.toArray,hk,by rw [e]; simp only [Sem.run_bind,hm,Result.andThen_ok,Sem.run_pure],?_⟩
  cases hv with
  | nil => exact .tup .nil
  | cons h1 h2 =>
    cases h2 with
    | nil => simpa [packC] using h1
    | cons h2 h3 => simpa [packC] using VR.tup (.cons h1 (.cons h2 h3))
theorem numT_spec : ∀ {vs : List AV} {xs : List Value} (pre : List Value),VRs M β vs xs → ∀ t v,lk (numT pre.length vs) t = some v → ∃ x,(pre ++ xs)[t]? = some x ∧ VR M β v x:=by
  intro vs
  induction vs with
  | nil => intro xs pre h t v hl; cases hl
  | cons u vs ih =>
    intro xs pre h t v hl
    cases h with
    | @cons _ _ _ x xs h1 h2 =>
      simp only [numT,lk] at hl
      split at hl
      · rename_i e; subst e; cases hl; exact ⟨x,by simp,h1⟩
      · have:=ih (pre ++ [x]) h2 t v (by simpa using hl)
        simpa using this
theorem fn_of_vc (hm : P.follows .mixedOrders = true) (tb : List (Nat × Plan)) {f : FuncId} {fn : Func} {c : Code} {args : List AV} {r : AV} (k : Nat) (hf : P.funcs[f]? = some fn) (hb : fn.body = some c) (hnm : (fn.name == "runtime.NumGoroutine") = false) (hN : args.length ≤ fn.ntmps) (hd : dstOK tb fn.ntmps c = true) (hk : ∀ p ∈ O,p.1 < k) (k0 : Nat) (hk0 : k0 ≤ k) (hvar : ∀ o c,lk O o = some (.var c) → o < k0)
    (F : CK) (hF : ∀ T O1 n,F T O1 n → EndC P fn.results.toList O r O' T O1 n) (h : vcC P tb k0 c F (fun _ _ _ _ => False) F (numT 0 args) O k) : FnC P f args O r O':=by
  refine ⟨⟨fn,hf,hnm,by simp [hb]⟩,fun w M β xs hids hst hxs => calls_of_wp hf hb ?_⟩
  have hxl : xs.length = args.length:=by
    clear h hN
    revert hxs
    generalize args = args
    intro hxs
    induction xs generalizing args with
    | nil => cases hxs; rfl
    | cons x xs ih => cases hxs with | cons _ h2 => simp [ih _ h2]
  have ends : ∀ T O1 n a w',EndC P fn.results.toList O r O' T O1 n → Rel ⟨w,ownOf O β,M,β,k0,fun _ => True⟩ fn.ntmps T O1 n a w' → a.defers = [] ∧ ∃ v,(results fn a.tmps).run P w' = .ok v w' ∧
      ∃ x M' β',Ending.returned v = .returned x ∧ VR M' β' r x ∧ St ⟨w,ownOf O β,M,nob,0,fun _ => True⟩ M' β' O' w' ∧ (∀ o c,lk O o = some (.var c) → β' o = β o):=by
    rintro T O1 n a w' he ⟨M',β',hr⟩
    obtain ⟨vs,x,⟨σ,Z,F,h1,h2,h3,h4⟩,hrun,hv⟩:=results_run hr he
    simp only [okE,Bool.and_eq_true,List.all_eq_true,decide_eq_true_eq,Bool.not_eq_true'] at h1
    obtain ⟨⟨⟨hF,h1⟩,hσZ⟩,hZ⟩:=h1
    have hF' : ∀ f ∈ F,∀ o,lk σ o ≠ some f:=fun f hf o e => by
      have:=hF f hf
      have hm : f ∈ σ.map (·.2):=List.mem_map.2 ⟨_,lk_mem e,rfl⟩
      simp only [Bool.eq_false_iff] at this
      exact this (by simpa using hm)
    let b1 : Bmap:=fun o => match lk σ o with | some o' => β' o' | none => if Z.contains o = true then some (0,0) else β o
    have ha : Agr σ b1 β':=fun o o' h => by show (match lk σ o with | some o' => β' o' | none => _) = _; rw [h]
    have hz : NilOK Z b1:=fun o ho => by
      have : lk σ o = none:=by
        rw [lk_none]
        intro hm
        obtain ⟨p,hp,rfl⟩:=List.mem_map.1 hm
        have:=hσZ p hp
        rw [ho] at this
        cases this
      show (match lk σ o with | some o' => β' o' | none => if Z.contains o = true then some (0,0) else β o) = _
      rw [this]
      simp only [ho,if_true]
    obtain ⟨M1,hM,hV,this⟩:=hr.st.ren hF' h1 ha hz h3
    refine ⟨hr.nd,x,hrun,x,M1,b1,rfl,(matC_spec σ Z _ _ _ h2).vr hM hV ha hz hv,?_,fun o c hl => ?_⟩
    · exact ⟨this.pool,this.sub,this.only,this.objs,this.mine,this.inj,this.size,this.keep,this.os,this.tape,this.output⟩
    · show (match lk σ o with | some o' => β' o' | none => if Z.contains o = true then some (0,0) else β o) = β o
      split
      · rename_i o' e'
        have : ∀ {O : OO},varsOK σ O → (o,OB.var c) ∈ O → o' = o:=by
          intro O
          induction O with
          | nil => intro _ h; cases h
          | cons q O ih =>
            obtain ⟨i,ob⟩:=q
            intro hv hm
            rcases List.mem_cons.1 hm with e2 | hm
            · cases e2; exact hv.1 ⟨c,rfl⟩ _ e'
            · exact ih hv.2 hm
        rw [this h4 (lk_mem hl)]
        exact hr.base o (.inl (hvar _ _ hl))
      · rw [if_neg]
        intro hc
        have:=hZ o (by simpa using hc)
        have hm : o ∈ keys O:=List.mem_map.2 ⟨_,lk_mem hl,rfl⟩
        simp [hm] at this
  refine vcC_sound hm (fun _ => trivial) tb (E:=⟨w,ownOf O β,M,β,k0,fun _ => True⟩) (N:=fn.ntmps) c ⟨fun T O1 n a w' he hr => ends T O1 n a w' (hF _ _ _ he) hr,fun _ _ _ _ _ _ h _ => h.elim,fun T O1 n a w' he hr => ends T O1 n a w' (hF _ _ _ he) hr⟩ hd h ⟨M,β,⟨hst.pool,hst.sub,hst.only,hst.objs,hst.mine,hst.inj,hst.size,hst.keep,hst.os,hst.tape,hst.output⟩,fun o ho _ => hids o ?_,fun t v hl => ?_,rfl,?_,fun _ _ => rfl,hk0⟩
  · rw [lk_none]
    intro hm
    obtain ⟨p,hp,rfl⟩:=List.mem_map.1 hm
    have:=hk p hp
    omega
  · obtain ⟨x,hx,hv⟩:=numT_spec [] hxs t v hl
    refine ⟨x,?_,hv⟩
    have ht : t < xs.length:=by
      have:=(List.getElem?_eq_some_iff.1 hx).1
      simpa using this
    simp only [List.nil_append] at hx
    rw [Array.getElem?_append_left (by simpa using ht)]
    simpa using hx
  · simp; omega
end
end Go.Sy
namespace Go.Sy
open Go
def ev {α : Type} (x : α) (K : α → Prop) : Prop:=K x
def mk {α : Type} (x : α) : α:=x
def mk3 {α : Type} (x : α) : α:=x
theorem mk_in {α : Type} (x : α) : mk x = mk3 x:=Eq.trans (Eq.refl (mk x)) (Eq.refl x)
theorem mk_eq {α : Type} (x : α) : mk3 x = x:=Eq.trans (Eq.refl (mk3 x)) (Eq.refl x)
@[congr] theorem ev_congr {α : Type} {x y : α} {K : α → Prop} (h : mk x = y) : ev x K = ev y K:=by rw [← h]; rfl
theorem ev_eq {α : Type} (x : α) (K : α → Prop) : ev x K = K x:=rfl
@[congr] theorem CallP_congr {P : Program} {f : FuncId} {args args' : List AV} {O : OO} {n : Nat} {κ : AV → OO → Nat → Prop} (h : mk args = args') : CallP P f args O n κ = CallP P f args' O n κ:=by rw [← h]; rfl
@[congr] theorem idC_congr {σ σ' : List (Nat × Nat)} {o : Nat} {K : Nat → Prop} (h : mk σ = σ') : idC σ o K = idC σ' o K:=by rw [← h]; rfl
@[congr] theorem Cut_congr {k : Nat} {F : CK} {T T' : TT} {O : OO} {n : Nat} (h : mk T = T') : Cut k F T O n = Cut k F T' O n:=by rw [← h]; rfl
@[congr] theorem VLoop_congr {k : Nat} {F : CK → CK} {T T' : TT} {O : OO} {n : Nat} (h : mk T = T') : VLoop k F T O n = VLoop k F T' O n:=by rw [← h]; rfl
def brC (b : Bool) (A B : Prop) : Prop:=(b = true → A) ∧ (b = false → B)
@[congr] theorem brC_congr {b b' : Bool} {A B : Prop} (h : mk b = b') : brC b A B = brC b' A B:=by rw [← h]; rfl
theorem brC_true (A B : Prop) : brC true A B = A:=by simp [brC]
theorem brC_false (A B : Prop) : brC false A B = B:=by simp [brC]
theorem brC_not (b : Bool) (A B : Prop) : brC (!b) A B = brC b B A:=by cases b <;> simp [brC]
theorem br {b : Bool} {A B : Prop} (h1 : b = true → A) (h2 : b = false → B) : brC b A B:=⟨h1,h2⟩
theorem brd {p : Prop} [Decidable p] {A B : Prop} (h1 : p → A) (h2 : ¬ p → B) : brC (decide p) A B:=⟨fun h => h1 (of_decide_eq_true h),fun h => h2 (of_decide_eq_false h)⟩
theorem imp_br {c A B : Prop} [Decidable c] : ((c → A) ∧ (¬ c → B)) = brC (decide c) A B:=by
  by_cases h : c <;> simp [h,brC]
theorem iteC_br (b : Bool) (K : Bool → Prop) : iteC b K = brC b (K true) (K false):=by
  cases b <;> simp [iteC,brC]
def wantC (b want : Bool) (A B : Prop) : Prop:=(b = want → A) ∧ (b = !want → B)
theorem wantC_true (b : Bool) (A B : Prop) : wantC b true A B = brC b A B:=rfl
theorem wantC_false (b : Bool) (A B : Prop) : wantC b false A B = brC b B A:=by cases b <;> simp [wantC,brC]
def getP (es : List AV) (i : Nat) (K : AV → Prop) : Prop:=∀ q,es[i]? = some q → K q
@[congr] theorem getP_congr {es es' : List AV} {i i' : Nat} {K : AV → Prop} (h : mk es = es') (h' : mk i = i') : getP es i K = getP es' i' K:=by rw [← h,← h']; rfl
theorem getP_zero (a : AV) (l : List AV) (K : AV → Prop) : getP (a :: l) 0 K = K a:=by simp [getP]
theorem getP_succ (a : AV) (l : List AV) (i : Nat) (K : AV → Prop) : getP (a :: l) (i + 1) K = getP l i K:=by simp [getP]
theorem getP_lit (a : AV) (l : List AV) (i : Nat) (K : AV → Prop) : getP (a :: l) (OfNat.ofNat (i + 1)) K = getP l i K:=by simp [getP,OfNat.ofNat]
section
variable {P : Program} {tb : List (Nat × Plan)} {k : Nat} {K : CK} {X : Nat → CK} {R : CK} {T : TT} {O : OO} {n : Nat}
theorem vcC_cond (c : Operand) (x y : Code) : vcC P tb k (.cond c x y) K X R T O n = evC T c fun v => boolC v fun b => brC b (vcC P tb k x K X R T O n) (vcC P tb k y K X R T O n):=by
  simp only [vcC]
  rfl
def nxt (d : Option Tmp) (v : AV) (O : OO) (n : Nat) (T : TT) (K : CK) : Prop:=ev v fun v => ev O fun O => ev n fun n => match d with | some d => K ((d,v) :: T) O n | none => K T O n
theorem nxt_eq (d : Option Tmp) (v : AV) (O : OO) (n : Nat) (T : TT) (K : CK) : nxt d v O n T K = K (putT d v T) O n:=by cases d <;> rfl
theorem vcOps_cons (all : List Oper) (o : Oper) (rest : List Oper) : vcOps P all (o :: rest) K T O n = match o.guard with
    | none => vcOp P o.op T O n fun v O' n' => nxt o.dst v O' n' T (vcOps P all rest K)
    | some (j,want) => gdC all j want T (fun T => vcOp P o.op T O n fun v O' n' => nxt o.dst v O' n' T (vcOps P all rest K)) (fun T => nxt o.dst (.tup []) O n T (vcOps P all rest K)):=by
  simp only [vcOps,nxt_eq]
  all_goals (cases o.guard <;> rfl)
def wOp2 (P : Program) (op : Op) (acc : List (Nat × List Nat)) (us : List Nat) (ld : Option (List Nat)) (d : Option Tmp) (T : TT) (O : OO) (n : Nat) (K : List Nat → CK) : Prop :=
  ev (hidX acc us) fun X => rmsO O X fun V => keepC O X fun R => vcOp P op T V n fun v V' n' => ev v fun v => ev V' fun V' => ev n' fun n' => ev (touch V T ld) fun W => (sameC W V' V ∧ newC (keys V) n n' V' ∧ ltC W n ∧ n ≤ n') ∧
    ev (W ++ rng n (n' - n)) fun W => nxt d v (V' ++ R) n' T (K W)
theorem wOp2_eq (op : Op) (acc : List (Nat × List Nat)) (us : List Nat) (ld : Option (List Nat)) (d : Option Tmp) (K : List Nat → CK) : wOp2 P op acc us ld d T O n K = wOp P op (hidX acc us) ld T O n fun v O' n' W => K W (putT d v T) O' n':=by
  simp only [wOp2,wOp,ev_eq,nxt_eq]
def opAt : List Oper → Nat → Option Oper
  | [],_ => none
  | o :: _,0 => some o
  | _ :: l,j + 1 => opAt l j
theorem opAt_eq : ∀ (l : List Oper) (j : Nat),l[j]? = opAt l j
  | [],_ => by simp [opAt]
  | _ :: _,0 => by simp [opAt]
  | _ :: l,j + 1 => by simp [opAt,opAt_eq l j]
theorem vcWalk_cons (all : List Oper) (i : Nat) (us : List Nat) (ld : Option (List Nat)) (pl : Plan) (acc : List (Nat × List Nat)) : vcWalk P all ((i,us,ld) :: pl) acc K T O n = ev (opAt all i) fun r => match r with
    | none => False
    | some o => match o.guard with
      | none => wOp2 P o.op acc us ld o.dst T O n fun W => vcWalk P all pl ((i,W) :: acc) K
      | some (j,want) => gdC all j want T (fun T => wOp2 P o.op acc us ld o.dst T O n fun W => vcWalk P all pl ((i,W) :: acc) K)
          (fun T => nxt o.dst (.tup []) O n T (vcWalk P all pl ((i,[]) :: acc) K)):=by
  simp only [vcWalk,nxt_eq,wOp2_eq,ev_eq,opAt_eq]
theorem tmpsOK_frz (σ : List (Nat × Nat)) (Z F : List Nat) (I : TT) : tmpsOK σ Z (frzO O F) T I = ev (frzO O F) fun OF => tmpsOK σ Z OF T I:=rfl
theorem holdsN_frz (σ : List (Nat × Nat)) (Z F : List Nat) (O' J : OO) : holdsN O' σ Z (frzO O F) J = ev (frzO O F) fun OF => holdsN O' σ Z OF J:=rfl
theorem matC_frz (σ : List (Nat × Nat)) (Z F : List Nat) (v u : AV) : matC σ Z (frzO O F) v u = ev (frzO O F) fun OF => matC σ Z OF v u:=rfl
theorem vcOps_nil (all : List Oper) : vcOps P all [] K T O n = K T O n:=rfl
theorem vcWalk_nil (all : List Oper) (acc : List (Nat × List Nat)) : vcWalk P all [] acc K T O n = K T O n:=rfl
theorem subC_arr (sz : Nat) (ps : List AV) (lo len : Nat) (κ : AV → Prop) : subC (.arr sz ps) lo len κ = (lo + len ≤ ps.length ∧ ev ((ps.drop lo).take len) fun qs => κ (.arr sz qs)):=rfl
def gdV (g : Nat) (want : Bool) (T : TT) (A B : TT → Prop) : AV → Prop
  | .bool b => wantC b want (ev ((g,.bool want) :: T) A) (ev ((g,.bool (!want)) :: T) B)
  | .tup [] => ev T B
  | _ => False
theorem gdC_ev (all : List Oper) (j : Nat) (want : Bool) (A B : TT → Prop) : gdC all j want T A B = ev (opAt all j) fun r => match r with | none => False | some o => match o.dst with | none => False | some g => lkC T g (gdV g want T A B):=by
  simp only [gdC,ev_eq,opAt_eq]
  have e : ∀ g v,(match v with
    | AV.bool b => (b = want → A ((g,.bool want) :: T)) ∧ (b = !want → B ((g,.bool (!want)) :: T))
    | .tup [] => B T
    | _ => False) = gdV g want T A B v:=fun g v => by cases v <;> first | rfl | (rename_i vs; cases vs <;> rfl)
  cases opAt all j with
  | none => rfl
  | some o =>
    cases h : o.dst with
    | none => simp [h]
    | some g =>
      simp only [h,Option.bind_some]
      congr 1
theorem vcOps_arr (l l' : List Oper) : vcOps P l.toArray.toList l'.toArray.toList K T O n = vcOps P l l' K T O n:=rfl
theorem vcC_draw (id : Nat) (l : List Oper) : vcC P tb k (.region id l.toArray true) K X R T O n = ev (lk tb (100000 + id)) fun q => match q with
    | none => ev (lk tb id) fun r => match r with | some pl => vcWalk P l pl [] K T O n | none => False
    | some _ => Cut k (fun T O n => ev (lk tb id) fun r => match r with | some pl => vcWalk P l pl [] K T O n | none => False) T O n:=by
  simp only [vcC,ev_eq]
theorem vcC_reg (id : Nat) (l : List Oper) : vcC P tb k (.region id l.toArray false) K X R T O n = ev (lk tb (100000 + id)) fun q => match q with
    | none => vcOps P l l K T O n
    | some _ => Cut k (vcOps P l l K) T O n:=by
  simp only [vcC,ev_eq]
theorem partsC_arr (l : List (Nat × Operand)) (κ : List (Nat × AV) → Prop) : partsC T l.toArray.toList κ = partsC T l κ:=rfl
theorem evsC_arr (l : List Operand) (κ : List AV → Prop) : evsC T l.toArray.toList κ = evsC T l κ:=rfl
theorem bltC_arr (b : Builtin) (l : List TypeId) (vs : List AV) (κ : KK) : bltC P b l.toArray.toList vs O n κ = bltC P b l vs O n κ:=rfl
theorem bldS_zeros (ts : List Ty) (l : List (Nat × AV)) (κ : List AV → Prop) : bldS (Ty.zeros ts) l κ = ev (Ty.zeros ts) fun ps => bldS ps l κ:=rfl
theorem cutC_map (v : AV) (l : Nat) (h : Option Int) (κ : AV → Prop) : cutC v l (h.map Int.toNat) κ = ev (h.map Int.toNat) fun h => cutC v l h κ:=rfl
theorem cutS_map (v : AV) (l : Nat) (h : Option Int) (κ : AV → Prop) : cutS v l (h.map Int.toNat) κ = ev (h.map Int.toNat) fun h => cutS v l h κ:=rfl
theorem cutA_map (sz m : Nat) (v : AV) (l : Nat) (h : Option Int) (κ : AV → Prop) : cutA O sz m v l (h.map Int.toNat) κ = ev (h.map Int.toNat) fun h => cutA O sz m v l h κ:=rfl
theorem subC_ints (kk : IntKind) (m : Nat) (xs : List Int) (lo len : Nat) (κ : AV → Prop) : subC (.ints kk m xs) lo len κ = (lo + len ≤ m ∧ brC (decide (lo = 0 ∧ len = m)) (κ (.ints kk m xs)) (κ (.ints kk len ((xs.drop lo).take len)))):=by
  simp only [subC,imp_br]
theorem subC_lst (sz m : Nat) (es : List AV) (lo len : Nat) (κ : AV → Prop) : subC (.lst sz m es) lo len κ = (lo + len ≤ m ∧ brC (decide (lo = 0 ∧ len = m)) (κ (.lst sz m es)) (κ (.lst sz len ((es.drop lo).take len)))):=by
  simp only [subC,imp_br]
theorem navC_arr (i sz : Nat) (p : List Stp) (s : Nat) (ps : List AV) (κ : AV → Prop) : navC (.at i sz :: p) (.arr s ps) κ = (s = sz ∧ i < ps.length ∧ getP ps i fun q => navC p q κ):=by simp only [navC,getP]
theorem navC_lst (i sz : Nat) (p : List Stp) (s m : Nat) (ps : List AV) (κ : AV → Prop) : navC (.at i sz :: p) (.lst s m ps) κ = (s = sz ∧ i < ps.length ∧ getP ps i fun q => navC p q κ):=by simp only [navC,getP]
theorem updC_arr (i sz : Nat) (p : List Stp) (s : Nat) (ps : List AV) (x : AV) (κ : AV → Prop) : updC (.at i sz :: p) (.arr s ps) x κ = (s = sz ∧ i < ps.length ∧ getP ps i fun q => updC p q x fun q' => κ (.arr s (ps.set i q'))):=by simp only [updC,getP]
theorem updC_lst (i sz : Nat) (p : List Stp) (s m : Nat) (ps : List AV) (x : AV) (κ : AV → Prop) : updC (.at i sz :: p) (.lst s m ps) x κ = (s = sz ∧ i < ps.length ∧ x.nid = true ∧ getP ps i fun q => updC p q x fun q' => κ (.lst s m (ps.set i q'))):=by simp only [updC,getP]
theorem idxV_lst (te : Ty) (n' sz m : Nat) (es : List AV) (i : Int) (κ : AV → Prop) : idxV te n' (.lst sz m es) i κ = (m = n' ∧ 0 ≤ i ∧ i < n' ∧ sz = te.size ∧ i.toNat < es.length ∧ getP es i.toNat fun q => fitC te q (κ q)):=by simp only [idxV,getP]
theorem idxV_arr (te : Ty) (n' sz : Nat) (es : List AV) (i : Int) (κ : AV → Prop) : idxV te n' (.arr sz es) i κ = (es.length = n' ∧ 0 ≤ i ∧ i < n' ∧ sz = te.size ∧ getP es i.toNat fun q => fitC te q (κ q)):=by simp only [idxV,getP]
theorem elemsC_br (n' : Nat) (te : Ty) (l : List (Nat × AV)) (κ : AV → Prop) : elemsC n' te l κ = match te with
    | .int k => seqI k 0 l fun m xs => m ≤ n' ∧ κ (.ints k n' (xs ++ List.replicate (n' - m) 0))
    | te => brC (decide (l.isEmpty = true ∧ n' = 0)) (κ (.lst te.size 0 [])) (seqV te.size 0 l fun m vs => m ≤ n' ∧ κ (.arr te.size (vs ++ List.replicate (n' - m) te.zero))):=by
  have e : (l.isEmpty = true) = (l = []):=by cases l <;> simp
  cases te <;> simp only [elemsC,e] <;> exact imp_br
theorem cp_br (d l : Nat) (A B C : Prop) : ((d = 0 ∨ l = 0 → A) ∧ (0 < d → 0 < l → d ≤ l → B) ∧ (0 < d → 0 < l → ¬ d ≤ l → C)) = brC (decide (d = 0 ∨ l = 0)) A (brC (decide (d ≤ l)) B C):=by
  by_cases h1 : d = 0 ∨ l = 0
  · have : ¬ (0 < d ∧ 0 < l):=by omega
    have h2 : ((0 < d → 0 < l → d ≤ l → B) ∧ (0 < d → 0 < l → ¬ d ≤ l → C)) = True:=by
      simp only [eq_iff_iff,iff_true]
      exact ⟨fun a b => absurd ⟨a,b⟩ this,fun a b => absurd ⟨a,b⟩ this⟩
    rw [h2]
    simp [h1,brC]
  · have h3 : 0 < d:=by omega
    have h4 : 0 < l:=by omega
    rw [decide_eq_false h1,brC_false]
    simp only [h1,false_imp_iff,true_and,h3,h4,true_implies,imp_br]
theorem thawC_br (te : Ty) (O O' : OO) (s c d : AV) (K : AV → AV → OO → Prop) : thawC te O O' s c d K = (match c,d with
  | .lst _ _ _,.arr sz ps => brC (AV.nids ps) (K c d O') (ev (reach O 3 (idsVs ps)) fun F => ev (frzO O F) fun OF => viewC OF 9 (.arr sz ps) fun d' => ev (dropO O F) fun O1 => ownC te O1 s fun c' O2 => K c' d' O2)
  | .arr sz ps,.lst _ _ _ => brC (AV.nids ps) (K c d O') (ev (reach O 3 (idsVs ps)) fun F => ev (frzO O F) fun OF => viewC OF 9 (.arr sz ps) fun c' => ev (dropO O F) fun O1 => ownC te O1 s fun c2 O2 => c2 = .arr sz ps ∧ K c' d O2)
  | _,_ => K c d O'):=by
  simp only [thawC]
  rfl
theorem truncC_br (s : AV) (K : OO → Prop) : truncC O s K = (match s with
  | .osl o p _ lo len => objC O o fun ob => rowC ob fun c => brC (decide (c.cnt = len)) (K O) (p = [] ∧ lo = 0 ∧ len < c.cnt ∧ subC c 0 len fun c' => ev (repO O o (.row c')) fun O1 => K O1)
  | _ => K O):=by
  cases s <;> simp only [truncC,imp_br,ev_eq]
theorem copyC_br (ts : List TypeId) (s x : AV) (κ : Nat → OO → Prop) : copyC P ts s x O κ = (match ts with
  | st :: _ => tyC P st fun sty =>
    match sty with
    | .slice e => tyC P e fun te => 0 < te.size ∧
      match s with
      | .osl o p sz lo len => sz = te.size ∧ contC O te x fun d => brC (decide (d.cnt = 0 ∨ len = 0)) (κ 0 O)
          (brC (decide (d.cnt ≤ len)) (objC O o fun ob => obC ob fun c => navC p c fun q => putC q lo d fun q' => updO O o p q' fun O' => κ d.cnt O')
           (subC d 0 len fun d' => objC O o fun ob => obC ob fun c => navC p c fun q => putC q lo d' fun q' => updO O o p q' fun O' => κ len O'))
      | .nils => contC O te x fun _ => κ 0 O
      | _ => False
    | _ => False
  | _ => False):=by
  simp only [copyC,cp_br]
  rfl
end
attribute [go_sem ↓ high] tmpsOK_frz holdsN_frz matC_frz gdC_ev vcOps_arr vcC_draw vcC_reg partsC_arr evsC_arr bltC_arr iteC_br wantC_true wantC_false brC_true brC_false brC_not elemsC_br thawC_br truncC_br copyC_br navC_arr navC_lst updC_arr updC_lst idxV_lst idxV_arr vcC_cond vcOps_cons vcWalk_cons vcOps_nil vcWalk_nil subC_arr subC_ints subC_lst bldS_zeros cutC_map cutS_map cutA_map
attribute [go_sem ↓] nxt wOp2 gdV
attribute [go_sem ↓] mk_in
attribute [go_sem] brC_true brC_false brC_not getP_zero getP_succ getP_lit
attribute [go_sem] ev_eq mk_eq Option.map_some Option.map_none Option.getD_some Option.getD_none
attribute [go_sem] opAt
attribute [go_sem ↓] vcC vcOp evC evsC lkC objC obC rowC cstC putT boolC intC fitC nthC nthTC setC intB strB eqC eqsC binC unC loadC updOB updO rmO rmsO renC rensC idC renOB renOO partsC bldS seqI seqV elemsC zerosC catC contC lenC strL bytesOf cutC cutS varC cutA optC viewC viewC.views lenK appC ownC appendC putC copyC bltC convC s2aC fldA idxA idxV navC fldC fldU intU updC keepC hidX mapKC mapQ gmC fndC setG MK.isS mpC setM resC sameC newC ltC tmpsOK idsOK holdsO argsOK homesOK homesK varsOK matC matsC matOB homeC holdsN frzO dropO
attribute [go_sem] AV.void OB.void List.isEmpty_nil List.isEmpty_cons
attribute [go_sem] repO lk AV.csz AV.cszs AV.multi AV.mem AV.cnt AV.esz AV.isRow AV.nid AV.nids AV.pf AV.pf.pfs OB.pf Ty.size Ty.sizes Ty.multi Ty.zero Ty.zeros poff keys rng touch reach idsT idsV idsVs idsO idsOB packC numT Bool.true_and Bool.and_true Bool.false_and Bool.and_false Bool.not_true Bool.not_false decide_true decide_false List.map_cons List.map_nil List.cons_append List.nil_append List.append_nil true_and and_true and_self if_true if_false Nat.reduceAdd Nat.reduceMul Nat.reduceLT Nat.reduceSub Nat.reduceEqDiff Nat.lt_irrefl Nat.le_refl eq_self Option.some.injEq Option.bind Option.map Option.getD List.length_cons List.length_nil Int.cast_ofNat_Int Int.reduceLE Int.reduceLT Int.reduceToNat Int.reduceAdd Int.reduceSub Int.reduceMul Int.reduceEq Int.reduceNe Int.reduceNeg Nat.reduceLeDiff Nat.reduceBEq Nat.reduceBNe Nat.reduceEqDiff
end Go.Sy
namespace Go.Sy
open Go
set_option linter.unusedSimpArgs false
set_option linter.unusedVariables false
mutual
def AV.plain : AV → Bool
  | .agg ps => AV.plains ps
  | .arr _ ps => AV.plains ps
  | .tup ps => AV.plains ps
  | .fn _ ps => AV.plains ps
  | .fb _ ps => AV.plains ps
  | .ref .. | .osl .. | .mp _ | .junk => false
  | .int .. | .bool _ | .str _ | .nilp | .ints .. | .lst .. | .sl _ | .nils | .pp .. | .nilf | .nilm | .opq => true
def AV.plains : List AV → Bool
  | [] => true
  | v :: vs => v.plain && AV.plains vs
end
mutual
theorem plain_ren (σ : List (Nat × Nat)) : ∀ (v : AV) (K : AV → Prop),v.plain = true → K v → renC σ v K
  | .agg ps,K,h,hk => by simp only [renC]; exact plains_ren σ ps _ (by simpa [AV.plain] using h) hk
  | .arr sz ps,K,h,hk => by simp only [renC]; exact plains_ren σ ps _ (by simpa [AV.plain] using h) hk
  | .tup ps,K,h,hk => by simp only [renC]; exact plains_ren σ ps _ (by simpa [AV.plain] using h) hk
  | .fn f ps,K,h,hk => by simp only [renC]; exact plains_ren σ ps _ (by simpa [AV.plain] using h) hk
  | .fb f ps,K,h,hk => by simp only [renC]; exact plains_ren σ ps _ (by simpa [AV.plain] using h) hk
  | .ref ..,_,h,_ => by simp [AV.plain] at h
  | .osl ..,_,h,_ => by simp [AV.plain] at h
  | .mp _,_,h,_ => by simp [AV.plain] at h
  | .junk,_,h,_ => by simp [AV.plain] at h
  | .int ..,_,_,hk => by simpa only [renC] using hk
  | .bool _,_,_,hk => by simpa only [renC] using hk
  | .str _,_,_,hk => by simpa only [renC] using hk
  | .nilp,_,_,hk => by simpa only [renC] using hk
  | .ints ..,_,_,hk => by simpa only [renC] using hk
  | .lst ..,_,_,hk => by simpa only [renC] using hk
  | .sl _,_,_,hk => by simpa only [renC] using hk
  | .nils,_,_,hk => by simpa only [renC] using hk
  | .pp ..,_,_,hk => by simpa only [renC] using hk
  | .nilf,_,_,hk => by simpa only [renC] using hk
  | .nilm,_,_,hk => by simpa only [renC] using hk
  | .opq,_,_,hk => by simpa only [renC] using hk
theorem plains_ren (σ : List (Nat × Nat)) : ∀ (vs : List AV) (K : List AV → Prop),AV.plains vs = true → K vs → rensC σ vs K
  | [],_,_,hk => by simpa only [rensC] using hk
  | v :: vs,K,h,hk => by
    simp only [AV.plains,Bool.and_eq_true] at h
    simp only [rensC]
    exact plain_ren σ v _ h.1 (plains_ren σ vs _ h.2 hk)
end
def End0 (P : Program) (rs : List ResultVar) (r : AV) : CK:=fun T O _ => resC P T O rs fun vs => matC [] [] [] r (packC vs)
def EndX (O0 : OO) (r : AV) (O' : OO) (v : AV) (O : OO) : Prop:=∃ (σ : List (Nat × Nat)) (Z F : List Nat),okE σ Z F O0 = true ∧ matC σ Z (frzO O F) r v ∧ holdsN O σ Z (frzO O F) O' ∧ varsOK σ O0
def EndN (P : Program) (rs : List ResultVar) (O0 : OO) (r : AV) (O' : OO) : CK:=fun T O _ => resC P T O rs fun vs => ev (packC vs) fun v => EndX O0 r O' v O
section
variable {P : Program} {O O' : OO} {n : Nat}
theorem resC_mono {T : TT} : ∀ {rs : List ResultVar} {κ κ' : List AV → Prop},(∀ vs,κ vs → κ' vs) → resC P T O rs κ → resC P T O rs κ':=by
  intro rs
  induction rs with
  | nil => intro κ κ' h hk; exact h _ hk
  | cons r rs ih =>
    intro κ κ' h hk
    cases r with
    | tmp t =>
      simp only [resC,lkC_eq] at hk ⊢
      cases hl : lk T t with
      | none => rw [hl] at hk; exact hk
      | some v => rw [hl] at hk; exact ih (fun vs => h (v :: vs)) hk
    | cell t ty =>
      simp only [resC,lkC_eq] at hk ⊢
      cases hl : lk T t with
      | none => rw [hl] at hk; exact hk
      | some p =>
        rw [hl] at hk
        obtain ⟨y,h1,h2⟩:=hk
        obtain ⟨q,h3,h4⟩:=loadC_pt p _ h2
        exact ⟨y,h1,h4 _ ⟨h3.1,h3.2.1,ih (fun vs => h (q :: vs)) h3.2.2⟩⟩
theorem varsOK_nil : ∀ (O : OO),varsOK [] O
  | [] => trivial
  | (o,ob) :: O => ⟨fun _ o' h => (by cases h),varsOK_nil O⟩
theorem frzO_nil : ∀ O : OO,frzO O [] = []
  | [] => rfl
  | (o,ob) :: O => by simp [frzO,frzO_nil O]
theorem End0_EndC {rs : List ResultVar} {O0 : OO} {r : AV} (T : TT) (O : OO) (n : Nat) (h : End0 P rs r T O n) : EndC P rs O0 r [] T O n :=
  resC_mono (fun vs e => ⟨[],[],[],rfl,by rw [frzO_nil]; exact e,trivial,varsOK_nil O0⟩) h
theorem fn0 (hm : P.follows .mixedOrders = true) (tb : List (Nat × Plan)) {f : FuncId} {fn : Func} {c : Code} {args : List AV} {r : AV} (k na : Nat) (rs : List ResultVar) (hf : P.funcs[f]? = some fn) (hb : fn.body = some c) (hres : fn.results.toList = rs)
    (hnm : (fn.name == "runtime.NumGoroutine") = false) (hna : args.length = na) (hN : Nat.ble na fn.ntmps = true) (hd : dstOK tb fn.ntmps c = true) (hk : ∀ p ∈ O,p.1 < k)
    (h : ev (numT 0 args) fun T => vcC P tb k c (End0 P rs r) (fun _ _ _ _ => False) (End0 P rs r) T O k) : FnC P f args O r [] :=
  fn_of_vc hm tb k hf hb hnm (by rw [hna]; exact Nat.le_of_ble_eq_true hN) hd hk k (Nat.le_refl _) (fun o c h => hk _ (lk_mem h)) (End0 P rs r) (fun T O1 n he => by rw [hres]; exact End0_EndC T O1 n he) h
theorem fnN (hm : P.follows .mixedOrders = true) (tb : List (Nat × Plan)) {f : FuncId} {fn : Func} {c : Code} {args : List AV} {r : AV} (k na : Nat) (rs : List ResultVar) (hf : P.funcs[f]? = some fn) (hb : fn.body = some c) (hres : fn.results.toList = rs)
    (hnm : (fn.name == "runtime.NumGoroutine") = false) (hna : args.length = na) (hN : Nat.ble na fn.ntmps = true) (hd : dstOK tb fn.ntmps c = true) (hk : ∀ p ∈ O,p.1 < k)
    (h : ev (numT 0 args) fun T => ev O fun O1 => vcC P tb k c (EndN P rs O r O') (fun _ _ _ _ => False) (EndN P rs O r O') T O1 k) : FnC P f args O r O' :=
  fn_of_vc hm tb k hf hb hnm (by rw [hna]; exact Nat.le_of_ble_eq_true hN) hd hk k (Nat.le_refl _) (fun o c h => hk _ (lk_mem h)) (EndN P rs O r O') (fun T O1 n he => by rw [hres]; exact he) h
theorem fnV (hm : P.follows .mixedOrders = true) (tb : List (Nat × Plan)) {f : FuncId} {fn : Func} {c : Code} {args : List AV} {r : AV} (k0 k na : Nat) (rs : List ResultVar) (hf : P.funcs[f]? = some fn) (hb : fn.body = some c) (hres : fn.results.toList = rs)
    (hnm : (fn.name == "runtime.NumGoroutine") = false) (hna : args.length = na) (hN : Nat.ble na fn.ntmps = true) (hd : dstOK tb fn.ntmps c = true) (hk : ∀ p ∈ O,p.1 < k) (hk0 : Nat.ble k0 k = true) (hv : (O.all fun p => match p.2 with | .var _ => Nat.ble (p.1 + 1) k0 | _ => true) = true)
    (h : ev (numT 0 args) fun T => ev O fun O1 => vcC P tb k0 c (EndN P rs O r O') (fun _ _ _ _ => False) (EndN P rs O r O') T O1 k) : FnC P f args O r O' :=
  fn_of_vc hm tb k hf hb hnm (by rw [hna]; exact Nat.le_of_ble_eq_true hN) hd hk k0 (Nat.le_of_ble_eq_true hk0) (fun o c h => Nat.le_of_ble_eq_true (List.all_eq_true.1 hv _ (lk_mem h))) (EndN P rs O r O') (fun T O1 n he => by rw [hres]; exact he) h
theorem argsOK_plain (bor : Bool) (σ : List (Nat × Nat)) (O : OO) : ∀ {as : List AV},AV.plains as = true → argsOK bor σ O as as
  | [],_ => trivial
  | a :: as,h => by
    simp only [AV.plains,Bool.and_eq_true] at h
    exact ⟨.inl (plain_ren _ _ _ h.1 rfl),argsOK_plain bor σ O h.2⟩
theorem rmsO_nil (O : OO) (κ : OO → Prop) (h : κ O) : rmsO O [] κ:=by cases O <;> exact h
theorem call0 {f : FuncId} {args : List AV} {r : AV} {κ : KK} (h : FnC P f args [] r []) (hk : κ r O n) (ha : AV.plains args = true:=by rfl) (hr : r.plain = true:=by rfl) : CallP P f args O n κ :=
  ⟨[],false,[],[],args,[],O,r,[],n,h.k,rmsO_nil _ _ rfl,argsOK_plain _ _ _ ha,trivial,rfl,List.nodup_nil,List.nodup_nil,Nat.le_refl _,List.nodup_nil,List.nodup_nil,trivial,rfl,fun h => (by cases h),plain_ren _ _ _ hr hk⟩
theorem callB {f : FuncId} {args A : List AV} {r : AV} {κ : KK} (h : FnC P f A [] r []) (ha : argsOK true [] O args A) (hk : κ r O n) (hr : r.plain = true:=by rfl) (hp : r.pf = true:=by rfl) : CallP P f args O n κ :=
  ⟨[],true,[],[],A,[],O,r,[],n,h.k,rmsO_nil _ _ rfl,ha,trivial,rfl,List.nodup_nil,List.nodup_nil,Nat.le_refl _,List.nodup_nil,List.nodup_nil,trivial,rfl,fun _ => ⟨hp,fun p hp => by cases hp⟩,plain_ren _ _ _ hr hk⟩
end
attribute [go_sem ↓] End0 EndN
attribute [go_sem] exists_false AV.sl.injEq and_false false_and List.take_zero List.take_succ_cons List.drop_zero List.drop_succ_cons List.take_nil List.drop_nil Int.sub_zero List.length_map List.length_replicate OB.var.injEq exists_eq' forall_eq' Nat.zero_add Nat.add_zero Int.zero_add Int.add_zero Nat.sub_zero Nat.zero_mul Nat.mul_one Nat.one_mul ne_eq reduceCtorEq not_false_eq_true false_imp_iff true_implies implies_true true_or or_true or_false false_or List.contains_nil List.contains_cons Bool.true_or Bool.or_true Bool.false_or Bool.or_false Int.cast_ofNat_Int Bool.false_eq_true Bool.true_eq_false List.set_cons_zero List.set_cons_succ List.getD_cons_zero List.getD_cons_succ List.replicate_zero
end Go.Sy
namespace Go.Sy
open Go
set_option linter.unusedVariables false
def Nxt {ι : Type} (k m : Nat) (Q : ι → Prop) (I : ι → TT) (J : ι → OO) (μ : ι → Nat) (i : ι) (T : TT) (O : OO) : Prop :=
  ∃ i' σ Z F,Q i' ∧ μ i' < μ i ∧ okσ k m σ Z F = true ∧ idsOK σ k ∧ tmpsOK σ Z (frzO O F) T (I i') ∧ holdsN O σ Z (frzO O F) (J i')
theorem loop {k : Nat} {F : CK → CK} {T : TT} {O : OO} {n : Nat} {ι : Type} (m : Nat) (Q : ι → Prop) (I : ι → TT) (J : ι → OO) (μ : ι → Nat) (i0 : ι) (σ0 : List (Nat × Nat)) (Z0 : List Nat) (h0 : Q i0) (hσ : okσ k m σ0 Z0 [] = true)
    (hid : idsOK σ0 k) (hT : tmpsOK σ0 Z0 [] T (I i0)) (hO : holdsN O σ0 Z0 [] (J i0)) (h : ∀ i,Q i → F (fun T O _ => Nxt k m Q I J μ i T O) (I i) (J i) m) : VLoop k F T O n:=by
  refine ⟨{ i // Q i },fun i => I i.1,fun i => J i.1,fun _ => m,fun i => μ i.1,⟨i0,h0⟩,⟨σ0,Z0,[],hσ,hid,by rw [frzO_nil]; exact hT,by rw [frzO_nil]; exact hO⟩,fun i => ?_⟩
  have:=h i.1 i.2
  have e : (fun (T : TT) (O : OO) (_ : Nat) => Nxt k m Q I J μ i.1 T O) = fun (T' : TT) (O' : OO) (_ : Nat) => ∃ i' : { i // Q i },μ i'.1 < μ i.1 ∧ Sub k T' O' (I i'.1) (J i'.1) m:=by
    funext T O n
    exact propext ⟨fun ⟨i',σ,Z,F,hq,hμ,a,b,c,d⟩ => ⟨⟨i',hq⟩,hμ,σ,Z,F,a,b,c,d⟩,fun ⟨⟨i',hq⟩,hμ,σ,Z,F,a,b,c,d⟩ => ⟨i',σ,Z,F,hq,hμ,a,b,c,d⟩⟩
  rwa [e] at this
theorem subC_len (kk : IntKind) (m : Nat) (xs : List Int) (lo len : Nat) (κ : AV → Prop) (h : xs.length = m) : subC (.ints kk m xs) lo len κ = (lo + len ≤ m ∧ κ (.ints kk len ((xs.drop lo).take len))):=by
  rw [subC_ints]
  by_cases e : lo = 0 ∧ len = m
  · obtain ⟨rfl,rfl⟩:=e
    subst h
    rw [decide_eq_true ⟨rfl,rfl⟩,brC_true]; simp
  · rw [decide_eq_false e,brC_false]
theorem cut {k : Nat} {G : CK} {T : TT} {O : OO} {n : Nat} (m : Nat) (I : TT) (J : OO) (σ : List (Nat × Nat)) (Z F : List Nat) (hσ : okσ k m σ Z F = true) (hid : idsOK σ k) (hT : tmpsOK σ Z (frzO O F) T I) (hO : holdsN O σ Z (frzO O F) J) (h : G I J m) : Cut k G T O n :=
  ⟨I,J,m,⟨σ,Z,F,hσ,hid,hT,hO⟩,h⟩
def fresh (n : Nat) : Nat → List (Nat × Nat)
  | 0 => []
  | m + 1 => fresh n m ++ [(m,n + m)]
theorem rmsO_run {l : List Nat} : ∀ {O : OO} {κ : OO → Prop},rmsO O l κ → ∃ O2,(rmsO O l fun O' => O' = O2) ∧ κ O2:=by
  have one : ∀ {O : OO} {o : Nat} {κ : OO → Prop},rmO O o κ → ∃ O2,κ O2 ∧ ∀ κ',κ' O2 → rmO O o κ':=by
    intro O
    induction O with
    | nil => intro o κ h; exact ⟨[],h,fun _ h => h⟩
    | cons p O ih =>
      obtain ⟨i,ob⟩:=p
      intro o κ h
      simp only [rmO] at h ⊢
      split at h
      · rename_i e
        obtain ⟨O2,h1,h2⟩:=ih h
        exact ⟨O2,h1,fun κ' hk => by rw [if_pos e]; exact h2 _ hk⟩
      · rename_i e
        obtain ⟨O2,h1,h2⟩:=ih h
        exact ⟨_,h1,fun κ' hk => by rw [if_neg e]; exact h2 _ hk⟩
  induction l with
  | nil =>
    intro O κ h
    refine ⟨O,?_,?_⟩
    · cases O <;> rfl
    · cases O <;> exact h
  | cons o l ih =>
    intro O κ h
    have h' : rmO O o fun O' => rmsO O' l κ:=by cases O <;> exact h
    obtain ⟨O1,h1,h2⟩:=one h'
    obtain ⟨O2,h3,h4⟩:=ih h1
    refine ⟨O2,?_,h4⟩
    have : rmO O o fun O' => rmsO O' l fun O' => O' = O2:=h2 _ h3
    cases O <;> exact this
section
variable {P : Program} {O O' O1 : OO} {n : Nat}
theorem callG {f : FuncId} {args A : List AV} {r : AV} {κ : KK} (bor : Bool) (σ τ : List (Nat × Nat)) (n' : Nat) (h : FnC P f A O1 r O') (h1 : (σ.map (·.1) = keys O1) ∧ (keys O1).Nodup ∧ (σ.map (·.2)).Nodup ∧ n ≤ n' ∧ (τ.map (·.1)).Nodup ∧ (τ.map (·.2)).Nodup ∧ τ.map (·.1) = keys O')
    (hk : ev (σ.map (·.2)) fun l => rmsO O l fun O2 => argsOK bor σ O2 args A ∧ holdsO O σ O1 ∧ homesOK σ τ O1 n n' O' ∧ (bor = true → r.pf = true ∧ ∀ p ∈ O',p.2.pf = true) ∧ renC τ r fun r' => renOO τ O' fun L => κ r' (L ++ O2) n') : CallP P f args O n κ:=by
  obtain ⟨O2,k0,k1,k2,k3,k4,k5⟩:=rmsO_run hk
  obtain ⟨a1,a2,a3,a4,a5,a6,a7⟩:=h1
  exact ⟨[],bor,σ,τ,A,O1,O2,r,O',n',h.k,k0,k1,k2,a1,a2,a3,a4,a5,a6,k3.k idC_mono,a7,k4,k5⟩
theorem callK {f : FuncId} {args A : List AV} {r : AV} {κ : KK} {ks : List Nat} (bor : Bool) (σ τ : List (Nat × Nat)) (n' : Nat) (h : FnK P ks f A O1 r O') (h1 : (σ.map (·.1) = keys O1) ∧ (keys O1).Nodup ∧ (σ.map (·.2)).Nodup ∧ n ≤ n' ∧ (τ.map (·.1)).Nodup ∧ (τ.map (·.2)).Nodup ∧ τ.map (·.1) = keys O')
    (hk : ev (σ.map (·.2)) fun l => rmsO O l fun O2 => argsOK bor σ O2 args A ∧ holdsO O σ O1 ∧ homesK ks σ τ O1 n n' O' ∧ (bor = true → r.pf = true ∧ ∀ p ∈ O',p.2.pf = true) ∧ renC τ r fun r' => renOO τ O' fun L => κ r' (L ++ O2) n') : CallP P f args O n κ:=by
  obtain ⟨O2,k0,k1,k2,k3,k4,k5⟩:=rmsO_run hk
  obtain ⟨a1,a2,a3,a4,a5,a6,a7⟩:=h1
  exact ⟨ks,bor,σ,τ,A,O1,O2,r,O',n',h,k0,k1,k2,a1,a2,a3,a4,a5,a6,k3,a7,k4,k5⟩
theorem callGB {f : FuncId} {args A : List AV} {r : AV} {κ : KK} (σ τ : List (Nat × Nat)) (n' : Nat) (h : FnC P f A O1 r O') (h1 : (σ.map (·.1) = keys O1) ∧ (keys O1).Nodup ∧ (σ.map (·.2)).Nodup ∧ n ≤ n' ∧ (τ.map (·.1)).Nodup ∧ (τ.map (·.2)).Nodup ∧ τ.map (·.1) = keys O')
    (hk : ev (σ.map (·.2)) fun l => rmsO O l fun O2 => argsOK true σ O2 args A ∧ holdsO O σ O1 ∧ homesOK σ τ O1 n n' O' ∧ renC τ r fun r' => renOO τ O' fun L => κ r' (L ++ O2) n') (hp : r.pf = true:=by rfl) (hq : (O'.all fun p => p.2.pf) = true:=by rfl) : CallP P f args O n κ:=by
  obtain ⟨O2,k0,k1,k2,k3,k5⟩:=rmsO_run hk
  obtain ⟨a1,a2,a3,a4,a5,a6,a7⟩:=h1
  exact ⟨[],true,σ,τ,A,O1,O2,r,O',n',h.k,k0,k1,k2,a1,a2,a3,a4,a5,a6,k3.k idC_mono,a7,fun _ => ⟨hp,fun p hp => List.all_eq_true.1 hq p hp⟩,k5⟩
theorem idC_fresh {K : Nat → Prop} {o : Nat} : ∀ {m : Nat},o < m → K (n + o) → idC (fresh n m) o K:=by
  have app : ∀ (l : List (Nat × Nat)) (p : Nat × Nat),(∀ q ∈ l,q.1 ≠ o) → (p.1 = o ∧ K p.2) → idC (l ++ [p]) o K:=by
    intro l
    induction l with
    | nil => intro p _ h; simp only [List.nil_append,idC]; rw [if_pos h.1]; exact h.2
    | cons q l ih =>
      intro p h hp
      simp only [List.cons_append,idC]
      rw [if_neg (h q (by simp))]
      exact ih p (fun q hq => h q (by simp [hq])) hp
  have appl : ∀ (l : List (Nat × Nat)) (p : Nat × Nat),idC l o K → idC (l ++ [p]) o K:=by
    intro l
    induction l with
    | nil => intro p h; exact h.elim
    | cons q l ih =>
      intro p h
      simp only [List.cons_append,idC] at h ⊢
      split at h
      · rename_i e; rw [if_pos e]; exact h
      · rename_i e; rw [if_neg e]; exact ih p h
  intro m
  induction m with
  | zero => intro h; omega
  | succ m ih =>
    intro h hk
    by_cases e : o = m
    · subst e
      refine app _ _ (fun q hq => ?_) ⟨rfl,hk⟩
      have : ∀ m,∀ q ∈ fresh n m,q.1 < m:=by
        intro m
        induction m with
        | zero => intro q hq; cases hq
        | succ m ih =>
          intro q hq
          simp only [fresh,List.mem_append,List.mem_singleton] at hq
          rcases hq with hq | rfl
          · have:=ih q hq; omega
          · exact Nat.lt_succ_self _
      have:=this _ q hq
      omega
    · exact appl _ _ (ih (by omega) hk)
theorem fresh_fst : ∀ m,(fresh n m).map (·.1) = List.range m
  | 0 => rfl
  | m + 1 => by simp [fresh,fresh_fst m,List.range_succ]
theorem fresh_snd : ∀ m,(fresh n m).map (·.2) = (List.range m).map (n + ·)
  | 0 => rfl
  | m + 1 => by simp [fresh,fresh_snd m,List.range_succ]
theorem fresh_homes {m : Nat} : ∀ {O' : OO},(∀ o ∈ keys O',o < m) → homesOK [] (fresh n m) [] n (n + m) O'
  | [],_ => trivial
  | (o,ob) :: O',h => ⟨idC_fresh (h o (by simp [keys])) (.inl ⟨by omega,by have:=h o (by simp [keys]); omega⟩),fresh_homes fun o ho => h o (by simp only [keys,List.map_cons,List.mem_cons] at ho ⊢; exact .inr ho)⟩
theorem fresh_ok (m : Nat) {O' : OO} (hO : keys O' = List.range m) : (([] : List (Nat × Nat)).map (·.1) = keys ([] : OO)) ∧ (keys ([] : OO)).Nodup ∧ (([] : List (Nat × Nat)).map (·.2)).Nodup ∧ n ≤ n + m ∧ ((fresh n m).map (·.1)).Nodup ∧ ((fresh n m).map (·.2)).Nodup ∧ (fresh n m).map (·.1) = keys O':=by
  refine ⟨rfl,List.nodup_nil,List.nodup_nil,Nat.le_add_right _ _,?_,?_,?_⟩
  · rw [fresh_fst]; exact List.nodup_range
  · rw [fresh_snd]
    exact List.Pairwise.map _ (fun a b h => by intro e; exact h (by omega)) List.nodup_range
  · rw [fresh_fst,hO]
theorem callF {f : FuncId} {args : List AV} {r : AV} {κ : KK} (m : Nat) (h : FnC P f args [] r O') (hk : renC (fresh n m) r fun r' => renOO (fresh n m) O' fun L => κ r' (L ++ O) (n + m)) (ha : AV.plains args = true:=by rfl) (hO : keys O' = List.range m:=by rfl) : CallP P f args O n κ :=
  callG false [] (fresh n m) (n + m) h (fresh_ok m hO) (by
    have : rmsO O [] fun O2 => argsOK false [] O2 args args ∧ holdsO O [] [] ∧ homesOK [] (fresh n m) [] n (n + m) O' ∧ (false = true → r.pf = true ∧ ∀ p ∈ O',p.2.pf = true) ∧ renC (fresh n m) r fun r' => renOO (fresh n m) O' fun L => κ r' (L ++ O2) (n + m) :=
      rmsO_nil _ _ ⟨argsOK_plain _ _ _ ha,trivial,fresh_homes (fun o ho => by rw [hO] at ho; simpa using ho),(fun h => by cases h),hk⟩
    exact this)
theorem callBF {f : FuncId} {args A : List AV} {r : AV} {κ : KK} (m : Nat) (h : FnC P f A [] r O') (ha : argsOK true [] O args A) (hk : renC (fresh n m) r fun r' => renOO (fresh n m) O' fun L => κ r' (L ++ O) (n + m)) (hO : keys O' = List.range m:=by rfl) (hp : r.pf = true:=by rfl) (hq : (O'.all fun p => p.2.pf) = true:=by rfl) : CallP P f args O n κ :=
  callG true [] (fresh n m) (n + m) h (fresh_ok m hO) (by
    have : rmsO O [] fun O2 => argsOK true [] O2 args A ∧ holdsO O [] [] ∧ homesOK [] (fresh n m) [] n (n + m) O' ∧ (true = true → r.pf = true ∧ ∀ p ∈ O',p.2.pf = true) ∧ renC (fresh n m) r fun r' => renOO (fresh n m) O' fun L => κ r' (L ++ O2) (n + m) :=
      rmsO_nil _ _ ⟨ha,trivial,fresh_homes (fun o ho => by rw [hO] at ho; simpa using ho),(fun _ => ⟨hp,fun p hp => List.all_eq_true.1 hq p hp⟩),hk⟩
    exact this)
end
theorem wrap_i64 {n : Int} (h : -9223372036854775808 ≤ n) (h' : n < 9223372036854775808) : IntKind.i64.wrap n = n:=by
  have e : IntKind.i64.wrap n = if (9223372036854775808 : Int) ≤ n % 18446744073709551616 then n % 18446744073709551616 - 18446744073709551616 else n % 18446744073709551616:=by
    show (if (true && decide ((9223372036854775808 : Int) ≤ n % 18446744073709551616)) = true then _ else _) = _
    by_cases h : (9223372036854775808 : Int) ≤ n % 18446744073709551616 <;> simp [h] <;> rfl
  rw [e]
  split <;> omega
theorem wrap_u64 {n : Int} (h : 0 ≤ n) (h' : n < 18446744073709551616) : IntKind.u64.wrap n = n:=by
  simp only [IntKind.wrap,IntKind.bits,IntKind.signed,Bool.false_and]
  simp; omega
theorem wrap_u32 {n : Int} (h : 0 ≤ n) (h' : n < 4294967296) : IntKind.u32.wrap n = n:=by
  simp only [IntKind.wrap,IntKind.bits,IntKind.signed,Bool.false_and]
  simp; omega
theorem wrap_u16 {n : Int} (h : 0 ≤ n) (h' : n < 65536) : IntKind.u16.wrap n = n:=by
  simp only [IntKind.wrap,IntKind.bits,IntKind.signed,Bool.false_and]
  simp; omega
theorem wrap_u8 {n : Int} (h : 0 ≤ n) (h' : n < 256) : IntKind.u8.wrap n = n:=by
  simp only [IntKind.wrap,IntKind.bits,IntKind.signed,Bool.false_and]
  simp; omega
theorem osl_cond (a : Nat) (b : List Stp) (c d e z : Nat) : (∀ (o : Nat) (p : List Stp) (sz lo len : Nat),AV.osl a b c d e = AV.osl o p sz lo len → sz = z) = (c = z):=by
  apply propext
  constructor
  · intro h; exact h _ _ _ _ _ rfl
  · rintro h o p sz lo len e; cases e; exact h
theorem le_and {a b : Int} {K : Prop} (h : a ≤ b) : (a ≤ b ∧ K) = K:=by simp [h]
theorem lt_and {a b : Int} {K : Prop} (h : a < b) : (a < b ∧ K) = K:=by simp [h]
theorem nle_and {a b : Nat} {K : Prop} (h : a ≤ b) : (a ≤ b ∧ K) = K:=by simp [h]
theorem nlt_and {a b : Nat} {K : Prop} (h : a < b) : (a < b ∧ K) = K:=by simp [h]
theorem ne_and {a b : Int} {K : Prop} (h : a ≠ b) : (a ≠ b ∧ K) = K:=by simp [h]
theorem wf_u8 {t : Int} (h : (Lit.int .u8 t).wf = true) : 0 ≤ t ∧ t < 256:=by
  simp [Lit.wf,IntKind.min,IntKind.max,IntKind.signed,IntKind.bits] at h; omega
attribute [go_sem ↓] fresh
attribute [go_sem] Int.toNat_natCast Int.natCast_add Int.natCast_mul Int.natCast_zero Int.natCast_one Int.cast_ofNat_Int
attribute [go_sem] osl_cond Ty.int.injEq
attribute [go_sem] wrap_i64 wrap_u64 wrap_u32 wrap_u16 wrap_u8 le_and lt_and nle_and nlt_and ne_and
end Go.Sy
namespace Go.Sy
open Go
set_option linter.unusedVariables false
theorem ishr_div (k : IntKind) (a : Int) (n : Nat) (h : n ≤ k.bits) : ishr k a n = a / 2 ^ n:=by
  unfold ishr
  rw [Nat.min_eq_left h]
  exact Int.fdiv_eq_ediv_of_nonneg a (Int.le_of_lt (Int.pow_pos (by decide)))
theorem ofInt_toNat {w : Nat} {a : Int} (h : 0 ≤ a) (h' : a < 2 ^ w) : (BitVec.ofInt w a).toNat = a.toNat:=by
  rw [BitVec.toNat_ofInt]
  rw [Int.emod_eq_of_lt h (by exact_mod_cast h')]
theorem iand_nat {k : IntKind} {a b : Int} (ha : 0 ≤ a) (ha' : a < 2 ^ k.bits) (hb : 0 ≤ b) (hb' : b < 2 ^ k.bits) : iand k a b = k.wrap ((a.toNat &&& b.toNat : Nat) : Int):=by
  unfold iand
  rw [BitVec.toNat_and,ofInt_toNat ha ha',ofInt_toNat hb hb']
theorem ior_nat {k : IntKind} {a b : Int} (ha : 0 ≤ a) (ha' : a < 2 ^ k.bits) (hb : 0 ≤ b) (hb' : b < 2 ^ k.bits) : ior k a b = k.wrap ((a.toNat ||| b.toNat : Nat) : Int):=by
  unfold ior
  rw [BitVec.toNat_or,ofInt_toNat ha ha',ofInt_toNat hb hb']
theorem and_mask (n j : Nat) : n &&& (2 ^ j - 1) = n % 2 ^ j:=Nat.and_two_pow_sub_one_eq_mod n j
theorem iand_mask {k : IntKind} {a b : Int} (j : Nat) (hb : b = 2 ^ j - 1) (hj : j < k.bits) (ha : 0 ≤ a) (ha' : a < 2 ^ k.bits) : iand k a b = a % 2 ^ j:=by
  have hp : (1 : Int) ≤ 2 ^ j:=Int.pow_pos (by decide)
  have hlt : (2 : Int) ^ j < 2 ^ k.bits:=by
    have:=Nat.pow_lt_pow_right (show 1 < 2 by decide) hj
    exact_mod_cast this
  rw [iand_nat ha ha' (by omega) (by omega)]
  have e : b.toNat = 2 ^ j - 1:=by
    rw [hb]
    have : ((2 : Int) ^ j - 1) = ((2 ^ j - 1 : Nat) : Int):=by
      rw [Int.natCast_sub (Nat.one_le_two_pow)]
      simp
    rw [this,Int.toNat_natCast]
  rw [e,and_mask]
  have e2 : ((a.toNat % 2 ^ j : Nat) : Int) = a % 2 ^ j:=by
    rw [Int.natCast_emod,Int.toNat_of_nonneg ha]
    simp
  rw [e2]
  have h0 : 0 ≤ a % 2 ^ j:=Int.emod_nonneg _ (by omega)
  have h1 : a % 2 ^ j < 2 ^ j:=Int.emod_lt_of_pos _ (by omega)
  have hh : (2 : Int) ^ j ≤ 2 ^ (k.bits - 1):=by
    have:=Nat.pow_le_pow_right (show 0 < 2 by decide) (show j ≤ k.bits - 1 by omega)
    exact_mod_cast this
  unfold IntKind.wrap
  rw [Int.emod_eq_of_lt h0 (by omega)]
  simp only []
  rw [if_neg]
  simp only [Bool.and_eq_true,decide_eq_true_eq,not_and,ge_iff_le]
  intro _
  omega
end Go.Sy
namespace Go.Sy
open Go
set_option linter.unusedVariables false
theorem ixor_nat {k : IntKind} {a b : Int} (ha : 0 ≤ a) (ha' : a < 2 ^ k.bits) (hb : 0 ≤ b) (hb' : b < 2 ^ k.bits) : ixor k a b = k.wrap ((a.toNat ^^^ b.toNat : Nat) : Int):=by
  unfold ixor
  rw [BitVec.toNat_xor,ofInt_toNat ha ha',ofInt_toNat hb hb']
def isW (a : Int) : Prop:=0 ≤ a ∧ a < 4294967296
theorem isW.nat {a : Int} (h : isW a) : a.toNat < 2 ^ 32:=by have:=h.1; have:=h.2; omega
theorem isW.of {n : Nat} (h : n < 2 ^ 32) : isW (n : Int):=⟨by omega,by omega⟩
theorem wrapW {n : Nat} (h : n < 2 ^ 32) : IntKind.u32.wrap (n : Int) = n:=wrap_u32 (by omega) (by omega)
theorem wrap_isW (n : Int) : isW (IntKind.u32.wrap n):=by
  have : IntKind.u32.wrap n = n % 4294967296:=by simp [IntKind.wrap,IntKind.signed,IntKind.bits]
  rw [this]
  exact ⟨by omega,by omega⟩
theorem andW {a b : Int} (ha : isW a) (hb : isW b) : iand .u32 a b = ((a.toNat &&& b.toNat : Nat) : Int):=by
  rw [iand_nat (k:=.u32) ha.1 ha.2 hb.1 hb.2]
  exact wrapW (Nat.and_lt_two_pow _ hb.nat)
theorem orW {a b : Int} (ha : isW a) (hb : isW b) : ior .u32 a b = ((a.toNat ||| b.toNat : Nat) : Int):=by
  rw [ior_nat (k:=.u32) ha.1 ha.2 hb.1 hb.2]
  exact wrapW (Nat.or_lt_two_pow ha.nat hb.nat)
theorem xorW {a b : Int} (ha : isW a) (hb : isW b) : ixor .u32 a b = ((a.toNat ^^^ b.toNat : Nat) : Int):=by
  rw [ixor_nat (k:=.u32) ha.1 ha.2 hb.1 hb.2]
  exact wrapW (Nat.xor_lt_two_pow ha.nat hb.nat)
theorem and_isW {a b : Int} (ha : isW a) (hb : isW b) : isW (iand .u32 a b):=by rw [andW ha hb]; exact .of (Nat.and_lt_two_pow _ hb.nat)
theorem or_isW {a b : Int} (ha : isW a) (hb : isW b) : isW (ior .u32 a b):=by rw [orW ha hb]; exact .of (Nat.or_lt_two_pow ha.nat hb.nat)
theorem xor_isW {a b : Int} (ha : isW a) (hb : isW b) : isW (ixor .u32 a b):=by rw [xorW ha hb]; exact .of (Nat.xor_lt_two_pow ha.nat hb.nat)
theorem notW {a : Int} (ha : isW a) : inot .u32 a = 4294967295 - a:=by
  have h0:=ha.1
  have h1:=ha.2
  have hM : isW 4294967295:=⟨by decide,by decide⟩
  show ixor .u32 4294967295 a = _
  rw [xorW hM ha]
  have e : (4294967295 : Int).toNat ^^^ a.toNat = 4294967295 - a.toNat:=by
    apply Nat.eq_of_testBit_eq
    intro i
    have hs:=Nat.testBit_two_pow_sub_succ (x:=a.toNat) (n:=32) ha.nat i
    have hm:=Nat.testBit_two_pow_sub_one 32 i
    rw [show 4294967295 - a.toNat = 2 ^ 32 - (a.toNat + 1) by omega,hs,Nat.testBit_xor]
    rw [show (4294967295 : Int).toNat = 2 ^ 32 - 1 by decide,hm]
    by_cases hi : i < 32
    · simp [hi]
    · have : a.toNat.testBit i = false:=Nat.testBit_lt_two_pow (Nat.lt_of_lt_of_le ha.nat (Nat.pow_le_pow_right (by decide) (by omega)))
      simp [hi,this]
  rw [e]
  omega
theorem not_isW {a : Int} (ha : isW a) : isW (4294967295 - a):=by have:=ha.1; have:=ha.2; exact ⟨by omega,by omega⟩
def chI (e f g : Int) : Int:=ixor .u32 (iand .u32 e f) (iand .u32 (4294967295 - e) g)
def maI (a b c : Int) : Int:=ixor .u32 (ixor .u32 (iand .u32 a b) (iand .u32 a c)) (iand .u32 b c)
theorem ch_or {e f g : Int} (he : isW e) (hf : isW f) (hg : isW g) : ior .u32 (iand .u32 e f) (iand .u32 (inot .u32 e) g) = chI e f g:=by
  have hn:=not_isW he
  rw [notW he,chI,orW (and_isW he hf) (and_isW hn hg),xorW (and_isW he hf) (and_isW hn hg),andW he hf,andW hn hg]
  congr 1
  simp only [Int.toNat_natCast]
  apply Nat.eq_of_testBit_eq
  intro i
  have hs:=Nat.testBit_two_pow_sub_succ (x:=e.toNat) (n:=32) he.nat i
  have e2 : (4294967295 - e).toNat = 2 ^ 32 - (e.toNat + 1):=by have:=he.1; have:=he.2; omega
  simp only [Nat.testBit_or,Nat.testBit_xor,Nat.testBit_and,e2,hs]
  cases e.toNat.testBit i <;> cases f.toNat.testBit i <;> cases g.toNat.testBit i <;> simp
theorem ma_or {a b c : Int} (ha : isW a) (hb : isW b) (hc : isW c) : ior .u32 (ior .u32 (iand .u32 a b) (iand .u32 a c)) (iand .u32 b c) = maI a b c:=by
  rw [maI,orW (or_isW (and_isW ha hb) (and_isW ha hc)) (and_isW hb hc),xorW (xor_isW (and_isW ha hb) (and_isW ha hc)) (and_isW hb hc),orW (and_isW ha hb) (and_isW ha hc),xorW (and_isW ha hb) (and_isW ha hc),andW ha hb,andW ha hc,andW hb hc]
  congr 1
  simp only [Int.toNat_natCast]
  apply Nat.eq_of_testBit_eq
  intro i
  simp only [Nat.testBit_or,Nat.testBit_xor,Nat.testBit_and]
  cases a.toNat.testBit i <;> cases b.toNat.testBit i <;> cases c.toNat.testBit i <;> simp
def rot (p q x : Int) : Int:=x / p + x % p * q
theorem rot_bound {p q x : Int} (h : p * q = 4294967296) (hp : 0 < p) (hq : 0 < q) (hx : isW x) : 0 ≤ x / p ∧ x / p < q ∧ 0 ≤ x % p * q ∧ x % p * q ≤ 4294967296 - q:=by
  have h1 : x / p < q:=Int.ediv_lt_of_lt_mul hp (by rw [Int.mul_comm,h]; exact hx.2)
  have h2 : x % p < p:=Int.emod_lt_of_pos _ hp
  have h3 : 0 ≤ x % p:=Int.emod_nonneg _ (by omega)
  have h4 : x % p * q ≤ (p - 1) * q:=Int.mul_le_mul_of_nonneg_right (by omega) (by omega)
  have h5 : (p - 1) * q = 4294967296 - q:=by rw [Int.sub_mul,h,Int.one_mul]
  exact ⟨Int.ediv_nonneg hx.1 (by omega),h1,Int.mul_nonneg h3 (by omega),by omega⟩
theorem rot_right {p q x : Int} (h : p * q = 4294967296) (hp : 0 < p) (hq : 0 < q) (hx : isW x) : IntKind.u32.wrap (x.tdiv p + IntKind.u32.wrap (x.tmod p * q)) = rot p q x:=by
  obtain ⟨h1,h2,h3,h4⟩:=rot_bound h hp hq hx
  rw [Int.tdiv_eq_ediv_of_nonneg hx.1,Int.tmod_eq_emod_of_nonneg hx.1,wrap_u32 (n:=x % p * q) h3 (by omega),wrap_u32 (by omega) (by omega)]
  rfl
theorem rot_left {x : Int} (n m : Nat) (h : n + m = 32) (hx : isW x) : ior .u32 (ishl .u32 x m) (ishr .u32 x n) = rot (2 ^ n) (2 ^ m) x:=by
  have hp : (0 : Int) < 2 ^ n:=Int.pow_pos (by decide)
  have hq : (0 : Int) < 2 ^ m:=Int.pow_pos (by decide)
  have hpq : (2 : Int) ^ n * 2 ^ m = 4294967296:=by rw [← Int.pow_add,h]; decide
  obtain ⟨h1,h2,h3,h4⟩:=rot_bound hpq hp hq hx
  have e1 : ishr .u32 x n = x / 2 ^ n:=ishr_div _ _ n (by show n ≤ 32; omega)
  have e2 : ishl .u32 x m = x % 2 ^ n * 2 ^ m:=by
    unfold ishl
    rw [Nat.min_eq_left (show m ≤ IntKind.u32.bits by show m ≤ 32; omega)]
    have : ∀ n,IntKind.u32.wrap n = n % 4294967296:=fun n => by simp [IntKind.wrap,IntKind.signed,IntKind.bits]
    rw [this,← hpq,Int.mul_comm x,Int.mul_comm (2 ^ n),Int.mul_emod_mul_of_pos _ _ hq,Int.mul_comm]
  have w1 : isW (x % 2 ^ n * 2 ^ m):=⟨h3,by omega⟩
  have w2 : isW (x / 2 ^ n):=⟨h1,Int.lt_of_le_of_lt (Int.ediv_le_self _ hx.1) hx.2⟩
  rw [e1,e2,orW w1 w2]
  have hn : (x % 2 ^ n * 2 ^ m).toNat = (x % 2 ^ n).toNat <<< m:=by
    rw [Nat.shiftLeft_eq]
    have : x % 2 ^ n * 2 ^ m = (((x % 2 ^ n).toNat * 2 ^ m : Nat) : Int):=by
      rw [Int.natCast_mul,Int.toNat_of_nonneg (Int.emod_nonneg _ (by omega))]
      simp
    rw [this,Int.toNat_natCast]
  have hb : (x / 2 ^ n).toNat < 2 ^ m:=by
    have : ((2 ^ m : Nat) : Int) = 2 ^ m:=by simp
    omega
  rw [hn,← Nat.shiftLeft_add_eq_or_of_lt hb,Int.natCast_add,← hn,Int.toNat_of_nonneg w1.1,Int.toNat_of_nonneg w2.1]
  unfold rot
  omega
end Go.Sy
