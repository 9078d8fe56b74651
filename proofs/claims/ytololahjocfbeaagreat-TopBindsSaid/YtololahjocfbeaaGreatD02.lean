/- Texts,joined. -/
import Derived.Test.YtololahjocfbeaaGreatD01
namespace Go.Sy
open Go
theorem lkC_spec {T : TT} {t : Nat} {K : AV → Prop} (h : lkC T t K) : ∃ v,lk T t = some v ∧ K v:=by
  induction T with
  | nil => exact h.elim
  | cons p T ih =>
    obtain ⟨i,v⟩:=p
    simp only [lkC] at h
    simp only [lk]
    split at h
    · rename_i e; exact ⟨v,by simp [e],h⟩
    · rename_i e; obtain ⟨u,hu,hk⟩:=ih h; exact ⟨u,by simp [e,hu],hk⟩
theorem objC_spec {O : OO} {o : Nat} {K : OB → Prop} (h : objC O o K) : ∃ v,lk O o = some v ∧ K v:=by
  induction O with
  | nil => exact h.elim
  | cons p T ih =>
    obtain ⟨i,v⟩:=p
    simp only [objC] at h
    simp only [lk]
    split at h
    · rename_i e; exact ⟨v,by simp [e],h⟩
    · rename_i e; obtain ⟨u,hu,hk⟩:=ih h; exact ⟨u,by simp [e,hu],hk⟩
theorem rmO_spec : ∀ {O : OO} {o : Nat} {K : OO → Prop},rmO O o K → ∃ O',K O' ∧ ∀ i,lk O' i = if i = o then none else lk O i:=by
  intro O
  induction O with
  | nil => intro o K h; exact ⟨[],h,fun i => by simp [lk]⟩
  | cons p O ih =>
    intro o K h
    obtain ⟨j,ob⟩:=p
    simp only [rmO] at h
    split at h
    · rename_i e
      obtain ⟨O',hk,hl⟩:=ih h
      refine ⟨O',hk,fun i => ?_⟩
      rw [hl]
      simp only [lk]
      by_cases hi : i = o
      · simp [hi]
      · have : j ≠ i:=by omega
        simp [hi,this]
    · rename_i e
      obtain ⟨O',hk,hl⟩:=ih h
      refine ⟨_,hk,fun i => ?_⟩
      simp only [lk,hl]
      by_cases hj : j = i
      · have : i ≠ o:=by omega
        simp [hj,this]
      · simp [hj]
theorem updO_spec : ∀ {O : OO} {o : Nat} {p : List Stp} {v : AV} {K : OO → Prop},updO O o p v K → ∃ ob K',lk O o = some ob ∧ updOB ob p v K' ∧
    ∀ ob',K' ob' → ∃ O',K O' ∧ ∀ i,lk O' i = if i = o then some ob' else lk O i:=by
  intro O
  induction O with
  | nil => intro o p v K h; exact h.elim
  | cons q O ih =>
    intro o p v K h
    obtain ⟨j,ob⟩:=q
    simp only [updO] at h
    split at h
    · rename_i e
      subst e
      refine ⟨ob,_,by simp [lk],h,fun ob' hk => ⟨_,hk,fun i => ?_⟩⟩
      simp only [lk]
      by_cases hj : j = i
      · simp [hj]
      · simp [hj,Ne.symm hj]
    · rename_i e
      obtain ⟨ob0,K',h0,hu,hr⟩:=ih h
      refine ⟨ob0,K',by simp [lk,e,h0],hu,fun ob' hk => ?_⟩
      obtain ⟨O',hk',hl⟩:=hr ob' hk
      refine ⟨_,hk',fun i => ?_⟩
      simp only [lk,hl]
      by_cases hj : j = i
      · have : i ≠ o:=by omega
        simp [hj,this]
      · simp [hj]
section
variable {E : Env} {N : Nat} {M : Pool} {β β' : Bmap} {T : TT} {O O' : OO} {n : Nat} {a : Act} {w w' : World} {P : Program}
theorem cell_of {b i : Nat} {v : Value} (h : w.cell? ⟨b,i,none⟩ = some v) : ∃ cs e fz,w.heap[b]? = some (.cells cs e fz) ∧ cs[i]? = some v:=by
  simp only [World.cell?] at h
  split at h
  · rename_i c e f hc; exact ⟨c,e,f,hc,by simpa using h⟩
  · cases h
theorem cell_same {b i : Nat} (h : w'.heap[b]? = w.heap[b]?) : w'.cell? ⟨b,i,none⟩ = w.cell? ⟨b,i,none⟩:=by simp only [World.cell?,h]
theorem St.pool_lt (h : St E M β O w) {b i : Nat} {v : Value} (hm : M b i = some v) : b < w.heap.size:=by
  obtain ⟨cs,e,fz,hb,_⟩:=cell_of (h.pool _ _ _ hm)
  exact (Array.getElem?_eq_some_iff.1 hb).1
theorem OR.mono {b κ : Nat} {ob : OB} (h : OR M β b κ w ob) (hb : BLe β β') (hw : κ ≠ 0 → w'.heap[b]? = w.heap[b]?) : OR M β' b κ w' ob:=by
  cases ob with
  | var c =>
    obtain ⟨hk,hz,cs,e,fz,h1,h2,h3⟩:=h
    exact ⟨hk,hz,cs,e,fz,by rw [hw hk]; exact h1,h2,h3.mono (PLe.refl _) hb⟩
  | row c =>
    obtain ⟨hr,hz,h⟩:=h
    refine ⟨hr,hz,?_⟩
    rcases h with ⟨hk,hc,h⟩ | ⟨hk,cc,sp,e,fz,h1,h2,h3,h4⟩
    · exact .inl ⟨hk,hc,h.mono (PLe.refl _) hb⟩
    · exact .inr ⟨hk,cc,sp,e,fz,by rw [hw hk]; exact h1,h2,h3.mono (PLe.refl _) hb,h4⟩
  | map ks =>
    obtain ⟨hk,es,cl,h1,h2⟩:=h
    exact ⟨hk,es,cl,by rw [hw hk]; exact h1,h2⟩
  | gm f ks vs =>
    obtain ⟨hk,es,cl,h1,h2,h3,h4⟩:=h
    exact ⟨hk,es,cl,by rw [hw hk]; exact h1,h2,h3.mono (PLe.refl _) hb,h4⟩
theorem OR.lt {b κ : Nat} {ob : OB} (h : OR M β b κ w ob) (hk : κ ≠ 0) : b < w.heap.size:=by
  cases ob with
  | var c => obtain ⟨_,_,cs,e,fz,h1,_⟩:=h; exact (Array.getElem?_eq_some_iff.1 h1).1
  | row c =>
    obtain ⟨_,_,h⟩:=h
    rcases h with ⟨h0,_⟩ | ⟨_,cc,sp,e,fz,h1,_⟩
    · exact absurd h0 hk
    · exact (Array.getElem?_eq_some_iff.1 h1).1
  | map ks => obtain ⟨_,es,cl,h1,_⟩:=h; exact (Array.getElem?_eq_some_iff.1 h1).1
  | gm f ks vs => obtain ⟨_,es,cl,h1,_⟩:=h; exact (Array.getElem?_eq_some_iff.1 h1).1
theorem St.next (h : St E M β O w) (hbl : BLe β β') (hsz : w.heap.size ≤ w'.heap.size) (X : Nat → Prop) (hX : ∀ b,X b → (∀ i,M b i = none) ∧ (E.own b ∨ E.w0.heap.size ≤ b))
    (hheap : ∀ b,b < w.heap.size → ¬ X b → w'.heap[b]? = w.heap[b]?) (hos : w'.os = w.os) (ht : w'.tape = w.tape) (ho : w'.output = w.output)
    (hO : ∀ o ob,lk O' o = some ob → (lk O o = some ob ∧ ∀ b κ,β o = some (b,κ) → κ ≠ 0 → ¬ X b) ∨ (∃ b κ,β' o = some (b,κ) ∧ OR M β' b κ w' ob ∧ (κ ≠ 0 → X b ∨ w.heap.size ≤ b)))
    (hinj : ∀ o o' ob ob' b κ κ',lk O' o = some ob → lk O' o' = some ob' → β' o = some (b,κ) → β' o' = some (b,κ') → κ ≠ 0 → κ' ≠ 0 → o = o') : St E M β' O' w':=by
  have nX : ∀ b i v,M b i = some v → ¬ X b:=fun b i v hm hx => by rw [(hX b hx).1 i] at hm; cases hm
  refine ⟨fun b i v hm => ?_,h.sub,h.only,fun o ob hl => ?_,fun o ob b κ hl hb hk => ?_,hinj,Nat.le_trans h.size hsz,fun b hb hn => ?_,by rw [hos,h.os],by rw [ht,h.tape],by rw [ho,h.output]⟩
  · rw [cell_same (hheap b (h.pool_lt hm) (nX _ _ _ hm))]; exact h.pool _ _ _ hm
  · rcases hO o ob hl with ⟨h1,h2⟩ | ⟨b,κ,h1,h2,_⟩
    · obtain ⟨b,κ,hb,hor⟩:=h.objs o ob h1
      exact ⟨b,κ,hbl _ _ hb,hor.mono hbl fun hk => hheap b (hor.lt hk) (h2 b κ hb hk)⟩
    · exact ⟨b,κ,h1,h2⟩
  · rcases hO o ob hl with ⟨h1,h2⟩ | ⟨b',κ',h1,h2,h3⟩
    · obtain ⟨b',κ',hb',_⟩:=h.objs o ob h1
      have:=hbl _ _ hb'
      rw [this] at hb; cases hb
      exact h.mine o ob b κ h1 hb' hk
    · rw [h1] at hb; cases hb
      rcases h3 hk with hx | hx
      · exact hX _ hx
      · refine ⟨fun i => ?_,.inr (Nat.le_trans h.size hx)⟩
        cases hm : M b i with
        | none => rfl
        | some v => exact absurd (h.pool_lt hm) (by omega)
  · have hx : ¬ X b:=fun hx => by
      rcases (hX b hx).2 with h1 | h1
      · exact hn h1
      · omega
    rw [hheap b (Nat.lt_of_lt_of_le hb h.size) hx]
    exact h.keep b hb hn
def updB (β : Bmap) (n : Nat) (x : Nat × Nat) : Bmap:=fun o => if o = n then some x else β o
theorem updB_le (hn : β n = none) (x : Nat × Nat) : BLe β (updB β n x):=fun o y h => by
  unfold updB
  split
  · rename_i e; subst e; rw [hn] at h; cases h
  · exact h
@[simp] theorem updB_same (β : Bmap) (n : Nat) (x : Nat × Nat) : updB β n x n = some x:=by simp [updB]
theorem St.alloc (h : St E M β O w) (hn : β n = none) (b κ : Nat) (x : Obj) (ob : OB) (hb : κ ≠ 0 → b = w.heap.size) (hor : OR M (updB β n (b,κ)) b κ (w.alloc x) ob) :
    St E M (updB β n (b,κ)) ((n,ob) :: O) (w.alloc x):=by
  have hbl:=updB_le hn (b,κ)
  have key : ∀ o' ob' b' κ',lk ((n,ob) :: O) o' = some ob' → o' ≠ n → updB β n (b,κ) o' = some (b',κ') → κ' ≠ 0 → b' < w.heap.size:=by
    intro o' ob' b' κ' hl hne hb' hk
    simp only [lk,if_neg (Ne.symm hne)] at hl
    obtain ⟨b2,κ2,h2,hor2⟩:=h.objs _ _ hl
    rw [hbl _ _ h2] at hb'; cases hb'
    exact hor2.lt hk
  refine h.next hbl (by simp) (fun _ => False) (fun _ hx => hx.elim) (fun c hc _ => ?_) rfl rfl rfl (fun o ob' hl => ?_) ?_
  · show (w.heap.push x)[c]? = _
    rw [Array.getElem?_push,if_neg (by omega)]
  · simp only [lk] at hl
    split at hl
    · rename_i e; subst e; cases hl
      exact .inr ⟨b,κ,by simp,hor,fun hk => .inr (by rw [hb hk]; exact Nat.le_refl _)⟩
    · exact .inl ⟨hl,fun _ _ _ _ hx => hx⟩
  · intro o o' ob1 ob2 b' κ1 κ2 h1 h2 e1 e2 k1 k2
    by_cases c1 : o = n
    · by_cases c2 : o' = n
      · omega
      · subst c1
        simp only [updB_same,Option.some.injEq,Prod.mk.injEq] at e1
        obtain ⟨rfl,rfl⟩:=e1
        have:=key o' ob2 b κ2 h2 c2 e2 k2
        rw [hb k1] at this; omega
    · by_cases c2 : o' = n
      · subst c2
        simp only [updB_same,Option.some.injEq,Prod.mk.injEq] at e2
        obtain ⟨rfl,rfl⟩:=e2
        have:=key o ob1 b κ1 h1 c1 e1 k1
        rw [hb k2] at this; omega
      · have u1 : updB β n (b,κ) o = β o:=by simp [updB,c1]
        have u2 : updB β n (b,κ) o' = β o':=by simp [updB,c2]
        rw [u1] at e1; rw [u2] at e2
        simp only [lk,if_neg (Ne.symm c1)] at h1
        simp only [lk,if_neg (Ne.symm c2)] at h2
        exact h.inj _ _ _ _ _ _ _ h1 h2 e1 e2 k1 k2
end
end Go.Sy
namespace Go.Sy
open Go
section
variable {E : Env} {N : Nat} {M : Pool} {β β' : Bmap} {T : TT} {O O' : OO} {n : Nat} {a : Act} {w w' : World} {P : Program}
theorem St.drew (h : St E M β O w) : St E M β O w.drew :=
  ⟨fun b i v hm => h.pool b i v hm,h.sub,h.only,fun o ob hl => by
    obtain ⟨b,κ,hb,hor⟩:=h.objs o ob hl
    exact ⟨b,κ,hb,hor.mono (BLe.refl _) fun _ => rfl⟩,h.mine,h.inj,h.size,h.keep,h.os,h.tape,h.output⟩
theorem St.put (h : St E M β O w) {o b κ : Nat} {ob ob' : OB} {x : Obj} (hl : lk O o = some ob) (hb : β o = some (b,κ)) (hk : κ ≠ 0) (hO : ∀ i,lk O' i = if i = o then some ob' else lk O i)
    (hor : OR M β b κ (w.putBlock b x) ob') : St E M β O' (w.putBlock b x):=by
  have hlt : b < w.heap.size:=by obtain ⟨b2,κ2,h2,hor2⟩:=h.objs _ _ hl; rw [hb] at h2; cases h2; exact hor2.lt hk
  refine h.next (BLe.refl _) (by simp [World.putBlock]) (fun c => c = b) (fun c hc => by subst hc; exact h.mine _ _ _ _ hl hb hk) (fun c hc hn => by rw [getElem?_putBlock hlt,if_neg hn]) rfl rfl rfl (fun i obi hi => ?_) ?_
  · rw [hO] at hi
    split at hi
    · rename_i e; subst e; cases hi
      exact .inr ⟨b,κ,hb,hor,fun _ => .inl rfl⟩
    · rename_i e
      refine .inl ⟨hi,fun c κ' hc hk' hcb => e ?_⟩
      subst hcb
      exact h.inj _ _ _ _ _ _ _ hi hl hc hb hk' hk
  · intro i j o1 o2 c κ1 κ2 h1 h2 e1 e2 k1 k2
    have g : ∀ i o1,lk O' i = some o1 → ∃ o2,lk O i = some o2:=fun i o1 hi => by
      rw [hO] at hi
      split at hi
      · rename_i e; subst e; exact ⟨ob,hl⟩
      · exact ⟨o1,hi⟩
    obtain ⟨p1,q1⟩:=g _ _ h1
    obtain ⟨p2,q2⟩:=g _ _ h2
    exact h.inj _ _ _ _ _ _ _ q1 q2 e1 e2 k1 k2
theorem St.reuse (h : St E M β O w) (hn : β n = none) {o b κ : Nat} {ob ob' : OB} {x : Obj} (hl : lk O o = some ob) (hb : β o = some (b,κ)) (hk : κ ≠ 0) (hO : ∀ i,lk O' i = if i = o then none else lk O i)
    (hor : OR M (updB β n (b,κ)) b κ (w.putBlock b x) ob') : St E M (updB β n (b,κ)) ((n,ob') :: O') (w.putBlock b x):=by
  have hbl:=updB_le hn (b,κ)
  have hlt : b < w.heap.size:=by obtain ⟨b2,κ2,h2,hor2⟩:=h.objs _ _ hl; rw [hb] at h2; cases h2; exact hor2.lt hk
  have g : ∀ i o1,lk ((n,ob') :: O') i = some o1 → i ≠ n → lk O i = some o1 ∧ i ≠ o:=fun i o1 hi hne => by
    simp only [lk,if_neg (Ne.symm hne),hO] at hi
    split at hi
    · cases hi
    · exact ⟨hi,by assumption⟩
  have u : ∀ i,i ≠ n → updB β n (b,κ) i = β i:=fun i hi => by simp [updB,hi]
  refine h.next hbl (by simp [World.putBlock]) (fun c => c = b) (fun c hc => by subst hc; exact h.mine _ _ _ _ hl hb hk) (fun c hc hn => by rw [getElem?_putBlock hlt,if_neg hn]) rfl rfl rfl (fun i obi hi => ?_) ?_
  · by_cases e : i = n
    · subst e
      simp only [lk,if_true,Option.some.injEq] at hi
      subst hi
      exact .inr ⟨b,κ,by simp,hor,fun _ => .inl rfl⟩
    · obtain ⟨h1,h2⟩:=g _ _ hi e
      refine .inl ⟨h1,fun c κ' hc hk' hcb => h2 ?_⟩
      subst hcb
      exact h.inj _ _ _ _ _ _ _ h1 hl hc hb hk' hk
  · intro i j o1 o2 c κ1 κ2 h1 h2 e1 e2 k1 k2
    by_cases c1 : i = n
    · by_cases c2 : j = n
      · omega
      · subst c1
        simp only [updB_same,Option.some.injEq,Prod.mk.injEq] at e1
        obtain ⟨rfl,rfl⟩:=e1
        obtain ⟨q1,q2⟩:=g _ _ h2 c2
        rw [u _ c2] at e2
        exact absurd (h.inj _ _ _ _ _ _ _ q1 hl e2 hb k2 hk) q2
    · obtain ⟨p1,p2⟩:=g _ _ h1 c1
      rw [u _ c1] at e1
      by_cases c2 : j = n
      · subst c2
        simp only [updB_same,Option.some.injEq,Prod.mk.injEq] at e2
        obtain ⟨rfl,rfl⟩:=e2
        exact absurd (h.inj _ _ _ _ _ _ _ p1 hl e1 hb k1 hk) p2
      · obtain ⟨q1,q2⟩:=g _ _ h2 c2
        rw [u _ c2] at e2
        exact h.inj _ _ _ _ _ _ _ p1 q1 e1 e2 k1 k2
theorem St.drop (h : St E M β O w) {o : Nat} (hO : ∀ i,lk O' i = if i = o then none else lk O i) : St E M β O' w:=by
  have g : ∀ i o1,lk O' i = some o1 → lk O i = some o1:=fun i o1 hi => by
    rw [hO] at hi
    split at hi
    · cases hi
    · exact hi
  exact ⟨h.pool,h.sub,h.only,fun o ob hl => h.objs o ob (g _ _ hl),fun o ob b κ hl => h.mine o ob b κ (g _ _ hl),
    fun o o' ob ob' b κ κ' h1 h2 => h.inj o o' ob ob' b κ κ' (g _ _ h1) (g _ _ h2),h.size,h.keep,h.os,h.tape,h.output⟩
theorem put_tmps {a : Act} {d : Option Tmp} {x : Value} (t : Nat) : (a.put d x).tmps[t]? = if d = some t then (if t < a.tmps.size then some x else none) else a.tmps[t]?:=by
  cases d with
  | none => simp [Act.put]
  | some d =>
    simp only [Act.put,Array.getElem?_setIfInBounds,Option.some.injEq]
    split
    · rename_i e; subst e; rfl
    · rfl
theorem RelAt.value (h : RelAt E N M β T O n a w) {d : Option Tmp} (hd : ∀ t,d = some t → t < N) {v : AV} {x : Value} (hv : VR M β v x) : RelAt E N M β (putT d v T) O n (a.put d x) w:=by
  refine ⟨h.st,h.ids,fun t u hl => ?_,?_,?_,h.base,h.le0⟩
  · rw [put_tmps]
    cases d with
    | none => simpa [putT] using h.tmps t u hl
    | some d =>
      simp only [putT,lk] at hl
      by_cases e : d = t
      · subst e
        simp only [if_true,Option.some.injEq] at hl
        subst hl
        have:=hd d rfl
        rw [← h.sz] at this
        simp [this]
        exact hv
      · simp only [if_neg e] at hl
        have : ¬ (some d = some t):=by simpa using e
        rw [if_neg this]
        exact h.tmps t u hl
  · cases d <;> exact h.nd
  · cases d <;> simp [Act.put,h.sz]
theorem RelAt.next (h : RelAt E N M β T O n a w) {n' : Nat} (hst : St E M β' O' w') (hbl : BLe β β') (hids : ∀ o,n' ≤ o → E.ok o → β' o = none) (hlow : ∀ o,(o < n ∨ ¬ E.ok o) → β' o = β o) (hn : n ≤ n') : RelAt E N M β' T O' n' a w' :=
  ⟨hst,hids,fun t v hl => by obtain ⟨x,hx,hv⟩:=h.tmps t v hl; exact ⟨x,hx,hv.mono (PLe.refl _) hbl⟩,h.nd,h.sz,fun o ho => by rw [← h.base o ho]; exact hlow o (ho.imp (fun ho => Nat.lt_of_lt_of_le ho h.le0) id),Nat.le_trans h.le0 hn⟩
theorem updB_low (hok : E.ok n) (β : Bmap) (x : Nat × Nat) : ∀ o,(o < n ∨ ¬ E.ok o) → updB β n x o = β o:=fun o ho => by
  unfold updB
  rw [if_neg]
  rintro rfl
  rcases ho with h | h
  · omega
  · exact h hok
theorem RelAt.fresh (h : RelAt E N M β T O n a w) (x : Nat × Nat) : ∀ o,n + 1 ≤ o → E.ok o → updB β n x o = none:=fun o ho hk => by
  unfold updB
  rw [if_neg (by omega)]
  exact h.ids o (by omega) hk
theorem cstC_spec {v : Value} {K : AV → Prop} (h : cstC v K) : ∃ u,K u ∧ VR M β u v:=by
  unfold cstC at h
  split at h
  · exact ⟨_,h,.one rfl (.int _ _)⟩
  · exact ⟨_,h,.one rfl (.bool _)⟩
  · rename_i s; exact ⟨_,h,.one rfl (.str _)⟩
  · exact ⟨_,h,.one rfl .nilp⟩
  · exact ⟨_,h,.one rfl .nils⟩
  · exact ⟨_,h,.one rfl .nilm⟩
  · exact ⟨_,h,.one rfl .nilf⟩
  · exact h.elim
theorem evC_spec (hr : RelAt E N M β T O n a w) {x : Operand} {K : AV → Prop} (h : evC T x K) : ∃ u,K u ∧ VR M β u (a.eval x):=by
  cases x with
  | tmp t =>
    obtain ⟨v,hv,hk⟩:=lkC_spec h
    obtain ⟨y,hy,hvr⟩:=hr.tmps t v hv
    refine ⟨v,hk,?_⟩
    simp only [Act.eval,Array.getD_eq_getD_getElem?,hy,Option.getD_some]
    exact hvr
  | const v => exact cstC_spec h
  | global g => exact h.elim
  | func f => exact ⟨_,h,.one rfl (.fn .nil)⟩
theorem evsC_spec (hr : RelAt E N M β T O n a w) : ∀ {xs : List Operand} {K : List AV → Prop},evsC T xs K → ∃ us,K us ∧ VRs M β us (xs.map a.eval):=by
  intro xs
  induction xs with
  | nil => intro K h; exact ⟨[],h,.nil⟩
  | cons x xs ih =>
    intro K h
    obtain ⟨u,h,hv⟩:=evC_spec hr h
    obtain ⟨us,h,hvs⟩:=ih h
    exact ⟨u :: us,h,.cons hv hvs⟩
def OpS (P : Program) (o : Oper) (E : Env) (N : Nat) (T : TT) (K : KK) (a : Act) (w : World) : Prop :=
  ∀ (next : Act → World → Prop) (Q : Exit → Act → World → Prop),(∀ v O' n' x w' M' β',K v O' n' → RelAt E N M' β' T O' n' a w' → VR M' β' v x → next (a.put o.dst x) w') → o.wp P a w next Q
theorem OpS.val {o : Oper} {K : KK} {r : AV} {x : Value} (hrun : (execOp a.eval o).run P w = .ok (.value x) w') (hr : RelAt E N M β T O n a w') (hv : VR M β r x)
    (hk : K r O n) : OpS P o E N T K a w:=by
  intro next Q hn
  unfold Oper.wp
  rw [hrun]
  exact hn _ _ _ _ _ _ _ hk hr hv
theorem OpS.skip {o : Oper} {K : KK} (hrun : (execOp a.eval o).run P w = .ok .skip w') (hr : RelAt E N M β T O n a w')
    (hk : K .junk O n) : OpS P o E N T K a w:=by
  intro next Q hn
  unfold Oper.wp
  rw [hrun]
  exact hn _ _ _ _ _ _ _ hk hr (.junk _)
end
section
variable {M : Pool} {β : Bmap} {x : Value}
theorem VR.int_inv {k : IntKind} {n : Int} (h : VR M β (.int k n) x) : x = .int k n:=by cases h with | one _ h => cases h; rfl | agg hm _ => cases hm
theorem VR.bool_inv {b : Bool} (h : VR M β (.bool b) x) : x = .bool b:=by cases h with | one _ h => cases h; rfl | agg hm _ => cases hm
theorem VR.str_inv {s : List UInt8} (h : VR M β (.str s) x) : x = .string ⟨s.toArray⟩:=by cases h with | one _ h => cases h; rfl | agg hm _ => cases hm
theorem VR.nilp_inv (h : VR M β .nilp x) : x = .pointer none:=by cases h with | one _ h => cases h; rfl | agg hm _ => cases hm
theorem VR.nils_inv (h : VR M β .nils x) : x = .slice none 0 0:=by cases h with | one _ h => cases h; rfl | agg hm _ => cases hm
theorem VR.ref_inv {o : Nat} {p : List Stp} (h : VR M β (.ref o p) x) : ∃ b κ,β o = some (b,κ) ∧ x = .pointer (some ⟨b,poff p,none⟩):=by cases h with | one _ h => cases h; exact ⟨_,_,by assumption,rfl⟩ | agg hm _ => cases hm
theorem VR.osl_inv {o sz lo len : Nat} {p : List Stp} (h : VR M β (.osl o p sz lo len) x) : ∃ b κ base cap,β o = some (b,κ) ∧ x = .slice base len cap ∧ len ≤ cap ∧ (p = [] → lo + cap ≤ κ) ∧ (cap = 0 ∨ base = some ⟨b,poff p + lo * sz,none⟩):=by
  cases h with | one _ h => cases h; exact ⟨_,_,_,_,by assumption,rfl,by assumption,by assumption,by assumption⟩ | agg hm _ => cases hm
theorem VR.sl_inv {c : AV} (h : VR M β (.sl c) x) : ∃ cc base cap,x = .slice base c.cnt cap ∧ RV M nob c cc ∧ c.isRow = true ∧ c.cnt ≤ cap ∧ (c.cnt = 0 ∨ ∃ b off,base = some ⟨b,off,none⟩ ∧ ∀ i v,cc[i]? = some v → M b (off + i) = some v):=by
  cases h with
  | one _ h =>
    cases h with
    | sl h hr hl hc hm => subst hl; exact ⟨_,_,_,rfl,h,hr,hc,hm⟩
  | agg hm _ => cases hm
theorem VR.pp_inv {c : AV} {p : List Stp} (h : VR M β (.pp c p) x) : ∃ cc b off,x = .pointer (some ⟨b,off + poff p,none⟩) ∧ RV M nob c cc ∧ ∀ i v,cc[i]? = some v → M b (off + i) = some v:=by
  cases h with
  | one _ h => cases h with | pp h hm => exact ⟨_,_,_,rfl,h,hm⟩
  | agg hm _ => cases hm
theorem VR.fn_inv {f : Fn} {ps : List AV} (h : VR M β (.fn f ps) x) : ∃ xs,x = .func f #[] xs.toArray ∧ VRs M β ps xs:=by
  cases h with
  | one _ h => cases h with | fn h => exact ⟨_,rfl,h⟩
  | agg hm _ => cases hm
theorem VR.fb_inv {f : Fn} {ps : List AV} (h : VR M β (.fb f ps) x) : ∃ xs,x = .func f xs.toArray #[] ∧ VRs M β ps xs:=by
  cases h with
  | one _ h => cases h with | fb h => exact ⟨_,rfl,h⟩
  | agg hm _ => cases hm
theorem VR.tup_inv {vs : List AV} (h : VR M β (.tup vs) x) : ∃ xs,x = .tuple xs.toArray ∧ VRs M β vs xs:=by
  cases h with
  | one _ h => cases h
  | agg _ h => cases h
  | tup h => exact ⟨_,rfl,h⟩
theorem VR.agg_inv {v : AV} (hm : v.multi = true) (ht : v.mem = true) (h : VR M β v x) : ∃ cs,x = .agg cs.toArray ∧ RV M β v cs:=by
  cases h with
  | one h1 _ => rw [hm] at h1; cases h1
  | agg _ h => exact ⟨_,rfl,h⟩
  | tup _ => cases ht
  | junk => cases ht
theorem VR.one_inv {v : AV} (hm : v.multi = false) (ht : v.mem = true) (h : VR M β v x) : RV M β v [x]:=by
  cases h with
  | one _ h => exact h
  | agg h1 _ => rw [hm] at h1; cases h1
  | tup _ => cases ht
  | junk => cases ht
end
end Go.Sy
namespace Go.Sy
open Go
set_option linter.unusedSimpArgs false
set_option linter.unusedVariables false
section
variable {E : Env} {N : Nat} {M : Pool} {β β' : Bmap} {T : TT} {O O' : OO} {n : Nat} {a : Act} {w w' : World} {P : Program} {o : Oper} {K : KK}
theorem beq_dec {α : Type} [BEq α] [LawfulBEq α] [DecidableEq α] (x y : α) : (x == y) = decide (x = y):=by rw [Bool.eq_iff_iff]; simp
theorem s_move {x : Operand} (ho : o.op = .move x) (h : evC T x fun v => K v O n) (hr : RelAt E N M β T O n a w) : OpS P o E N T K a w:=by
  obtain ⟨v,hk,hv⟩:=evC_spec hr h
  exact OpS.val (by simp [execOp,ho]) hr hv hk
theorem s_assign {x : Operand} (ho : o.op = .assign x) (h : evC T x fun v => K v O n) (hr : RelAt E N M β T O n a w) : OpS P o E N T K a w:=by
  obtain ⟨v,hk,hv⟩:=evC_spec hr h
  exact OpS.val (by simp [execOp,ho]) hr hv hk
theorem boolC_spec {v : AV} {K : Bool → Prop} (h : boolC v K) : ∃ b,v = .bool b ∧ K b:=by cases v <;> first | exact h.elim | exact ⟨_,rfl,h⟩
theorem intC_spec {v : AV} {K : Int → Prop} (h : intC v K) : ∃ k i,v = .int k i ∧ K i:=by cases v <;> first | exact h.elim | exact ⟨_,_,rfl,h⟩
theorem iteC_spec {b : Bool} {K : Bool → Prop} (h : iteC b K) : K b:=by cases b; exact h.2 rfl; exact h.1 rfl
theorem s_pick {c x y : Operand} (ho : o.op = .pick c x y)
    (h : evC T c fun v => boolC v fun t => iteC t fun t => if t then evC T x fun v => K v O n else evC T y fun v => K v O n) (hr : RelAt E N M β T O n a w) : OpS P o E N T K a w:=by
  obtain ⟨v,h1,hv⟩:=evC_spec hr h
  obtain ⟨b,rfl,h⟩:=boolC_spec h1
  replace h:=iteC_spec h
  have hb:=hv.bool_inv
  cases b
  · simp only [Bool.false_eq_true,if_false] at h
    obtain ⟨v,hk,hv⟩:=evC_spec hr h
    exact OpS.val (by simp [execOp,ho,hb,asBool]) hr hv hk
  · simp only [if_true] at h
    obtain ⟨v,hk,hv⟩:=evC_spec hr h
    exact OpS.val (by simp [execOp,ho,hb,asBool]) hr hv hk
theorem intB_spec {op : BinOp} {k k' : IntKind} {x y : Int} {t : TypeId} {K : AV → Prop} (h : intB op k x k' y K) : ∃ v u,K v ∧ (binOp op t (.int k x) (.int k' y)).run P w = .ok u w ∧ ∀ M β,VR M β v u:=by
  cases op
  case shl => obtain ⟨h1,h⟩:=h; exact ⟨_,.int k (ishl k x y.toNat),h,by simp [binOp,Op.shift,ishl,show ¬ y < 0 by omega],fun M β => .one rfl (.int _ _)⟩
  case shr => obtain ⟨h1,h⟩:=h; exact ⟨_,.int k (ishr k x y.toNat),h,by simp [binOp,Op.shift,ishr,show ¬ y < 0 by omega],fun M β => .one rfl (.int _ _)⟩
  case quo => obtain ⟨rfl,h1,h⟩:=h; exact ⟨_,.int k (k.wrap (x.tdiv y)),h,by simp [binOp,Op.intDiv,h1],fun M β => .one rfl (.int _ _)⟩
  case rem => obtain ⟨rfl,h1,h⟩:=h; exact ⟨_,.int k (x.tmod y),h,by simp [binOp,Op.intDiv,h1],fun M β => .one rfl (.int _ _)⟩
  case add => obtain ⟨rfl,h⟩:=h; exact ⟨_,.int k (k.wrap (x + y)),h,by simp [binOp,Op.intArith],fun M β => .one rfl (.int _ _)⟩
  case sub => obtain ⟨rfl,h⟩:=h; exact ⟨_,.int k (k.wrap (x - y)),h,by simp [binOp,Op.intArith],fun M β => .one rfl (.int _ _)⟩
  case mul => obtain ⟨rfl,h⟩:=h; exact ⟨_,.int k (k.wrap (x * y)),h,by simp [binOp,Op.intArith],fun M β => .one rfl (.int _ _)⟩
  case and => obtain ⟨rfl,h⟩:=h; exact ⟨_,.int k (iand k x y),h,by simp [binOp,Op.intBits,iand],fun M β => .one rfl (.int _ _)⟩
  case or => obtain ⟨rfl,h⟩:=h; exact ⟨_,.int k (ior k x y),h,by simp [binOp,Op.intBits,ior],fun M β => .one rfl (.int _ _)⟩
  case xor => obtain ⟨rfl,h⟩:=h; exact ⟨_,.int k (ixor k x y),h,by simp [binOp,Op.intBits,ixor],fun M β => .one rfl (.int _ _)⟩
  case andNot => obtain ⟨rfl,h⟩:=h; exact ⟨_,.int k (iandn k x y),h,by simp [binOp,Op.intBits,iandn],fun M β => .one rfl (.int _ _)⟩
  case eql => obtain ⟨rfl,h⟩:=h; exact ⟨_,.bool (decide (x = y)),h,by simp only [binOp,Op.intCmp,beq_dec]; simp,fun M β => .one rfl (.bool _)⟩
  case neq => obtain ⟨rfl,h⟩:=h; exact ⟨_,.bool (!decide (x = y)),h,by simp only [binOp,Op.intCmp,bne,beq_dec]; simp,fun M β => .one rfl (.bool _)⟩
  case lss => obtain ⟨rfl,h⟩:=h; exact ⟨_,.bool (decide (x < y)),h,by simp [binOp,Op.intCmp],fun M β => .one rfl (.bool _)⟩
  case leq => obtain ⟨rfl,h⟩:=h; exact ⟨_,.bool (decide (x ≤ y)),h,by simp [binOp,Op.intCmp],fun M β => .one rfl (.bool _)⟩
  case gtr => obtain ⟨rfl,h⟩:=h; exact ⟨_,.bool (decide (y < x)),h,by simp [binOp,Op.intCmp],fun M β => .one rfl (.bool _)⟩
  case geq => obtain ⟨rfl,h⟩:=h; exact ⟨_,.bool (decide (y ≤ x)),h,by simp [binOp,Op.intCmp],fun M β => .one rfl (.bool _)⟩
theorem bytes_toList (s : List UInt8) : (⟨s.toArray⟩ : ByteArray).toList = s:=by
  have key : ∀ (n i : Nat) (r : List UInt8),s.length - i = n → i ≤ s.length → ByteArray.toList.loop ⟨s.toArray⟩ i r = r.reverse ++ s.drop i:=by
    intro n
    induction n with
    | zero =>
      intro i r hn hi
      unfold ByteArray.toList.loop
      rw [if_neg (by simp [ByteArray.size]; omega),List.drop_of_length_le (by omega),List.append_nil]
    | succ n ih =>
      intro i r hn hi
      unfold ByteArray.toList.loop
      rw [if_pos (by simp [ByteArray.size]; omega),ih (i + 1) _ (by omega) (by omega)]
      have : i < s.length:=by omega
      rw [List.drop_eq_getElem_cons this]
      simp [ByteArray.get!,this]
  have:=key s.length 0 [] (by simp) (by simp)
  simpa [ByteArray.toList] using this
theorem strB_spec {op : BinOp} {x y : List UInt8} {t : TypeId} {K : AV → Prop} (h : strB op x y K) :
    ∃ v u,K v ∧ (binOp op t (.string ⟨x.toArray⟩) (.string ⟨y.toArray⟩)).run P w = .ok u w ∧ ∀ M β,VR M β v u:=by
  cases op <;> first | exact h.elim | skip
  · obtain ⟨h1,h⟩:=h
    have e : ((⟨x.toArray⟩ : ByteArray) ++ ⟨y.toArray⟩) = ⟨(x ++ y).toArray⟩:=by
      apply ByteArray.ext
      simp
    have hm : IntKind.i64.max = 9223372036854775807:=by decide
    refine ⟨_,.string ⟨(x ++ y).toArray⟩,h,?_,fun M β => .one rfl (.str _)⟩
    simp only [binOp,Op.stringOp]
    rw [if_neg (by simp only [ByteArray.size,List.size_toArray,hm]; omega),e]
    rfl
  · exact ⟨_,.bool (decide (x = y)),h,by simp only [binOp,Op.stringOp,bytes_toList,beq_dec]; simp,fun M β => .one rfl (.bool _)⟩
  · exact ⟨_,.bool (!decide (x = y)),h,by simp only [binOp,Op.stringOp,bytes_toList,beq_dec]; simp,fun M β => .one rfl (.bool _)⟩
def Ty.dep : Ty → Nat
  | .arr _ _ t => t.dep + 1
  | .st ts => deps ts + 1
  | _ => 0
where deps : List Ty → Nat
  | [] => 0
  | t :: ts => max t.dep (deps ts)
theorem tyF_dep {f : TypeId → Option Ty} {n : Nat} (hf : ∀ t ty,f t = some ty → ty.dep ≤ n) : ∀ (fs : List Field) (off : Nat) (ts : List Ty),tyF f off fs = some ts → Ty.dep.deps ts ≤ n:=by
  intro fs
  induction fs with
  | nil => intro off ts h; simp [tyF] at h; subst h; simp [Ty.dep.deps]
  | cons x fs ih =>
    intro off ts h
    simp only [tyF] at h
    split at h
    · rename_i ty hty
      split at h
      · simp only [Option.map_eq_some_iff] at h
        obtain ⟨ts',h1,rfl⟩:=h
        have:=hf _ _ hty
        have:=ih _ _ h1
        simp only [Ty.dep.deps]; omega
      · cases h
    · cases h
theorem tyq_dep : ∀ (n : Nat) (t : TypeId) (ty : Ty),tyq P n t = some ty → ty.dep ≤ n:=by
  intro n
  induction n with
  | zero => intro t ty h; cases h
  | succ n ih =>
    intro t ty h
    simp only [tyq] at h
    split at h
    · rename_i ty' i hd hi
      split at h
      · cases h
        unfold tyD at hd
        split at hd
        all_goals first | (cases hd; done) | (cases hd; simp [Ty.dep]; done) | skip
        · split at hd
          · rename_i te hte
            split at hd
            · cases hd; have:=ih _ _ hte; simp only [Ty.dep]; omega
            · cases hd
          · cases hd
        · split at hd
          · cases hd
          · simp only [Option.map_eq_some_iff] at hd
            obtain ⟨ts,h1,rfl⟩:=hd
            have:=tyF_dep ih _ _ _ h1
            simp only [Ty.dep]; omega
      · cases h
    · cases h
theorem tyC_spec {t : TypeId} {K : Ty → Prop} (h : tyC P t K) : ∃ ty,ty.ok P t ∧ ty.dep ≤ 12 ∧ K ty:=by
  obtain ⟨ty,h1,h2⟩:=h
  exact ⟨ty,tyq_ok _ _ _ h1,tyq_dep _ _ _ h1,h2⟩
theorem run_part {t : TypeId} {ty : Ty} (hty : ty.ok P t) (hpos : 0 < ty.size) {cs : List Value} {off : Nat} {q : AV} (hq : RV M β q (piece cs off ty.size)) (hs : q.csz = ty.size) (hm : q.multi = ty.multi) (hmem : q.mem = true) (hl : off + ty.size ≤ cs.length) :
    ∃ u,(part t cs.toArray off).run P w = .ok u w ∧ VR M β q u:=by
  unfold part
  simp only [Sem.run_bind,r_isAgg hty,Result.andThen_ok]
  cases hmm : ty.multi with
  | true =>
    refine ⟨.agg (piece cs off ty.size).toArray,?_,.agg (by rw [hm,hmm]) hq⟩
    simp only [if_true,Sem.run_bind,r_size hty,Result.andThen_ok]
    have : cs.toArray.extract off (off + ty.size) = (piece cs off ty.size).toArray:=by
      apply Array.ext'
      rw [Array.toList_extract]
      simp only [List.extract,piece,Nat.add_sub_cancel_left]
    rw [this]; rfl
  | false =>
    have h1 : ty.size = 1:=by cases ty <;> first | rfl | cases hmm
    rw [h1] at hq hl
    have hlt : off < cs.length:=by omega
    have e : piece cs off 1 = [cs[off]]:=by simp only [piece]; rw [List.drop_eq_getElem_cons hlt]; rfl
    rw [e] at hq
    refine ⟨cs[off],?_,.one (by rw [hm,hmm]) hq⟩
    have e2 : cs.toArray[off]? = some cs[off]:=by simp
    rw [if_neg (by simp),e2]
    rfl
def eqFs (d : Nat) (xs ys : Array Value) : List Field → Sem Bool
  | [] => pure true
  | f :: fs => do
    if f.name ≠ "_" then
      if !(← Op.equalIn d f.type (← part f.type xs f.offset) (← part f.type ys f.offset)) then pure false else eqFs d xs ys fs
    else eqFs d xs ys fs
theorem run_eq_struct (d : Nat) (t : TypeId) (xs ys : Array Value) (fs : Array Field) (ht : P.underlying t = some (.struct fs)) (hp : P.stoodInHeld t = false) :
    (Op.equalIn (d + 1) t (.agg xs) (.agg ys)).run P w = (eqFs d xs ys fs.toList).run P w:=by
  simp only [Op.equalIn,Sem.run_bind,r_under ht,Result.andThen_ok,run_program,hp,Bool.false_eq_true,if_false]
  rw [← Array.forIn_toList]
  generalize fs.toList = fs
  clear ht
  induction fs generalizing w with
  | nil => simp [eqFs]
  | cons f fs ih =>
    simp only [List.forIn_cons,eqFs,Sem.run_bind,Sem.run_ite]
    split
    · generalize (part f.type xs f.offset).run P w = r1
      cases r1 with
      | ok a w1 =>
        simp only [Result.andThen_ok]
        generalize (part f.type ys f.offset).run P w1 = r2
        cases r2 with
        | ok b w2 =>
          simp only [Result.andThen_ok]
          generalize (Op.equalIn d f.type a b).run P w2 = r3
          cases r3 with
          | ok r w3 =>
            cases r
            · simp only [Result.andThen_ok,Bool.not_false,if_true,Sem.run_pure]
            · simp only [Result.andThen_ok,Bool.not_true,Bool.false_eq_true,if_false,Sem.run_pure]
              exact ih
          | halt x w3 => simp [Result.andThen]
        | halt x w2 => simp [Result.andThen]
      | halt x w1 => simp [Result.andThen]
    · simp only [Sem.run_pure,Result.andThen_ok]
      exact ih
def eqEs (d : Nat) (e : TypeId) (sz : Nat) (xs ys : Array Value) : List Nat → Sem Bool
  | [] => pure true
  | i :: is => do if !(← Op.equalIn d e (← part e xs (i * sz)) (← part e ys (i * sz))) then pure false else eqEs d e sz xs ys is
theorem run_eq_array (d : Nat) (t e : TypeId) (te : Ty) (hte : te.ok P e) (n : Nat) (xs ys : Array Value) (ht : P.underlying t = some (.array n e)) :
    (Op.equalIn (d + 1) t (.agg xs) (.agg ys)).run P w = (eqEs d e te.size xs ys (List.range n)).run P w:=by
  simp only [Op.equalIn,Sem.run_bind,r_under ht,Result.andThen_ok,r_size hte]
  rw [Std.Legacy.Range.forIn_eq_forIn_range']
  have : List.range' 0 ((n - 0 + 1 - 1) / 1) 1 = List.range n:=by rw [List.range_eq_range']; simp
  simp only [Std.Legacy.Range.size,this]
  generalize List.range n = is
  induction is generalizing w with
  | nil => simp [eqEs]
  | cons i is ih =>
    simp only [List.forIn_cons,eqEs,Sem.run_bind,Sem.run_ite]
    generalize (part e xs (i * te.size)).run P w = r1
    cases r1 with
    | ok a w1 =>
      simp only [Result.andThen_ok]
      generalize (part e ys (i * te.size)).run P w1 = r2
      cases r2 with
      | ok b w2 =>
        simp only [Result.andThen_ok]
        generalize (Op.equalIn d e a b).run P w2 = r3
        cases r3 with
        | ok r w3 =>
          cases r
          · simp only [Result.andThen_ok,Bool.not_false,if_true,Sem.run_pure]
          · simp only [Result.andThen_ok,Bool.not_true,Bool.false_eq_true,if_false,Sem.run_pure]
            exact ih
        | halt x w3 => simp [Result.andThen]
      | halt x w2 => simp [Result.andThen]
    | halt x w1 => simp [Result.andThen]
end
end Go.Sy
namespace Go.Sy
open Go
set_option linter.unusedSimpArgs false
set_option linter.unusedVariables false
section
variable {E : Env} {N : Nat} {M : Pool} {β β' : Bmap} {T : TT} {O O' : OO} {n : Nat} {a : Act} {w w' : World} {P : Program} {o : Oper} {K : KK}
theorem eqEs_ints (d : Nat) (e : TypeId) (k : IntKind) (hk : (Ty.int k).ok P e) : ∀ (m i : Nat) (xs ys : List Int),i + m = xs.length → xs.length = ys.length →
    (eqEs (d + 1) e 1 (xs.map (Value.int k)).toArray (ys.map (Value.int k)).toArray (List.range' i m)).run P w = .ok (decide (xs.drop i = ys.drop i)) w:=by
  have hp : ∀ (zs : List Int) (i : Nat) (h : i < zs.length),(part e (zs.map (Value.int k)).toArray (i * 1)).run P w = .ok (.int k zs[i]) w:=fun zs i h => by
    have e2 : (zs.map (Value.int k)).toArray[i]? = some (.int k zs[i]):=by simp [h]
    simp only [part,Sem.run_bind,r_isAgg hk,Result.andThen_ok,Nat.mul_one,Ty.multi,e2,Bool.false_eq_true,if_false]
    rfl
  intro m
  induction m with
  | zero =>
    intro i xs ys h1 h2
    simp only [List.range'_zero,eqEs]
    rw [List.drop_of_length_le (by omega),List.drop_of_length_le (by omega)]
    simp
  | succ m ih =>
    intro i xs ys h1 h2
    have i1 : i < xs.length:=by omega
    have i2 : i < ys.length:=by omega
    simp only [List.range'_succ,eqEs,Sem.run_bind,hp xs i i1,hp ys i i2,Result.andThen_ok]
    simp only [Op.equalIn,Sem.run_bind,r_under hk.2,Result.andThen_ok,if_true,Sem.run_pure,Sem.run_ite]
    rw [List.drop_eq_getElem_cons i1,List.drop_eq_getElem_cons i2,beq_dec]
    by_cases he : xs[i] = ys[i]
    · simp only [he,decide_true,Bool.not_true,Bool.false_eq_true,if_false,List.cons.injEq,true_and]
      exact ih (i + 1) xs ys (by omega) h2
    · simp only [he,decide_false,Bool.not_false,if_true,List.cons.injEq,false_and,Sem.run_pure]
theorem RVs.uncons {v : AV} {vs : List AV} {cs : List Value} (h : RVs M β (v :: vs) cs) : RV M β v (piece cs 0 v.csz) ∧ RVs M β vs (cs.drop v.csz) ∧ v.csz ≤ cs.length:=by
  cases h with
  | cons hv hvs =>
    have:=hv.length
    refine ⟨by simpa [piece,← this] using hv,by simpa [← this] using hvs,by simp [← this]⟩
theorem multi_mem {v : AV} {cs : List Value} (h : RV M β v cs) : v.mem = true:=by cases h <;> rfl
theorem eqC_spec : ∀ ty : Ty,∀ (t : TypeId) (x y : AV) (K : Bool → Prop) (d : Nat) (xv yv : Value),ty.ok P t → ty.dep < d → eqC ty x y K → VR M β x xv → VR M β y yv →
    ∃ b,K b ∧ (Op.equalIn d t xv yv).run P w = .ok b w:=by
  intro ty
  refine Ty.rec (motive_1:=fun ty => ∀ (t : TypeId) (x y : AV) (K : Bool → Prop) (d : Nat) (xv yv : Value),ty.ok P t → ty.dep < d → eqC ty x y K → VR M β x xv → VR M β y yv →
      ∃ b,K b ∧ (Op.equalIn d t xv yv).run P w = .ok b w)
    (motive_2:=fun ts => ∀ (fs : List Field) (off : Nat) (ps qs : List AV) (xs ys : List Value) (K : Bool → Prop) (d : Nat),Ty.oks P off fs ts → Ty.dep.deps ts < d → eqsC ts ps qs K → off ≤ xs.length → off ≤ ys.length →
      RVs M β ps (xs.drop off) → RVs M β qs (ys.drop off) → ∃ b,K b ∧ (eqFs d xs.toArray ys.toArray fs).run P w = .ok b w) ?_ ?_ ?_ ?_ ?_ ?_ ?_ ?_ ?_ ?_ ?_ ty
  · intro k t x y K d xv yv hok hd h hx hy
    obtain ⟨d,rfl⟩ : ∃ e,d = e + 1:=⟨d - 1,by omega⟩
    cases x <;> cases y <;> first | exact h.elim | skip
    obtain ⟨rfl,h⟩:=h
    exact ⟨_,h,by rw [hx.int_inv,hy.int_inv]; simp [Op.equalIn,r_under hok.2,beq_dec]⟩
  · intro t x y K d xv yv hok hd h hx hy
    obtain ⟨d,rfl⟩ : ∃ e,d = e + 1:=⟨d - 1,by omega⟩
    cases x <;> cases y <;> first | exact h.elim | skip
    exact ⟨_,h,by rw [hx.bool_inv,hy.bool_inv]; simp [Op.equalIn,r_under hok.2]⟩
  · intro t x y K d xv yv hok hd h hx hy
    obtain ⟨d,rfl⟩ : ∃ e,d = e + 1:=⟨d - 1,by omega⟩
    cases x <;> cases y <;> first | exact h.elim | skip
    rename_i s s'
    refine ⟨_,h,?_⟩
    rw [hx.str_inv,hy.str_inv]
    have : ((⟨s.toArray⟩ : ByteArray) == ⟨s'.toArray⟩) = decide (s = s'):=by
      have e : ((⟨s.toArray⟩ : ByteArray) == ⟨s'.toArray⟩) = (s.toArray == s'.toArray):=rfl
      rw [e]
      simp [beq_dec]
    simp [Op.equalIn,r_under hok.2,this]
  · intro e t x y K d xv yv hok hd h hx hy
    obtain ⟨d,rfl⟩ : ∃ e,d = e + 1:=⟨d - 1,by omega⟩
    cases x <;> cases y <;> first | exact h.elim | skip
    · exact ⟨_,h,by rw [hx.nilp_inv,hy.nilp_inv]; simp [Op.equalIn,r_under hok.2]⟩
    · obtain ⟨b,κ,_,e⟩:=hy.ref_inv
      exact ⟨_,h,by rw [hx.nilp_inv,e]; simp [Op.equalIn,r_under hok.2]⟩
    · obtain ⟨_,b,off,e,_⟩:=hy.pp_inv
      exact ⟨_,h,by rw [hx.nilp_inv,e]; simp [Op.equalIn,r_under hok.2]⟩
    · obtain ⟨b,κ,_,e⟩:=hx.ref_inv
      exact ⟨_,h,by rw [hy.nilp_inv,e]; simp [Op.equalIn,r_under hok.2]⟩
    · obtain ⟨_,b,off,e,_⟩:=hx.pp_inv
      exact ⟨_,h,by rw [hy.nilp_inv,e]; simp [Op.equalIn,r_under hok.2]⟩
  · intro e t x y K d xv yv hok hd h hx hy
    obtain ⟨d,rfl⟩ : ∃ e,d = e + 1:=⟨d - 1,by omega⟩
    cases y with
    | nils =>
      have ey:=hy.nils_inv
      cases x with
      | nils => exact ⟨_,h,by rw [hx.nils_inv,ey]; simp [Op.equalIn,r_under hok.2]⟩
      | sl c =>
        obtain ⟨h1,h⟩:=h
        obtain ⟨cc,base,cap,ex,_,_,_,hb⟩:=hx.sl_inv
        rcases hb with hb | ⟨b,off,hb,_⟩
        · omega
        · subst hb
          exact ⟨_,h,by rw [ex,ey]; simp [Op.equalIn,r_under hok.2]⟩
      | osl o p sz lo len =>
        obtain ⟨h1,h⟩:=h
        obtain ⟨b,κ,base,cap,_,ex,hc,_,hb⟩:=hx.osl_inv
        rcases hb with hb | hb
        · omega
        · subst hb
          exact ⟨_,h,by rw [ex,ey]; simp [Op.equalIn,r_under hok.2]⟩
      | _ => exact h.elim
    | _ => cases x <;> exact h.elim
  · intro m e te ih t x y K d xv yv hok hd h hx hy
    obtain ⟨d,rfl⟩ : ∃ e,d = e + 2:=⟨d - 2,by simp only [Ty.dep] at hd; omega⟩
    cases te <;> cases x <;> cases y <;> first | exact h.elim | skip
    obtain ⟨rfl,rfl,rfl,rfl,h⟩:=h
    obtain ⟨cs,rfl,hx1⟩:=hx.agg_inv rfl rfl
    obtain ⟨ds,rfl,hy1⟩:=hy.agg_inv rfl rfl
    cases hx1 with
    | ints _ h1 =>
      cases hy1 with
      | ints _ h2 =>
        refine ⟨_,h,?_⟩
        rw [run_eq_array (d + 1) t e _ hok.2.2.2 _ _ _ hok.2.1,List.range_eq_range']
        have:=eqEs_ints (w:=w) d e _ hok.2.2.2 _ 0 _ _ ((Nat.zero_add _).trans h1.symm) (h1.trans h2.symm)
        simpa [Ty.size] using this
  · intro ts ih t x y K d xv yv hok hd h hx hy
    obtain ⟨d,rfl⟩ : ∃ e,d = e + 1:=⟨d - 1,by omega⟩
    cases x <;> cases y <;> first | exact h.elim | skip
    obtain ⟨cs,rfl,hx1⟩:=hx.agg_inv rfl rfl
    obtain ⟨ds,rfl,hy1⟩:=hy.agg_inv rfl rfl
    cases hx1 with
    | agg hx2 =>
      cases hy1 with
      | agg hy2 =>
        obtain ⟨_,fs,hu,hst,hoks⟩:=hok
        rw [run_eq_struct d t _ _ fs hu hst]
        exact ih _ 0 _ _ _ _ _ d hoks (by simp only [Ty.dep] at hd; omega) h (by simp) (by simp) (by simpa using hx2) (by simpa using hy2)
  · intro k v t x y K d xv yv hok hd h hx hy
    cases x <;> cases y <;> exact h.elim
  · intro t x y K d xv yv hok hd h hx hy
    cases x <;> cases y <;> exact h.elim
  · intro fs off ps qs xs ys K d hoks hd h _ _ hx hy
    cases fs with
    | cons f fs => exact hoks.elim
    | nil =>
      cases ps <;> cases qs <;> first | exact h.elim | skip
      exact ⟨_,h,rfl⟩
  · intro ty ts i1 i2 fs off ps qs xs ys K d hoks hd h hlx hly hx hy
    cases fs with
    | nil => exact hoks.elim
    | cons f fs =>
      cases ps with
      | nil => cases qs <;> exact h.elim
      | cons p ps =>
        cases qs with
        | nil => exact h.elim
        | cons q qs =>
          obtain ⟨hoff,hname,hpos,hfok,hrest⟩:=hoks
          obtain ⟨hp1,hq1,hp2,hq2,h⟩:=h
          simp only [Ty.dep.deps] at hd
          obtain ⟨x1,x2,x3⟩:=hx.uncons
          obtain ⟨y1,y2,y3⟩:=hy.uncons
          rw [hp1] at x1 x2 x3
          rw [hq1] at y1 y2 y3
          simp only [List.length_drop] at x3 y3
          have px : piece (xs.drop off) 0 ty.size = piece xs off ty.size:=by simp [piece]
          have py : piece (ys.drop off) 0 ty.size = piece ys off ty.size:=by simp [piece]
          rw [px] at x1
          rw [py] at y1
          obtain ⟨u,hu1,hu2⟩:=run_part (w:=w) hfok hpos x1 hp1 hp2 (multi_mem x1) (by omega)
          obtain ⟨v,hv1,hv2⟩:=run_part (w:=w) hfok hpos y1 hq1 hq2 (multi_mem y1) (by omega)
          obtain ⟨b,hb,hrun⟩:=i1 f.type p q _ d u v hfok (by omega) h hu2 hv2
          rw [List.drop_drop] at x2 y2
          obtain ⟨c,hc,hrun2⟩:=i2 fs (off + ty.size) ps qs xs ys _ d hrest (by omega) hb (by omega) (by omega) x2 y2
          refine ⟨_,hc,?_⟩
          simp only [eqFs,hname,ne_eq,not_false_eq_true,if_true,Sem.run_bind,hoff,hu1,hv1,Result.andThen_ok,hrun,Sem.run_ite]
          cases b
          · simp
          · simpa using hrun2
end
end Go.Sy
