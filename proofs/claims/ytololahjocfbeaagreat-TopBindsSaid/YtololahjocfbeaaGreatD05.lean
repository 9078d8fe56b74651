/- Texts,joined. -/
import Derived.Test.YtololahjocfbeaaGreatD04
namespace Go.Sy
open Go
set_option linter.unusedSimpArgs false
set_option linter.unusedVariables false
section
variable {E : Env} {N : Nat} {M M' M1 : Pool} {β β' β1 : Bmap} {T : TT} {O O' O1 O2 : OO} {n : Nat} {a : Act} {w w' : World} {P : Program} {o : Oper} {K : KK}
theorem OR.pf {b κ : Nat} {ob : OB} (h : OR M β b κ w ob) (hp : ob.pf = true) (M' : Pool) : OR M' β b κ w ob:=by
  cases ob with
  | var c =>
    obtain ⟨hk,hz,cs,e,fz,h1,h2,h3⟩:=h
    exact ⟨hk,hz,cs,e,fz,h1,h2,pf_aux.1 h3 hp _⟩
  | row c =>
    obtain ⟨hr,hz,h⟩:=h
    refine ⟨hr,hz,?_⟩
    rcases h with ⟨hk,hc,h⟩ | ⟨hk,cc,sp,e,fz,h1,h2,h3,h4⟩
    · exact .inl ⟨hk,hc,pf_aux.1 h hp _⟩
    · exact .inr ⟨hk,cc,sp,e,fz,h1,h2,pf_aux.1 h3 hp _,h4⟩
  | map ks =>
    exact h
  | gm f ks vs =>
    obtain ⟨hk,es,cl,h1,h2,h3,h4⟩:=h
    exact ⟨hk,es,cl,h1,h2,pf_aux.2.2.2 h3 hp _,h4⟩
def RenB (σ : List (Nat × Nat)) (ob ob' : OB) : Prop:=∀ {M : Pool} {β1 β : Bmap} {b κ : Nat} {w : World},Agr σ β1 β → (OR M β1 b κ w ob ↔ OR M β b κ w ob')
theorem renOB_spec {σ : List (Nat × Nat)} {ob : OB} {κ : OB → Prop} (h : renOB σ ob κ) : ∃ ob',κ ob' ∧ RenB σ ob ob':=by
  cases ob with
  | var c =>
    obtain ⟨c',hk,hr⟩:=renC_spec σ c _ h
    refine ⟨_,hk,fun ha => ?_⟩
    simp only [OR,hr.csz]
    exact ⟨fun ⟨h1,h2,cs,e,fz,h3,h4,h5⟩ => ⟨h1,h2,cs,e,fz,h3,h4,(hr.rv ha).1 h5⟩,fun ⟨h1,h2,cs,e,fz,h3,h4,h5⟩ => ⟨h1,h2,cs,e,fz,h3,h4,(hr.rv ha).2 h5⟩⟩
  | row c =>
    obtain ⟨c',hk,hr⟩:=renC_spec σ c _ h
    refine ⟨_,hk,fun ha => ?_⟩
    simp only [OR,hr.row,hr.esz,hr.cnt]
    constructor
    · rintro ⟨h1,h2,h⟩
      refine ⟨h1,h2,?_⟩
      rcases h with ⟨hk,hc,h⟩ | ⟨hk,cc,sp,e,fz,h1,h2,h3,h4⟩
      · exact .inl ⟨hk,hc,(hr.rv ha).1 h⟩
      · exact .inr ⟨hk,cc,sp,e,fz,h1,h2,(hr.rv ha).1 h3,h4⟩
    · rintro ⟨h1,h2,h⟩
      refine ⟨h1,h2,?_⟩
      rcases h with ⟨hk,hc,h⟩ | ⟨hk,cc,sp,e,fz,h1,h2,h3,h4⟩
      · exact .inl ⟨hk,hc,(hr.rv ha).2 h⟩
      · exact .inr ⟨hk,cc,sp,e,fz,h1,h2,(hr.rv ha).2 h3,h4⟩
  | map ks =>
    exact ⟨_,h,fun _ => Iff.rfl⟩
  | gm f ks vs =>
    obtain ⟨vs',hk,hr⟩:=rensC_spec σ vs _ h
    refine ⟨_,hk,fun ha => ?_⟩
    simp only [OR]
    exact ⟨fun ⟨h1,es,cl,h3,h4,h5,h6⟩ => ⟨h1,es,cl,h3,h4,(hr.vr ha).1 h5,h6⟩,fun ⟨h1,es,cl,h3,h4,h5,h6⟩ => ⟨h1,es,cl,h3,h4,(hr.vr ha).2 h5,h6⟩⟩
theorem renOO_spec {σ : List (Nat × Nat)} : ∀ {O : OO} {κ : OO → Prop},renOO σ O κ → ∃ L,κ L ∧ ∀ q ∈ L,∃ p ∈ O,lk σ p.1 = some q.1 ∧ RenB σ p.2 q.2:=by
  intro O
  induction O with
  | nil => intro κ h; exact ⟨[],h,by simp⟩
  | cons p O ih =>
    intro κ h
    obtain ⟨o,ob⟩:=p
    obtain ⟨o',hl,h⟩:=idC_spec h
    obtain ⟨ob',h,hr⟩:=renOB_spec h
    obtain ⟨L,hk,hL⟩:=ih h
    refine ⟨_,hk,fun q hq => ?_⟩
    rcases List.mem_cons.1 hq with rfl | hq
    · exact ⟨(o,ob),by simp,hl,hr⟩
    · obtain ⟨p,hp,g⟩:=hL q hq
      exact ⟨p,by simp [hp],g⟩
theorem lk_mem {α : Type} {O : List (Nat × α)} {o : Nat} {ob : α} (h : lk O o = some ob) : (o,ob) ∈ O:=by
  induction O with
  | nil => cases h
  | cons p O ih =>
    obtain ⟨i,v⟩:=p
    simp only [lk] at h
    split at h
    · rename_i e; subst e; cases h; simp
    · simp [ih h]
theorem lk_of_mem {α : Type} {O : List (Nat × α)} {o : Nat} {ob : α} (hn : (O.map (·.1)).Nodup) (h : (o,ob) ∈ O) : lk O o = some ob:=by
  induction O with
  | nil => cases h
  | cons p O ih =>
    obtain ⟨i,v⟩:=p
    simp only [List.map_cons,List.nodup_cons] at hn
    simp only [lk]
    rcases List.mem_cons.1 h with e | h
    · cases e; simp
    · have : i ≠ o:=by
        rintro rfl
        exact hn.1 (List.mem_map.2 ⟨_,h,rfl⟩)
      rw [if_neg this]
      exact ih hn.2 h
theorem lk_none {α : Type} {O : List (Nat × α)} {o : Nat} : lk O o = none ↔ o ∉ O.map (·.1):=by
  induction O with
  | nil => simp [lk]
  | cons p O ih =>
    obtain ⟨i,v⟩:=p
    simp only [lk,List.map_cons,List.mem_cons,not_or]
    split
    · rename_i e; subst e; simp
    · rename_i e; rw [ih]; simp [Ne.symm e]
theorem lk_append {α : Type} {O O' : List (Nat × α)} {o : Nat} : lk (O ++ O') o = match lk O o with | some x => some x | none => lk O' o:=by
  induction O with
  | nil => rfl
  | cons p O ih =>
    obtain ⟨i,v⟩:=p
    simp only [List.cons_append,lk]
    split
    · rfl
    · exact ih
theorem rmsO_spec : ∀ {os : List Nat} {O : OO} {κ : OO → Prop},rmsO O os κ → ∃ O',κ O' ∧ ∀ i,lk O' i = if i ∈ os then none else lk O i:=by
  intro os
  induction os with
  | nil => intro O κ h; cases O <;> exact ⟨_,h,by simp⟩
  | cons x os ih =>
    intro O κ h
    have h' : rmO O x fun O' => rmsO O' os κ:=by cases O <;> exact h
    obtain ⟨O1,h,h1⟩:=rmO_spec h'
    obtain ⟨O2,hk,h2⟩:=ih h
    refine ⟨O2,hk,fun i => ?_⟩
    rw [h2,h1]
    by_cases e1 : i ∈ os
    · simp [e1]
    · by_cases e2 : i = x <;> simp [e1,e2]
theorem holdsO_spec {σ : List (Nat × Nat)} : ∀ {O1 : OO},holdsO O σ O1 → ∀ p ∈ O1,∃ o' ob',lk σ p.1 = some o' ∧ lk O o' = some ob' ∧ RenB σ p.2 ob':=by
  intro O1
  induction O1 with
  | nil => intro _ p hp; cases hp
  | cons q O1 ih =>
    intro h p hp
    obtain ⟨o,ob⟩:=q
    obtain ⟨h1,h2⟩:=h
    rcases List.mem_cons.1 hp with rfl | hp
    · obtain ⟨o',hl,h1⟩:=idC_spec h1
      obtain ⟨ob',hl',h1⟩:=objC_spec h1
      obtain ⟨ob'',e,hr⟩:=renOB_spec h1
      subst e
      exact ⟨o',_,hl,hl',hr⟩
    · exact ih h2 p hp
theorem homesOK_spec {σ τ : List (Nat × Nat)} {n n' : Nat} : ∀ {O' : OO},homesOK σ τ O1 n n' O' → ∀ p ∈ O',∃ o',lk τ p.1 = some o' ∧ ((n ≤ o' ∧ o' < n') ∨ ∃ c,lk O1 p.1 = some (.var c) ∧ lk σ p.1 = some o'):=by
  intro O'
  induction O' with
  | nil => intro _ p hp; cases hp
  | cons q O' ih =>
    intro h p hp
    obtain ⟨o,ob⟩:=q
    obtain ⟨h1,h2⟩:=h
    rcases List.mem_cons.1 hp with rfl | hp
    · obtain ⟨o',hl,h1⟩:=idC_spec h1
      refine ⟨o',hl,h1.imp id ?_⟩
      rintro ⟨h3,h4⟩
      obtain ⟨ob',h5,c,rfl⟩:=objC_spec h3
      obtain ⟨o'',h6,rfl⟩:=idC_spec h4
      exact ⟨c,h5,h6⟩
    · exact ih h2 p hp
theorem idC_mono {l : List (Nat × Nat)} {o : Nat} {K K' : Nat → Prop} (hk : ∀ x,K x → K' x) (h : idC l o K) : idC l o K':=by
  induction l with
  | nil => exact h
  | cons q l ih =>
    obtain ⟨i,j⟩:=q
    simp only [idC] at h ⊢
    split at h
    · rename_i e; rw [if_pos e]; exact hk _ h
    · rename_i e; rw [if_neg e]; exact ih h
theorem homesK_spec {ks : List Nat} {σ τ : List (Nat × Nat)} {n n' : Nat} : ∀ {O' : OO},homesK ks σ τ O1 n n' O' → ∀ p ∈ O',∃ o',lk τ p.1 = some o' ∧ ((n ≤ o' ∧ o' < n') ∨ ((∃ c,lk O1 p.1 = some (.var c)) ∨ ks.contains p.1 = true) ∧ lk σ p.1 = some o'):=by
  intro O'
  induction O' with
  | nil => intro _ p hp; cases hp
  | cons q O' ih =>
    intro h p hp
    obtain ⟨o,ob⟩:=q
    obtain ⟨h1,h2⟩:=h
    rcases List.mem_cons.1 hp with rfl | hp
    · obtain ⟨o',hl,h1⟩:=idC_spec h1
      refine ⟨o',hl,h1.imp id ?_⟩
      rintro ⟨h3,h4⟩
      obtain ⟨o'',h6,rfl⟩:=idC_spec h4
      rcases h3 with h3 | h3
      · obtain ⟨ob',h5,c,rfl⟩:=objC_spec h3
        exact ⟨.inl ⟨c,h5⟩,h6⟩
      · exact ⟨.inr h3,h6⟩
    · exact ih h2 p hp
end
end Go.Sy
namespace Go.Sy
open Go
set_option linter.unusedSimpArgs false
set_option linter.unusedVariables false
section
variable {E : Env} {N : Nat} {M M' M1 : Pool} {β β' β1 : Bmap} {T : TT} {O O' O1 O2 : OO} {n : Nat} {a : Act} {w w' : World} {P : Program} {o : Oper} {K : KK}
theorem argsOK_spec {bor : Bool} {σ : List (Nat × Nat)} {M1 : Pool} {β1 : Bmap} (ha : Agr σ β1 β) (hM : PLe M M1) (hv : bor = true → ∀ v κ,viewC O2 9 v κ → ∃ c,κ c ∧ Vw M M1 β v c) :
    ∀ {as cs : List AV} {xs : List Value},argsOK bor σ O2 as cs → VRs M β as xs → VRs M1 β1 cs xs:=by
  intro as
  induction as with
  | nil => intro cs xs h hx; cases cs with | nil => cases hx; exact .nil | cons _ _ => exact h.elim
  | cons a as ih =>
    intro cs xs h hx
    cases cs with
    | nil => exact h.elim
    | cons c cs =>
      cases hx with
      | cons h1 h2 =>
        refine .cons ?_ (ih h.2 h2)
        rcases h.1 with h | ⟨hb,hn,h⟩
        · obtain ⟨c',e,hr⟩:=renC_spec σ _ _ h
          subst e
          exact ((hr.vr ha).2 h1).mono hM (BLe.refl _)
        · obtain ⟨c',e,hv'⟩:=hv hb _ _ h
          subst e
          exact (hv'.vr h1).nid hn _
theorem lk_swap {τ : List (Nat × Nat)} {o o' : Nat} (hn : (τ.map (·.1)).Nodup) (h : lk (τ.map Prod.swap) o' = some o) : lk τ o = some o':=by
  have:=lk_mem h
  obtain ⟨p,hp,e⟩:=List.mem_map.1 this
  obtain ⟨p1,p2⟩:=p
  simp only [Prod.swap,Prod.mk.injEq] at e
  obtain ⟨rfl,rfl⟩:=e
  exact lk_of_mem hn hp
theorem lk_swap' {τ : List (Nat × Nat)} {o o' : Nat} (hn : (τ.map (·.2)).Nodup) (h : lk τ o = some o') : lk (τ.map Prod.swap) o' = some o:=by
  refine lk_of_mem (by simpa [List.map_map,Function.comp_def] using hn) ?_
  exact List.mem_map.2 ⟨_,lk_mem h,rfl⟩
theorem call_run (hr : RelAt E N M β T O n a w) {f : FuncId} {args : List AV} {xs : List Value} {κ : AV → OO → Nat → Prop} (hK : ∀ v O' n',κ v O' n' → ∀ o,n ≤ o → o < n' → E.ok o) (hv : VRs M β args xs) (h : CallP P f args O n κ) :
    Calls P f xs.toArray w fun e w' => ∃ x r O' n' M' β',e = .returned x ∧ κ r O' n' ∧ VR M' β' r x ∧ RelAt E N M' β' T O' n' a w':=by
  obtain ⟨ks,bor,σ,τ,A,O1,O2,r,O',n',⟨_,hf⟩,hO2,hA,hH,hk1,hn1,hn2,hnn,ht1,ht2,hhome,hkt,hbor,h⟩:=h
  obtain ⟨O2',e,hl2⟩:=rmsO_spec hO2
  subst e
  have hH:=holdsO_spec hH
  have hns : (σ.map (·.1)).Nodup:=by rw [hk1]; exact hn1
  let β1 : Bmap:=fun o => match lk σ o with | some o' => β o' | none => none
  let M1 : Pool:=poolOf bor M β O2' w
  have hβ1 : ∀ o o',lk σ o = some o' → β1 o = β o':=fun o o' h => by show (match lk σ o with | some o' => β o' | none => none) = _; rw [h]
  have hl2' : ∀ o ob,lk O2' o = some ob → lk O o = some ob ∧ o ∉ σ.map (·.2):=fun o ob h => by
    rw [hl2] at h
    split at h
    · cases h
    · rename_i e; exact ⟨h,e⟩
  have hM : PLe M M1:=fun b i v hm => by
    show poolOf bor M β O2' w b i = some v
    unfold poolOf
    rw [if_neg]
    · exact hm
    · rintro ⟨_,o,ob,κ,h1,h2,h3⟩
      have:=(hr.st.mine o ob b κ (hl2' _ _ h1).1 h2 h3).1 i
      rw [this] at hm; cases hm
  have hMf : bor = false → M1 = M:=fun hb => by
    funext b i
    show poolOf bor M β O2' w b i = _
    unfold poolOf
    rw [if_neg]
    rintro ⟨h,_⟩
    rw [hb] at h; cases h
  have hO1 : ∀ o ob,lk O1 o = some ob → ∃ o' ob',lk σ o = some o' ∧ lk O o' = some ob' ∧ RenB σ ob ob':=fun o ob h => hH _ (lk_mem h)
  have hst1 : St ⟨w,ownOf O1 β1,M1,nob,0,fun _ => True⟩ M1 β1 O1 w:=by
    refine ⟨fun b i v hm => ?_,fun _ _ _ h => h,fun _ _ _ h => .inl h,fun o ob hl => ?_,fun o ob b κ hl hb hk => ⟨fun i => ?_,.inl ⟨o,ob,κ,hl,hb,hk⟩⟩,fun o o' ob ob' b κ κ' hl hl' hb hb' hk hk' => ?_,Nat.le_refl _,fun _ _ _ => rfl,rfl,rfl,rfl⟩
    · have hm : poolOf bor M β O2' w b i = some v:=hm
      unfold poolOf at hm
      split at hm
      · exact hm
      · exact hr.st.pool _ _ _ hm
    · obtain ⟨o',ob',h1,h2,h3⟩:=hO1 _ _ hl
      obtain ⟨b,κ,hb,hor⟩:=hr.st.objs _ _ h2
      exact ⟨b,κ,by rw [hβ1 _ _ h1]; exact hb,((h3 hβ1).2 hor).mono2 hM (BLe.refl _) fun _ => rfl⟩
    · obtain ⟨o',ob',h1,h2,h3⟩:=hO1 _ _ hl
      rw [hβ1 _ _ h1] at hb
      show poolOf bor M β O2' w b i = none
      unfold poolOf
      rw [if_neg]
      · exact (hr.st.mine _ _ _ _ h2 hb hk).1 i
      · rintro ⟨_,o2,ob2,κ2,g1,g2,g3⟩
        obtain ⟨g4,g5⟩:=hl2' _ _ g1
        have:=hr.st.inj _ _ _ _ _ _ _ g4 h2 g2 hb g3 hk
        subst this
        exact g5 (List.mem_map.2 ⟨_,lk_mem h1,rfl⟩)
    · obtain ⟨p,ob1,h1,h2,h3⟩:=hO1 _ _ hl
      obtain ⟨p',ob1',h1',h2',h3'⟩:=hO1 _ _ hl'
      rw [hβ1 _ _ h1] at hb
      rw [hβ1 _ _ h1'] at hb'
      have:=hr.st.inj _ _ _ _ _ _ _ h2 h2' hb hb' hk hk'
      subst this
      have e1:=lk_swap' hn2 h1
      have e2:=lk_swap' hn2 h1'
      rw [e1] at e2
      exact Option.some.inj e2
  have hargs : VRs M1 β1 A xs:=argsOK_spec hβ1 hM (fun hb => viewC_spec hr.st hM (fun o ob h => (hl2' o ob h).1) (fun o ob b κ h1 h2 h3 i v h4 => by
    show poolOf bor M β O2' w b i = some v
    unfold poolOf
    rw [if_pos ⟨hb,o,ob,κ,h1,h2,h3⟩]
    exact h4) 9) hA hv
  have hids1 : ∀ o,lk O1 o = none → β1 o = none:=fun o h => by
    rw [lk_none] at h
    have : lk σ o = none:=by rw [lk_none,hk1]; exact h
    show (match lk σ o with | some o' => β o' | none => none) = _
    rw [this]
  refine Calls.mono (hf w M1 β1 xs hids1 hst1 hargs) ?_
  rintro e w' ⟨x,M',β',rfl,hrv,hst',hvar,hkeep⟩
  have hhome:=homesK_spec hhome
  obtain ⟨r',h,hrr⟩:=renC_spec τ r _ h
  obtain ⟨L,hκ,hL⟩:=renOO_spec h
  have hok:=hK _ _ _ hκ
  let β2 : Bmap:=fun i => match lk (τ.map Prod.swap) i with | some o => β' o | none => β i
  have hβ2 : Agr τ β' β2:=fun o o' h => by
    show _ = (match lk (τ.map Prod.swap) o' with | some o => β' o | none => β o')
    rw [lk_swap' ht2 h]
  have homes : ∀ o o',lk τ o = some o' → (n ≤ o' ∧ o' < n') ∨ (lk σ o = some o' ∧ β' o = β o'):=fun o o' h => by
    have : o ∈ keys O':=by rw [← hkt]; exact List.mem_map.2 ⟨_,lk_mem h,rfl⟩
    obtain ⟨p,hp,e⟩:=List.mem_map.1 this
    obtain ⟨p1,p2⟩:=p
    simp only at e; subst e
    obtain ⟨o2,g1,g2⟩:=hhome _ hp
    rw [h] at g1; cases g1
    refine g2.imp id ?_
    rintro ⟨g3,g4⟩
    rcases g3 with ⟨c,g3⟩ | g3
    · exact ⟨g4,by rw [hvar _ _ g3,hβ1 _ _ g4]⟩
    · exact ⟨g4,by rw [hkeep _ g3,hβ1 _ _ g4]⟩
  have hbl : BLe β β2:=fun i x hb => by
    show (match lk (τ.map Prod.swap) i with | some o => β' o | none => β i) = some x
    split
    · rename_i o e
      rcases homes _ _ (lk_swap ht1 e) with ⟨g,g2⟩ | ⟨_,g⟩
      · rw [hr.ids _ g (hok _ g g2)] at hb; cases hb
      · rw [g]; exact hb
    · exact hb
  have hlow : ∀ i,(i < n ∨ ¬ E.ok i) → β2 i = β i:=fun i hi => by
    show (match lk (τ.map Prod.swap) i with | some o => β' o | none => β i) = β i
    split
    · rename_i o e
      rcases homes _ _ (lk_swap ht1 e) with ⟨g,g2⟩ | ⟨_,g⟩
      · rcases hi with hi | hi
        · omega
        · exact absurd (hok _ g g2) hi
      · exact g
    · rfl
  have hids2 : ∀ o,n' ≤ o → E.ok o → β2 o = none:=fun i hi hk => by
    show (match lk (τ.map Prod.swap) i with | some o => β' o | none => β i) = none
    split
    · rename_i o e
      rcases homes _ _ (lk_swap ht1 e) with ⟨_,g⟩ | ⟨_,g⟩
      · omega
      · rw [g]; exact hr.ids _ (by omega) hk
    · exact hr.ids _ (by omega) hk
  have hnO' : (O'.map (·.1)).Nodup:=by have:=ht1; rw [hkt] at this; exact this
  have ownO : ∀ b,ownOf O1 β1 b → ∃ o ob κ,lk O o = some ob ∧ β o = some (b,κ) ∧ κ ≠ 0 ∧ o ∈ σ.map (·.2):=by
    rintro b ⟨o,ob,κ,h1,h2,h3⟩
    obtain ⟨o',ob',g1,g2,_⟩:=hO1 _ _ h1
    rw [hβ1 _ _ g1] at h2
    exact ⟨o',ob',κ,g2,h2,h3,List.mem_map.2 ⟨_,lk_mem g1,rfl⟩⟩
  have mineO : ∀ b,ownOf O1 β1 b → (∀ i,M b i = none) ∧ (E.own b ∨ E.w0.heap.size ≤ b):=fun b hb => by
    obtain ⟨o,ob,κ,h1,h2,h3,_⟩:=ownO b hb
    exact hr.st.mine _ _ _ _ h1 h2 h3
  -- the pool behind the call
  let M2 : Pool:=if bor = true then M else M'
  have hM2' : ∀ b i v,M2 b i = some v → M' b i = some v:=fun b i v hm => by
    show M' b i = some v
    have hm : (if bor = true then M else M') b i = some v:=hm
    split at hm
    · exact hst'.sub _ _ _ (hM _ _ _ hm)
    · exact hm
  have hMM2 : PLe M M2:=fun b i v hm => by
    show (if bor = true then M else M') b i = some v
    split
    · exact hm
    · exact hst'.sub _ _ _ (hM _ _ _ hm)
  have lifR : VR M2 β' r x:=by
    by_cases hb : bor = true
    · exact pf_aux.2.2.1 hrv (hbor hb).1 _
    · have : M2 = M':=by show (if bor = true then M else M') = _; rw [if_neg hb]
      rw [this]; exact hrv
  have lifO : ∀ p ∈ O',∀ b κ,OR M' β' b κ w' p.2 → OR M2 β' b κ w' p.2:=fun p hp b κ h => by
    by_cases hb : bor = true
    · exact h.pf ((hbor hb).2 p hp) _
    · have : M2 = M':=by show (if bor = true then M else M') = _; rw [if_neg hb]
      rw [this]; exact h
  have hLlk : ∀ i ob,lk L i = some ob → ∃ o ob',lk O' o = some ob' ∧ (o,ob') ∈ O' ∧ lk τ o = some i ∧ RenB τ ob' ob:=fun i ob h => by
    obtain ⟨p,hp,g1,g2⟩:=hL _ (lk_mem h)
    exact ⟨p.1,p.2,lk_of_mem hnO' hp,hp,g1,g2⟩
  have inO2 : ∀ i ob b κ,lk O2' i = some ob → β i = some (b,κ) → κ ≠ 0 → b < w.heap.size ∧ ¬ ownOf O1 β1 b:=fun i ob b κ h1 h2 h3 => by
    obtain ⟨g1,g2⟩:=hl2' _ _ h1
    refine ⟨?_,fun hown => ?_⟩
    · obtain ⟨b',κ',g3,g4⟩:=hr.st.objs _ _ g1
      rw [h2] at g3; cases g3
      exact g4.lt h3
    · obtain ⟨o,ob',κ',g3,g4,g5,g6⟩:=ownO b hown
      have:=hr.st.inj _ _ _ _ _ _ _ g1 g3 h2 g4 h3 g5
      subst this
      exact g2 g6
  -- an object behind the call
  have obj2 : ∀ i ob,lk (L ++ O2') i = some ob → (∃ o ob',lk O' o = some ob' ∧ (o,ob') ∈ O' ∧ lk τ o = some i ∧ RenB τ ob' ob) ∨ (lk O2' i = some ob ∧ ∀ b κ,β i = some (b,κ) → β2 i = some (b,κ)):=fun i ob h => by
    rw [lk_append] at h
    split at h
    · rename_i x e
      cases h
      exact .inl (hLlk _ _ e)
    · exact .inr ⟨h,fun b κ hb => hbl _ _ hb⟩
  have hstE : St E M2 β2 (L ++ O2') w':=by
    refine ⟨fun b i v hm => hst'.pool _ _ _ (hM2' _ _ _ hm),fun b i v hm => hMM2 _ _ _ (hr.st.sub _ _ _ hm),fun b i v hm => ?_,fun i ob hl => ?_,fun i ob b κ hl hb hk => ?_,fun i j ob ob' b κ κ' hl hl' hb hb' hk hk' => ?_,
      Nat.le_trans hr.st.size hst'.size,fun b hb hn => ?_,by rw [hst'.os]; exact hr.st.os,by rw [hst'.tape]; exact hr.st.tape,by rw [hst'.output]; exact hr.st.output⟩
    · by_cases hbo : bor = true
      · have : M2 = M:=by show (if bor = true then M else M') = _; rw [if_pos hbo]
        rw [this] at hm
        exact hr.st.only _ _ _ hm
      · rcases hst'.only _ _ _ (hM2' _ _ _ hm) with h | h | h
        · have h : M1 b i = some v:=h
          rw [hMf (by simpa using hbo)] at h
          exact hr.st.only _ _ _ h
        · exact .inr (mineO b h).2
        · exact .inr (.inr (Nat.le_trans hr.st.size h))
    · rcases obj2 _ _ hl with ⟨o,ob',h1,h2,h3,h4⟩ | ⟨h1,h2⟩
      · obtain ⟨b,κ,g1,g2⟩:=hst'.objs _ _ h1
        exact ⟨b,κ,by rw [← hβ2 _ _ h3]; exact g1,(h4 hβ2).1 (lifO _ h2 _ _ g2)⟩
      · obtain ⟨b,κ,g1,g2⟩:=hr.st.objs _ _ (hl2' _ _ h1).1
        refine ⟨b,κ,h2 _ _ g1,g2.mono2 hMM2 hbl fun hk => ?_⟩
        obtain ⟨g3,g4⟩:=inO2 _ _ _ _ h1 g1 hk
        exact hst'.keep b g3 g4
    · rcases obj2 _ _ hl with ⟨o,ob',h1,h2,h3,h4⟩ | ⟨h1,h2⟩
      · rw [← hβ2 _ _ h3] at hb
        obtain ⟨g1,g2⟩:=hst'.mine _ _ _ _ h1 hb hk
        refine ⟨fun j => ?_,?_⟩
        · cases hm : M2 b j with
          | none => rfl
          | some v => have:=hM2' _ _ _ hm; rw [g1] at this; cases this
        · rcases g2 with g2 | g2
          · exact (mineO b g2).2
          · exact .inr (Nat.le_trans hr.st.size g2)
      · obtain ⟨b',κ',g1,_⟩:=hr.st.objs _ _ (hl2' _ _ h1).1
        have:=h2 _ _ g1
        rw [hb] at this; cases this
        obtain ⟨g3,g4⟩:=hr.st.mine _ _ _ _ (hl2' _ _ h1).1 g1 hk
        refine ⟨fun j => ?_,g4⟩
        cases hm : M2 b j with
        | none => rfl
        | some v =>
          exfalso
          by_cases hbo : bor = true
          · have e : M2 = M:=by show (if bor = true then M else M') = _; rw [if_pos hbo]
            rw [e,g3] at hm; cases hm
          · obtain ⟨g5,g6⟩:=inO2 _ _ _ _ h1 g1 hk
            rcases hst'.only _ _ _ (hM2' _ _ _ hm) with h | h | h
            · have h : M1 b j = some v:=h
              rw [hMf (by simpa using hbo),g3] at h; cases h
            · exact g6 h
            · have h : w.heap.size ≤ b:=h
              omega
    · have far : ∀ o ob' i ob2 b κ κ',lk O' o = some ob' → β' o = some (b,κ) → κ ≠ 0 → lk O2' i = some ob2 → β i = some (b,κ') → κ' ≠ 0 → False:=fun o ob' i ob2 b κ κ' h1 h2 h3 h4 h5 h6 => by
        obtain ⟨g5,g6⟩:=inO2 _ _ _ _ h4 h5 h6
        rcases (hst'.mine _ _ _ _ h1 h2 h3).2 with h | h
        · exact g6 h
        · have h : w.heap.size ≤ b:=h
          omega
      have back : ∀ i ob b κ,lk O2' i = some ob → (∀ b κ,β i = some (b,κ) → β2 i = some (b,κ)) → β2 i = some (b,κ) → β i = some (b,κ):=fun i ob b κ h1 h2 h3 => by
        obtain ⟨b',κ',g1,_⟩:=hr.st.objs _ _ (hl2' _ _ h1).1
        have:=h2 _ _ g1
        rw [h3] at this; cases this
        exact g1
      rcases obj2 _ _ hl with ⟨o,ob1,h1,h2,h3,h4⟩ | ⟨h1,h2⟩
      · rw [← hβ2 _ _ h3] at hb
        rcases obj2 _ _ hl' with ⟨o',ob1',h1',h2',h3',h4'⟩ | ⟨h1',h2'⟩
        · rw [← hβ2 _ _ h3'] at hb'
          have:=hst'.inj _ _ _ _ _ _ _ h1 h1' hb hb' hk hk'
          subst this
          rw [h3] at h3'
          exact Option.some.inj h3'
        · exact (far _ _ _ _ _ _ _ h1 hb hk h1' (back _ _ _ _ h1' h2' hb') hk').elim
      · have hb:=back _ _ _ _ h1 h2 hb
        rcases obj2 _ _ hl' with ⟨o',ob1',h1',h2',h3',h4'⟩ | ⟨h1',h2'⟩
        · rw [← hβ2 _ _ h3'] at hb'
          exact (far _ _ _ _ _ _ _ h1' hb' hk' h1 hb hk).elim
        · exact hr.st.inj _ _ _ _ _ _ _ (hl2' _ _ h1).1 (hl2' _ _ h1').1 hb (back _ _ _ _ h1' h2' hb') hk hk'
    · rw [← hr.st.keep b hb hn]
      refine hst'.keep b (Nat.lt_of_lt_of_le hb hr.st.size) fun hown => ?_
      rcases (mineO b hown).2 with h | h
      · exact hn h
      · omega
  exact ⟨x,r',L ++ O2',n',M2,β2,rfl,hκ,(hrr.vr hβ2).1 lifR,hstE,hids2,fun t v hl => by obtain ⟨y,hy,hvy⟩:=hr.tmps t v hl; exact ⟨y,hy,hvy.mono hMM2 hbl⟩,hr.nd,hr.sz,fun o ho => by rw [← hr.base o ho]; exact hlow o (ho.imp (fun ho => Nat.lt_of_lt_of_le ho hr.le0) id),Nat.le_trans hr.le0 hnn⟩
theorem CallP.enters {f : FuncId} {args : List AV} {κ : AV → OO → Nat → Prop} (h : CallP P f args O n κ) : Enters P f:=by
  obtain ⟨ks,bor,σ,τ,A,O1,O2,r,O',n',⟨he,_⟩,_⟩:=h
  exact he
theorem VRs.app0 {us vs : List AV} {xs ys : List Value} (h : VRs M β us xs) (k : VRs M β vs ys) : VRs M β (us ++ vs) (xs ++ ys):=by
  induction us generalizing xs with
  | nil => cases h; exact k
  | cons v us ih => cases h with | cons h1 h2 => exact .cons h1 (ih h2)
theorem s_call (hK : ∀ v O' n',K v O' n' → ∀ o,n ≤ o → o < n' → E.ok o) {c : Call} {x : Operand} (ho : o.op = .call c) (hc : c.callee = .value x)
    (h : evC T x fun fv => evsC T c.args.toList fun vs => (match fv with | .fn (.func g) ps => CallP P g (vs ++ ps) O n fun r O' n' => K r O' n' | .fb (.func g) ps => CallP P g (ps ++ vs) O n fun r O' n' => K r O' n' | _ => False))
    (hr : RelAt E N M β T O n a w) : OpS P o E N T K a w:=by
  obtain ⟨fv,h,hfv⟩:=evC_spec hr h
  obtain ⟨vs,h,hvs⟩:=evsC_spec hr h
  cases fv with
  | fn f ps =>
    cases f with
    | func g =>
      obtain ⟨ys,e,hps⟩:=hfv.fn_inv
      have hall : VRs M β (vs ++ ps) (c.args.toList.map a.eval ++ ys):=by
        clear h e
        revert hvs
        generalize c.args.toList.map a.eval = zs
        intro hvs
        induction vs generalizing zs with
        | nil => cases hvs; exact hps
        | cons v vs ih => cases hvs with | cons h1 h2 => exact .cons h1 (ih _ h2)
      obtain ⟨fn,h1,h2,h3⟩:=h.enters
      intro next Q hn
      unfold Oper.wp
      have hrun : (execOp a.eval o).run P w = .ok (.enter g (c.args.toList.map a.eval ++ ys).toArray) w:=by
        simp only [execOp,ho,resolve,hc,e,Deferred.ofValue,Sem.run_bind,Sem.run_pure,Result.andThen_ok,invoke,callFunc,run_program,h1,h2,h3,Bool.false_eq_true,if_false]
        simp
        try rfl
      rw [hrun,Oper.upon_enter]
      refine Calls.mono (call_run hr hK hall h) ?_
      rintro _ w' ⟨x,r,O',n',M',β',rfl,hk,hv,hr'⟩
      exact hn _ _ _ _ _ _ _ hk hr' hv
    | _ => exact h.elim
  | fb f ps =>
    cases f with
    | func g =>
      obtain ⟨ys,e,hps⟩:=hfv.fb_inv
      have hall : VRs M β (ps ++ vs) (ys ++ c.args.toList.map a.eval):=hps.app0 hvs
      obtain ⟨fn,h1,h2,h3⟩:=h.enters
      intro next Q hn
      unfold Oper.wp
      have hrun : (execOp a.eval o).run P w = .ok (.enter g (ys ++ c.args.toList.map a.eval).toArray) w:=by
        simp only [execOp,ho,resolve,hc,e,Deferred.ofValue,Sem.run_bind,Sem.run_pure,Result.andThen_ok,invoke,callFunc,run_program,h1,h2,h3,Bool.false_eq_true,if_false]
        simp
        try rfl
      rw [hrun,Oper.upon_enter]
      refine Calls.mono (call_run hr hK hall h) ?_
      rintro _ w' ⟨x,r,O',n',M',β',rfl,hk,hv,hr'⟩
      exact hn _ _ _ _ _ _ _ hk hr' hv
    | _ => exact h.elim
  | _ => exact h.elim
end
end Go.Sy
namespace Go.Sy
open Go
set_option linter.unusedSimpArgs false
set_option linter.unusedVariables false
section
variable {E : Env} {N : Nat} {M M' M1 : Pool} {β β' β1 : Bmap} {T : TT} {O O' O1 O2 : OO} {n : Nat} {a : Act} {w w' : World} {P : Program} {o : Oper} {K : KK}
theorem s_s2a {t : TypeId} {x : Operand} (ho : o.op = .sliceToArrayPointer t x) (h : tyC P t fun ty => evC T x fun v => (match ty with | .arr m _ te => s2aC m te v fun r => K r O n | _ => False)) (hr : RelAt E N M β T O n a w) : OpS P o E N T K a w:=by
  obtain ⟨ty,hok,_,h⟩:=tyC_spec h
  obtain ⟨v,h,hv⟩:=evC_spec hr h
  cases ty with
  | arr m e te =>
    cases v with
    | sl c =>
      obtain ⟨hm,hle,hes,h⟩:=h
      obtain ⟨q,hk,q1,q2,q3,q4,_,q5⟩:=subC_spec h
      obtain ⟨cc,base,cap,ex,hcc,hrow,hcap,hmm⟩:=hv.sl_inv
      obtain ⟨b,off,rfl,hcell⟩:=hmm.resolve_left (by omega)
      refine OpS.val (x:=.pointer (some ⟨b,off,none⟩)) ?_ hr (.one rfl ?_) hk
      · simp only [execOp,ho,Instr.arrayAt,Sem.run_bind,Sem.run_pure,Result.andThen_ok,r_under hok.2.1,ex]
        rw [if_neg (by omega)]
        simp
      · have:=RV.pp (β:=β) (p:=[]) (b:=b) (off:=off) (q5 hcc).2 (fun i v hi => by
          simp only [piece,Nat.zero_mul,List.drop_zero,List.getElem?_take] at hi
          split at hi
          · exact hcell i v hi
          · cases hi)
        simpa [poff] using this
    | osl oo p sz lo len =>
      obtain ⟨rfl,rfl,hm,hle,hk⟩:=h
      obtain ⟨b,κ,base,cap,hb,ex,hc,hkk,ha⟩:=hv.osl_inv
      obtain rfl:=ha.resolve_left (by omega)
      refine OpS.val (x:=.pointer (some ⟨b,poff [] + 0 * sz,none⟩)) ?_ hr (.one rfl ?_) hk
      · simp only [execOp,ho,Instr.arrayAt,Sem.run_bind,Sem.run_pure,Result.andThen_ok,r_under hok.2.1,ex]
        rw [if_neg (by omega)]
        simp
      · have:=RV.ref (M:=M) (p:=[]) hb
        simpa [poff] using this
    | _ => exact h.elim
  | _ => exact h.elim
theorem digV_of {xs : List Int} {x : Value} (h : VR M β (.ints .u8 32 xs) x) : x = digV xs ∧ xs.length = 32:=by
  cases h with
  | one hm _ => cases hm
  | agg _ h => cases h with | ints _ hl => exact ⟨rfl,hl⟩
theorem vr_digV {xs : List Int} (h : xs.length = 32) : VR M β (.ints .u8 32 xs) (digV xs):=.agg rfl (.ints _ h)
theorem run_checkDigN (nn : Nat) {kt e : TypeId} (hok : (Ty.arr 32 e (.int .u8)).ok P kt) (em : Bool) (d : List Int) (hd : d.length = 32) : (Instr.checkKey em (nn + 1 + 1) kt (digV d)).run P w = .ok () w:=by
  unfold digV
  rw [Instr.checkKey]
  simp only [Sem.run_bind,r_under hok.2.1,Result.andThen_ok]
  simp only [Std.Legacy.Range.forIn_eq_forIn_range',Std.Legacy.Range.size,Nat.sub_zero,Nat.add_one_sub_one,Nat.div_one]
  have hin : ∀ j ∈ List.range' 0 32,j < 32:=fun j h => by simp at h; exact h
  generalize List.range' 0 32 = is at hin
  induction is with
  | nil => simp
  | cons j is ih =>
    have hj:=hin j (List.mem_cons_self ..)
    have hp : (part e (d.map (Value.int .u8)).toArray (j * 1)).run P w = .ok (.int .u8 (d[j]'(by omega))) w:=by
      have e2 : (d.map (Value.int .u8)).toArray[j]? = some (.int .u8 (d[j]'(by omega))):=by simp [hd,hj]
      simp only [part,Sem.run_bind,r_isAgg hok.2.2.2,Result.andThen_ok,Nat.mul_one,Ty.multi,e2,Bool.false_eq_true,if_false]
      rfl
    have hc : (Instr.checkKey em (nn + 1) e (.int .u8 (d[j]'(by omega)))).run P w = .ok () w:=by
      simp only [Instr.checkKey,Sem.run_bind,r_under hok.2.2.2.2,Result.andThen_ok,Sem.run_pure]
    have hs : (sizeOf e).run P w = .ok 1 w:=r_size hok.2.2.2
    simp only [List.forIn_cons,Sem.run_bind,hs,Result.andThen_ok,hp,hc,Sem.run_pure]
    exact ih (fun y hy => hin y (List.mem_cons_of_mem _ hy))
theorem run_checkDig {kt e : TypeId} (hok : (Ty.arr 32 e (.int .u8)).ok P kt) (em : Bool) (d : List Int) (hd : d.length = 32) : (Instr.checkKey em 10000 kt (digV d)).run P w = .ok () w:=run_checkDigN 9998 hok em d hd
theorem VR.mp_inv {o : Nat} {x : Value} (h : VR M β (.mp o) x) : ∃ b κ,β o = some (b,κ) ∧ x = .map (some b):=by
  cases h with
  | one _ h => cases h with | mp h => exact ⟨_,_,h,rfl⟩
  | agg hm _ => cases hm
theorem run_askDig {kt e : TypeId} (hok : (Ty.arr 32 e (.int .u8)).ok P kt) (d : List Int) (hd : d.length = 32) : ∀ (es : List MapEntry) (ds : List (List Int)) (i : Nat),es.map (fun e => (e.key,e.val)) = ds.map (fun d => (digV d,Value.bool true)) → (∀ d ∈ ds,d.length = 32) →
    ∃ r,(Instr.findAsking kt (digV d) es i).run P w = .ok r w ∧ (d ∈ ds → ∃ j,r = some (j,.bool true)) ∧ (d ∉ ds → r = none):=by
  intro es
  induction es with
  | nil =>
    intro ds i h _
    cases ds with
    | nil => exact ⟨none,by simp [Instr.findAsking],fun h => (by cases h),fun _ => rfl⟩
    | cons _ _ => cases h
  | cons x es ih =>
    intro ds i h hl
    cases ds with
    | nil => cases h
    | cons d' ds =>
      simp only [List.map_cons,List.cons.injEq,Prod.mk.injEq] at h
      obtain ⟨⟨hk,hv⟩,h⟩:=h
      have hd':=hl d' (List.mem_cons_self ..)
      obtain ⟨b,hb,hrun⟩:=eqC_spec (P:=P) (w:=w) (M:=fun _ _ => none) (β:=nob) (.arr 32 e (.int .u8)) kt (.ints .u8 32 d) (.ints .u8 32 d') (fun b => b = decide (d = d')) Op.maxDepth (digV d) (digV d') hok (by simp [Ty.dep,Op.maxDepth]) ⟨rfl,rfl,rfl,rfl,rfl⟩ (vr_digV hd) (vr_digV hd')
      have hq : (Op.equal kt (digV d) x.key).run P w = .ok b w:=by rw [hk]; exact hrun
      by_cases c : d = d'
      · rw [hb,decide_eq_true c] at hq
        refine ⟨some (i,x.val),by simp [Instr.findAsking,Sem.run_bind,hq,Result.andThen_ok],fun _ => ⟨i,by rw [hv]⟩,fun hn => absurd (by rw [c]; exact List.mem_cons_self ..) hn⟩
      · rw [hb,decide_eq_false c] at hq
        obtain ⟨r,h1,h2,h3⟩:=ih ds (i + 1) h (fun y hy => hl y (List.mem_cons_of_mem _ hy))
        refine ⟨r,by simp [Instr.findAsking,Sem.run_bind,hq,Result.andThen_ok,h1],fun hm => h2 ?_,fun hn => h3 fun hm => hn (List.mem_cons_of_mem _ hm)⟩
        rcases List.mem_cons.1 hm with hm | hm
        · exact absurd hm c
        · exact hm
theorem run_findDig {kt e : TypeId} (hok : (Ty.arr 32 e (.int .u8)).ok P kt) (d : List Int) (hd : d.length = 32) (es : List MapEntry) (ds : List (List Int)) (h : es.map (fun e => (e.key,e.val)) = ds.map (fun d => (digV d,Value.bool true))) (hl : ∀ d ∈ ds,d.length = 32) :
    ∃ r,(Instr.findKey kt (digV d) es).run P w = .ok r w ∧ (d ∈ ds → ∃ j,r = some (j,.bool true)) ∧ (d ∉ ds → r = none):=by
  obtain ⟨r,h1,h2⟩:=run_askDig (w:=w) hok d hd es ds 0 h hl
  refine ⟨r,?_,h2⟩
  rw [← h1]
  cases es with
  | nil => simp [Instr.findKey,Sem.run_bind,r_under hok.2.1,Instr.findNow,Instr.findAsking]
  | cons x es => simp [Instr.findKey,Sem.run_bind,r_under hok.2.1,Instr.findNow,Instr.sameNow]
theorem mapKC_spec {ty : Ty} {u : AV} {κ : List Int → Prop} (h : mapKC P ty u κ) : ∃ kt et e d,ty = .map kt et ∧ u = .ints .u8 32 d ∧ (Ty.arr 32 e (.int .u8)).ok P kt ∧ Ty.bool.ok P et ∧ κ d:=by
  cases ty with
  | map kt et =>
    cases u with
    | ints k m xs =>
      obtain ⟨tk,hok,_,h⟩:=tyC_spec h
      obtain ⟨te,hoe,_,h⟩:=tyC_spec h
      cases tk with
      | arr m' e tk' =>
        cases tk' with
        | int k' =>
          obtain ⟨rfl,rfl,rfl,rfl,rfl,h⟩:=h
          exact ⟨kt,et,e,xs,rfl,rfl,hok,hoe,h⟩
        | _ => exact h.elim
      | _ => exact h.elim
    | _ => exact h.elim
  | _ => exact h.elim
theorem mpC_spec {ob : OB} {κ : List (List Int) → Prop} (h : mpC ob κ) : ∃ ds,ob = .map ds ∧ κ ds:=by
  cases ob with
  | map ds => exact ⟨ds,rfl,h⟩
  | _ => exact h.elim
theorem setM_spec : ∀ {O : OO} {o : Nat} {d : List Int} {K : OO → Prop},setM O o d K → ∃ ds O',lk O o = some (.map ds) ∧ d ∉ ds ∧ K O' ∧ ∀ i,lk O' i = if i = o then some (.map (ds ++ [d])) else lk O i:=by
  intro O
  induction O with
  | nil => intro o d K h; exact h.elim
  | cons q O ih =>
    intro o d K h
    obtain ⟨j,ob⟩:=q
    simp only [setM] at h
    split at h
    · rename_i e
      subst e
      obtain ⟨ds,rfl,h1,h2⟩:=mpC_spec h
      refine ⟨ds,_,by simp [lk],of_decide_eq_false h1,h2,fun i => ?_⟩
      simp only [lk]
      by_cases hj : j = i
      · simp [hj]
      · simp [hj,Ne.symm hj]
    · rename_i e
      obtain ⟨ds,O',h0,h1,h2,h3⟩:=ih h
      refine ⟨ds,_,by simp [lk,e,h0],h1,h2,fun i => ?_⟩
      simp only [lk,h3]
      by_cases hj : j = i
      · have : i ≠ o:=by omega
        simp [hj,this]
      · simp [hj]
theorem s_makeMap (hK : ∀ v O' n',K v O' n' → ∀ o,n ≤ o → o < n' → E.ok o) {t : TypeId} (ho : o.op = .makeMap t none) (h : K (.mp n) ((n,.map []) :: O) (n + 1)) (hr : RelAt E N M β T O n a w) : OpS P o E N T K a w:=by
  have hn : β n = none:=hr.ids n (Nat.le_refl _) (hK _ _ _ h n (Nat.le_refl _) (Nat.lt_succ_self _))
  have hok:=hK _ _ _ h n (Nat.le_refl _) (Nat.lt_succ_self _)
  refine OpS.val (x:=.map (some w.heap.size)) (w':=w.alloc (.map #[] 0)) ?_ (hr.next (hr.st.alloc hn w.heap.size 1 (.map #[] 0) (.map []) (fun _ => rfl) ?_) (updB_le hn _) (hr.fresh _) (updB_low hok _ _) (Nat.le_succ _)) (.one rfl (.mp (κ:=1) (by simp))) h
  · simp only [execOp,ho,Instr.makeMap,Option.map_none,Sem.run_bind,run_newObj,Sem.run_pure,Result.andThen_ok]
    rfl
  · exact ⟨by decide,#[],0,alloc_new _ _,rfl,by simp⟩
def MK.ty : MK → Ty
  | .str _ => .str
  | .int _ => .int .i64
def MK.desc : MK → TypeDesc
  | .str _ => .string
  | .int _ => .int .i64
theorem MK.under {k : MK} {kt : TypeId} (hok : k.ty.ok P kt) : P.underlying kt = some k.desc:=by cases k <;> exact hok.2
theorem mapQ_spec {ty : Ty} {u : AV} {κ : List Int → Prop} {G : MK → Ty → Prop} (h : mapQ P ty u κ G) :
    (∃ kt et e d,ty = .map kt et ∧ u = .ints .u8 32 d ∧ (Ty.arr 32 e (.int .u8)).ok P kt ∧ Ty.bool.ok P et ∧ κ d) ∨ (∃ kt et te k,ty = .map kt et ∧ u = MK.av k ∧ (MK.ty k).ok P kt ∧ te.ok P et ∧ G k te):=by
  cases u with
  | str t =>
    right
    cases ty with
    | map kt et =>
      obtain ⟨tk,hok,_,h1⟩:=tyC_spec h
      obtain ⟨te,hoe,_,h2⟩:=tyC_spec h1
      obtain ⟨htk,h3⟩:=h2
      rw [htk] at hok
      exact ⟨kt,et,te,.str t,rfl,rfl,hok,hoe,h3⟩
    | _ => exact h.elim
  | int k n =>
    right
    cases ty with
    | map kt et =>
      obtain ⟨tk,hok,_,h1⟩:=tyC_spec h
      obtain ⟨te,hoe,_,h2⟩:=tyC_spec h1
      obtain ⟨htk,hkk,h3⟩:=h2
      rw [htk] at hok
      rw [hkk]
      exact ⟨kt,et,te,.int n,rfl,rfl,hok,hoe,h3⟩
    | _ => exact h.elim
  | _ => exact .inl (mapKC_spec h)
theorem MK.av_inv {k : MK} {x : Value} (h : VR M β k.av x) : x = k.v:=by
  cases k with
  | str s => exact h.str_inv
  | int n => exact h.int_inv
theorem run_checkM {k : MK} {kt : TypeId} (hok : k.ty.ok P kt) (em : Bool) : (Instr.checkKey em 10000 kt k.v).run P w = .ok () w:=by
  have hu:=MK.under hok
  rw [show (10000 : Nat) = 9999 + 1 from rfl,Instr.checkKey]
  cases k <;> simp only [MK.v,MK.desc,Sem.run_bind,r_under hu,Result.andThen_ok,Sem.run_pure]
theorem str_beq (s s' : List UInt8) : ((⟨s.toArray⟩ : ByteArray) == ⟨s'.toArray⟩) = decide (s = s'):=by
  have e : ((⟨s.toArray⟩ : ByteArray) == ⟨s'.toArray⟩) = (s.toArray == s'.toArray):=rfl
  rw [e]
  simp [beq_dec]
theorem same_now (k k' : MK) (h : k'.isS = k.isS) : Instr.sameNow k.desc k.v k'.v = some (decide (k' = k)):=by
  cases k with
  | str s =>
    cases k' with
    | str s' =>
      simp only [MK.desc,MK.v,Instr.sameNow,str_beq,MK.str.injEq]
      congr 1
      exact decide_eq_decide.2 eq_comm
    | int n => cases h
  | int n =>
    cases k' with
    | str s' => cases h
    | int n' =>
      simp only [MK.desc,MK.v,Instr.sameNow,MK.int.injEq,if_true]
      congr 1
      rw [beq_dec]
      exact decide_eq_decide.2 eq_comm
def fndM (ks : List MK) (k : MK) (xs : List Value) (i : Nat) : Option (Nat × Value):=match idxM ks k with
  | some j => some (i + j,xs.getD j undef)
  | none => none
theorem find_now (k : MK) : ∀ (es : List MapEntry) (ks : List MK) (i : Nat),es.map (fun e => e.key) = ks.map MK.v → (∀ k' ∈ ks,k'.isS = k.isS) →
    Instr.findNow k.desc k.v es i = some (fndM ks k (es.map fun e => e.val) i)
  | [],[],i,_,_ => rfl
  | [],_ :: _,_,h,_ => by cases h
  | e :: es,[],_,h,_ => by cases h
  | e :: es,k' :: ks,i,h,hs => by
    simp only [List.map_cons,List.cons.injEq] at h
    have ih:=find_now k es ks (i + 1) h.2 (fun q hq => hs q (List.mem_cons_of_mem _ hq))
    rw [Instr.findNow,h.1,same_now k k' (hs k' (List.mem_cons_self ..))]
    unfold fndM at ih ⊢
    by_cases c : k' = k
    · simp [idxM,c]
    · rw [show decide (k' = k) = false from decide_eq_false c]
      simp only [idxM,if_neg c,ih]
      cases idxM ks k with
      | none => rfl
      | some j => simp [Nat.add_assoc,Nat.add_comm 1 j]
theorem run_findM {k : MK} {kt : TypeId} (hok : k.ty.ok P kt) (es : List MapEntry) (ks : List MK) (h : es.map (fun e => e.key) = ks.map MK.v) (hs : ∀ k' ∈ ks,k'.isS = k.isS) :
    (Instr.findKey kt k.v es).run P w = .ok (fndM ks k (es.map fun e => e.val) 0) w:=by
  simp only [Instr.findKey,Sem.run_bind,r_under (MK.under hok),Result.andThen_ok,find_now k es ks 0 h hs,Sem.run_pure]
theorem VRs.lens {vs : List AV} {xs : List Value} (h : VRs M β vs xs) : vs.length = xs.length:=by
  induction vs generalizing xs with
  | nil => cases h; rfl
  | cons v vs ih => cases h with | cons _ h => simp [ih h]
theorem VRs.at {vs : List AV} {xs : List Value} (h : VRs M β vs xs) {j : Nat} {v : AV} (hv : vs[j]? = some v) : VR M β v (xs.getD j undef):=by
  induction vs generalizing xs j with
  | nil => cases hv
  | cons u vs ih =>
    cases h with
    | cons h1 h2 =>
      cases j with
      | zero => cases hv; exact h1
      | succ j => exact ih h2 (by simpa using hv)
theorem VRs.put {vs : List AV} {xs : List Value} (h : VRs M β vs xs) {z : AV} {y : Value} (hz : VR M β z y) : ∀ j,VRs M β (vs.set j z) (xs.set j y):=by
  induction vs generalizing xs with
  | nil => cases h; intro j; exact .nil
  | cons u vs ih =>
    cases h with
    | cons h1 h2 =>
      intro j
      cases j with
      | zero => exact .cons hz h2
      | succ j => exact .cons h1 (ih h2 j)
theorem VRs.snoc {vs : List AV} {xs : List Value} (h : VRs M β vs xs) {z : AV} {y : Value} (hz : VR M β z y) : VRs M β (vs ++ [z]) (xs ++ [y]):=by
  induction vs generalizing xs with
  | nil => cases h; exact .cons hz .nil
  | cons u vs ih => cases h with | cons h1 h2 => exact .cons h1 (ih h2)
theorem idxM_lt {k : MK} : ∀ {ks : List MK} {j : Nat},idxM ks k = some j → ks[j]? = some k
  | [],j,h => by cases h
  | k' :: ks,j,h => by
    rw [idxM] at h
    split at h
    · rename_i c; cases h; rw [c]; rfl
    · cases hi : idxM ks k with
      | none => rw [hi] at h; cases h
      | some i => rw [hi] at h; cases h; exact idxM_lt (ks:=ks) hi
theorem gmC_spec {k : MK} {ob : OB} {G : List MK → List AV → Prop} (h : gmC k ob G) : ∃ ks vs,G ks vs ∧ ∀ {b κ},OR M β b κ w ob → OR M β b κ w (.gm k.isS ks vs):=by
  cases ob with
  | gm f ks vs =>
    obtain ⟨rfl,h⟩:=h
    exact ⟨ks,vs,h,fun h => h⟩
  | map ds =>
    obtain ⟨rfl,h⟩:=h
    refine ⟨[],[],h,fun {b κ} ⟨h1,es,cl,h2,h3,_⟩ => ⟨h1,es,cl,h2,?_,?_,fun _ h => by cases h⟩⟩
    · have : es.toList = []:=by simpa using h3
      rw [this]; rfl
    · have : es.toList = []:=by simpa using h3
      rw [this]; exact .nil
  | var c => exact h.elim
  | row c => exact h.elim
theorem setG_spec : ∀ {O : OO} {o : Nat} {k : MK} {z : AV} {K : OO → Prop},setG O o k z K → ∃ ob ks vs O',lk O o = some ob ∧ K O' ∧ (∀ i,lk O' i = if i = o then some (.gm k.isS (putM ks vs k z).1 (putM ks vs k z).2) else lk O i) ∧ ∀ {b κ},OR M β b κ w ob → OR M β b κ w (.gm k.isS ks vs):=by
  intro O
  induction O with
  | nil => intro o k z K h; exact h.elim
  | cons q O ih =>
    intro o k z K h
    obtain ⟨j,ob⟩:=q
    simp only [setG] at h
    split at h
    · rename_i e
      subst e
      obtain ⟨ks,vs,h1,h2⟩:=gmC_spec (M:=M) (β:=β) (w:=w) h
      refine ⟨ob,ks,vs,_,by simp [lk],h1,fun i => ?_,h2⟩
      simp only [lk]
      by_cases hj : j = i
      · simp [hj]
      · simp [hj,Ne.symm hj]
    · rename_i e
      obtain ⟨ob',ks,vs,O',h0,h1,h2,h3⟩:=ih h
      refine ⟨ob',ks,vs,_,by simp [lk,e,h0],h1,fun i => ?_,h3⟩
      simp only [lk,h2]
      by_cases hj : j = i
      · have : i ≠ o:=by omega
        simp [hj,this]
      · simp [hj]
theorem s_lookup {t : TypeId} {x i : Operand} {ok : Bool} (ho : o.op = .lookup t x i ok)
    (h : tyC P t fun ty => evC T x fun v => evC T i fun u => mapQ P ty u (fun d => ok = false ∧
      (match v with
      | .mp o => objC O o fun ob => mpC ob fun ds => K (.bool (decide (d ∈ ds))) O n
      | _ => False)) fun k te =>
      (match v with
      | .mp o => objC O o fun ob => gmC k ob fun ks vs => fndC (getM ks vs k) te.zero fun r h => if ok = true then K (.tup [r,.bool h]) O n else K r O n
      | _ => False)) (hr : RelAt E N M β T O n a w) : OpS P o E N T K a w:=by
  obtain ⟨ty,hok,_,h⟩:=tyC_spec h
  obtain ⟨v,h,hv⟩:=evC_spec hr h
  obtain ⟨u,h0,hu⟩:=evC_spec hr h
  clear h
  rcases mapQ_spec h0 with ⟨kt,et,e,d,ety,eu,hk,he,eok,h⟩ | ⟨kt,et,te,k,ety,eu,hk,he,h⟩ <;> clear h0
  · subst ety
    subst eu
    subst eok
    cases v with
    | mp oo =>
      obtain ⟨ob,hl,h⟩:=objC_spec h
      obtain ⟨ds,rfl,h⟩:=mpC_spec h
      obtain ⟨b,κ,hb,_,es,cl,hh,hes,hds⟩:=hr.st.objs _ _ hl
      obtain ⟨hux,hdl⟩:=digV_of hu
      have hvx : a.eval x = .map (some b):=by
        obtain ⟨b',κ',h1,h2⟩:=hv.mp_inv
        rw [hb] at h1; cases h1; exact h2
      obtain ⟨r,hf,hin,hout⟩:=run_findDig (w:=w) hk d hdl es.toList ds hes hds
      have hgo : (getObj b).run P w = .ok (.map es cl) w:=by simp [getObj,Sem.run,hh]
      have hz : (zeroValue et).run P w = .ok (.bool false) w:=r_zero he
      refine OpS.val (x:=.bool (decide (d ∈ ds))) ?_ hr (.one rfl (.bool _)) h
      simp only [execOp,ho,Instr.lookup,Sem.run_bind,r_under hok.2,Result.andThen_ok,hvx,hux,hgo,Sem.run_pure,run_checkDig hk _ d hdl,hf]
      by_cases c : d ∈ ds
      · obtain ⟨j,rfl⟩:=hin c
        simp [c]
      · rw [hout c]
        simp [c,hz,Result.andThen_ok]
    | _ => exact h.elim
  · subst ety
    subst eu
    cases v with
    | mp oo =>
      obtain ⟨ob,hl,h⟩:=objC_spec h
      obtain ⟨ks,vs,h,hob⟩:=gmC_spec (M:=M) (β:=β) (w:=w) h
      obtain ⟨b,κ,hb,hor⟩:=hr.st.objs _ _ hl
      obtain ⟨hκ,es,cl,hh,hes,hvs,hs⟩:=hob hor
      have hux:=MK.av_inv hu
      have hvx : a.eval x = .map (some b):=by
        obtain ⟨b',κ',h1,h2⟩:=hv.mp_inv
        rw [hb] at h1; cases h1; exact h2
      have hf:=run_findM (w:=w) hk es.toList ks hes hs
      have hgo : (getObj b).run P w = .ok (.map es cl) w:=by simp [getObj,Sem.run,hh]
      have hz : (zeroValue et).run P w = .ok te.zv w:=r_zero he
      have key : ∃ (r : AV) (hb : Bool) (y : Value),(if ok = true then K (.tup [r,.bool hb]) O n else K r O n) ∧ VR M β r y ∧ (execOp a.eval o).run P w = .ok (.value (if ok = true then .tuple #[y,.bool hb] else y)) w:=by
        unfold getM at h
        cases hi : idxM ks k with
        | none =>
          rw [hi] at h
          refine ⟨te.zero,false,te.zv,h,zero_vr te β,?_⟩
          simp only [execOp,ho,Instr.lookup,Sem.run_bind,r_under hok.2,Result.andThen_ok,hvx,hux,hgo,Sem.run_pure,run_checkM hk,hf,fndM,hi,hz]
        | some j =>
          rw [hi] at h
          have hj:=idxM_lt hi
          have hlen : vs.length = ks.length:=by
            rw [hvs.lens,List.length_map,← List.length_map (f:=MK.v) (as:=ks),← hes,List.length_map]
          obtain ⟨v,hv2⟩ : ∃ v,vs[j]? = some v:=⟨_,List.getElem?_eq_getElem (by have:=(List.getElem?_eq_some_iff.1 hj).1; omega)⟩
          simp only [hv2,fndC] at h
          refine ⟨v,true,_,h,hvs.at hv2,?_⟩
          simp only [execOp,ho,Instr.lookup,Sem.run_bind,r_under hok.2,Result.andThen_ok,hvx,hux,hgo,Sem.run_pure,run_checkM hk,hf,fndM,hi,Nat.zero_add]
      obtain ⟨r,hb',y,hK,hy,hrun⟩:=key
      cases ok with
      | true => exact OpS.val hrun hr (.tup (.cons hy (.cons (.one rfl (.bool _)) .nil))) hK
      | false => exact OpS.val hrun hr hy hK
    | _ => exact h.elim
theorem s_mapUpdate {t : TypeId} {m k x : Operand} (ho : o.op = .mapUpdate t m k x ∨ o.op = .insert t m k x)
    (h : tyC P t fun ty => evC T m fun v => evC T k fun u => evC T x fun z => mapQ P ty u (fun d => z = .bool true ∧
      (match v with
      | .mp o => setM O o d fun O' => K .junk O' n
      | _ => False)) fun k te =>
      (match v with
      | .mp o => setG O o k z fun O' => K .junk O' n
      | _ => False)) (hr : RelAt E N M β T O n a w) : OpS P o E N T K a w:=by
  obtain ⟨ty,hok,_,h⟩:=tyC_spec h
  obtain ⟨v,h,hv⟩:=evC_spec hr h
  obtain ⟨u,h,hu⟩:=evC_spec hr h
  obtain ⟨z,h0,hz⟩:=evC_spec hr h
  clear h
  rcases mapQ_spec h0 with ⟨kt,et,e,d,ety,eu,hk,he,ez,h5⟩ | ⟨kt,et,te,kk,ety,eu,hk,he,h5⟩ <;> clear h0
  · subst ety
    subst eu
    subst ez
    cases v with
    | mp oo =>
      dsimp only at h5
      obtain ⟨ds,O',hl,hnot,hk',hO⟩:=setM_spec h5
      obtain ⟨b,κ,hb,hκ,es,cl,hh,hes,hds⟩:=hr.st.objs _ _ hl
      obtain ⟨hux,hdl⟩:=digV_of hu
      have hvx : a.eval m = .map (some b):=by
        obtain ⟨b',κ',h1,h2⟩:=hv.mp_inv
        rw [hb] at h1; cases h1; exact h2
      have hzx : a.eval x = .bool true:=hz.bool_inv
      obtain ⟨r,hf,_,hout⟩:=run_findDig (w:=w) hk d hdl es.toList ds hes hds
      obtain rfl:=hout hnot
      have hgo : (getObj b).run P w = .ok (.map es cl) w:=by simp [getObj,Sem.run,hh]
      have hlt : b < w.heap.size:=(Array.getElem?_eq_some_iff.1 hh).1
      have hset : ∀ x,(setObj b x).run P w = .ok () (w.putBlock b x):=fun x => by simp [setObj,Sem.run,hh,World.putBlock]
      refine OpS.skip (w':=w.putBlock b (.map (es.push { key:=digV d,val:=.bool true,born:=cl }) (cl + 1))) ?_ (hr.next (hr.st.put hl hb hκ hO ⟨hκ,es.push { key:=digV d,val:=.bool true,born:=cl },cl + 1,by rw [getElem?_putBlock hlt,if_pos rfl],?_,?_⟩) (BLe.refl _) hr.ids (fun _ _ => rfl) (Nat.le_refl _)) hk'
      · rcases ho with ho | ho <;> (simp only [execOp,ho,Instr.mapUpdate,Sem.run_bind,r_under hok.2,Result.andThen_ok,hvx,hux,hzx,hgo,run_checkDig hk _ d hdl,hf,hset]; rfl)
      · simp [hes]
      · intro y hy
        rcases List.mem_append.1 hy with hy | hy
        · exact hds y hy
        · rw [List.mem_singleton] at hy; rw [hy]; exact hdl
    | _ => exact h5.elim
  · subst ety
    subst eu
    cases v with
    | mp oo =>
      dsimp only at h5
      obtain ⟨ob,ks,vs,O',hl,hk',hO,hob⟩:=setG_spec (M:=M) (β:=β) (w:=w) h5
      obtain ⟨b,κ,hb,hor⟩:=hr.st.objs _ _ hl
      obtain ⟨hκ,es,cl,hh,hes,hvs,hs⟩:=hob hor
      have hux:=MK.av_inv hu
      have hvx : a.eval m = .map (some b):=by
        obtain ⟨b',κ',h1,h2⟩:=hv.mp_inv
        rw [hb] at h1; cases h1; exact h2
      have hf:=run_findM (w:=w) hk es.toList ks hes hs
      have hgo : (getObj b).run P w = .ok (.map es cl) w:=by simp [getObj,Sem.run,hh]
      have hlt : b < w.heap.size:=(Array.getElem?_eq_some_iff.1 hh).1
      have hset : ∀ x,(setObj b x).run P w = .ok () (w.putBlock b x):=fun x => by simp [setObj,Sem.run,hh,World.putBlock]
      cases hi : idxM ks kk with
      | none =>
        have hp : putM ks vs kk z = (ks ++ [kk],vs ++ [z]):=by unfold putM; rw [hi]
        rw [hp] at hO
        refine OpS.skip (w':=w.putBlock b (.map (es.push { key:=kk.v,val:=a.eval x,born:=cl }) (cl + 1))) ?_ (hr.next (hr.st.put hl hb hκ hO ⟨hκ,es.push { key:=kk.v,val:=a.eval x,born:=cl },cl + 1,by rw [getElem?_putBlock hlt,if_pos rfl],?_,?_,?_⟩) (BLe.refl _) hr.ids (fun _ _ => rfl) (Nat.le_refl _)) hk'
        · rcases ho with ho | ho <;> (simp only [execOp,ho,Instr.mapUpdate,Sem.run_bind,r_under hok.2,Result.andThen_ok,hvx,hux,hgo,run_checkM hk,hf,fndM,hi,hset]; rfl)
        · simp [hes]
        · have:=hvs.snoc hz
          simpa using this
        · intro y hy
          rcases List.mem_append.1 hy with hy | hy
          · exact hs y hy
          · rw [List.mem_singleton] at hy; rw [hy]
      | some j =>
        have hp : putM ks vs kk z = (ks,vs.set j z):=by unfold putM; rw [hi]
        rw [hp] at hO
        have hj:=idxM_lt hi
        have hkey : (es.toList.map fun e => e.key)[j]? = some kk.v:=by rw [hes,List.getElem?_map,hj]; rfl
        obtain ⟨e0,he0,hek⟩ : ∃ e0,es.toList[j]? = some e0 ∧ e0.key = kk.v:=by
          rw [List.getElem?_map] at hkey
          cases hq : es.toList[j]? with
          | none => rw [hq] at hkey; cases hkey
          | some e0 => rw [hq] at hkey; exact ⟨e0,rfl,Option.some.inj hkey⟩
        have he0' : es[j]? = some e0:=by rw [← he0,Array.getElem?_toList]
        have hstay : (Instr.keyThatStays (((es[j]?).map (·.key)).getD kk.v) kk.v).run P w = .ok kk.v w:=by
          rw [he0']
          simp only [Option.map_some,Option.getD_some,hek,Instr.keyThatStays]
          have : Instr.sameBits 10000 kk.v kk.v = true:=by cases kk <;> simp [MK.v,Instr.sameBits,str_beq]
          rw [this]
          simp
        refine OpS.skip (w':=w.putBlock b (.map (es.modify j fun e => { e with key:=kk.v,val:=a.eval x }) cl)) ?_ (hr.next (hr.st.put hl hb hκ hO ⟨hκ,es.modify j fun e => { e with key:=kk.v,val:=a.eval x },cl,by rw [getElem?_putBlock hlt,if_pos rfl],?_,?_,hs⟩) (BLe.refl _) hr.ids (fun _ _ => rfl) (Nat.le_refl _)) hk'
        · rcases ho with ho | ho <;> (simp only [execOp,ho,Instr.mapUpdate,Sem.run_bind,r_under hok.2,Result.andThen_ok,hvx,hux,hgo,run_checkM hk,hf,fndM,hi,Nat.zero_add,hstay,hset]; rfl)
        · rw [← hes]
          apply List.ext_getElem?
          intro q
          rw [List.getElem?_map,List.getElem?_map,Array.toList_modify,List.getElem?_modify]
          by_cases c : j = q
          · subst c
            rw [he0]
            simp [hek]
          · simp [c]
        · have:=hvs.put hz j
          have e : (es.modify j fun e => { e with key:=kk.v,val:=a.eval x }).toList.map (fun e => e.val) = (es.toList.map fun e => e.val).set j (a.eval x):=by
            apply List.ext_getElem?
            intro q
            rw [List.getElem?_map,Array.toList_modify,List.getElem?_modify,List.getElem?_set,List.getElem?_map,List.length_map]
            by_cases c : j = q
            · subst c
              have hlt2:=(List.getElem?_eq_some_iff.1 he0).1
              rw [he0,if_pos rfl,if_pos hlt2]
              simp
            · simp [c]
          rw [e]
          exact this
    | _ => exact h5.elim
theorem vcOp_sound (hK : ∀ v O' n',K v O' n' → ∀ o,n ≤ o → o < n' → E.ok o) {op : Op} (ho : o.op = op) (h : vcOp P op T O n K) (hr : RelAt E N M β T O n a w) : OpS P o E N T K a w:=by
  cases op with
  | move x => exact s_move ho h hr
  | assign x => exact s_assign ho h hr
  | pick c x y => exact s_pick ho h hr
  | alloc t => exact s_alloc hK ho h hr
  | box t x => exact s_box hK ho h hr
  | build t ps => exact s_build ho h hr
  | buildSlice t m ps => exact s_buildSlice hK ho h hr
  | load t x => exact s_load ho h hr
  | store t x y => exact s_store ho h hr
  | nilCheck x => exact s_nilCheck ho h hr
  | binOp op t x y t' => exact s_binOp ho h hr
  | unOp op t x => exact s_unOp ho h hr
  | convert q t x => exact s_convert hK ho h hr
  | makeFunc f fs cs => exact s_makeFunc ho h hr
  | makeSlice t x y => exact s_makeSlice hK ho h hr
  | slice t x lo hi mx =>
    cases mx with
    | none => exact s_slice ho h hr
    | some _ => exact h.elim
  | sliceToArrayPointer t x => exact s_s2a ho h hr
  | fieldAddr s x f => exact s_fieldAddr ho h hr
  | field s x f => exact s_field ho h hr
  | indexAddr t x i => exact s_indexAddr ho h hr
  | index t x i => exact s_index ho h hr
  | extract x i => exact s_extract ho h hr
  | call c =>
    cases hc : c.callee with
    | value f => simp only [vcOp,hc] at h; exact s_call hK ho hc h hr
    | builtin b => simp only [vcOp,hc] at h; exact s_builtin hK ho hc h hr
    | invoke x m => simp only [vcOp,hc] at h
  | makeMap t r =>
    cases r with
    | none => exact s_makeMap hK ho h hr
    | some _ => exact h.elim
  | lookup t x i ok => exact s_lookup ho h hr
  | mapUpdate t m k x => exact s_mapUpdate (.inl ho) h hr
  | insert t m k x => exact s_mapUpdate (.inr ho) h hr
  | _ => exact h.elim
end
end Go.Sy
namespace Go.Sy
open Go
set_option linter.unusedSimpArgs false
set_option linter.unusedVariables false
def Pt {α : Type} (F : (α → Prop) → Prop) : Prop:=∀ κ,F κ → ∃ x,κ x ∧ ∀ κ',κ' x → F κ'
section
variable {α β γ δ : Type} {p c : Prop}
theorem pt_pure (x : α) : Pt fun κ => κ x:=fun κ h => ⟨x,h,fun _ h => h⟩
theorem pt_false : Pt fun (_ : α → Prop) => False:=fun _ h => h.elim
theorem pt_and {F : (α → Prop) → Prop} (h : p → Pt F) : Pt fun κ => p ∧ F κ:=fun κ ⟨hp,hf⟩ => by
  obtain ⟨x,h1,h2⟩:=h hp κ hf
  exact ⟨x,h1,fun κ' h' => ⟨hp,h2 κ' h'⟩⟩
theorem pt_bind {f : (β → Prop) → Prop} {g : β → (α → Prop) → Prop} (hf : Pt f) (hg : ∀ x,Pt (g x)) : Pt fun κ => f fun x => g x κ:=fun κ h => by
  obtain ⟨x,h1,h2⟩:=hf _ h
  obtain ⟨y,h3,h4⟩:=hg x _ h1
  exact ⟨y,h3,fun κ' h' => h2 _ (h4 κ' h')⟩
theorem pt_bind2 {f : (β → γ → Prop) → Prop} {g : β → γ → (α → Prop) → Prop} (hf : Pt fun κ : β × γ → Prop => f fun a b => κ (a,b)) (hg : ∀ a b,Pt (g a b)) : Pt fun κ => f fun a b => g a b κ:=fun κ h => by
  obtain ⟨⟨a,b⟩,h1,h2⟩:=hf (fun q => g q.1 q.2 κ) h
  obtain ⟨y,h3,h4⟩:=hg a b _ h1
  exact ⟨y,h3,fun κ' h' => h2 (fun q => g q.1 q.2 κ') (h4 κ' h')⟩
theorem pt_ite [Decidable c] {F G : (α → Prop) → Prop} (h1 : c → Pt F) (h2 : ¬ c → Pt G) : Pt fun κ => if c then F κ else G κ:=fun κ h => by
  by_cases hc : c
  · simp only [hc,if_true] at h ⊢; exact h1 hc κ h
  · simp only [hc,if_false] at h ⊢; exact h2 hc κ h
theorem pt_split {F G : (α → Prop) → Prop} (h1 : c → Pt F) (h2 : ¬ c → Pt G) : Pt fun κ => (c → F κ) ∧ (¬ c → G κ):=fun κ h => by
  by_cases hc : c
  · obtain ⟨x,g1,g2⟩:=h1 hc κ (h.1 hc)
    exact ⟨x,g1,fun κ' h' => ⟨fun _ => g2 κ' h',fun h => absurd hc h⟩⟩
  · obtain ⟨x,g1,g2⟩:=h2 hc κ (h.2 hc)
    exact ⟨x,g1,fun κ' h' => ⟨fun h => absurd h hc,fun _ => g2 κ' h'⟩⟩
theorem pt_all {l : List β} {i : Nat} {F : β → (α → Prop) → Prop} (h : ∀ q,Pt (F q)) : Pt fun κ => i < l.length ∧ ∀ q,l[i]? = some q → F q κ:=fun κ ⟨hi,hf⟩ => by
  have e : l[i]? = some l[i]:=by simp [hi]
  obtain ⟨x,g1,g2⟩:=h _ κ (hf _ e)
  exact ⟨x,g1,fun κ' h' => ⟨hi,fun q hq => by rw [e] at hq; cases hq; exact g2 κ' h'⟩⟩
end
section
variable {P : Program} {T : TT} {O : OO} {n : Nat}
theorem lkC_pt (t : Nat) : Pt fun κ => lkC T t κ:=by
  induction T with
  | nil => exact pt_false
  | cons p T ih =>
    obtain ⟨i,v⟩:=p
    exact pt_ite (fun _ => pt_pure v) fun _ => ih
theorem objC_pt (o : Nat) : Pt fun κ => objC O o κ:=by
  induction O with
  | nil => exact pt_false
  | cons p T ih =>
    obtain ⟨i,v⟩:=p
    exact pt_ite (fun _ => pt_pure v) fun _ => ih
theorem obC_pt (ob : OB) : Pt fun κ => obC ob κ:=by cases ob <;> first | exact pt_pure _ | exact pt_false
theorem rowC_pt (ob : OB) : Pt fun κ => rowC ob κ:=by cases ob <;> first | exact pt_pure _ | exact pt_false
theorem varC_pt (ob : OB) : Pt fun κ => varC ob κ:=by cases ob <;> first | exact pt_pure _ | exact pt_false
theorem cstC_pt (v : Value) : Pt fun κ => cstC v κ:=fun κ h => by
  replace h : cstC v κ:=h
  unfold cstC at h
  split at h
  all_goals first | exact h.elim | exact ⟨_,h,fun _ h => by simpa only [cstC] using h⟩
theorem evC_pt (x : Operand) : Pt fun κ => evC T x κ:=by
  cases x with
  | tmp t => exact lkC_pt t
  | const v => exact cstC_pt v
  | func f => exact pt_pure _
  | global g => exact pt_false
theorem evsC_pt (xs : List Operand) : Pt fun κ => evsC T xs κ:=by
  induction xs with
  | nil => exact pt_pure _
  | cons x xs ih => simp only [evsC]; exact pt_bind (evC_pt x) fun v => pt_bind ih fun vs => pt_pure _
theorem boolC_pt (v : AV) : Pt fun κ => boolC v κ:=by cases v <;> first | exact pt_pure _ | exact pt_false
theorem intC_pt (v : AV) : Pt fun κ => intC v κ:=by cases v <;> first | exact pt_pure _ | exact pt_false
theorem iteC_pt (b : Bool) : Pt fun κ => iteC b κ:=fun κ h => ⟨b,iteC_spec h,fun κ' h' => ⟨fun e => e ▸ h',fun e => e ▸ h'⟩⟩
theorem fitC_pt {α : Type} {F : (α → Prop) → Prop} (ty : Ty) (q : AV) (h : Pt F) : Pt fun κ => fitC ty q (F κ):=pt_and fun _ => pt_and fun _ => h
theorem nthC_pt (vs : List AV) (i : Nat) : Pt fun κ => nthC vs i κ:=by
  induction vs generalizing i with
  | nil => exact pt_false
  | cons v vs ih => cases i with | zero => exact pt_pure _ | succ i => exact ih i
theorem nthTC_pt (ts : List Ty) (i off : Nat) : Pt fun κ : Ty × Nat → Prop => nthTC ts i off fun a b => κ (a,b):=by
  induction ts generalizing i off with
  | nil => exact pt_false
  | cons v vs ih => cases i with | zero => exact pt_pure (v,off) | succ i => exact ih i _
theorem setC_pt (ps : List AV) (j : Nat) (v : AV) : Pt fun κ => setC ps j v κ:=by
  induction ps generalizing j with
  | nil => exact pt_false
  | cons q qs ih => cases j with | zero => exact pt_and fun _ => pt_pure _ | succ j => simp only [setC]; exact pt_bind (ih j) fun _ => pt_pure _
theorem intB_pt (op : BinOp) (k : IntKind) (a : Int) (k' : IntKind) (b : Int) : Pt fun κ => intB op k a k' b κ:=by
  cases op <;> first | exact pt_and fun _ => pt_pure _ | exact pt_and fun _ => pt_and fun _ => pt_pure _
theorem strB_pt (op : BinOp) (a b : List UInt8) : Pt fun κ => strB op a b κ:=by
  cases op <;> first | exact pt_false | exact pt_pure _ | exact pt_and fun _ => pt_pure _
mutual
theorem eqC_pt : ∀ (ty : Ty) (x y : AV),Pt fun κ => eqC ty x y κ
  | .st ts,.agg ps,.agg qs => by simp only [eqC]; exact eqsC_pt ts ps qs
  | .st _,x,y => by cases x <;> cases y <;> first | (simp only [eqC]; exact pt_false) | (simp only [eqC]; exact eqsC_pt _ _ _)
  | .int _,x,y => by cases x <;> cases y <;> simp only [eqC] <;> first | exact pt_false | exact pt_and fun _ => pt_pure _
  | .bool,x,y => by cases x <;> cases y <;> simp only [eqC] <;> first | exact pt_false | exact pt_pure _
  | .str,x,y => by cases x <;> cases y <;> simp only [eqC] <;> first | exact pt_false | exact pt_pure _
  | .ptr _,x,y => by cases x <;> cases y <;> simp only [eqC] <;> first | exact pt_false | exact pt_pure _
  | .arr n e (.int k),x,y => by cases x <;> cases y <;> simp only [eqC] <;> first | exact pt_false | exact pt_and fun _ => pt_and fun _ => pt_and fun _ => pt_and fun _ => pt_pure _
  | .arr n e .bool,x,y => by cases x <;> cases y <;> simp only [eqC] <;> exact pt_false
  | .arr n e .str,x,y => by cases x <;> cases y <;> simp only [eqC] <;> exact pt_false
  | .arr n e (.ptr _),x,y => by cases x <;> cases y <;> simp only [eqC] <;> exact pt_false
  | .arr n e (.slice _),x,y => by cases x <;> cases y <;> simp only [eqC] <;> exact pt_false
  | .arr n e (.arr _ _ _),x,y => by cases x <;> cases y <;> simp only [eqC] <;> exact pt_false
  | .arr n e (.st _),x,y => by cases x <;> cases y <;> simp only [eqC] <;> exact pt_false
  | .arr n e (.map _ _),x,y => by cases x <;> cases y <;> simp only [eqC] <;> exact pt_false
  | .arr n e .func,x,y => by cases x <;> cases y <;> simp only [eqC] <;> exact pt_false
  | .slice _,x,y => by cases x <;> cases y <;> simp only [eqC] <;> first | exact pt_false | exact pt_pure _ | exact pt_and fun _ => pt_pure _
  | .map _ _,x,y => by cases x <;> cases y <;> simp only [eqC] <;> exact pt_false
  | .func,x,y => by cases x <;> cases y <;> simp only [eqC] <;> exact pt_false
theorem eqsC_pt : ∀ (ts : List Ty) (xs ys : List AV),Pt fun κ => eqsC ts xs ys κ
  | [],xs,ys => by cases xs <;> cases ys <;> simp only [eqsC] <;> first | exact pt_false | exact pt_pure _
  | t :: ts,xs,ys => by
    cases xs <;> cases ys <;> simp only [eqsC] <;> first | exact pt_false | exact pt_and fun _ => pt_and fun _ => pt_and fun _ => pt_and fun _ => pt_bind (eqC_pt t _ _) fun b => pt_bind (eqsC_pt ts _ _) fun c => pt_pure _
end
theorem eq_pt : (∀ ty : Ty,∀ x y : AV,Pt fun κ => eqC ty x y κ) ∧ (∀ ts : List Ty,∀ xs ys : List AV,Pt fun κ => eqsC ts xs ys κ):=⟨eqC_pt,eqsC_pt⟩
theorem tyC_pt (t : TypeId) : Pt fun κ => tyC P t κ:=fun κ ⟨ty,h1,h2⟩ => ⟨ty,h2,fun κ' h' => ⟨ty,h1,h'⟩⟩
theorem byC_pt (t : TypeId) : Pt fun κ => byC P t κ:=fun κ ⟨ty,h1,h2⟩ => ⟨ty.bytes,h2,fun κ' h' => ⟨ty,h1,h'⟩⟩
theorem binC_gen (op : BinOp) {t : TypeId} {x y : AV} (h1 : ∀ k a k' b,x = .int k a → y = .int k' b → False) (h2 : ∀ a b,x = .str a → y = .str b → False) (κ : AV → Prop) :
    binC P op t x y κ = match op with
    | .eql => tyC P t fun ty => eqC ty x y fun b => κ (AV.bool b)
    | .neq => tyC P t fun ty => eqC ty x y fun b => κ (AV.bool (!b))
    | _ => False:=by
  unfold binC
  split
  · exact (h1 _ _ _ _ rfl rfl).elim
  · exact (h2 _ _ rfl rfl).elim
  · rfl
theorem binC_pt (op : BinOp) (t : TypeId) (x y : AV) : Pt fun κ => binC P op t x y κ:=by
  by_cases h1 : ∃ k a k' b,x = .int k a ∧ y = .int k' b
  · obtain ⟨k,a,k',b,rfl,rfl⟩:=h1
    exact intB_pt _ _ _ _ _
  · by_cases h2 : ∃ a b,x = .str a ∧ y = .str b
    · obtain ⟨a,b,rfl,rfl⟩:=h2
      exact strB_pt _ _ _
    · simp only [binC_gen op (P:=P) (t:=t) (fun k a k' b e1 e2 => h1 ⟨k,a,k',b,e1,e2⟩) (fun a b e1 e2 => h2 ⟨a,b,e1,e2⟩)]
      cases op <;> first | exact pt_false | exact pt_bind (f:=tyC P t) (tyC_pt t) fun ty => pt_bind (f:=eqC ty x y) (eq_pt.1 ty x y) fun b => pt_pure _
theorem unC_pt (op : UnOp) (x : AV) : Pt fun κ => unC op x κ:=by cases op <;> cases x <;> first | exact pt_pure _ | exact pt_false
theorem fldC_pt (ps : List AV) (j off : Nat) : Pt fun κ => fldC ps j off κ:=by
  induction ps generalizing j off with
  | nil => exact pt_false
  | cons q qs ih => cases j with | zero => exact pt_and fun _ => pt_pure _ | succ j => exact pt_and fun _ => ih j _
theorem navC_pt (p : List Stp) (v : AV) : Pt fun κ => navC p v κ:=by
  induction p generalizing v with
  | nil => exact pt_pure _
  | cons s p ih =>
    cases s with
    | fld j off => cases v <;> first | exact pt_false | (simp only [navC]; exact pt_bind (fldC_pt _ _ _) fun q => ih q)
    | «at» i sz => cases v <;> first | exact pt_false | exact pt_and fun _ => pt_and fun _ => ih _ | exact pt_and fun _ => pt_all fun q => ih q
theorem fldU_pt {U : AV → (AV → Prop) → Prop} (hU : ∀ q,Pt (U q)) (ps : List AV) (j off : Nat) : Pt fun κ => fldU ps j off U κ:=by
  induction ps generalizing j off with
  | nil => exact pt_false
  | cons q qs ih => cases j with | zero => exact pt_and fun _ => pt_bind (hU q) fun _ => pt_pure _ | succ j => exact pt_and fun _ => pt_bind (ih j _) fun _ => pt_pure _
theorem intU_pt (k : IntKind) (v : AV) : Pt fun κ => intU k v κ:=by cases v <;> first | exact pt_false | exact pt_and fun _ => pt_pure _
theorem updC_pt (p : List Stp) (v x : AV) : Pt fun κ => updC p v x κ:=by
  induction p generalizing v with
  | nil => exact pt_and fun _ => pt_pure _
  | cons s p ih =>
    cases s with
    | fld j off => cases v <;> first | exact pt_false | (simp only [updC]; exact pt_bind (fldU_pt (fun q => ih q) _ _ _) fun _ => pt_pure _)
    | «at» i sz =>
      cases v <;> first | exact pt_false | exact pt_and fun _ => pt_and fun _ => pt_and fun _ => pt_bind (intU_pt _ _) fun _ => pt_pure _ |
        exact pt_and fun _ => pt_all fun q => pt_bind (ih q) fun _ => pt_pure _ | skip
      rename_i s' n' es
      have h : Pt fun κ => (s' = sz ∧ x.nid = true) ∧ (i < es.length ∧ ∀ q,es[i]? = some q → updC p q x fun q' => κ (AV.lst s' n' (es.set i q'))):=pt_and fun _ => pt_all fun q => pt_bind (ih q) fun _ => pt_pure _
      intro κ hk
      obtain ⟨y,h1,h2⟩:=h κ ⟨⟨hk.1,hk.2.2.1⟩,hk.2.1,hk.2.2.2⟩
      exact ⟨y,h1,fun κ' h' => by obtain ⟨⟨g1,g2⟩,g3,g4⟩:=h2 κ' h'; exact ⟨g1,g3,g2,g4⟩⟩
theorem loadC_pt (v : AV) : Pt fun κ => loadC O v κ:=by
  cases v <;> first | exact pt_false | exact navC_pt _ _ | (simp only [loadC]; exact pt_bind (objC_pt _) fun ob => pt_bind (obC_pt ob) fun c => navC_pt _ c)
theorem updOB_pt (ob : OB) (p : List Stp) (v : AV) : Pt fun κ => updOB ob p v κ:=by
  cases ob <;> first | exact pt_false | (simp only [updOB]; exact pt_bind (updC_pt _ _ _) fun _ => pt_pure _) | (simp only [updOB]; exact pt_and fun _ => pt_bind (updC_pt _ _ _) fun _ => pt_pure _)
theorem updO_pt (o : Nat) (p : List Stp) (v : AV) : Pt fun κ => updO O o p v κ:=by
  induction O with
  | nil => exact pt_false
  | cons q O ih =>
    obtain ⟨i,ob⟩:=q
    exact pt_ite (fun _ => pt_bind (updOB_pt ob p v) fun _ => pt_pure _) fun _ => pt_bind ih fun _ => pt_pure _
theorem rmO_pt (o : Nat) : Pt fun κ => rmO O o κ:=by
  induction O with
  | nil => exact pt_pure _
  | cons q O ih =>
    obtain ⟨i,ob⟩:=q
    exact pt_ite (fun _ => ih) fun _ => pt_bind ih fun _ => pt_pure _
theorem subC_pt (c : AV) (lo len : Nat) : Pt fun κ => subC c lo len κ:=by
  cases c <;> first | exact pt_false | exact pt_and fun _ => pt_split (fun _ => pt_pure _) (fun _ => pt_pure _) | exact pt_and fun _ => pt_pure _
theorem idC_pt (σ : List (Nat × Nat)) (o : Nat) : Pt fun κ => idC σ o κ:=by
  induction σ with
  | nil => exact pt_false
  | cons p σ ih =>
    obtain ⟨i,j⟩:=p
    exact pt_ite (fun _ => pt_pure _) fun _ => ih
mutual
theorem renC_pt (σ : List (Nat × Nat)) : ∀ v : AV,Pt fun κ => renC σ v κ
  | .ref o p => by simp only [renC]; exact pt_bind (idC_pt σ o) fun _ => pt_pure _
  | .osl o p sz lo len => by simp only [renC]; exact pt_bind (idC_pt σ o) fun _ => pt_pure _
  | .mp o => by simp only [renC]; exact pt_bind (idC_pt σ o) fun _ => pt_pure _
  | .agg ps => by simp only [renC]; exact pt_bind (rensC_pt σ ps) fun _ => pt_pure _
  | .arr sz ps => by simp only [renC]; exact pt_bind (rensC_pt σ ps) fun _ => pt_pure _
  | .tup ps => by simp only [renC]; exact pt_bind (rensC_pt σ ps) fun _ => pt_pure _
  | .fn f ps => by simp only [renC]; exact pt_bind (rensC_pt σ ps) fun _ => pt_pure _
  | .fb f ps => by simp only [renC]; exact pt_bind (rensC_pt σ ps) fun _ => pt_pure _
  | .int k n => by simp only [renC]; exact pt_pure _
  | .bool b => by simp only [renC]; exact pt_pure _
  | .str s => by simp only [renC]; exact pt_pure _
  | .nilp => by simp only [renC]; exact pt_pure _
  | .ints k n xs => by simp only [renC]; exact pt_pure _
  | .lst sz n es => by simp only [renC]; exact pt_pure _
  | .sl c => by simp only [renC]; exact pt_pure _
  | .nils => by simp only [renC]; exact pt_pure _
  | .pp c p => by simp only [renC]; exact pt_pure _
  | .nilf => by simp only [renC]; exact pt_pure _
  | .nilm => by simp only [renC]; exact pt_pure _
  | .opq => by simp only [renC]; exact pt_pure _
  | .junk => by simp only [renC]; exact pt_false
theorem rensC_pt (σ : List (Nat × Nat)) : ∀ vs : List AV,Pt fun κ => rensC σ vs κ
  | [] => by simp only [rensC]; exact pt_pure _
  | v :: vs => by simp only [rensC]; exact pt_bind (renC_pt σ v) fun _ => pt_bind (rensC_pt σ vs) fun _ => pt_pure _
end
theorem renOB_pt (σ : List (Nat × Nat)) (ob : OB) : Pt fun κ => renOB σ ob κ:=by
  cases ob <;> simp only [renOB] <;> first | exact pt_bind (renC_pt σ _) fun _ => pt_pure _ | exact pt_bind (rensC_pt σ _) fun _ => pt_pure _ | exact pt_pure _
theorem renOO_pt (σ : List (Nat × Nat)) (O : OO) : Pt fun κ => renOO σ O κ:=by
  induction O with
  | nil => exact pt_pure _
  | cons p O ih =>
    obtain ⟨o,ob⟩:=p
    simp only [renOO]; exact pt_bind (idC_pt σ o) fun _ => pt_bind (renOB_pt σ ob) fun _ => pt_bind ih fun _ => pt_pure _
theorem partsC_pt (ps : List (Nat × Operand)) : Pt fun κ => partsC T ps κ:=by
  induction ps with
  | nil => exact pt_pure _
  | cons p ps ih =>
    obtain ⟨j,x⟩:=p
    simp only [partsC]; exact pt_bind (evC_pt x) fun v => pt_and fun _ => pt_bind ih fun _ => pt_pure _
theorem bldS_pt (l : List (Nat × AV)) (ps : List AV) : Pt fun κ => bldS ps l κ:=by
  induction l generalizing ps with
  | nil => cases ps <;> exact pt_pure _
  | cons p l ih =>
    obtain ⟨j,v⟩:=p
    have : Pt fun κ => setC ps j v fun ps' => bldS ps' l κ:=pt_bind (setC_pt ps j v) fun ps' => ih ps'
    cases ps <;> exact this
theorem seqI_pt (k : IntKind) (l : List (Nat × AV)) (i : Nat) : Pt fun κ : Nat × List Int → Prop => seqI k i l fun a b => κ (a,b):=by
  induction l generalizing i with
  | nil => exact pt_pure (i,[])
  | cons p l ih =>
    obtain ⟨j,v⟩:=p
    exact pt_ite (fun _ => pt_bind (intU_pt k v) fun x => pt_bind2 (f:=fun κ => seqI k (i + 1) l κ) (ih (i + 1)) fun m xs => pt_pure (m,x :: xs))
      fun _ => pt_and fun _ => pt_bind (intU_pt k v) fun x => pt_bind2 (f:=fun κ => seqI k (j + 1) l κ) (ih (j + 1)) fun m xs => pt_pure (m,_)
theorem seqV_pt (sz : Nat) (l : List (Nat × AV)) (i : Nat) : Pt fun κ : Nat × List AV → Prop => seqV sz i l fun a b => κ (a,b):=by
  induction l generalizing i with
  | nil => exact pt_pure (i,[])
  | cons p l ih =>
    obtain ⟨j,v⟩:=p
    exact pt_and fun _ => pt_and fun _ => pt_bind2 (f:=fun κ => seqV sz (i + 1) l κ) (ih (i + 1)) fun m xs => pt_pure (m,v :: xs)
theorem elemsC_pt (m : Nat) (te : Ty) (l : List (Nat × AV)) : Pt fun κ => elemsC m te l κ:=by
  have gen : Pt fun κ : AV → Prop => (l = [] ∧ m = 0 → κ (.lst te.size 0 [])) ∧ (¬ (l = [] ∧ m = 0) → seqV te.size 0 l fun i vs => i ≤ m ∧ κ (.arr te.size (vs ++ List.replicate (m - i) te.zero))) :=
    pt_split (fun _ => pt_pure _) fun _ => pt_bind2 (f:=fun κ => seqV te.size 0 l κ) (seqV_pt _ _ _) fun i vs => pt_and fun _ => pt_pure _
  cases te <;> first | exact gen | exact pt_bind2 (f:=fun κ => seqI _ 0 l κ) (seqI_pt _ _ _) fun i xs => pt_and fun _ => pt_pure _
theorem zerosC_pt (m : Nat) (te : Ty) : Pt fun κ => zerosC m te κ:=by cases te <;> exact pt_pure _
theorem catC_pt (c d : AV) : Pt fun κ => catC c d κ:=by
  cases c <;> cases d <;> first | exact pt_false | exact pt_and fun _ => pt_pure _ | exact pt_and fun _ => pt_and fun _ => pt_pure _
theorem contC_pt (te : Ty) (v : AV) : Pt fun κ => contC O te v κ:=by
  cases v <;> simp only [contC] <;> first | exact pt_false | exact pt_and fun _ => pt_pure _ | exact zerosC_pt _ _ |
    exact pt_and fun _ => pt_bind (objC_pt _) fun ob => pt_bind (obC_pt ob) fun c => pt_bind (navC_pt _ c) fun q => pt_and fun _ => subC_pt _ _ _
theorem lenC_pt (v : AV) : Pt fun κ => lenC v κ:=by cases v <;> first | exact pt_false | exact pt_pure _
theorem strL_pt (v : AV) : Pt fun κ => strL v κ:=by cases v <;> first | exact pt_false | exact pt_pure _
theorem bytesOf_pt (v : AV) : Pt fun κ => bytesOf v κ:=fun κ h => by
  obtain ⟨m,xs,rfl,hk⟩:=bytesOf_spec h
  exact ⟨_,hk,fun κ' h' => h'⟩
theorem cutC_pt (v : AV) (l : Nat) (h : Option Nat) : Pt fun κ => cutC v l h κ:=by
  cases v <;> cases h <;> simp only [cutC] <;> first | exact pt_false | exact pt_and fun _ => pt_pure _ | exact pt_and fun _ => pt_and fun _ => pt_pure _ | exact pt_and fun _ => pt_bind (subC_pt _ _ _) fun _ => pt_pure _ |
    exact pt_and fun _ => pt_and fun _ => pt_bind (subC_pt _ _ _) fun _ => pt_pure _
theorem cutS_pt (v : AV) (l : Nat) (h : Option Nat) : Pt fun κ => cutS v l h κ:=by
  cases v <;> cases h <;> first | exact pt_false | exact pt_and fun _ => pt_pure _ | exact pt_and fun _ => pt_and fun _ => pt_pure _
theorem cutA_pt (sz m : Nat) (v : AV) (l : Nat) (h : Option Nat) : Pt fun κ => cutA O sz m v l h κ:=by
  cases v <;> cases h <;> first | exact pt_false | exact pt_and fun _ => pt_and fun _ => pt_pure _ | exact pt_and fun _ => pt_and fun _ => pt_and fun _ => pt_pure _ |
    (simp only [cutA]; exact pt_bind (navC_pt _ _) fun q => pt_and fun _ => pt_and fun _ => pt_and fun _ => pt_and fun _ => pt_bind (subC_pt _ _ _) fun _ => pt_pure _)
theorem optC_pt (x : Option Operand) : Pt fun κ => optC T x κ:=by
  cases x with
  | none => exact pt_pure _
  | some x => simp only [optC]; exact pt_bind (evC_pt x) fun v => pt_bind (intC_pt v) fun i => pt_and fun _ => pt_pure _
end
end Go.Sy
namespace Go.Sy
open Go
set_option linter.unusedSimpArgs false
set_option linter.unusedVariables false
section
variable {P : Program} {T : TT} {O : OO} {n : Nat}
abbrev AON:=AV × OO × Nat
theorem ownC_pt (te : Ty) (v : AV) : Pt fun κ : AV × OO → Prop => ownC te O v fun a b => κ (a,b):=by
  cases v <;> first | exact pt_false | exact pt_bind (zerosC_pt 0 te) fun c => pt_pure (c,O) |
    exact pt_and fun _ => pt_and fun _ => pt_and fun _ => pt_bind (objC_pt _) fun ob => pt_bind (rowC_pt ob) fun c => pt_and fun _ => pt_bind (rmO_pt _) fun O' => pt_pure (c,O')
theorem appC_pt (te : Ty) (bts : Nat) (c d : AV) (O : OO) : Pt fun κ : AON → Prop => appC te bts c d n O fun a b c => κ (a,b,c) :=
  pt_and fun _ => pt_and fun _ => pt_bind (catC_pt c d) fun e => pt_pure (_,_,_)
theorem viewC_pt : ∀ (f : Nat) (v : AV),Pt fun κ => viewC O f v κ:=by
  intro f
  induction f with
  | zero => intro v; cases v <;> first | exact pt_false | exact pt_pure _
  | succ f ih =>
    have vs : ∀ ps : List AV,Pt fun κ => viewC.views (viewC O f) ps κ:=by
      intro ps
      induction ps with
      | nil => exact pt_pure _
      | cons p ps ih2 => exact pt_bind (f:=fun κ => viewC O f p κ) (g:=fun q κ => viewC.views (viewC O f) ps fun qs => κ (q :: qs)) (ih p) fun q => pt_bind (f:=fun κ => viewC.views (viewC O f) ps κ) (g:=fun qs κ => κ (q :: qs)) ih2 fun qs => pt_pure _
    intro v
    cases v with
    | agg ps => exact pt_bind (f:=fun κ => viewC.views (viewC O f) ps κ) (g:=fun qs κ => κ (AV.agg qs)) (vs _) fun qs => pt_pure _
    | arr sz ps => exact pt_bind (f:=fun κ => viewC.views (viewC O f) ps κ) (g:=fun qs κ => κ (AV.lst sz qs.length qs)) (vs _) fun qs => pt_pure _
    | ref o p =>
      have h5 : ∀ c : AV,Pt fun κ : AV → Prop => viewC O f c fun c' => κ (.pp c' p):=fun c => pt_bind (f:=fun κ => viewC O f c κ) (ih c) fun c' => pt_pure _
      exact pt_bind (f:=fun κ => objC O o κ) (objC_pt o) fun ob => pt_bind (f:=fun κ => varC ob κ) (varC_pt ob) h5
    | osl o p sz lo len =>
      have h4 : ∀ r : AV,Pt fun κ : AV → Prop => viewC O f r fun r' => r'.isRow = true ∧ r'.cnt = len ∧ κ (.sl r'):=fun r =>
        pt_bind (f:=fun κ => viewC O f r κ) (g:=fun r' (κ : AV → Prop) => r'.isRow = true ∧ r'.cnt = len ∧ κ (AV.sl r')) (ih r) fun r' => pt_and fun _ => pt_and fun _ => pt_pure _
      have h3 : ∀ q : AV,Pt fun κ : AV → Prop => sz = q.esz ∧ subC q lo len fun r => viewC O f r fun r' => r'.isRow = true ∧ r'.cnt = len ∧ κ (.sl r'):=fun q => pt_and fun _ => pt_bind (f:=fun κ => subC q lo len κ) (subC_pt q lo len) h4
      have h2 : ∀ c : AV,Pt fun κ : AV → Prop => navC p c fun q => sz = q.esz ∧ subC q lo len fun r => viewC O f r fun r' => r'.isRow = true ∧ r'.cnt = len ∧ κ (.sl r'):=fun c => pt_bind (f:=fun κ => navC p c κ) (navC_pt p c) h3
      exact pt_bind (f:=fun κ => objC O o κ) (objC_pt o) fun ob => pt_bind (f:=fun κ => obC ob κ) (obC_pt ob) h2
    | _ => first | exact pt_false | exact pt_pure _
theorem rowC_pt' (ob : OB) : Pt fun κ => rowC ob κ:=by cases ob <;> first | exact pt_pure _ | exact pt_false
theorem truncC_pt (s : AV) : Pt fun κ : OO → Prop => truncC O s κ:=by
  cases s with
  | osl o p sz lo len =>
    simp only [truncC]
    exact pt_bind (objC_pt o) fun ob => pt_bind (rowC_pt' ob) fun c => pt_split (fun _ => pt_pure O) fun _ => pt_and fun _ => pt_and fun _ => pt_and fun _ => pt_bind (subC_pt c 0 len) fun c' => pt_pure _
  | _ => exact pt_pure O
theorem appendC_pt (ts : List TypeId) (s x : AV) : Pt fun κ : AON → Prop => appendC P ts s x O n fun a b c => κ (a,b,c):=by
  cases ts with
  | nil => exact pt_false
  | cons st ts =>
    cases ts with
    | nil => exact pt_false
    | cons xt ts =>
      cases ts with
      | cons _ _ => exact pt_false
      | nil =>
        refine pt_bind (f:=tyC P st) (tyC_pt st) fun sty => ?_
        cases sty with
        | slice e =>
          refine pt_bind (f:=tyC P e) (tyC_pt e) fun te => pt_bind (f:=byC P e) (byC_pt e) fun bts => pt_and fun _ => pt_and fun _ => ?_
          have thaw : ∀ (O : OO) (c d : AV) (O' : OO),Pt fun κ : AON → Prop => thawC te O O' s c d fun c d O' => appC te bts c d n O' fun a b c => κ (a,b,c):=fun O c d O' => by
            cases c <;> cases d <;> first | exact appC_pt te bts _ _ O' | skip
            · rename_i sz ps sz' m es
              rintro κ ⟨h1,h2⟩
              cases hn : AV.nids ps with
              | true =>
                obtain ⟨y,g1,g2⟩:=appC_pt (n:=n) te bts (.arr sz ps) (.lst sz' m es) O' κ (h1 hn)
                exact ⟨y,g1,fun κ' h' => ⟨fun _ => g2 κ' h',fun h => by rw [hn] at h; cases h⟩⟩
              | false =>
                have pv:=pt_bind (f:=fun κ => viewC (frzO O (reach O 3 (idsVs ps))) 9 (.arr sz ps) κ) (viewC_pt (O:=frzO O (reach O 3 (idsVs ps))) 9 (.arr sz ps)) fun c' => pt_bind2 (f:=fun κ => ownC te (dropO O (reach O 3 (idsVs ps))) s κ) (ownC_pt (O:=dropO O (reach O 3 (idsVs ps))) te s) fun c2 O2 => pt_and (p:=c2 = .arr sz ps) fun _ => appC_pt (n:=n) te bts c' (.lst sz' m es) O2
                obtain ⟨y,g1,g2⟩:=pv κ (h2 hn)
                exact ⟨y,g1,fun κ' h' => ⟨(fun h => by rw [hn] at h; cases h),fun _ => g2 κ' h'⟩⟩
            · rename_i sz m es sz' ps
              rintro κ ⟨h1,h2⟩
              cases hn : AV.nids ps with
              | true =>
                obtain ⟨y,g1,g2⟩:=appC_pt (n:=n) te bts (.lst sz m es) (.arr sz' ps) O' κ (h1 hn)
                exact ⟨y,g1,fun κ' h' => ⟨fun _ => g2 κ' h',fun h => by rw [hn] at h; cases h⟩⟩
              | false =>
                have pv:=pt_bind (f:=fun κ => viewC (frzO O (reach O 3 (idsVs ps))) 9 (.arr sz' ps) κ) (viewC_pt (O:=frzO O (reach O 3 (idsVs ps))) 9 (.arr sz' ps)) fun d' => pt_bind2 (f:=fun κ => ownC te (dropO O (reach O 3 (idsVs ps))) s κ) (ownC_pt (O:=dropO O (reach O 3 (idsVs ps))) te s) fun c' O2 => appC_pt (n:=n) te bts c' d' O2
                obtain ⟨y,g1,g2⟩:=pv κ (h2 hn)
                exact ⟨y,g1,fun κ' h' => ⟨(fun h => by rw [hn] at h; cases h),fun _ => g2 κ' h'⟩⟩
          have gen : Pt fun κ : AON → Prop => tyC P xt fun xty => (∀ k,xty ≠ .int k) ∧ contC O te x fun d => truncC O s fun O1 => ownC te O1 s fun c O' => thawC te O1 O' s c d fun c d O' => appC te bts c d n O' fun a b c => κ (a,b,c) :=
            pt_bind (f:=tyC P xt) (tyC_pt xt) fun xty => pt_and fun _ => pt_bind (contC_pt te x) fun d => pt_bind (truncC_pt s) fun O1 => pt_bind2 (f:=fun κ => ownC te O1 s κ) (ownC_pt te s) fun c O' => thaw O1 c d O'
          cases x <;> first | exact gen |
            exact pt_bind (f:=tyC P xt) (tyC_pt xt) fun xty => pt_and fun _ => pt_and fun _ => pt_and fun _ => pt_bind (zerosC_pt _ te) fun d => pt_bind (truncC_pt s) fun O1 => pt_bind2 (f:=fun κ => ownC te O1 s κ) (ownC_pt te s) fun c O' => appC_pt te bts c d O'
        | _ => exact pt_false
theorem putC_pt (q : AV) (lo : Nat) (d : AV) : Pt fun κ => putC q lo d κ:=by cases q <;> cases d <;> first | exact pt_false | exact pt_and fun _ => pt_and fun _ => pt_pure _
theorem copyC_pt (ts : List TypeId) (s x : AV) : Pt fun κ : Nat × OO → Prop => copyC P ts s x O fun a b => κ (a,b):=by
  cases ts with
  | nil => exact pt_false
  | cons st ts =>
    refine pt_bind (f:=tyC P st) (tyC_pt st) fun sty => ?_
    cases sty with
    | slice e =>
      refine pt_bind (f:=tyC P e) (tyC_pt e) fun te => pt_and fun _ => ?_
      cases s with
      | nils => exact pt_bind (contC_pt te x) fun _ => pt_pure (0,O)
      | osl o p sz lo len =>
        refine pt_and fun _ => pt_bind (contC_pt te x) fun d => ?_
        have put : ∀ (d : AV) (m : Nat),Pt fun κ : Nat × OO → Prop => objC O o fun ob => obC ob fun c => navC p c fun q => putC q lo d fun q' => updO O o p q' fun O' => κ (m,O'):=fun d m =>
          pt_bind (objC_pt o) fun ob => pt_bind (obC_pt ob) fun c => pt_bind (navC_pt p c) fun q => pt_bind (putC_pt q lo d) fun q' => pt_bind (updO_pt o p q') fun O' => pt_pure (m,O')
        have sub : Pt fun κ : Nat × OO → Prop => subC d 0 len fun d' => objC O o fun ob => obC ob fun c => navC p c fun q => putC q lo d' fun q' => updO O o p q' fun O' => κ (len,O') :=
          pt_bind (subC_pt d 0 len) fun d' => put d' len
        rintro κ ⟨h1,h2,h3⟩
        by_cases hz : d.cnt = 0 ∨ len = 0
        · exact ⟨_,h1 hz,fun κ' h' => ⟨fun _ => h',fun _ _ => by omega,fun _ _ => by omega⟩⟩
        · by_cases hle : d.cnt ≤ len
          · obtain ⟨y,g1,g2⟩:=put d d.cnt κ (h2 (by omega) (by omega) hle)
            exact ⟨y,g1,fun κ' h' => ⟨fun h => absurd h hz,fun _ _ _ => g2 κ' h',fun _ _ h => absurd hle h⟩⟩
          · obtain ⟨y,g1,g2⟩:=sub κ (h3 (by omega) (by omega) hle)
            exact ⟨y,g1,fun κ' h' => ⟨fun h => absurd h hz,fun _ _ h => absurd h hle,fun _ _ _ => g2 κ' h'⟩⟩
      | _ => exact pt_false
    | _ => exact pt_false
theorem lenK_pt (t : TypeId) (v : AV) : Pt fun κ => lenK P t v κ:=by
  refine pt_bind (f:=tyC P t) (tyC_pt t) fun ty => ?_
  cases ty <;> first | exact pt_false | exact pt_bind (lenC_pt v) fun _ => pt_pure _ | exact pt_bind (strL_pt v) fun _ => pt_pure _ | exact pt_pure _
theorem bltC_pt (b : Builtin) (ts : List TypeId) (vs : List AV) : Pt fun κ : AON → Prop => bltC P b ts vs O n fun a b c => κ (a,b,c):=fun κ h => by
  replace h : bltC P b ts vs O n (fun a b c => κ (a,b,c)):=h
  have key : ∀ (F : (AON → Prop) → Prop),Pt F → (∀ κ : AON → Prop,bltC P b ts vs O n (fun a b c => κ (a,b,c)) = F κ) → ∃ x,κ x ∧ ∀ κ' : AON → Prop,κ' x → bltC P b ts vs O n (fun a b c => κ' (a,b,c)):=fun F hF e => by
    rw [e] at h
    obtain ⟨x,h1,h2⟩:=hF κ h
    exact ⟨x,h1,fun κ' h' => by rw [e]; exact h2 κ' h'⟩
  unfold bltC at h
  split at h
  · split at h
    · rename_i v _ t
      exact key _ (pt_bind (lenK_pt t v) fun r => pt_pure (r,O,n)) fun _ => rfl
    · exact h.elim
  · rename_i s x
    exact key _ (appendC_pt ts s x) fun _ => rfl
  · rename_i s x
    exact key _ (pt_bind2 (f:=fun κ => copyC P ts s x O κ) (copyC_pt ts s x) fun m O' => pt_pure (.int .i64 m,O',n)) fun _ => rfl
  · exact key _ (pt_and fun _ => pt_pure (_,O,n)) fun _ => rfl
  · exact key _ (pt_and fun _ => pt_pure (_,O,n)) fun _ => rfl
  · exact h.elim
theorem convC_pt (q t : TypeId) (v : AV) : Pt fun κ : AON → Prop => convC P q t v O n fun a b c => κ (a,b,c):=by
  refine pt_bind (f:=tyC P q) (tyC_pt q) fun sty => pt_bind (f:=tyC P t) (tyC_pt t) fun d => ?_
  cases d <;> cases v <;> first | exact pt_false | exact pt_pure (_,O,n) | exact pt_and fun _ => pt_bind (f:=tyC P _) (tyC_pt _) fun te => pt_and fun _ => pt_pure (_,_,_) | skip
  all_goals first | exact pt_and fun _ => pt_and fun _ => pt_and fun _ => pt_bind (f:=tyC P _) (tyC_pt _) fun te => pt_and fun _ => pt_bind (objC_pt _) fun ob => pt_bind (rowC_pt ob) fun _ => pt_pure (_,O,n) | skip
  all_goals
    cases sty <;> first | exact pt_false | exact pt_bind (f:=tyC P _) (tyC_pt _) fun te => pt_and fun _ => pt_bind (contC_pt te _) fun c => pt_bind (bytesOf_pt c) fun s => pt_pure (_,O,n)
theorem fldA_pt (f : Nat) (ts : List Ty) (v : AV) : Pt fun κ => fldA f ts v κ:=by
  cases v <;> first | exact pt_false | exact pt_bind2 (f:=fun κ => nthTC ts f 0 κ) (nthTC_pt ts f 0) fun _ _ => pt_pure _
theorem idxA_pt (ty : Ty) (v : AV) (i : Int) : Pt fun κ => idxA ty (fun e κ => tyC P e fun te => κ te.size) v i κ:=by
  have hs : ∀ e,Pt fun κ => tyC P e fun te => κ te.size:=fun e => pt_bind (f:=tyC P e) (tyC_pt e) fun te => pt_pure _
  cases ty <;> cases v <;> first | exact pt_false | exact pt_and fun _ => pt_and fun _ => pt_pure _ |
    exact pt_and fun _ => pt_and fun _ => pt_bind (f:=fun κ => tyC P _ fun te => κ te.size) (hs _) fun z => pt_and fun _ => pt_pure _
theorem idxV_pt (te : Ty) (m : Nat) (v : AV) (i : Int) : Pt fun κ => idxV te m v i κ:=by
  cases v <;> first | exact pt_false | exact pt_and fun _ => pt_and fun _ => pt_and fun _ => pt_and fun _ => pt_and fun _ => pt_pure _ |
    exact pt_and fun _ => pt_and fun _ => pt_and fun _ => pt_and fun _ => pt_all fun q => fitC_pt te q (pt_pure q) | skip
  rename_i sz ps
  have h : Pt fun κ => (ps.length = m ∧ 0 ≤ i ∧ i < m ∧ sz = te.size) ∧ (i.toNat < ps.length ∧ ∀ q,ps[i.toNat]? = some q → fitC te q (κ q)):=pt_and fun _ => pt_all fun q => fitC_pt te q (pt_pure q)
  intro κ hk
  obtain ⟨y,h1,h2⟩:=h κ ⟨⟨hk.1,hk.2.1,hk.2.2.1,hk.2.2.2.1⟩,by have:=hk.1; have:=hk.2.1; have:=hk.2.2.1; omega,hk.2.2.2.2⟩
  exact ⟨y,h1,fun κ' h' => by obtain ⟨⟨g1,g2,g3,g4⟩,_,g5⟩:=h2 κ' h'; exact ⟨g1,g2,g3,g4,g5⟩⟩
theorem s2aC_pt (m : Nat) (te : Ty) (v : AV) : Pt fun κ => s2aC m te v κ:=by
  cases v <;> first | exact pt_false | exact pt_and fun _ => pt_and fun _ => pt_and fun _ => pt_bind (subC_pt _ _ _) fun q => pt_pure _ | exact pt_and fun _ => pt_and fun _ => pt_and fun _ => pt_and fun _ => pt_pure _
theorem CallP_pt (f : FuncId) (args : List AV) : Pt fun κ : AON → Prop => CallP P f args O n fun a b c => κ (a,b,c):=by
  rintro κ ⟨ks,bor,σ,τ,A,O1,O2,r,O',n',h1,h2,h3,h4,h5,h6,h7,h8,h9,h10,h11,h12,h13,h⟩
  have : Pt fun κ : AON → Prop => renC τ r fun r' => renOO τ O' fun L => κ (r',L ++ O2,n'):=pt_bind (renC_pt τ r) fun r' => pt_bind (renOO_pt τ O') fun L => pt_pure (r',L ++ O2,n')
  obtain ⟨x,g1,g2⟩:=this κ h
  exact ⟨x,g1,fun κ' h' => ⟨ks,bor,σ,τ,A,O1,O2,r,O',n',h1,h2,h3,h4,h5,h6,h7,h8,h9,h10,h11,h12,h13,g2 κ' h'⟩⟩
theorem mpC_pt (ob : OB) : Pt fun κ => mpC ob κ:=by cases ob <;> first | exact pt_pure _ | exact pt_false
theorem mapKC_pt (ty : Ty) (u : AV) : Pt fun κ => mapKC P ty u κ:=by
  cases ty <;> cases u <;> first | exact pt_false | skip
  refine pt_bind (f:=tyC P _) (tyC_pt _) fun tk => pt_bind (f:=tyC P _) (tyC_pt _) fun te => ?_
  cases tk <;> first | exact pt_false | skip
  rename_i tk'
  cases tk' <;> first | exact pt_false | exact pt_and fun _ => pt_and fun _ => pt_and fun _ => pt_and fun _ => pt_and fun _ => pt_pure _
theorem setM_pt (o : Nat) (d : List Int) : Pt fun κ => setM O o d κ:=by
  induction O with
  | nil => exact pt_false
  | cons q O ih =>
    obtain ⟨i,ob⟩:=q
    exact pt_ite (fun _ => pt_bind (mpC_pt ob) fun _ => pt_and fun _ => pt_pure _) fun _ => pt_bind ih fun _ => pt_pure _
theorem mapQ_pt {α : Type} {A : List Int → (α → Prop) → Prop} {B : MK → Ty → (α → Prop) → Prop} (ty : Ty) (u : AV) (hA : ∀ d,Pt fun κ => A d κ) (hB : ∀ k te,Pt fun κ => B k te κ) : Pt fun κ : α → Prop => mapQ P ty u (fun d => A d κ) (fun k te => B k te κ):=by
  cases u with
  | str t =>
    cases ty with
    | map kt et => exact pt_bind (f:=tyC P kt) (tyC_pt kt) fun tk => pt_bind (f:=tyC P et) (tyC_pt et) fun te => pt_and fun _ => hB _ _
    | _ => exact pt_false
  | int k n =>
    cases ty with
    | map kt et => exact pt_bind (f:=tyC P kt) (tyC_pt kt) fun tk => pt_bind (f:=tyC P et) (tyC_pt et) fun te => pt_and fun _ => pt_and fun _ => hB _ _
    | _ => exact pt_false
  | _ => exact pt_bind (mapKC_pt ty _) fun d => hA d
theorem gmC_pt {α : Type} {B : List MK → List AV → (α → Prop) → Prop} (k : MK) (ob : OB) (hB : ∀ ks vs,Pt fun κ => B ks vs κ) : Pt fun κ : α → Prop => gmC k ob fun ks vs => B ks vs κ:=by
  cases ob with
  | gm f ks vs => exact pt_and fun _ => hB ks vs
  | map ds => exact pt_and fun _ => hB [] []
  | _ => exact pt_false
theorem fndC_pt {α : Type} {B : AV → Bool → (α → Prop) → Prop} (x : Option AV) (z : AV) (hB : ∀ r h,Pt fun κ => B r h κ) : Pt fun κ : α → Prop => fndC x z fun r h => B r h κ:=by
  cases x with
  | none => exact hB z false
  | some v => exact hB v true
theorem setG_pt (o : Nat) (k : MK) (z : AV) : Pt fun κ => setG O o k z κ:=by
  induction O with
  | nil => exact pt_false
  | cons q O ih =>
    obtain ⟨i,ob⟩:=q
    exact pt_ite (fun _ => gmC_pt k ob fun ks vs => pt_pure _) fun _ => pt_bind ih fun _ => pt_pure _
theorem vcOp_pt (op : Op) : Pt fun κ : AON → Prop => vcOp P op T O n fun a b c => κ (a,b,c):=by
  cases op with
  | move x => exact pt_bind (evC_pt x) fun v => pt_pure (v,O,n)
  | assign x => exact pt_bind (evC_pt x) fun v => pt_pure (v,O,n)
  | pick c x y =>
    refine pt_bind (evC_pt c) fun v => pt_bind (boolC_pt v) fun b => pt_bind (iteC_pt b) fun t => ?_
    cases t
    · exact pt_bind (evC_pt y) fun v => pt_pure (v,O,n)
    · exact pt_bind (evC_pt x) fun v => pt_pure (v,O,n)
  | alloc t => exact pt_bind (f:=tyC P t) (tyC_pt t) fun ty => pt_pure (_,_,_)
  | box t x => exact pt_bind (evC_pt x) fun v => pt_and fun _ => pt_pure (_,_,_)
  | build t ps =>
    refine pt_bind (f:=tyC P t) (tyC_pt t) fun ty => pt_bind (partsC_pt ps.toList) fun l => ?_
    cases ty <;> first | exact pt_false | exact pt_bind (bldS_pt l _) fun qs => pt_pure (_,O,n) | exact pt_bind (elemsC_pt _ _ l) fun v => pt_pure (v,O,n)
  | buildSlice t m ps =>
    refine pt_bind (f:=tyC P t) (tyC_pt t) fun ty => pt_bind (partsC_pt ps.toList) fun l => ?_
    cases ty <;> first | exact pt_false | exact pt_bind (f:=tyC P _) (tyC_pt _) fun te => pt_and fun _ => pt_and fun _ => pt_bind (elemsC_pt _ _ l) fun c => pt_pure (_,_,_)
  | load t x => exact pt_bind (f:=tyC P t) (tyC_pt t) fun ty => pt_bind (evC_pt x) fun v => pt_bind (loadC_pt v) fun q => fitC_pt ty q (pt_pure (q,O,n))
  | store t x y =>
    refine pt_bind (f:=tyC P t) (tyC_pt t) fun ty => pt_bind (evC_pt x) fun v => pt_bind (evC_pt y) fun u => pt_and fun _ => pt_and fun _ => pt_and fun _ => ?_
    cases v <;> first | exact pt_false | exact pt_bind (updO_pt _ _ u) fun O' => pt_pure (AV.junk,O',n)
  | nilCheck x =>
    refine pt_bind (evC_pt x) fun v => ?_
    cases v <;> first | exact pt_false | exact pt_pure (_,O,n) | skip
    rename_i f ps
    cases f <;> first | exact pt_false | exact pt_pure (_,O,n)
  | binOp op t x y t' => exact pt_bind (evC_pt x) fun v => pt_bind (evC_pt y) fun u => pt_bind (binC_pt op t v u) fun r => pt_pure (r,O,n)
  | unOp op t x => exact pt_bind (evC_pt x) fun v => pt_bind (unC_pt op v) fun r => pt_pure (r,O,n)
  | convert q t x => exact pt_bind (evC_pt x) fun v => convC_pt q t v
  | makeFunc f fs cs =>
    simp only [vcOp]
    cases hl : fs.toList with
    | nil => exact pt_bind (evsC_pt _) fun vs => pt_pure (_,O,n)
    | cons x l => exact pt_and fun _ => pt_bind (evsC_pt _) fun vs => pt_pure (_,O,n)
  | makeSlice t x y =>
    refine pt_bind (f:=tyC P t) (tyC_pt t) fun ty => pt_bind (evC_pt x) fun u => pt_bind (evC_pt y) fun v => pt_bind (intC_pt u) fun i => pt_bind (intC_pt v) fun j => ?_
    cases ty <;> first | exact pt_false | exact pt_bind (f:=tyC P _) (tyC_pt _) fun te => pt_bind (f:=byC P _) (byC_pt _) fun bts => pt_and fun _ => pt_and fun _ => pt_and fun _ => pt_and fun _ => pt_and fun _ => pt_bind (zerosC_pt _ te) fun q => pt_pure (_,_,_)
  | slice t x lo hi mx =>
    cases mx with
    | some _ => exact pt_false
    | none =>
      refine pt_bind (f:=tyC P t) (tyC_pt t) fun ty => pt_bind (evC_pt x) fun v => pt_bind (optC_pt lo) fun l => pt_bind (optC_pt hi) fun h => ?_
      cases ty with
      | arr m e te => exact pt_bind (cutA_pt te.size m v _ _) fun r => pt_pure (r,O,n)
      | slice e => exact pt_bind (f:=tyC P e) (tyC_pt e) fun te => pt_and fun _ => pt_and fun _ => pt_bind (cutC_pt v _ _) fun r => pt_pure (r,O,n)
      | str => exact pt_bind (cutS_pt v _ _) fun r => pt_pure (r,O,n)
      | ptr q =>
        refine pt_bind (f:=tyC P q) (tyC_pt q) fun at' => ?_
        cases at' <;> first | exact pt_false | exact pt_bind (cutA_pt _ _ v _ _) fun r => pt_pure (r,O,n)
      | _ => exact pt_false
  | sliceToArrayPointer t x =>
    refine pt_bind (f:=tyC P t) (tyC_pt t) fun ty => pt_bind (evC_pt x) fun v => ?_
    cases ty <;> first | exact pt_false | exact pt_bind (s2aC_pt _ _ v) fun r => pt_pure (r,O,n)
  | fieldAddr s x f =>
    refine pt_bind (f:=tyC P s) (tyC_pt s) fun ty => pt_bind (evC_pt x) fun v => ?_
    cases ty <;> first | exact pt_false | exact pt_bind (fldA_pt f _ v) fun r => pt_pure (r,O,n)
  | field s x f =>
    refine pt_bind (f:=tyC P s) (tyC_pt s) fun ty => pt_bind (evC_pt x) fun v => ?_
    cases ty <;> cases v <;> first | exact pt_false | exact pt_bind2 (f:=fun κ => nthTC _ f 0 κ) (nthTC_pt _ f 0) fun te off => pt_bind (fldC_pt _ f off) fun q => fitC_pt te q (pt_pure (q,O,n))
  | indexAddr t x i => exact pt_bind (f:=tyC P t) (tyC_pt t) fun ty => pt_bind (evC_pt x) fun v => pt_bind (evC_pt i) fun u => pt_bind (intC_pt u) fun j => pt_bind (idxA_pt ty v j) fun r => pt_pure (r,O,n)
  | index t x i =>
    refine pt_bind (f:=tyC P t) (tyC_pt t) fun ty => pt_bind (evC_pt x) fun v => pt_bind (evC_pt i) fun u => pt_bind (intC_pt u) fun j => ?_
    cases ty with
    | arr m e te => exact pt_bind (idxV_pt te m v j) fun r => pt_pure (r,O,n)
    | str => cases v <;> first | exact pt_false | exact pt_and fun _ => pt_and fun _ => pt_pure (_,O,n)
    | _ => exact pt_false
  | extract x i =>
    refine pt_bind (evC_pt x) fun v => ?_
    cases v <;> first | exact pt_false | exact pt_bind (nthC_pt _ i) fun r => pt_pure (r,O,n)
  | call c =>
    obtain ⟨callee,args,ats⟩:=c
    cases callee with
    | value f =>
      refine pt_bind (evC_pt f) fun fv => pt_bind (evsC_pt _) fun vs => ?_
      cases fv <;> first | exact pt_false | skip
      all_goals
        rename_i g ps
        cases g <;> first | exact pt_false | exact CallP_pt _ _
    | builtin b => exact pt_bind (evsC_pt _) fun vs => bltC_pt b _ vs
    | invoke x m => exact pt_false
  | makeMap t r => cases r <;> first | exact pt_false | exact pt_pure (_,_,_)
  | lookup t x i ok =>
    refine pt_bind (f:=tyC P t) (tyC_pt t) fun ty => pt_bind (evC_pt x) fun v => pt_bind (evC_pt i) fun u => mapQ_pt ty u (fun d => pt_and fun _ => ?_) fun k te => ?_
    · cases v <;> first | exact pt_false | exact pt_bind (objC_pt _) fun ob => pt_bind (mpC_pt ob) fun ds => pt_pure (_,O,n)
    · cases v <;> first | exact pt_false | exact pt_bind (objC_pt _) fun ob => gmC_pt k ob fun ks vs => fndC_pt _ _ fun r h => pt_ite (fun _ => pt_pure (_,O,n)) (fun _ => pt_pure (_,O,n))
  | mapUpdate t m k x =>
    refine pt_bind (f:=tyC P t) (tyC_pt t) fun ty => pt_bind (evC_pt m) fun v => pt_bind (evC_pt k) fun u => pt_bind (evC_pt x) fun z => mapQ_pt ty u (fun d => pt_and fun _ => ?_) fun k te => ?_
    · cases v <;> first | exact pt_false | exact pt_bind (setM_pt _ d) fun O' => pt_pure (AV.junk,O',n)
    · cases v <;> first | exact pt_false | exact pt_bind (setG_pt _ k z) fun O' => pt_pure (AV.junk,O',n)
  | insert t m k x =>
    refine pt_bind (f:=tyC P t) (tyC_pt t) fun ty => pt_bind (evC_pt m) fun v => pt_bind (evC_pt k) fun u => pt_bind (evC_pt x) fun z => mapQ_pt ty u (fun d => pt_and fun _ => ?_) fun k te => ?_
    · cases v <;> first | exact pt_false | exact pt_bind (setM_pt _ d) fun O' => pt_pure (AV.junk,O',n)
    · cases v <;> first | exact pt_false | exact pt_bind (setG_pt _ k z) fun O' => pt_pure (AV.junk,O',n)
  | _ => exact pt_false
end
end Go.Sy
