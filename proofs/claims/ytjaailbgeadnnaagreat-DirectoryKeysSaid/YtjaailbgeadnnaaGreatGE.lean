/- Calls: the callee's view of the caller's state, and back (the rule). -/
import Derived.Test.YtjaailbgeadnnaaGreatGC
import Derived.Orders
namespace Go.Sy
open Go
set_option linter.unusedSimpArgs false
set_option linter.unusedVariables false
section
variable {E : Env} {N : Nat} {M M' M1 : Pool} {β β' β1 : Bmap} {T : TT} {O O' O1 O2 : OO} {n : Nat} {a : Act} {w w' : World} {P : Program} {o : Oper} {K : KK}

theorem OR.pf {b κ : Nat} {ob : OB} (h : OR M β b κ w ob) (hp : ob.pf = true) (M' : Pool) : OR M' β b κ w ob := by
  cases ob with
  | var c =>
    obtain ⟨hk, hz, cs, e, fz, h1, h2, h3⟩ := h
    exact ⟨hk, hz, cs, e, fz, h1, h2, pf_aux.1 h3 hp _⟩
  | row c =>
    obtain ⟨hr, hz, h⟩ := h
    refine ⟨hr, hz, ?_⟩
    rcases h with ⟨hk, hc, h⟩ | ⟨hk, cc, sp, e, fz, h1, h2, h3, h4⟩
    · exact .inl ⟨hk, hc, pf_aux.1 h hp _⟩
    · exact .inr ⟨hk, cc, sp, e, fz, h1, h2, pf_aux.1 h3 hp _, h4⟩
  | map ks =>
    exact h
  | gm f ks vs =>
    obtain ⟨hk, es, cl, h1, h2, h3, h4⟩ := h
    exact ⟨hk, es, cl, h1, h2, pf_aux.2.2.2 h3 hp _, h4⟩

/-- An object, renamed. -/
def RenB (σ : List (Nat × Nat)) (ob ob' : OB) : Prop := ∀ {M : Pool} {β1 β : Bmap} {b κ : Nat} {w : World}, Agr σ β1 β → (OR M β1 b κ w ob ↔ OR M β b κ w ob')
theorem renOB_spec {σ : List (Nat × Nat)} {ob : OB} {κ : OB → Prop} (h : renOB σ ob κ) : ∃ ob', κ ob' ∧ RenB σ ob ob' := by
  cases ob with
  | var c =>
    obtain ⟨c', hk, hr⟩ := renC_spec σ c _ h
    refine ⟨_, hk, fun ha => ?_⟩
    simp only [OR, hr.csz]
    exact ⟨fun ⟨h1, h2, cs, e, fz, h3, h4, h5⟩ => ⟨h1, h2, cs, e, fz, h3, h4, (hr.rv ha).1 h5⟩, fun ⟨h1, h2, cs, e, fz, h3, h4, h5⟩ => ⟨h1, h2, cs, e, fz, h3, h4, (hr.rv ha).2 h5⟩⟩
  | row c =>
    obtain ⟨c', hk, hr⟩ := renC_spec σ c _ h
    refine ⟨_, hk, fun ha => ?_⟩
    simp only [OR, hr.row, hr.esz, hr.cnt]
    constructor
    · rintro ⟨h1, h2, h⟩
      refine ⟨h1, h2, ?_⟩
      rcases h with ⟨hk, hc, h⟩ | ⟨hk, cc, sp, e, fz, h1, h2, h3, h4⟩
      · exact .inl ⟨hk, hc, (hr.rv ha).1 h⟩
      · exact .inr ⟨hk, cc, sp, e, fz, h1, h2, (hr.rv ha).1 h3, h4⟩
    · rintro ⟨h1, h2, h⟩
      refine ⟨h1, h2, ?_⟩
      rcases h with ⟨hk, hc, h⟩ | ⟨hk, cc, sp, e, fz, h1, h2, h3, h4⟩
      · exact .inl ⟨hk, hc, (hr.rv ha).2 h⟩
      · exact .inr ⟨hk, cc, sp, e, fz, h1, h2, (hr.rv ha).2 h3, h4⟩
  | map ks =>
    exact ⟨_, h, fun _ => Iff.rfl⟩
  | gm f ks vs =>
    obtain ⟨vs', hk, hr⟩ := rensC_spec σ vs _ h
    refine ⟨_, hk, fun ha => ?_⟩
    simp only [OR]
    exact ⟨fun ⟨h1, es, cl, h3, h4, h5, h6⟩ => ⟨h1, es, cl, h3, h4, (hr.vr ha).1 h5, h6⟩, fun ⟨h1, es, cl, h3, h4, h5, h6⟩ => ⟨h1, es, cl, h3, h4, (hr.vr ha).2 h5, h6⟩⟩
theorem renOO_spec {σ : List (Nat × Nat)} : ∀ {O : OO} {κ : OO → Prop}, renOO σ O κ → ∃ L, κ L ∧ ∀ q ∈ L, ∃ p ∈ O, lk σ p.1 = some q.1 ∧ RenB σ p.2 q.2 := by
  intro O
  induction O with
  | nil => intro κ h; exact ⟨[], h, by simp⟩
  | cons p O ih =>
    intro κ h
    obtain ⟨o, ob⟩ := p
    obtain ⟨o', hl, h⟩ := idC_spec h
    obtain ⟨ob', h, hr⟩ := renOB_spec h
    obtain ⟨L, hk, hL⟩ := ih h
    refine ⟨_, hk, fun q hq => ?_⟩
    rcases List.mem_cons.1 hq with rfl | hq
    · exact ⟨(o, ob), by simp, hl, hr⟩
    · obtain ⟨p, hp, g⟩ := hL q hq
      exact ⟨p, by simp [hp], g⟩
theorem lk_mem {α : Type} {O : List (Nat × α)} {o : Nat} {ob : α} (h : lk O o = some ob) : (o, ob) ∈ O := by
  induction O with
  | nil => cases h
  | cons p O ih =>
    obtain ⟨i, v⟩ := p
    simp only [lk] at h
    split at h
    · rename_i e; subst e; cases h; simp
    · simp [ih h]
theorem lk_of_mem {α : Type} {O : List (Nat × α)} {o : Nat} {ob : α} (hn : (O.map (·.1)).Nodup) (h : (o, ob) ∈ O) : lk O o = some ob := by
  induction O with
  | nil => cases h
  | cons p O ih =>
    obtain ⟨i, v⟩ := p
    simp only [List.map_cons, List.nodup_cons] at hn
    simp only [lk]
    rcases List.mem_cons.1 h with e | h
    · cases e; simp
    · have : i ≠ o := by
        rintro rfl
        exact hn.1 (List.mem_map.2 ⟨_, h, rfl⟩)
      rw [if_neg this]
      exact ih hn.2 h
theorem lk_none {α : Type} {O : List (Nat × α)} {o : Nat} : lk O o = none ↔ o ∉ O.map (·.1) := by
  induction O with
  | nil => simp [lk]
  | cons p O ih =>
    obtain ⟨i, v⟩ := p
    simp only [lk, List.map_cons, List.mem_cons, not_or]
    split
    · rename_i e; subst e; simp
    · rename_i e; rw [ih]; simp [Ne.symm e]
theorem lk_append {α : Type} {O O' : List (Nat × α)} {o : Nat} : lk (O ++ O') o = match lk O o with | some x => some x | none => lk O' o := by
  induction O with
  | nil => rfl
  | cons p O ih =>
    obtain ⟨i, v⟩ := p
    simp only [List.cons_append, lk]
    split
    · rfl
    · exact ih
theorem rmsO_spec : ∀ {os : List Nat} {O : OO} {κ : OO → Prop}, rmsO O os κ → ∃ O', κ O' ∧ ∀ i, lk O' i = if i ∈ os then none else lk O i := by
  intro os
  induction os with
  | nil => intro O κ h; cases O <;> exact ⟨_, h, by simp⟩
  | cons x os ih =>
    intro O κ h
    have h' : rmO O x fun O' => rmsO O' os κ := by cases O <;> exact h
    obtain ⟨O1, h, h1⟩ := rmO_spec h'
    obtain ⟨O2, hk, h2⟩ := ih h
    refine ⟨O2, hk, fun i => ?_⟩
    rw [h2, h1]
    by_cases e1 : i ∈ os
    · simp [e1]
    · by_cases e2 : i = x <;> simp [e1, e2]
theorem holdsO_spec {σ : List (Nat × Nat)} : ∀ {O1 : OO}, holdsO O σ O1 → ∀ p ∈ O1, ∃ o' ob', lk σ p.1 = some o' ∧ lk O o' = some ob' ∧ RenB σ p.2 ob' := by
  intro O1
  induction O1 with
  | nil => intro _ p hp; cases hp
  | cons q O1 ih =>
    intro h p hp
    obtain ⟨o, ob⟩ := q
    obtain ⟨h1, h2⟩ := h
    rcases List.mem_cons.1 hp with rfl | hp
    · obtain ⟨o', hl, h1⟩ := idC_spec h1
      obtain ⟨ob', hl', h1⟩ := objC_spec h1
      obtain ⟨ob'', e, hr⟩ := renOB_spec h1
      subst e
      exact ⟨o', _, hl, hl', hr⟩
    · exact ih h2 p hp
theorem homesOK_spec {σ τ : List (Nat × Nat)} {n n' : Nat} : ∀ {O' : OO}, homesOK σ τ O1 n n' O' → ∀ p ∈ O', ∃ o', lk τ p.1 = some o' ∧ ((n ≤ o' ∧ o' < n') ∨ ∃ c, lk O1 p.1 = some (.var c) ∧ lk σ p.1 = some o') := by
  intro O'
  induction O' with
  | nil => intro _ p hp; cases hp
  | cons q O' ih =>
    intro h p hp
    obtain ⟨o, ob⟩ := q
    obtain ⟨h1, h2⟩ := h
    rcases List.mem_cons.1 hp with rfl | hp
    · obtain ⟨o', hl, h1⟩ := idC_spec h1
      refine ⟨o', hl, h1.imp id ?_⟩
      rintro ⟨h3, h4⟩
      obtain ⟨ob', h5, c, rfl⟩ := objC_spec h3
      obtain ⟨o'', h6, rfl⟩ := idC_spec h4
      exact ⟨c, h5, h6⟩
    · exact ih h2 p hp

theorem idC_mono {l : List (Nat × Nat)} {o : Nat} {K K' : Nat → Prop} (hk : ∀ x, K x → K' x) (h : idC l o K) : idC l o K' := by
  induction l with
  | nil => exact h
  | cons q l ih =>
    obtain ⟨i, j⟩ := q
    simp only [idC] at h ⊢
    split at h
    · rename_i e; rw [if_pos e]; exact hk _ h
    · rename_i e; rw [if_neg e]; exact ih h
theorem homesK_spec {ks : List Nat} {σ τ : List (Nat × Nat)} {n n' : Nat} : ∀ {O' : OO}, homesK ks σ τ O1 n n' O' → ∀ p ∈ O', ∃ o', lk τ p.1 = some o' ∧ ((n ≤ o' ∧ o' < n') ∨ ((∃ c, lk O1 p.1 = some (.var c)) ∨ ks.contains p.1 = true) ∧ lk σ p.1 = some o') := by
  intro O'
  induction O' with
  | nil => intro _ p hp; cases hp
  | cons q O' ih =>
    intro h p hp
    obtain ⟨o, ob⟩ := q
    obtain ⟨h1, h2⟩ := h
    rcases List.mem_cons.1 hp with rfl | hp
    · obtain ⟨o', hl, h1⟩ := idC_spec h1
      refine ⟨o', hl, h1.imp id ?_⟩
      rintro ⟨h3, h4⟩
      obtain ⟨o'', h6, rfl⟩ := idC_spec h4
      rcases h3 with h3 | h3
      · obtain ⟨ob', h5, c, rfl⟩ := objC_spec h3
        exact ⟨.inl ⟨c, h5⟩, h6⟩
      · exact ⟨.inr h3, h6⟩
    · exact ih h2 p hp
end
end Go.Sy
/- Calls: the rule. -/
namespace Go.Sy
open Go
set_option linter.unusedSimpArgs false
set_option linter.unusedVariables false
section
variable {E : Env} {N : Nat} {M M' M1 : Pool} {β β' β1 : Bmap} {T : TT} {O O' O1 O2 : OO} {n : Nat} {a : Act} {w w' : World} {P : Program} {o : Oper} {K : KK}

theorem argsOK_spec {bor : Bool} {σ : List (Nat × Nat)} {M1 : Pool} {β1 : Bmap} (ha : Agr σ β1 β) (hM : PLe M M1) (hv : bor = true → ∀ v κ, viewC O2 9 v κ → ∃ c, κ c ∧ Vw M M1 β v c) :
    ∀ {as cs : List AV} {xs : List Value}, argsOK bor σ O2 as cs → VRs M β as xs → VRs M1 β1 cs xs := by
  intro as
  induction as with
  | nil => intro cs xs h hx; cases cs with | nil => cases hx; exact .nil | cons _ _ => exact h.elim
  | cons a as ih =>
    intro cs xs h hx
    cases cs with
    | nil => exact h.elim
    | cons c cs =>
      cases hx with
      | cons h1 h2 =>
        refine .cons ?_ (ih h.2 h2)
        rcases h.1 with h | ⟨hb, hn, h⟩
        · obtain ⟨c', e, hr⟩ := renC_spec σ _ _ h
          subst e
          exact ((hr.vr ha).2 h1).mono hM (BLe.refl _)
        · obtain ⟨c', e, hv'⟩ := hv hb _ _ h
          subst e
          exact (hv'.vr h1).nid hn _
theorem lk_swap {τ : List (Nat × Nat)} {o o' : Nat} (hn : (τ.map (·.1)).Nodup) (h : lk (τ.map Prod.swap) o' = some o) : lk τ o = some o' := by
  have := lk_mem h
  obtain ⟨p, hp, e⟩ := List.mem_map.1 this
  obtain ⟨p1, p2⟩ := p
  simp only [Prod.swap, Prod.mk.injEq] at e
  obtain ⟨rfl, rfl⟩ := e
  exact lk_of_mem hn hp
theorem lk_swap' {τ : List (Nat × Nat)} {o o' : Nat} (hn : (τ.map (·.2)).Nodup) (h : lk τ o = some o') : lk (τ.map Prod.swap) o' = some o := by
  refine lk_of_mem (by simpa [List.map_map, Function.comp_def] using hn) ?_
  exact List.mem_map.2 ⟨_, lk_mem h, rfl⟩

theorem call_run (hr : RelAt E N M β T O n a w) {f : FuncId} {args : List AV} {xs : List Value} {κ : AV → OO → Nat → Prop} (hK : ∀ v O' n', κ v O' n' → ∀ o, n ≤ o → o < n' → E.ok o) (hv : VRs M β args xs) (h : CallP P f args O n κ) :
    Calls P f xs.toArray w fun e w' => ∃ x r O' n' M' β', e = .returned x ∧ κ r O' n' ∧ VR M' β' r x ∧ RelAt E N M' β' T O' n' a w' := by
  obtain ⟨ks, bor, σ, τ, A, O1, O2, r, O', n', ⟨_, hf⟩, hO2, hA, hH, hk1, hn1, hn2, hnn, ht1, ht2, hhome, hkt, hbor, h⟩ := h
  obtain ⟨O2', e, hl2⟩ := rmsO_spec hO2
  subst e
  have hH := holdsO_spec hH
  have hns : (σ.map (·.1)).Nodup := by rw [hk1]; exact hn1
  let β1 : Bmap := fun o => match lk σ o with | some o' => β o' | none => none
  let M1 : Pool := poolOf bor M β O2' w
  have hβ1 : ∀ o o', lk σ o = some o' → β1 o = β o' := fun o o' h => by show (match lk σ o with | some o' => β o' | none => none) = _; rw [h]
  have hl2' : ∀ o ob, lk O2' o = some ob → lk O o = some ob ∧ o ∉ σ.map (·.2) := fun o ob h => by
    rw [hl2] at h
    split at h
    · cases h
    · rename_i e; exact ⟨h, e⟩
  have hM : PLe M M1 := fun b i v hm => by
    show poolOf bor M β O2' w b i = some v
    unfold poolOf
    rw [if_neg]
    · exact hm
    · rintro ⟨_, o, ob, κ, h1, h2, h3⟩
      have := (hr.st.mine o ob b κ (hl2' _ _ h1).1 h2 h3).1 i
      rw [this] at hm; cases hm
  have hMf : bor = false → M1 = M := fun hb => by
    funext b i
    show poolOf bor M β O2' w b i = _
    unfold poolOf
    rw [if_neg]
    rintro ⟨h, _⟩
    rw [hb] at h; cases h
  have hO1 : ∀ o ob, lk O1 o = some ob → ∃ o' ob', lk σ o = some o' ∧ lk O o' = some ob' ∧ RenB σ ob ob' := fun o ob h => hH _ (lk_mem h)
  have hst1 : St ⟨w, ownOf O1 β1, M1, nob, 0, fun _ => True⟩ M1 β1 O1 w := by
    refine ⟨fun b i v hm => ?_, fun _ _ _ h => h, fun _ _ _ h => .inl h, fun o ob hl => ?_, fun o ob b κ hl hb hk => ⟨fun i => ?_, .inl ⟨o, ob, κ, hl, hb, hk⟩⟩, fun o o' ob ob' b κ κ' hl hl' hb hb' hk hk' => ?_, Nat.le_refl _, fun _ _ _ => rfl, rfl, rfl, rfl⟩
    · have hm : poolOf bor M β O2' w b i = some v := hm
      unfold poolOf at hm
      split at hm
      · exact hm
      · exact hr.st.pool _ _ _ hm
    · obtain ⟨o', ob', h1, h2, h3⟩ := hO1 _ _ hl
      obtain ⟨b, κ, hb, hor⟩ := hr.st.objs _ _ h2
      exact ⟨b, κ, by rw [hβ1 _ _ h1]; exact hb, ((h3 hβ1).2 hor).mono2 hM (BLe.refl _) fun _ => rfl⟩
    · obtain ⟨o', ob', h1, h2, h3⟩ := hO1 _ _ hl
      rw [hβ1 _ _ h1] at hb
      show poolOf bor M β O2' w b i = none
      unfold poolOf
      rw [if_neg]
      · exact (hr.st.mine _ _ _ _ h2 hb hk).1 i
      · rintro ⟨_, o2, ob2, κ2, g1, g2, g3⟩
        obtain ⟨g4, g5⟩ := hl2' _ _ g1
        have := hr.st.inj _ _ _ _ _ _ _ g4 h2 g2 hb g3 hk
        subst this
        exact g5 (List.mem_map.2 ⟨_, lk_mem h1, rfl⟩)
    · obtain ⟨p, ob1, h1, h2, h3⟩ := hO1 _ _ hl
      obtain ⟨p', ob1', h1', h2', h3'⟩ := hO1 _ _ hl'
      rw [hβ1 _ _ h1] at hb
      rw [hβ1 _ _ h1'] at hb'
      have := hr.st.inj _ _ _ _ _ _ _ h2 h2' hb hb' hk hk'
      subst this
      have e1 := lk_swap' hn2 h1
      have e2 := lk_swap' hn2 h1'
      rw [e1] at e2
      exact Option.some.inj e2
  have hargs : VRs M1 β1 A xs := argsOK_spec hβ1 hM (fun hb => viewC_spec hr.st hM (fun o ob h => (hl2' o ob h).1) (fun o ob b κ h1 h2 h3 i v h4 => by
    show poolOf bor M β O2' w b i = some v
    unfold poolOf
    rw [if_pos ⟨hb, o, ob, κ, h1, h2, h3⟩]
    exact h4) 9) hA hv
  have hids1 : ∀ o, lk O1 o = none → β1 o = none := fun o h => by
    rw [lk_none] at h
    have : lk σ o = none := by rw [lk_none, hk1]; exact h
    show (match lk σ o with | some o' => β o' | none => none) = _
    rw [this]
  refine Calls.mono (hf w M1 β1 xs hids1 hst1 hargs) ?_
  rintro e w' ⟨x, M', β', rfl, hrv, hst', hvar, hkeep⟩
  have hhome := homesK_spec hhome
  obtain ⟨r', h, hrr⟩ := renC_spec τ r _ h
  obtain ⟨L, hκ, hL⟩ := renOO_spec h
  have hok := hK _ _ _ hκ
  let β2 : Bmap := fun i => match lk (τ.map Prod.swap) i with | some o => β' o | none => β i
  have hβ2 : Agr τ β' β2 := fun o o' h => by
    show _ = (match lk (τ.map Prod.swap) o' with | some o => β' o | none => β o')
    rw [lk_swap' ht2 h]
  have homes : ∀ o o', lk τ o = some o' → (n ≤ o' ∧ o' < n') ∨ (lk σ o = some o' ∧ β' o = β o') := fun o o' h => by
    have : o ∈ keys O' := by rw [← hkt]; exact List.mem_map.2 ⟨_, lk_mem h, rfl⟩
    obtain ⟨p, hp, e⟩ := List.mem_map.1 this
    obtain ⟨p1, p2⟩ := p
    simp only at e; subst e
    obtain ⟨o2, g1, g2⟩ := hhome _ hp
    rw [h] at g1; cases g1
    refine g2.imp id ?_
    rintro ⟨g3, g4⟩
    rcases g3 with ⟨c, g3⟩ | g3
    · exact ⟨g4, by rw [hvar _ _ g3, hβ1 _ _ g4]⟩
    · exact ⟨g4, by rw [hkeep _ g3, hβ1 _ _ g4]⟩
  have hbl : BLe β β2 := fun i x hb => by
    show (match lk (τ.map Prod.swap) i with | some o => β' o | none => β i) = some x
    split
    · rename_i o e
      rcases homes _ _ (lk_swap ht1 e) with ⟨g, g2⟩ | ⟨_, g⟩
      · rw [hr.ids _ g (hok _ g g2)] at hb; cases hb
      · rw [g]; exact hb
    · exact hb
  have hlow : ∀ i, (i < n ∨ ¬ E.ok i) → β2 i = β i := fun i hi => by
    show (match lk (τ.map Prod.swap) i with | some o => β' o | none => β i) = β i
    split
    · rename_i o e
      rcases homes _ _ (lk_swap ht1 e) with ⟨g, g2⟩ | ⟨_, g⟩
      · rcases hi with hi | hi
        · omega
        · exact absurd (hok _ g g2) hi
      · exact g
    · rfl
  have hids2 : ∀ o, n' ≤ o → E.ok o → β2 o = none := fun i hi hk => by
    show (match lk (τ.map Prod.swap) i with | some o => β' o | none => β i) = none
    split
    · rename_i o e
      rcases homes _ _ (lk_swap ht1 e) with ⟨_, g⟩ | ⟨_, g⟩
      · omega
      · rw [g]; exact hr.ids _ (by omega) hk
    · exact hr.ids _ (by omega) hk
  have hnO' : (O'.map (·.1)).Nodup := by have := ht1; rw [hkt] at this; exact this
  have ownO : ∀ b, ownOf O1 β1 b → ∃ o ob κ, lk O o = some ob ∧ β o = some (b, κ) ∧ κ ≠ 0 ∧ o ∈ σ.map (·.2) := by
    rintro b ⟨o, ob, κ, h1, h2, h3⟩
    obtain ⟨o', ob', g1, g2, _⟩ := hO1 _ _ h1
    rw [hβ1 _ _ g1] at h2
    exact ⟨o', ob', κ, g2, h2, h3, List.mem_map.2 ⟨_, lk_mem g1, rfl⟩⟩
  have mineO : ∀ b, ownOf O1 β1 b → (∀ i, M b i = none) ∧ (E.own b ∨ E.w0.heap.size ≤ b) := fun b hb => by
    obtain ⟨o, ob, κ, h1, h2, h3, _⟩ := ownO b hb
    exact hr.st.mine _ _ _ _ h1 h2 h3
  -- the pool behind the call
  let M2 : Pool := if bor = true then M else M'
  have hM2' : ∀ b i v, M2 b i = some v → M' b i = some v := fun b i v hm => by
    show M' b i = some v
    have hm : (if bor = true then M else M') b i = some v := hm
    split at hm
    · exact hst'.sub _ _ _ (hM _ _ _ hm)
    · exact hm
  have hMM2 : PLe M M2 := fun b i v hm => by
    show (if bor = true then M else M') b i = some v
    split
    · exact hm
    · exact hst'.sub _ _ _ (hM _ _ _ hm)
  have lifR : VR M2 β' r x := by
    by_cases hb : bor = true
    · exact pf_aux.2.2.1 hrv (hbor hb).1 _
    · have : M2 = M' := by show (if bor = true then M else M') = _; rw [if_neg hb]
      rw [this]; exact hrv
  have lifO : ∀ p ∈ O', ∀ b κ, OR M' β' b κ w' p.2 → OR M2 β' b κ w' p.2 := fun p hp b κ h => by
    by_cases hb : bor = true
    · exact h.pf ((hbor hb).2 p hp) _
    · have : M2 = M' := by show (if bor = true then M else M') = _; rw [if_neg hb]
      rw [this]; exact h
  have hLlk : ∀ i ob, lk L i = some ob → ∃ o ob', lk O' o = some ob' ∧ (o, ob') ∈ O' ∧ lk τ o = some i ∧ RenB τ ob' ob := fun i ob h => by
    obtain ⟨p, hp, g1, g2⟩ := hL _ (lk_mem h)
    exact ⟨p.1, p.2, lk_of_mem hnO' hp, hp, g1, g2⟩
  have inO2 : ∀ i ob b κ, lk O2' i = some ob → β i = some (b, κ) → κ ≠ 0 → b < w.heap.size ∧ ¬ ownOf O1 β1 b := fun i ob b κ h1 h2 h3 => by
    obtain ⟨g1, g2⟩ := hl2' _ _ h1
    refine ⟨?_, fun hown => ?_⟩
    · obtain ⟨b', κ', g3, g4⟩ := hr.st.objs _ _ g1
      rw [h2] at g3; cases g3
      exact g4.lt h3
    · obtain ⟨o, ob', κ', g3, g4, g5, g6⟩ := ownO b hown
      have := hr.st.inj _ _ _ _ _ _ _ g1 g3 h2 g4 h3 g5
      subst this
      exact g2 g6
  -- an object behind the call
  have obj2 : ∀ i ob, lk (L ++ O2') i = some ob → (∃ o ob', lk O' o = some ob' ∧ (o, ob') ∈ O' ∧ lk τ o = some i ∧ RenB τ ob' ob) ∨ (lk O2' i = some ob ∧ ∀ b κ, β i = some (b, κ) → β2 i = some (b, κ)) := fun i ob h => by
    rw [lk_append] at h
    split at h
    · rename_i x e
      cases h
      exact .inl (hLlk _ _ e)
    · exact .inr ⟨h, fun b κ hb => hbl _ _ hb⟩
  have hstE : St E M2 β2 (L ++ O2') w' := by
    refine ⟨fun b i v hm => hst'.pool _ _ _ (hM2' _ _ _ hm), fun b i v hm => hMM2 _ _ _ (hr.st.sub _ _ _ hm), fun b i v hm => ?_, fun i ob hl => ?_, fun i ob b κ hl hb hk => ?_, fun i j ob ob' b κ κ' hl hl' hb hb' hk hk' => ?_,
      Nat.le_trans hr.st.size hst'.size, fun b hb hn => ?_, by rw [hst'.os]; exact hr.st.os, by rw [hst'.tape]; exact hr.st.tape, by rw [hst'.output]; exact hr.st.output⟩
    · by_cases hbo : bor = true
      · have : M2 = M := by show (if bor = true then M else M') = _; rw [if_pos hbo]
        rw [this] at hm
        exact hr.st.only _ _ _ hm
      · rcases hst'.only _ _ _ (hM2' _ _ _ hm) with h | h | h
        · have h : M1 b i = some v := h
          rw [hMf (by simpa using hbo)] at h
          exact hr.st.only _ _ _ h
        · exact .inr (mineO b h).2
        · exact .inr (.inr (Nat.le_trans hr.st.size h))
    · rcases obj2 _ _ hl with ⟨o, ob', h1, h2, h3, h4⟩ | ⟨h1, h2⟩
      · obtain ⟨b, κ, g1, g2⟩ := hst'.objs _ _ h1
        exact ⟨b, κ, by rw [← hβ2 _ _ h3]; exact g1, (h4 hβ2).1 (lifO _ h2 _ _ g2)⟩
      · obtain ⟨b, κ, g1, g2⟩ := hr.st.objs _ _ (hl2' _ _ h1).1
        refine ⟨b, κ, h2 _ _ g1, g2.mono2 hMM2 hbl fun hk => ?_⟩
        obtain ⟨g3, g4⟩ := inO2 _ _ _ _ h1 g1 hk
        exact hst'.keep b g3 g4
    · rcases obj2 _ _ hl with ⟨o, ob', h1, h2, h3, h4⟩ | ⟨h1, h2⟩
      · rw [← hβ2 _ _ h3] at hb
        obtain ⟨g1, g2⟩ := hst'.mine _ _ _ _ h1 hb hk
        refine ⟨fun j => ?_, ?_⟩
        · cases hm : M2 b j with
          | none => rfl
          | some v => have := hM2' _ _ _ hm; rw [g1] at this; cases this
        · rcases g2 with g2 | g2
          · exact (mineO b g2).2
          · exact .inr (Nat.le_trans hr.st.size g2)
      · obtain ⟨b', κ', g1, _⟩ := hr.st.objs _ _ (hl2' _ _ h1).1
        have := h2 _ _ g1
        rw [hb] at this; cases this
        obtain ⟨g3, g4⟩ := hr.st.mine _ _ _ _ (hl2' _ _ h1).1 g1 hk
        refine ⟨fun j => ?_, g4⟩
        cases hm : M2 b j with
        | none => rfl
        | some v =>
          exfalso
          by_cases hbo : bor = true
          · have e : M2 = M := by show (if bor = true then M else M') = _; rw [if_pos hbo]
            rw [e, g3] at hm; cases hm
          · obtain ⟨g5, g6⟩ := inO2 _ _ _ _ h1 g1 hk
            rcases hst'.only _ _ _ (hM2' _ _ _ hm) with h | h | h
            · have h : M1 b j = some v := h
              rw [hMf (by simpa using hbo), g3] at h; cases h
            · exact g6 h
            · have h : w.heap.size ≤ b := h
              omega
    · have far : ∀ o ob' i ob2 b κ κ', lk O' o = some ob' → β' o = some (b, κ) → κ ≠ 0 → lk O2' i = some ob2 → β i = some (b, κ') → κ' ≠ 0 → False := fun o ob' i ob2 b κ κ' h1 h2 h3 h4 h5 h6 => by
        obtain ⟨g5, g6⟩ := inO2 _ _ _ _ h4 h5 h6
        rcases (hst'.mine _ _ _ _ h1 h2 h3).2 with h | h
        · exact g6 h
        · have h : w.heap.size ≤ b := h
          omega
      have back : ∀ i ob b κ, lk O2' i = some ob → (∀ b κ, β i = some (b, κ) → β2 i = some (b, κ)) → β2 i = some (b, κ) → β i = some (b, κ) := fun i ob b κ h1 h2 h3 => by
        obtain ⟨b', κ', g1, _⟩ := hr.st.objs _ _ (hl2' _ _ h1).1
        have := h2 _ _ g1
        rw [h3] at this; cases this
        exact g1
      rcases obj2 _ _ hl with ⟨o, ob1, h1, h2, h3, h4⟩ | ⟨h1, h2⟩
      · rw [← hβ2 _ _ h3] at hb
        rcases obj2 _ _ hl' with ⟨o', ob1', h1', h2', h3', h4'⟩ | ⟨h1', h2'⟩
        · rw [← hβ2 _ _ h3'] at hb'
          have := hst'.inj _ _ _ _ _ _ _ h1 h1' hb hb' hk hk'
          subst this
          rw [h3] at h3'
          exact Option.some.inj h3'
        · exact (far _ _ _ _ _ _ _ h1 hb hk h1' (back _ _ _ _ h1' h2' hb') hk').elim
      · have hb := back _ _ _ _ h1 h2 hb
        rcases obj2 _ _ hl' with ⟨o', ob1', h1', h2', h3', h4'⟩ | ⟨h1', h2'⟩
        · rw [← hβ2 _ _ h3'] at hb'
          exact (far _ _ _ _ _ _ _ h1' hb' hk' h1 hb hk).elim
        · exact hr.st.inj _ _ _ _ _ _ _ (hl2' _ _ h1).1 (hl2' _ _ h1').1 hb (back _ _ _ _ h1' h2' hb') hk hk'
    · rw [← hr.st.keep b hb hn]
      refine hst'.keep b (Nat.lt_of_lt_of_le hb hr.st.size) fun hown => ?_
      rcases (mineO b hown).2 with h | h
      · exact hn h
      · omega
  exact ⟨x, r', L ++ O2', n', M2, β2, rfl, hκ, (hrr.vr hβ2).1 lifR, hstE, hids2, fun t v hl => by obtain ⟨y, hy, hvy⟩ := hr.tmps t v hl; exact ⟨y, hy, hvy.mono hMM2 hbl⟩, hr.nd, hr.sz, fun o ho => by rw [← hr.base o ho]; exact hlow o (ho.imp (fun ho => Nat.lt_of_lt_of_le ho hr.le0) id), Nat.le_trans hr.le0 hnn⟩
theorem CallP.enters {f : FuncId} {args : List AV} {κ : AV → OO → Nat → Prop} (h : CallP P f args O n κ) : Enters P f := by
  obtain ⟨ks, bor, σ, τ, A, O1, O2, r, O', n', ⟨he, _⟩, _⟩ := h
  exact he
theorem s_call (hK : ∀ v O' n', K v O' n' → ∀ o, n ≤ o → o < n' → E.ok o) {c : Call} {x : Operand} (ho : o.op = .call c) (hc : c.callee = .value x)
    (h : evC T x fun fv => evsC T c.args.toList fun vs => (match fv with | .fn (.func g) ps => CallP P g (vs ++ ps) O n fun r O' n' => K r O' n' | _ => False))
    (hr : RelAt E N M β T O n a w) : OpS P o E N T K a w := by
  obtain ⟨fv, h, hfv⟩ := evC_spec hr h
  obtain ⟨vs, h, hvs⟩ := evsC_spec hr h
  cases fv with
  | fn f ps =>
    cases f with
    | func g =>
      obtain ⟨ys, e, hps⟩ := hfv.fn_inv
      have hall : VRs M β (vs ++ ps) (c.args.toList.map a.eval ++ ys) := by
        clear h e
        revert hvs
        generalize c.args.toList.map a.eval = zs
        intro hvs
        induction vs generalizing zs with
        | nil => cases hvs; exact hps
        | cons v vs ih => cases hvs with | cons h1 h2 => exact .cons h1 (ih _ h2)
      obtain ⟨fn, h1, h2, h3⟩ := h.enters
      intro next Q hn
      unfold Oper.wp
      have hrun : (execOp a.eval o).run P w = .ok (.enter g (c.args.toList.map a.eval ++ ys).toArray) w := by
        simp only [execOp, ho, resolve, hc, e, Deferred.ofValue, Sem.run_bind, Sem.run_pure, Result.andThen_ok, invoke, callFunc, run_program, h1, h2, h3, Bool.false_eq_true, if_false]
        simp
        try rfl
      rw [hrun, Oper.upon_enter]
      refine Calls.mono (call_run hr hK hall h) ?_
      rintro _ w' ⟨x, r, O', n', M', β', rfl, hk, hv, hr'⟩
      exact hn _ _ _ _ _ _ _ hk hr' hv
    | _ => exact h.elim
  | _ => exact h.elim
end
end Go.Sy
/- Every operation's law, under one name; regions in the text's order. -/
namespace Go.Sy
open Go
set_option linter.unusedSimpArgs false
set_option linter.unusedVariables false
section
variable {E : Env} {N : Nat} {M M' M1 : Pool} {β β' β1 : Bmap} {T : TT} {O O' O1 O2 : OO} {n : Nat} {a : Act} {w w' : World} {P : Program} {o : Oper} {K : KK}

theorem s_s2a {t : TypeId} {x : Operand} (ho : o.op = .sliceToArrayPointer t x) (h : tyC P t fun ty => evC T x fun v => (match ty with | .arr m _ te => s2aC m te v fun r => K r O n | _ => False)) (hr : RelAt E N M β T O n a w) : OpS P o E N T K a w := by
  obtain ⟨ty, hok, _, h⟩ := tyC_spec h
  obtain ⟨v, h, hv⟩ := evC_spec hr h
  cases ty with
  | arr m e te =>
    cases v with
    | sl c =>
      obtain ⟨hm, hle, hes, h⟩ := h
      obtain ⟨q, hk, q1, q2, q3, q4, _, q5⟩ := subC_spec h
      obtain ⟨cc, base, cap, ex, hcc, hrow, hcap, hmm⟩ := hv.sl_inv
      obtain ⟨b, off, rfl, hcell⟩ := hmm.resolve_left (by omega)
      refine OpS.val (x := .pointer (some ⟨b, off, none⟩)) ?_ hr (.one rfl ?_) hk
      · simp only [execOp, ho, Instr.arrayAt, Sem.run_bind, Sem.run_pure, Result.andThen_ok, r_under hok.2.1, ex]
        rw [if_neg (by omega)]
        simp
      · have := RV.pp (β := β) (p := []) (b := b) (off := off) (q5 hcc).2 (fun i v hi => by
          simp only [piece, Nat.zero_mul, List.drop_zero, List.getElem?_take] at hi
          split at hi
          · exact hcell i v hi
          · cases hi)
        simpa [poff] using this
    | osl oo p sz lo len =>
      obtain ⟨rfl, rfl, hm, hle, hk⟩ := h
      obtain ⟨b, κ, base, cap, hb, ex, hc, hkk, ha⟩ := hv.osl_inv
      obtain rfl := ha.resolve_left (by omega)
      refine OpS.val (x := .pointer (some ⟨b, poff [] + 0 * sz, none⟩)) ?_ hr (.one rfl ?_) hk
      · simp only [execOp, ho, Instr.arrayAt, Sem.run_bind, Sem.run_pure, Result.andThen_ok, r_under hok.2.1, ex]
        rw [if_neg (by omega)]
        simp
      · have := RV.ref (M := M) (p := []) hb
        simpa [poff] using this
    | _ => exact h.elim
  | _ => exact h.elim
/-! Maps whose keys are digests, and all whose values are true. -/
theorem digV_of {xs : List Int} {x : Value} (h : VR M β (.ints .u8 32 xs) x) : x = digV xs ∧ xs.length = 32 := by
  cases h with
  | one hm _ => cases hm
  | agg _ h => cases h with | ints _ hl => exact ⟨rfl, hl⟩
theorem vr_digV {xs : List Int} (h : xs.length = 32) : VR M β (.ints .u8 32 xs) (digV xs) := .agg rfl (.ints _ h)
theorem run_checkDigN (nn : Nat) {kt e : TypeId} (hok : (Ty.arr 32 e (.int .u8)).ok P kt) (em : Bool) (d : List Int) (hd : d.length = 32) : (Instr.checkKey em (nn + 1 + 1) kt (digV d)).run P w = .ok () w := by
  unfold digV
  rw [Instr.checkKey]
  simp only [Sem.run_bind, r_under hok.2.1, Result.andThen_ok]
  simp only [Std.Legacy.Range.forIn_eq_forIn_range', Std.Legacy.Range.size, Nat.sub_zero, Nat.add_one_sub_one, Nat.div_one]
  have hin : ∀ j ∈ List.range' 0 32, j < 32 := fun j h => by simp at h; exact h
  generalize List.range' 0 32 = is at hin
  induction is with
  | nil => simp
  | cons j is ih =>
    have hj := hin j (List.mem_cons_self ..)
    have hp : (part e (d.map (Value.int .u8)).toArray (j * 1)).run P w = .ok (.int .u8 (d[j]'(by omega))) w := by
      have e2 : (d.map (Value.int .u8)).toArray[j]? = some (.int .u8 (d[j]'(by omega))) := by simp [hd, hj]
      simp only [part, Sem.run_bind, r_isAgg hok.2.2.2, Result.andThen_ok, Nat.mul_one, Ty.multi, e2, Bool.false_eq_true, if_false]
      rfl
    have hc : (Instr.checkKey em (nn + 1) e (.int .u8 (d[j]'(by omega)))).run P w = .ok () w := by
      simp only [Instr.checkKey, Sem.run_bind, r_under hok.2.2.2.2, Result.andThen_ok, Sem.run_pure]
    have hs : (sizeOf e).run P w = .ok 1 w := r_size hok.2.2.2
    simp only [List.forIn_cons, Sem.run_bind, hs, Result.andThen_ok, hp, hc, Sem.run_pure]
    exact ih (fun y hy => hin y (List.mem_cons_of_mem _ hy))
theorem run_checkDig {kt e : TypeId} (hok : (Ty.arr 32 e (.int .u8)).ok P kt) (em : Bool) (d : List Int) (hd : d.length = 32) : (Instr.checkKey em 10000 kt (digV d)).run P w = .ok () w := run_checkDigN 9998 hok em d hd
theorem VR.mp_inv {o : Nat} {x : Value} (h : VR M β (.mp o) x) : ∃ b κ, β o = some (b, κ) ∧ x = .map (some b) := by
  cases h with
  | one _ h => cases h with | mp h => exact ⟨_, _, h, rfl⟩
  | agg hm _ => cases hm
theorem run_askDig {kt e : TypeId} (hok : (Ty.arr 32 e (.int .u8)).ok P kt) (d : List Int) (hd : d.length = 32) : ∀ (es : List MapEntry) (ds : List (List Int)) (i : Nat), es.map (fun e => (e.key, e.val)) = ds.map (fun d => (digV d, Value.bool true)) → (∀ d ∈ ds, d.length = 32) →
    ∃ r, (Instr.findAsking kt (digV d) es i).run P w = .ok r w ∧ (d ∈ ds → ∃ j, r = some (j, .bool true)) ∧ (d ∉ ds → r = none) := by
  intro es
  induction es with
  | nil =>
    intro ds i h _
    cases ds with
    | nil => exact ⟨none, by simp [Instr.findAsking], fun h => (by cases h), fun _ => rfl⟩
    | cons _ _ => cases h
  | cons x es ih =>
    intro ds i h hl
    cases ds with
    | nil => cases h
    | cons d' ds =>
      simp only [List.map_cons, List.cons.injEq, Prod.mk.injEq] at h
      obtain ⟨⟨hk, hv⟩, h⟩ := h
      have hd' := hl d' (List.mem_cons_self ..)
      obtain ⟨b, hb, hrun⟩ := eqC_spec (P := P) (w := w) (M := fun _ _ => none) (β := nob) (.arr 32 e (.int .u8)) kt (.ints .u8 32 d) (.ints .u8 32 d') (fun b => b = decide (d = d')) Op.maxDepth (digV d) (digV d') hok (by simp [Ty.dep, Op.maxDepth]) ⟨rfl, rfl, rfl, rfl, rfl⟩ (vr_digV hd) (vr_digV hd')
      have hq : (Op.equal kt (digV d) x.key).run P w = .ok b w := by rw [hk]; exact hrun
      by_cases c : d = d'
      · rw [hb, decide_eq_true c] at hq
        refine ⟨some (i, x.val), by simp [Instr.findAsking, Sem.run_bind, hq, Result.andThen_ok], fun _ => ⟨i, by rw [hv]⟩, fun hn => absurd (by rw [c]; exact List.mem_cons_self ..) hn⟩
      · rw [hb, decide_eq_false c] at hq
        obtain ⟨r, h1, h2, h3⟩ := ih ds (i + 1) h (fun y hy => hl y (List.mem_cons_of_mem _ hy))
        refine ⟨r, by simp [Instr.findAsking, Sem.run_bind, hq, Result.andThen_ok, h1], fun hm => h2 ?_, fun hn => h3 fun hm => hn (List.mem_cons_of_mem _ hm)⟩
        rcases List.mem_cons.1 hm with hm | hm
        · exact absurd hm c
        · exact hm
theorem run_findDig {kt e : TypeId} (hok : (Ty.arr 32 e (.int .u8)).ok P kt) (d : List Int) (hd : d.length = 32) (es : List MapEntry) (ds : List (List Int)) (h : es.map (fun e => (e.key, e.val)) = ds.map (fun d => (digV d, Value.bool true))) (hl : ∀ d ∈ ds, d.length = 32) :
    ∃ r, (Instr.findKey kt (digV d) es).run P w = .ok r w ∧ (d ∈ ds → ∃ j, r = some (j, .bool true)) ∧ (d ∉ ds → r = none) := by
  obtain ⟨r, h1, h2⟩ := run_askDig (w := w) hok d hd es ds 0 h hl
  refine ⟨r, ?_, h2⟩
  rw [← h1]
  cases es with
  | nil => simp [Instr.findKey, Sem.run_bind, r_under hok.2.1, Instr.findNow, Instr.findAsking]
  | cons x es => simp [Instr.findKey, Sem.run_bind, r_under hok.2.1, Instr.findNow, Instr.sameNow]
theorem mapKC_spec {ty : Ty} {u : AV} {κ : List Int → Prop} (h : mapKC P ty u κ) : ∃ kt et e d, ty = .map kt et ∧ u = .ints .u8 32 d ∧ (Ty.arr 32 e (.int .u8)).ok P kt ∧ Ty.bool.ok P et ∧ κ d := by
  cases ty with
  | map kt et =>
    cases u with
    | ints k m xs =>
      obtain ⟨tk, hok, _, h⟩ := tyC_spec h
      obtain ⟨te, hoe, _, h⟩ := tyC_spec h
      cases tk with
      | arr m' e tk' =>
        cases tk' with
        | int k' =>
          obtain ⟨rfl, rfl, rfl, rfl, rfl, h⟩ := h
          exact ⟨kt, et, e, xs, rfl, rfl, hok, hoe, h⟩
        | _ => exact h.elim
      | _ => exact h.elim
    | _ => exact h.elim
  | _ => exact h.elim
theorem mpC_spec {ob : OB} {κ : List (List Int) → Prop} (h : mpC ob κ) : ∃ ds, ob = .map ds ∧ κ ds := by
  cases ob with
  | map ds => exact ⟨ds, rfl, h⟩
  | _ => exact h.elim
theorem setM_spec : ∀ {O : OO} {o : Nat} {d : List Int} {K : OO → Prop}, setM O o d K → ∃ ds O', lk O o = some (.map ds) ∧ d ∉ ds ∧ K O' ∧ ∀ i, lk O' i = if i = o then some (.map (ds ++ [d])) else lk O i := by
  intro O
  induction O with
  | nil => intro o d K h; exact h.elim
  | cons q O ih =>
    intro o d K h
    obtain ⟨j, ob⟩ := q
    simp only [setM] at h
    split at h
    · rename_i e
      subst e
      obtain ⟨ds, rfl, h1, h2⟩ := mpC_spec h
      refine ⟨ds, _, by simp [lk], of_decide_eq_false h1, h2, fun i => ?_⟩
      simp only [lk]
      by_cases hj : j = i
      · simp [hj]
      · simp [hj, Ne.symm hj]
    · rename_i e
      obtain ⟨ds, O', h0, h1, h2, h3⟩ := ih h
      refine ⟨ds, _, by simp [lk, e, h0], h1, h2, fun i => ?_⟩
      simp only [lk, h3]
      by_cases hj : j = i
      · have : i ≠ o := by omega
        simp [hj, this]
      · simp [hj]
theorem s_makeMap (hK : ∀ v O' n', K v O' n' → ∀ o, n ≤ o → o < n' → E.ok o) {t : TypeId} (ho : o.op = .makeMap t none) (h : K (.mp n) ((n, .map []) :: O) (n + 1)) (hr : RelAt E N M β T O n a w) : OpS P o E N T K a w := by
  have hn : β n = none := hr.ids n (Nat.le_refl _) (hK _ _ _ h n (Nat.le_refl _) (Nat.lt_succ_self _))
  have hok := hK _ _ _ h n (Nat.le_refl _) (Nat.lt_succ_self _)
  refine OpS.val (x := .map (some w.heap.size)) (w' := w.alloc (.map #[] 0)) ?_ (hr.next (hr.st.alloc hn w.heap.size 1 (.map #[] 0) (.map []) (fun _ => rfl) ?_) (updB_le hn _) (hr.fresh _) (updB_low hok _ _) (Nat.le_succ _)) (.one rfl (.mp (κ := 1) (by simp))) h
  · simp only [execOp, ho, Instr.makeMap, Option.map_none, Sem.run_bind, run_newObj, Sem.run_pure, Result.andThen_ok]
    rfl
  · exact ⟨by decide, #[], 0, alloc_new _ _, rfl, by simp⟩
/-! Maps whose keys are texts, or numbers. -/
def MK.ty : MK → Ty
  | .str _ => .str
  | .int _ => .int .i64
def MK.desc : MK → TypeDesc
  | .str _ => .string
  | .int _ => .int .i64
theorem MK.under {k : MK} {kt : TypeId} (hok : k.ty.ok P kt) : P.underlying kt = some k.desc := by cases k <;> exact hok.2
theorem mapQ_spec {ty : Ty} {u : AV} {κ : List Int → Prop} {G : MK → Ty → Prop} (h : mapQ P ty u κ G) :
    (∃ kt et e d, ty = .map kt et ∧ u = .ints .u8 32 d ∧ (Ty.arr 32 e (.int .u8)).ok P kt ∧ Ty.bool.ok P et ∧ κ d) ∨ (∃ kt et te k, ty = .map kt et ∧ u = MK.av k ∧ (MK.ty k).ok P kt ∧ te.ok P et ∧ G k te) := by
  cases u with
  | str t =>
    right
    cases ty with
    | map kt et =>
      obtain ⟨tk, hok, _, h1⟩ := tyC_spec h
      obtain ⟨te, hoe, _, h2⟩ := tyC_spec h1
      obtain ⟨htk, h3⟩ := h2
      rw [htk] at hok
      exact ⟨kt, et, te, .str t, rfl, rfl, hok, hoe, h3⟩
    | _ => exact h.elim
  | int k n =>
    right
    cases ty with
    | map kt et =>
      obtain ⟨tk, hok, _, h1⟩ := tyC_spec h
      obtain ⟨te, hoe, _, h2⟩ := tyC_spec h1
      obtain ⟨htk, hkk, h3⟩ := h2
      rw [htk] at hok
      rw [hkk]
      exact ⟨kt, et, te, .int n, rfl, rfl, hok, hoe, h3⟩
    | _ => exact h.elim
  | _ => exact .inl (mapKC_spec h)
theorem MK.av_inv {k : MK} {x : Value} (h : VR M β k.av x) : x = k.v := by
  cases k with
  | str s => exact h.str_inv
  | int n => exact h.int_inv
theorem run_checkM {k : MK} {kt : TypeId} (hok : k.ty.ok P kt) (em : Bool) : (Instr.checkKey em 10000 kt k.v).run P w = .ok () w := by
  have hu := MK.under hok
  rw [show (10000 : Nat) = 9999 + 1 from rfl, Instr.checkKey]
  cases k <;> simp only [MK.v, MK.desc, Sem.run_bind, r_under hu, Result.andThen_ok, Sem.run_pure]
theorem str_beq (s s' : List UInt8) : ((⟨s.toArray⟩ : ByteArray) == ⟨s'.toArray⟩) = decide (s = s') := by
  have e : ((⟨s.toArray⟩ : ByteArray) == ⟨s'.toArray⟩) = (s.toArray == s'.toArray) := rfl
  rw [e]
  simp [beq_dec]
theorem same_now (k k' : MK) (h : k'.isS = k.isS) : Instr.sameNow k.desc k.v k'.v = some (decide (k' = k)) := by
  cases k with
  | str s =>
    cases k' with
    | str s' =>
      simp only [MK.desc, MK.v, Instr.sameNow, str_beq, MK.str.injEq]
      congr 1
      exact decide_eq_decide.2 eq_comm
    | int n => cases h
  | int n =>
    cases k' with
    | str s' => cases h
    | int n' =>
      simp only [MK.desc, MK.v, Instr.sameNow, MK.int.injEq, if_true]
      congr 1
      rw [beq_dec]
      exact decide_eq_decide.2 eq_comm
def fndM (ks : List MK) (k : MK) (xs : List Value) (i : Nat) : Option (Nat × Value) := match idxM ks k with
  | some j => some (i + j, xs.getD j undef)
  | none => none
theorem find_now (k : MK) : ∀ (es : List MapEntry) (ks : List MK) (i : Nat), es.map (fun e => e.key) = ks.map MK.v → (∀ k' ∈ ks, k'.isS = k.isS) →
    Instr.findNow k.desc k.v es i = some (fndM ks k (es.map fun e => e.val) i)
  | [], [], i, _, _ => rfl
  | [], _ :: _, _, h, _ => by cases h
  | e :: es, [], _, h, _ => by cases h
  | e :: es, k' :: ks, i, h, hs => by
    simp only [List.map_cons, List.cons.injEq] at h
    have ih := find_now k es ks (i + 1) h.2 (fun q hq => hs q (List.mem_cons_of_mem _ hq))
    rw [Instr.findNow, h.1, same_now k k' (hs k' (List.mem_cons_self ..))]
    unfold fndM at ih ⊢
    by_cases c : k' = k
    · simp [idxM, c]
    · rw [show decide (k' = k) = false from decide_eq_false c]
      simp only [idxM, if_neg c, ih]
      cases idxM ks k with
      | none => rfl
      | some j => simp [Nat.add_assoc, Nat.add_comm 1 j]
theorem run_findM {k : MK} {kt : TypeId} (hok : k.ty.ok P kt) (es : List MapEntry) (ks : List MK) (h : es.map (fun e => e.key) = ks.map MK.v) (hs : ∀ k' ∈ ks, k'.isS = k.isS) :
    (Instr.findKey kt k.v es).run P w = .ok (fndM ks k (es.map fun e => e.val) 0) w := by
  simp only [Instr.findKey, Sem.run_bind, r_under (MK.under hok), Result.andThen_ok, find_now k es ks 0 h hs, Sem.run_pure]
theorem VRs.lens {vs : List AV} {xs : List Value} (h : VRs M β vs xs) : vs.length = xs.length := by
  induction vs generalizing xs with
  | nil => cases h; rfl
  | cons v vs ih => cases h with | cons _ h => simp [ih h]
theorem VRs.at {vs : List AV} {xs : List Value} (h : VRs M β vs xs) {j : Nat} {v : AV} (hv : vs[j]? = some v) : VR M β v (xs.getD j undef) := by
  induction vs generalizing xs j with
  | nil => cases hv
  | cons u vs ih =>
    cases h with
    | cons h1 h2 =>
      cases j with
      | zero => cases hv; exact h1
      | succ j => exact ih h2 (by simpa using hv)
theorem VRs.put {vs : List AV} {xs : List Value} (h : VRs M β vs xs) {z : AV} {y : Value} (hz : VR M β z y) : ∀ j, VRs M β (vs.set j z) (xs.set j y) := by
  induction vs generalizing xs with
  | nil => cases h; intro j; exact .nil
  | cons u vs ih =>
    cases h with
    | cons h1 h2 =>
      intro j
      cases j with
      | zero => exact .cons hz h2
      | succ j => exact .cons h1 (ih h2 j)
theorem VRs.snoc {vs : List AV} {xs : List Value} (h : VRs M β vs xs) {z : AV} {y : Value} (hz : VR M β z y) : VRs M β (vs ++ [z]) (xs ++ [y]) := by
  induction vs generalizing xs with
  | nil => cases h; exact .cons hz .nil
  | cons u vs ih => cases h with | cons h1 h2 => exact .cons h1 (ih h2)
theorem idxM_lt {k : MK} : ∀ {ks : List MK} {j : Nat}, idxM ks k = some j → ks[j]? = some k
  | [], j, h => by cases h
  | k' :: ks, j, h => by
    rw [idxM] at h
    split at h
    · rename_i c; cases h; rw [c]; rfl
    · cases hi : idxM ks k with
      | none => rw [hi] at h; cases h
      | some i => rw [hi] at h; cases h; exact idxM_lt (ks := ks) hi
theorem gmC_spec {k : MK} {ob : OB} {G : List MK → List AV → Prop} (h : gmC k ob G) : ∃ ks vs, G ks vs ∧ ∀ {b κ}, OR M β b κ w ob → OR M β b κ w (.gm k.isS ks vs) := by
  cases ob with
  | gm f ks vs =>
    obtain ⟨rfl, h⟩ := h
    exact ⟨ks, vs, h, fun h => h⟩
  | map ds =>
    obtain ⟨rfl, h⟩ := h
    refine ⟨[], [], h, fun {b κ} ⟨h1, es, cl, h2, h3, _⟩ => ⟨h1, es, cl, h2, ?_, ?_, fun _ h => by cases h⟩⟩
    · have : es.toList = [] := by simpa using h3
      rw [this]; rfl
    · have : es.toList = [] := by simpa using h3
      rw [this]; exact .nil
  | var c => exact h.elim
  | row c => exact h.elim
theorem setG_spec : ∀ {O : OO} {o : Nat} {k : MK} {z : AV} {K : OO → Prop}, setG O o k z K → ∃ ob ks vs O', lk O o = some ob ∧ K O' ∧ (∀ i, lk O' i = if i = o then some (.gm k.isS (putM ks vs k z).1 (putM ks vs k z).2) else lk O i) ∧ ∀ {b κ}, OR M β b κ w ob → OR M β b κ w (.gm k.isS ks vs) := by
  intro O
  induction O with
  | nil => intro o k z K h; exact h.elim
  | cons q O ih =>
    intro o k z K h
    obtain ⟨j, ob⟩ := q
    simp only [setG] at h
    split at h
    · rename_i e
      subst e
      obtain ⟨ks, vs, h1, h2⟩ := gmC_spec (M := M) (β := β) (w := w) h
      refine ⟨ob, ks, vs, _, by simp [lk], h1, fun i => ?_, h2⟩
      simp only [lk]
      by_cases hj : j = i
      · simp [hj]
      · simp [hj, Ne.symm hj]
    · rename_i e
      obtain ⟨ob', ks, vs, O', h0, h1, h2, h3⟩ := ih h
      refine ⟨ob', ks, vs, _, by simp [lk, e, h0], h1, fun i => ?_, h3⟩
      simp only [lk, h2]
      by_cases hj : j = i
      · have : i ≠ o := by omega
        simp [hj, this]
      · simp [hj]
theorem s_lookup {t : TypeId} {x i : Operand} {ok : Bool} (ho : o.op = .lookup t x i ok)
    (h : tyC P t fun ty => evC T x fun v => evC T i fun u => mapQ P ty u (fun d => ok = false ∧
      (match v with
      | .mp o => objC O o fun ob => mpC ob fun ds => K (.bool (decide (d ∈ ds))) O n
      | _ => False)) fun k te =>
      (match v with
      | .mp o => objC O o fun ob => gmC k ob fun ks vs => fndC (getM ks vs k) te.zero fun r h => if ok = true then K (.tup [r, .bool h]) O n else K r O n
      | _ => False)) (hr : RelAt E N M β T O n a w) : OpS P o E N T K a w := by
  obtain ⟨ty, hok, _, h⟩ := tyC_spec h
  obtain ⟨v, h, hv⟩ := evC_spec hr h
  obtain ⟨u, h0, hu⟩ := evC_spec hr h
  clear h
  rcases mapQ_spec h0 with ⟨kt, et, e, d, ety, eu, hk, he, eok, h⟩ | ⟨kt, et, te, k, ety, eu, hk, he, h⟩ <;> clear h0
  · subst ety
    subst eu
    subst eok
    cases v with
    | mp oo =>
      obtain ⟨ob, hl, h⟩ := objC_spec h
      obtain ⟨ds, rfl, h⟩ := mpC_spec h
      obtain ⟨b, κ, hb, _, es, cl, hh, hes, hds⟩ := hr.st.objs _ _ hl
      obtain ⟨hux, hdl⟩ := digV_of hu
      have hvx : a.eval x = .map (some b) := by
        obtain ⟨b', κ', h1, h2⟩ := hv.mp_inv
        rw [hb] at h1; cases h1; exact h2
      obtain ⟨r, hf, hin, hout⟩ := run_findDig (w := w) hk d hdl es.toList ds hes hds
      have hgo : (getObj b).run P w = .ok (.map es cl) w := by simp [getObj, Sem.run, hh]
      have hz : (zeroValue et).run P w = .ok (.bool false) w := r_zero he
      refine OpS.val (x := .bool (decide (d ∈ ds))) ?_ hr (.one rfl (.bool _)) h
      simp only [execOp, ho, Instr.lookup, Sem.run_bind, r_under hok.2, Result.andThen_ok, hvx, hux, hgo, Sem.run_pure, run_checkDig hk _ d hdl, hf]
      by_cases c : d ∈ ds
      · obtain ⟨j, rfl⟩ := hin c
        simp [c]
      · rw [hout c]
        simp [c, hz, Result.andThen_ok]
    | _ => exact h.elim
  · subst ety
    subst eu
    cases v with
    | mp oo =>
      obtain ⟨ob, hl, h⟩ := objC_spec h
      obtain ⟨ks, vs, h, hob⟩ := gmC_spec (M := M) (β := β) (w := w) h
      obtain ⟨b, κ, hb, hor⟩ := hr.st.objs _ _ hl
      obtain ⟨hκ, es, cl, hh, hes, hvs, hs⟩ := hob hor
      have hux := MK.av_inv hu
      have hvx : a.eval x = .map (some b) := by
        obtain ⟨b', κ', h1, h2⟩ := hv.mp_inv
        rw [hb] at h1; cases h1; exact h2
      have hf := run_findM (w := w) hk es.toList ks hes hs
      have hgo : (getObj b).run P w = .ok (.map es cl) w := by simp [getObj, Sem.run, hh]
      have hz : (zeroValue et).run P w = .ok te.zv w := r_zero he
      have key : ∃ (r : AV) (hb : Bool) (y : Value), (if ok = true then K (.tup [r, .bool hb]) O n else K r O n) ∧ VR M β r y ∧ (execOp a.eval o).run P w = .ok (.value (if ok = true then .tuple #[y, .bool hb] else y)) w := by
        unfold getM at h
        cases hi : idxM ks k with
        | none =>
          rw [hi] at h
          refine ⟨te.zero, false, te.zv, h, zero_vr te β, ?_⟩
          simp only [execOp, ho, Instr.lookup, Sem.run_bind, r_under hok.2, Result.andThen_ok, hvx, hux, hgo, Sem.run_pure, run_checkM hk, hf, fndM, hi, hz]
        | some j =>
          rw [hi] at h
          have hj := idxM_lt hi
          have hlen : vs.length = ks.length := by
            rw [hvs.lens, List.length_map, ← List.length_map (f := MK.v) (as := ks), ← hes, List.length_map]
          obtain ⟨v, hv2⟩ : ∃ v, vs[j]? = some v := ⟨_, List.getElem?_eq_getElem (by have := (List.getElem?_eq_some_iff.1 hj).1; omega)⟩
          simp only [hv2, fndC] at h
          refine ⟨v, true, _, h, hvs.at hv2, ?_⟩
          simp only [execOp, ho, Instr.lookup, Sem.run_bind, r_under hok.2, Result.andThen_ok, hvx, hux, hgo, Sem.run_pure, run_checkM hk, hf, fndM, hi, Nat.zero_add]
      obtain ⟨r, hb', y, hK, hy, hrun⟩ := key
      cases ok with
      | true => exact OpS.val hrun hr (.tup (.cons hy (.cons (.one rfl (.bool _)) .nil))) hK
      | false => exact OpS.val hrun hr hy hK
    | _ => exact h.elim
theorem s_mapUpdate {t : TypeId} {m k x : Operand} (ho : o.op = .mapUpdate t m k x)
    (h : tyC P t fun ty => evC T m fun v => evC T k fun u => evC T x fun z => mapQ P ty u (fun d => z = .bool true ∧
      (match v with
      | .mp o => setM O o d fun O' => K .junk O' n
      | _ => False)) fun k te =>
      (match v with
      | .mp o => setG O o k z fun O' => K .junk O' n
      | _ => False)) (hr : RelAt E N M β T O n a w) : OpS P o E N T K a w := by
  obtain ⟨ty, hok, _, h⟩ := tyC_spec h
  obtain ⟨v, h, hv⟩ := evC_spec hr h
  obtain ⟨u, h, hu⟩ := evC_spec hr h
  obtain ⟨z, h0, hz⟩ := evC_spec hr h
  clear h
  rcases mapQ_spec h0 with ⟨kt, et, e, d, ety, eu, hk, he, ez, h5⟩ | ⟨kt, et, te, kk, ety, eu, hk, he, h5⟩ <;> clear h0
  · subst ety
    subst eu
    subst ez
    cases v with
    | mp oo =>
      dsimp only at h5
      obtain ⟨ds, O', hl, hnot, hk', hO⟩ := setM_spec h5
      obtain ⟨b, κ, hb, hκ, es, cl, hh, hes, hds⟩ := hr.st.objs _ _ hl
      obtain ⟨hux, hdl⟩ := digV_of hu
      have hvx : a.eval m = .map (some b) := by
        obtain ⟨b', κ', h1, h2⟩ := hv.mp_inv
        rw [hb] at h1; cases h1; exact h2
      have hzx : a.eval x = .bool true := hz.bool_inv
      obtain ⟨r, hf, _, hout⟩ := run_findDig (w := w) hk d hdl es.toList ds hes hds
      obtain rfl := hout hnot
      have hgo : (getObj b).run P w = .ok (.map es cl) w := by simp [getObj, Sem.run, hh]
      have hlt : b < w.heap.size := (Array.getElem?_eq_some_iff.1 hh).1
      have hset : ∀ x, (setObj b x).run P w = .ok () (w.putBlock b x) := fun x => by simp [setObj, Sem.run, hh, World.putBlock]
      refine OpS.skip (w' := w.putBlock b (.map (es.push { key := digV d, val := .bool true, born := cl }) (cl + 1))) ?_ (hr.next (hr.st.put hl hb hκ hO ⟨hκ, es.push { key := digV d, val := .bool true, born := cl }, cl + 1, by rw [getElem?_putBlock hlt, if_pos rfl], ?_, ?_⟩) (BLe.refl _) hr.ids (fun _ _ => rfl) (Nat.le_refl _)) hk'
      · simp only [execOp, ho, Instr.mapUpdate, Sem.run_bind, r_under hok.2, Result.andThen_ok, hvx, hux, hzx, hgo, run_checkDig hk _ d hdl, hf, hset]
        rfl
      · simp [hes]
      · intro y hy
        rcases List.mem_append.1 hy with hy | hy
        · exact hds y hy
        · rw [List.mem_singleton] at hy; rw [hy]; exact hdl
    | _ => exact h5.elim
  · subst ety
    subst eu
    cases v with
    | mp oo =>
      dsimp only at h5
      obtain ⟨ob, ks, vs, O', hl, hk', hO, hob⟩ := setG_spec (M := M) (β := β) (w := w) h5
      obtain ⟨b, κ, hb, hor⟩ := hr.st.objs _ _ hl
      obtain ⟨hκ, es, cl, hh, hes, hvs, hs⟩ := hob hor
      have hux := MK.av_inv hu
      have hvx : a.eval m = .map (some b) := by
        obtain ⟨b', κ', h1, h2⟩ := hv.mp_inv
        rw [hb] at h1; cases h1; exact h2
      have hf := run_findM (w := w) hk es.toList ks hes hs
      have hgo : (getObj b).run P w = .ok (.map es cl) w := by simp [getObj, Sem.run, hh]
      have hlt : b < w.heap.size := (Array.getElem?_eq_some_iff.1 hh).1
      have hset : ∀ x, (setObj b x).run P w = .ok () (w.putBlock b x) := fun x => by simp [setObj, Sem.run, hh, World.putBlock]
      cases hi : idxM ks kk with
      | none =>
        have hp : putM ks vs kk z = (ks ++ [kk], vs ++ [z]) := by unfold putM; rw [hi]
        rw [hp] at hO
        refine OpS.skip (w' := w.putBlock b (.map (es.push { key := kk.v, val := a.eval x, born := cl }) (cl + 1))) ?_ (hr.next (hr.st.put hl hb hκ hO ⟨hκ, es.push { key := kk.v, val := a.eval x, born := cl }, cl + 1, by rw [getElem?_putBlock hlt, if_pos rfl], ?_, ?_, ?_⟩) (BLe.refl _) hr.ids (fun _ _ => rfl) (Nat.le_refl _)) hk'
        · simp only [execOp, ho, Instr.mapUpdate, Sem.run_bind, r_under hok.2, Result.andThen_ok, hvx, hux, hgo, run_checkM hk, hf, fndM, hi, hset]
          rfl
        · simp [hes]
        · have := hvs.snoc hz
          simpa using this
        · intro y hy
          rcases List.mem_append.1 hy with hy | hy
          · exact hs y hy
          · rw [List.mem_singleton] at hy; rw [hy]
      | some j =>
        have hp : putM ks vs kk z = (ks, vs.set j z) := by unfold putM; rw [hi]
        rw [hp] at hO
        have hj := idxM_lt hi
        have hkey : (es.toList.map fun e => e.key)[j]? = some kk.v := by rw [hes, List.getElem?_map, hj]; rfl
        obtain ⟨e0, he0, hek⟩ : ∃ e0, es.toList[j]? = some e0 ∧ e0.key = kk.v := by
          rw [List.getElem?_map] at hkey
          cases hq : es.toList[j]? with
          | none => rw [hq] at hkey; cases hkey
          | some e0 => rw [hq] at hkey; exact ⟨e0, rfl, Option.some.inj hkey⟩
        have he0' : es[j]? = some e0 := by rw [← he0, Array.getElem?_toList]
        have hstay : (Instr.keyThatStays (((es[j]?).map (·.key)).getD kk.v) kk.v).run P w = .ok kk.v w := by
          rw [he0']
          simp only [Option.map_some, Option.getD_some, hek, Instr.keyThatStays]
          have : Instr.sameBits 10000 kk.v kk.v = true := by cases kk <;> simp [MK.v, Instr.sameBits, str_beq]
          rw [this]
          simp
        refine OpS.skip (w' := w.putBlock b (.map (es.modify j fun e => { e with key := kk.v, val := a.eval x }) cl)) ?_ (hr.next (hr.st.put hl hb hκ hO ⟨hκ, es.modify j fun e => { e with key := kk.v, val := a.eval x }, cl, by rw [getElem?_putBlock hlt, if_pos rfl], ?_, ?_, hs⟩) (BLe.refl _) hr.ids (fun _ _ => rfl) (Nat.le_refl _)) hk'
        · simp only [execOp, ho, Instr.mapUpdate, Sem.run_bind, r_under hok.2, Result.andThen_ok, hvx, hux, hgo, run_checkM hk, hf, fndM, hi, Nat.zero_add, hstay, hset]
          rfl
        · rw [← hes]
          apply List.ext_getElem?
          intro q
          rw [List.getElem?_map, List.getElem?_map, Array.toList_modify, List.getElem?_modify]
          by_cases c : j = q
          · subst c
            rw [he0]
            simp [hek]
          · simp [c]
        · have := hvs.put hz j
          have e : (es.modify j fun e => { e with key := kk.v, val := a.eval x }).toList.map (fun e => e.val) = (es.toList.map fun e => e.val).set j (a.eval x) := by
            apply List.ext_getElem?
            intro q
            rw [List.getElem?_map, Array.toList_modify, List.getElem?_modify, List.getElem?_set, List.getElem?_map, List.length_map]
            by_cases c : j = q
            · subst c
              have hlt2 := (List.getElem?_eq_some_iff.1 he0).1
              rw [he0, if_pos rfl, if_pos hlt2]
              simp
            · simp [c]
          rw [e]
          exact this
    | _ => exact h5.elim
theorem vcOp_sound (hK : ∀ v O' n', K v O' n' → ∀ o, n ≤ o → o < n' → E.ok o) {op : Op} (ho : o.op = op) (h : vcOp P op T O n K) (hr : RelAt E N M β T O n a w) : OpS P o E N T K a w := by
  cases op with
  | move x => exact s_move ho h hr
  | assign x => exact s_assign ho h hr
  | pick c x y => exact s_pick ho h hr
  | alloc t => exact s_alloc hK ho h hr
  | box t x => exact s_box hK ho h hr
  | build t ps => exact s_build ho h hr
  | buildSlice t m ps => exact s_buildSlice hK ho h hr
  | load t x => exact s_load ho h hr
  | store t x y => exact s_store ho h hr
  | nilCheck x => exact s_nilCheck ho h hr
  | binOp op t x y t' => exact s_binOp ho h hr
  | unOp op t x => exact s_unOp ho h hr
  | convert q t x => exact s_convert hK ho h hr
  | makeFunc f fs cs => exact s_makeFunc ho h hr
  | makeSlice t x y => exact s_makeSlice hK ho h hr
  | slice t x lo hi mx =>
    cases mx with
    | none => exact s_slice ho h hr
    | some _ => exact h.elim
  | sliceToArrayPointer t x => exact s_s2a ho h hr
  | fieldAddr s x f => exact s_fieldAddr ho h hr
  | field s x f => exact s_field ho h hr
  | indexAddr t x i => exact s_indexAddr ho h hr
  | index t x i => exact s_index ho h hr
  | extract x i => exact s_extract ho h hr
  | call c =>
    cases hc : c.callee with
    | value f => simp only [vcOp, hc] at h; exact s_call hK ho hc h hr
    | builtin b => simp only [vcOp, hc] at h; exact s_builtin hK ho hc h hr
    | invoke x m => simp only [vcOp, hc] at h
  | makeMap t r =>
    cases r with
    | none => exact s_makeMap hK ho h hr
    | some _ => exact h.elim
  | lookup t x i ok => exact s_lookup ho h hr
  | mapUpdate t m k x => exact s_mapUpdate ho h hr
  | _ => exact h.elim
end
end Go.Sy
/- Each of the propositions above speaks of one outcome. -/
namespace Go.Sy
open Go
set_option linter.unusedSimpArgs false
set_option linter.unusedVariables false

def Pt {α : Type} (F : (α → Prop) → Prop) : Prop := ∀ κ, F κ → ∃ x, κ x ∧ ∀ κ', κ' x → F κ'
section
variable {α β γ δ : Type} {p c : Prop}
theorem pt_pure (x : α) : Pt fun κ => κ x := fun κ h => ⟨x, h, fun _ h => h⟩
theorem pt_false : Pt fun (_ : α → Prop) => False := fun _ h => h.elim
theorem pt_and {F : (α → Prop) → Prop} (h : p → Pt F) : Pt fun κ => p ∧ F κ := fun κ ⟨hp, hf⟩ => by
  obtain ⟨x, h1, h2⟩ := h hp κ hf
  exact ⟨x, h1, fun κ' h' => ⟨hp, h2 κ' h'⟩⟩
theorem pt_bind {f : (β → Prop) → Prop} {g : β → (α → Prop) → Prop} (hf : Pt f) (hg : ∀ x, Pt (g x)) : Pt fun κ => f fun x => g x κ := fun κ h => by
  obtain ⟨x, h1, h2⟩ := hf _ h
  obtain ⟨y, h3, h4⟩ := hg x _ h1
  exact ⟨y, h3, fun κ' h' => h2 _ (h4 κ' h')⟩
theorem pt_bind2 {f : (β → γ → Prop) → Prop} {g : β → γ → (α → Prop) → Prop} (hf : Pt fun κ : β × γ → Prop => f fun a b => κ (a, b)) (hg : ∀ a b, Pt (g a b)) : Pt fun κ => f fun a b => g a b κ := fun κ h => by
  obtain ⟨⟨a, b⟩, h1, h2⟩ := hf (fun q => g q.1 q.2 κ) h
  obtain ⟨y, h3, h4⟩ := hg a b _ h1
  exact ⟨y, h3, fun κ' h' => h2 (fun q => g q.1 q.2 κ') (h4 κ' h')⟩
theorem pt_bind3 {f : (β → γ → δ → Prop) → Prop} {g : β → γ → δ → (α → Prop) → Prop} (hf : Pt fun κ : β × γ × δ → Prop => f fun a b c => κ (a, b, c)) (hg : ∀ a b c, Pt (g a b c)) :
    Pt fun κ => f fun a b c => g a b c κ := fun κ h => by
  obtain ⟨⟨a, b, c⟩, h1, h2⟩ := hf (fun q => g q.1 q.2.1 q.2.2 κ) h
  obtain ⟨y, h3, h4⟩ := hg a b c _ h1
  exact ⟨y, h3, fun κ' h' => h2 (fun q => g q.1 q.2.1 q.2.2 κ') (h4 κ' h')⟩
theorem pt_ite [Decidable c] {F G : (α → Prop) → Prop} (h1 : c → Pt F) (h2 : ¬ c → Pt G) : Pt fun κ => if c then F κ else G κ := fun κ h => by
  by_cases hc : c
  · simp only [hc, if_true] at h ⊢; exact h1 hc κ h
  · simp only [hc, if_false] at h ⊢; exact h2 hc κ h
theorem pt_split {F G : (α → Prop) → Prop} (h1 : c → Pt F) (h2 : ¬ c → Pt G) : Pt fun κ => (c → F κ) ∧ (¬ c → G κ) := fun κ h => by
  by_cases hc : c
  · obtain ⟨x, g1, g2⟩ := h1 hc κ (h.1 hc)
    exact ⟨x, g1, fun κ' h' => ⟨fun _ => g2 κ' h', fun h => absurd hc h⟩⟩
  · obtain ⟨x, g1, g2⟩ := h2 hc κ (h.2 hc)
    exact ⟨x, g1, fun κ' h' => ⟨fun h => absurd h hc, fun _ => g2 κ' h'⟩⟩
theorem pt_all {l : List β} {i : Nat} {F : β → (α → Prop) → Prop} (h : ∀ q, Pt (F q)) : Pt fun κ => i < l.length ∧ ∀ q, l[i]? = some q → F q κ := fun κ ⟨hi, hf⟩ => by
  have e : l[i]? = some l[i] := by simp [hi]
  obtain ⟨x, g1, g2⟩ := h _ κ (hf _ e)
  exact ⟨x, g1, fun κ' h' => ⟨hi, fun q hq => by rw [e] at hq; cases hq; exact g2 κ' h'⟩⟩
theorem pt_case {F : (α → Prop) → Prop} (h : (∃ κ, F κ) → Pt F) : Pt F := fun κ hk => h ⟨κ, hk⟩ κ hk
end
section
variable {P : Program} {T : TT} {O : OO} {n : Nat}
theorem lkC_pt (t : Nat) : Pt fun κ => lkC T t κ := by
  induction T with
  | nil => exact pt_false
  | cons p T ih =>
    obtain ⟨i, v⟩ := p
    exact pt_ite (fun _ => pt_pure v) fun _ => ih
theorem objC_pt (o : Nat) : Pt fun κ => objC O o κ := by
  induction O with
  | nil => exact pt_false
  | cons p T ih =>
    obtain ⟨i, v⟩ := p
    exact pt_ite (fun _ => pt_pure v) fun _ => ih
theorem obC_pt (ob : OB) : Pt fun κ => obC ob κ := by cases ob <;> first | exact pt_pure _ | exact pt_false
theorem rowC_pt (ob : OB) : Pt fun κ => rowC ob κ := by cases ob <;> first | exact pt_pure _ | exact pt_false
theorem varC_pt (ob : OB) : Pt fun κ => varC ob κ := by cases ob <;> first | exact pt_pure _ | exact pt_false
theorem cstC_pt (v : Value) : Pt fun κ => cstC v κ := fun κ h => by
  replace h : cstC v κ := h
  unfold cstC at h
  split at h
  all_goals first | exact h.elim | exact ⟨_, h, fun _ h => by simpa only [cstC] using h⟩
theorem evC_pt (x : Operand) : Pt fun κ => evC T x κ := by
  cases x with
  | tmp t => exact lkC_pt t
  | const v => exact cstC_pt v
  | func f => exact pt_pure _
  | global g => exact pt_false
theorem evsC_pt (xs : List Operand) : Pt fun κ => evsC T xs κ := by
  induction xs with
  | nil => exact pt_pure _
  | cons x xs ih => simp only [evsC]; exact pt_bind (evC_pt x) fun v => pt_bind ih fun vs => pt_pure _
theorem boolC_pt (v : AV) : Pt fun κ => boolC v κ := by cases v <;> first | exact pt_pure _ | exact pt_false
theorem intC_pt (v : AV) : Pt fun κ => intC v κ := by cases v <;> first | exact pt_pure _ | exact pt_false
theorem iteC_pt (b : Bool) : Pt fun κ => iteC b κ := fun κ h => ⟨b, iteC_spec h, fun κ' h' => ⟨fun e => e ▸ h', fun e => e ▸ h'⟩⟩
theorem fitC_pt {α : Type} {F : (α → Prop) → Prop} (ty : Ty) (q : AV) (h : Pt F) : Pt fun κ => fitC ty q (F κ) := pt_and fun _ => pt_and fun _ => h
theorem nthC_pt (vs : List AV) (i : Nat) : Pt fun κ => nthC vs i κ := by
  induction vs generalizing i with
  | nil => exact pt_false
  | cons v vs ih => cases i with | zero => exact pt_pure _ | succ i => exact ih i
theorem nthTC_pt (ts : List Ty) (i off : Nat) : Pt fun κ : Ty × Nat → Prop => nthTC ts i off fun a b => κ (a, b) := by
  induction ts generalizing i off with
  | nil => exact pt_false
  | cons v vs ih => cases i with | zero => exact pt_pure (v, off) | succ i => exact ih i _
theorem setC_pt (ps : List AV) (j : Nat) (v : AV) : Pt fun κ => setC ps j v κ := by
  induction ps generalizing j with
  | nil => exact pt_false
  | cons q qs ih => cases j with | zero => exact pt_and fun _ => pt_pure _ | succ j => simp only [setC]; exact pt_bind (ih j) fun _ => pt_pure _
theorem intB_pt (op : BinOp) (k : IntKind) (a : Int) (k' : IntKind) (b : Int) : Pt fun κ => intB op k a k' b κ := by
  cases op <;> first | exact pt_and fun _ => pt_pure _ | exact pt_and fun _ => pt_and fun _ => pt_pure _
theorem strB_pt (op : BinOp) (a b : List UInt8) : Pt fun κ => strB op a b κ := by
  cases op <;> first | exact pt_false | exact pt_pure _ | exact pt_and fun _ => pt_pure _
mutual
theorem eqC_pt : ∀ (ty : Ty) (x y : AV), Pt fun κ => eqC ty x y κ
  | .st ts, .agg ps, .agg qs => by simp only [eqC]; exact eqsC_pt ts ps qs
  | .st _, x, y => by cases x <;> cases y <;> first | (simp only [eqC]; exact pt_false) | (simp only [eqC]; exact eqsC_pt _ _ _)
  | .int _, x, y => by cases x <;> cases y <;> simp only [eqC] <;> first | exact pt_false | exact pt_and fun _ => pt_pure _
  | .bool, x, y => by cases x <;> cases y <;> simp only [eqC] <;> first | exact pt_false | exact pt_pure _
  | .str, x, y => by cases x <;> cases y <;> simp only [eqC] <;> first | exact pt_false | exact pt_pure _
  | .ptr _, x, y => by cases x <;> cases y <;> simp only [eqC] <;> first | exact pt_false | exact pt_pure _
  | .arr n e (.int k), x, y => by cases x <;> cases y <;> simp only [eqC] <;> first | exact pt_false | exact pt_and fun _ => pt_and fun _ => pt_and fun _ => pt_and fun _ => pt_pure _
  | .arr n e .bool, x, y => by cases x <;> cases y <;> simp only [eqC] <;> exact pt_false
  | .arr n e .str, x, y => by cases x <;> cases y <;> simp only [eqC] <;> exact pt_false
  | .arr n e (.ptr _), x, y => by cases x <;> cases y <;> simp only [eqC] <;> exact pt_false
  | .arr n e (.slice _), x, y => by cases x <;> cases y <;> simp only [eqC] <;> exact pt_false
  | .arr n e (.arr _ _ _), x, y => by cases x <;> cases y <;> simp only [eqC] <;> exact pt_false
  | .arr n e (.st _), x, y => by cases x <;> cases y <;> simp only [eqC] <;> exact pt_false
  | .arr n e (.map _ _), x, y => by cases x <;> cases y <;> simp only [eqC] <;> exact pt_false
  | .arr n e .func, x, y => by cases x <;> cases y <;> simp only [eqC] <;> exact pt_false
  | .slice _, x, y => by cases x <;> cases y <;> simp only [eqC] <;> first | exact pt_false | exact pt_pure _ | exact pt_and fun _ => pt_pure _
  | .map _ _, x, y => by cases x <;> cases y <;> simp only [eqC] <;> exact pt_false
  | .func, x, y => by cases x <;> cases y <;> simp only [eqC] <;> exact pt_false
theorem eqsC_pt : ∀ (ts : List Ty) (xs ys : List AV), Pt fun κ => eqsC ts xs ys κ
  | [], xs, ys => by cases xs <;> cases ys <;> simp only [eqsC] <;> first | exact pt_false | exact pt_pure _
  | t :: ts, xs, ys => by
    cases xs <;> cases ys <;> simp only [eqsC] <;> first | exact pt_false | exact pt_and fun _ => pt_and fun _ => pt_and fun _ => pt_and fun _ => pt_bind (eqC_pt t _ _) fun b => pt_bind (eqsC_pt ts _ _) fun c => pt_pure _
end
theorem eq_pt : (∀ ty : Ty, ∀ x y : AV, Pt fun κ => eqC ty x y κ) ∧ (∀ ts : List Ty, ∀ xs ys : List AV, Pt fun κ => eqsC ts xs ys κ) := ⟨eqC_pt, eqsC_pt⟩
theorem tyC_pt (t : TypeId) : Pt fun κ => tyC P t κ := fun κ ⟨ty, h1, h2⟩ => ⟨ty, h2, fun κ' h' => ⟨ty, h1, h'⟩⟩
theorem byC_pt (t : TypeId) : Pt fun κ => byC P t κ := fun κ ⟨ty, h1, h2⟩ => ⟨ty.bytes, h2, fun κ' h' => ⟨ty, h1, h'⟩⟩
theorem binC_gen (op : BinOp) {t : TypeId} {x y : AV} (h1 : ∀ k a k' b, x = .int k a → y = .int k' b → False) (h2 : ∀ a b, x = .str a → y = .str b → False) (κ : AV → Prop) :
    binC P op t x y κ = match op with
    | .eql => tyC P t fun ty => eqC ty x y fun b => κ (AV.bool b)
    | .neq => tyC P t fun ty => eqC ty x y fun b => κ (AV.bool (!b))
    | _ => False := by
  unfold binC
  split
  · exact (h1 _ _ _ _ rfl rfl).elim
  · exact (h2 _ _ rfl rfl).elim
  · rfl
theorem binC_pt (op : BinOp) (t : TypeId) (x y : AV) : Pt fun κ => binC P op t x y κ := by
  by_cases h1 : ∃ k a k' b, x = .int k a ∧ y = .int k' b
  · obtain ⟨k, a, k', b, rfl, rfl⟩ := h1
    exact intB_pt _ _ _ _ _
  · by_cases h2 : ∃ a b, x = .str a ∧ y = .str b
    · obtain ⟨a, b, rfl, rfl⟩ := h2
      exact strB_pt _ _ _
    · simp only [binC_gen op (P := P) (t := t) (fun k a k' b e1 e2 => h1 ⟨k, a, k', b, e1, e2⟩) (fun a b e1 e2 => h2 ⟨a, b, e1, e2⟩)]
      cases op <;> first | exact pt_false | exact pt_bind (f := tyC P t) (tyC_pt t) fun ty => pt_bind (f := eqC ty x y) (eq_pt.1 ty x y) fun b => pt_pure _
theorem unC_pt (op : UnOp) (x : AV) : Pt fun κ => unC op x κ := by cases op <;> cases x <;> first | exact pt_pure _ | exact pt_false
theorem fldC_pt (ps : List AV) (j off : Nat) : Pt fun κ => fldC ps j off κ := by
  induction ps generalizing j off with
  | nil => exact pt_false
  | cons q qs ih => cases j with | zero => exact pt_and fun _ => pt_pure _ | succ j => exact pt_and fun _ => ih j _
theorem navC_pt (p : List Stp) (v : AV) : Pt fun κ => navC p v κ := by
  induction p generalizing v with
  | nil => exact pt_pure _
  | cons s p ih =>
    cases s with
    | fld j off => cases v <;> first | exact pt_false | (simp only [navC]; exact pt_bind (fldC_pt _ _ _) fun q => ih q)
    | «at» i sz => cases v <;> first | exact pt_false | exact pt_and fun _ => pt_and fun _ => ih _ | exact pt_and fun _ => pt_all fun q => ih q
theorem fldU_pt {U : AV → (AV → Prop) → Prop} (hU : ∀ q, Pt (U q)) (ps : List AV) (j off : Nat) : Pt fun κ => fldU ps j off U κ := by
  induction ps generalizing j off with
  | nil => exact pt_false
  | cons q qs ih => cases j with | zero => exact pt_and fun _ => pt_bind (hU q) fun _ => pt_pure _ | succ j => exact pt_and fun _ => pt_bind (ih j _) fun _ => pt_pure _
theorem intU_pt (k : IntKind) (v : AV) : Pt fun κ => intU k v κ := by cases v <;> first | exact pt_false | exact pt_and fun _ => pt_pure _
theorem updC_pt (p : List Stp) (v x : AV) : Pt fun κ => updC p v x κ := by
  induction p generalizing v with
  | nil => exact pt_and fun _ => pt_pure _
  | cons s p ih =>
    cases s with
    | fld j off => cases v <;> first | exact pt_false | (simp only [updC]; exact pt_bind (fldU_pt (fun q => ih q) _ _ _) fun _ => pt_pure _)
    | «at» i sz =>
      cases v <;> first | exact pt_false | exact pt_and fun _ => pt_and fun _ => pt_and fun _ => pt_bind (intU_pt _ _) fun _ => pt_pure _ |
        exact pt_and fun _ => pt_all fun q => pt_bind (ih q) fun _ => pt_pure _ | skip
      rename_i s' n' es
      have h : Pt fun κ => (s' = sz ∧ x.nid = true) ∧ (i < es.length ∧ ∀ q, es[i]? = some q → updC p q x fun q' => κ (AV.lst s' n' (es.set i q'))) := pt_and fun _ => pt_all fun q => pt_bind (ih q) fun _ => pt_pure _
      intro κ hk
      obtain ⟨y, h1, h2⟩ := h κ ⟨⟨hk.1, hk.2.2.1⟩, hk.2.1, hk.2.2.2⟩
      exact ⟨y, h1, fun κ' h' => by obtain ⟨⟨g1, g2⟩, g3, g4⟩ := h2 κ' h'; exact ⟨g1, g3, g2, g4⟩⟩
theorem loadC_pt (v : AV) : Pt fun κ => loadC O v κ := by
  cases v <;> first | exact pt_false | exact navC_pt _ _ | (simp only [loadC]; exact pt_bind (objC_pt _) fun ob => pt_bind (obC_pt ob) fun c => navC_pt _ c)
theorem updOB_pt (ob : OB) (p : List Stp) (v : AV) : Pt fun κ => updOB ob p v κ := by
  cases ob <;> first | exact pt_false | (simp only [updOB]; exact pt_bind (updC_pt _ _ _) fun _ => pt_pure _) | (simp only [updOB]; exact pt_and fun _ => pt_bind (updC_pt _ _ _) fun _ => pt_pure _)
theorem updO_pt (o : Nat) (p : List Stp) (v : AV) : Pt fun κ => updO O o p v κ := by
  induction O with
  | nil => exact pt_false
  | cons q O ih =>
    obtain ⟨i, ob⟩ := q
    exact pt_ite (fun _ => pt_bind (updOB_pt ob p v) fun _ => pt_pure _) fun _ => pt_bind ih fun _ => pt_pure _
theorem rmO_pt (o : Nat) : Pt fun κ => rmO O o κ := by
  induction O with
  | nil => exact pt_pure _
  | cons q O ih =>
    obtain ⟨i, ob⟩ := q
    exact pt_ite (fun _ => ih) fun _ => pt_bind ih fun _ => pt_pure _
theorem rmsO_pt (os : List Nat) (O : OO) : Pt fun κ => rmsO O os κ := by
  induction os generalizing O with
  | nil => cases O <;> exact pt_pure _
  | cons o os ih =>
    have : Pt fun κ => rmO O o fun O' => rmsO O' os κ := pt_bind (rmO_pt o) fun O' => ih O'
    cases O <;> exact this
theorem subC_pt (c : AV) (lo len : Nat) : Pt fun κ => subC c lo len κ := by
  cases c <;> first | exact pt_false | exact pt_and fun _ => pt_split (fun _ => pt_pure _) (fun _ => pt_pure _) | exact pt_and fun _ => pt_pure _
theorem idC_pt (σ : List (Nat × Nat)) (o : Nat) : Pt fun κ => idC σ o κ := by
  induction σ with
  | nil => exact pt_false
  | cons p σ ih =>
    obtain ⟨i, j⟩ := p
    exact pt_ite (fun _ => pt_pure _) fun _ => ih
mutual
theorem renC_pt (σ : List (Nat × Nat)) : ∀ v : AV, Pt fun κ => renC σ v κ
  | .ref o p => by simp only [renC]; exact pt_bind (idC_pt σ o) fun _ => pt_pure _
  | .osl o p sz lo len => by simp only [renC]; exact pt_bind (idC_pt σ o) fun _ => pt_pure _
  | .mp o => by simp only [renC]; exact pt_bind (idC_pt σ o) fun _ => pt_pure _
  | .agg ps => by simp only [renC]; exact pt_bind (rensC_pt σ ps) fun _ => pt_pure _
  | .arr sz ps => by simp only [renC]; exact pt_bind (rensC_pt σ ps) fun _ => pt_pure _
  | .tup ps => by simp only [renC]; exact pt_bind (rensC_pt σ ps) fun _ => pt_pure _
  | .fn f ps => by simp only [renC]; exact pt_bind (rensC_pt σ ps) fun _ => pt_pure _
  | .int k n => by simp only [renC]; exact pt_pure _
  | .bool b => by simp only [renC]; exact pt_pure _
  | .str s => by simp only [renC]; exact pt_pure _
  | .nilp => by simp only [renC]; exact pt_pure _
  | .ints k n xs => by simp only [renC]; exact pt_pure _
  | .lst sz n es => by simp only [renC]; exact pt_pure _
  | .sl c => by simp only [renC]; exact pt_pure _
  | .nils => by simp only [renC]; exact pt_pure _
  | .pp c p => by simp only [renC]; exact pt_pure _
  | .nilf => by simp only [renC]; exact pt_pure _
  | .nilm => by simp only [renC]; exact pt_pure _
  | .junk => by simp only [renC]; exact pt_false
theorem rensC_pt (σ : List (Nat × Nat)) : ∀ vs : List AV, Pt fun κ => rensC σ vs κ
  | [] => by simp only [rensC]; exact pt_pure _
  | v :: vs => by simp only [rensC]; exact pt_bind (renC_pt σ v) fun _ => pt_bind (rensC_pt σ vs) fun _ => pt_pure _
end
theorem renOB_pt (σ : List (Nat × Nat)) (ob : OB) : Pt fun κ => renOB σ ob κ := by
  cases ob <;> simp only [renOB] <;> first | exact pt_bind (renC_pt σ _) fun _ => pt_pure _ | exact pt_bind (rensC_pt σ _) fun _ => pt_pure _ | exact pt_pure _
theorem renOO_pt (σ : List (Nat × Nat)) (O : OO) : Pt fun κ => renOO σ O κ := by
  induction O with
  | nil => exact pt_pure _
  | cons p O ih =>
    obtain ⟨o, ob⟩ := p
    simp only [renOO]; exact pt_bind (idC_pt σ o) fun _ => pt_bind (renOB_pt σ ob) fun _ => pt_bind ih fun _ => pt_pure _
theorem partsC_pt (ps : List (Nat × Operand)) : Pt fun κ => partsC T ps κ := by
  induction ps with
  | nil => exact pt_pure _
  | cons p ps ih =>
    obtain ⟨j, x⟩ := p
    simp only [partsC]; exact pt_bind (evC_pt x) fun v => pt_and fun _ => pt_bind ih fun _ => pt_pure _
theorem bldS_pt (l : List (Nat × AV)) (ps : List AV) : Pt fun κ => bldS ps l κ := by
  induction l generalizing ps with
  | nil => cases ps <;> exact pt_pure _
  | cons p l ih =>
    obtain ⟨j, v⟩ := p
    have : Pt fun κ => setC ps j v fun ps' => bldS ps' l κ := pt_bind (setC_pt ps j v) fun ps' => ih ps'
    cases ps <;> exact this
theorem seqI_pt (k : IntKind) (l : List (Nat × AV)) (i : Nat) : Pt fun κ : Nat × List Int → Prop => seqI k i l fun a b => κ (a, b) := by
  induction l generalizing i with
  | nil => exact pt_pure (i, [])
  | cons p l ih =>
    obtain ⟨j, v⟩ := p
    exact pt_ite (fun _ => pt_bind (intU_pt k v) fun x => pt_bind2 (f := fun κ => seqI k (i + 1) l κ) (ih (i + 1)) fun m xs => pt_pure (m, x :: xs))
      fun _ => pt_and fun _ => pt_bind (intU_pt k v) fun x => pt_bind2 (f := fun κ => seqI k (j + 1) l κ) (ih (j + 1)) fun m xs => pt_pure (m, _)
theorem seqV_pt (sz : Nat) (l : List (Nat × AV)) (i : Nat) : Pt fun κ : Nat × List AV → Prop => seqV sz i l fun a b => κ (a, b) := by
  induction l generalizing i with
  | nil => exact pt_pure (i, [])
  | cons p l ih =>
    obtain ⟨j, v⟩ := p
    exact pt_and fun _ => pt_and fun _ => pt_bind2 (f := fun κ => seqV sz (i + 1) l κ) (ih (i + 1)) fun m xs => pt_pure (m, v :: xs)
theorem elemsC_pt (m : Nat) (te : Ty) (l : List (Nat × AV)) : Pt fun κ => elemsC m te l κ := by
  have gen : Pt fun κ : AV → Prop => (l = [] ∧ m = 0 → κ (.lst te.size 0 [])) ∧ (¬ (l = [] ∧ m = 0) → seqV te.size 0 l fun i vs => i ≤ m ∧ κ (.arr te.size (vs ++ List.replicate (m - i) te.zero))) :=
    pt_split (fun _ => pt_pure _) fun _ => pt_bind2 (f := fun κ => seqV te.size 0 l κ) (seqV_pt _ _ _) fun i vs => pt_and fun _ => pt_pure _
  cases te <;> first | exact gen | exact pt_bind2 (f := fun κ => seqI _ 0 l κ) (seqI_pt _ _ _) fun i xs => pt_and fun _ => pt_pure _
theorem zerosC_pt (m : Nat) (te : Ty) : Pt fun κ => zerosC m te κ := by cases te <;> exact pt_pure _
theorem catC_pt (c d : AV) : Pt fun κ => catC c d κ := by
  cases c <;> cases d <;> first | exact pt_false | exact pt_and fun _ => pt_pure _ | exact pt_and fun _ => pt_and fun _ => pt_pure _
theorem contC_pt (te : Ty) (v : AV) : Pt fun κ => contC O te v κ := by
  cases v <;> simp only [contC] <;> first | exact pt_false | exact pt_and fun _ => pt_pure _ | exact zerosC_pt _ _ |
    exact pt_and fun _ => pt_bind (objC_pt _) fun ob => pt_bind (obC_pt ob) fun c => pt_bind (navC_pt _ c) fun q => pt_and fun _ => subC_pt _ _ _
theorem lenC_pt (v : AV) : Pt fun κ => lenC v κ := by cases v <;> first | exact pt_false | exact pt_pure _
theorem strL_pt (v : AV) : Pt fun κ => strL v κ := by cases v <;> first | exact pt_false | exact pt_pure _
theorem bytesOf_pt (v : AV) : Pt fun κ => bytesOf v κ := fun κ h => by
  obtain ⟨m, xs, rfl, hk⟩ := bytesOf_spec h
  exact ⟨_, hk, fun κ' h' => h'⟩
theorem cutC_pt (v : AV) (l : Nat) (h : Option Nat) : Pt fun κ => cutC v l h κ := by
  cases v <;> cases h <;> simp only [cutC] <;> first | exact pt_false | exact pt_and fun _ => pt_pure _ | exact pt_and fun _ => pt_and fun _ => pt_pure _ | exact pt_and fun _ => pt_bind (subC_pt _ _ _) fun _ => pt_pure _ |
    exact pt_and fun _ => pt_and fun _ => pt_bind (subC_pt _ _ _) fun _ => pt_pure _
theorem cutS_pt (v : AV) (l : Nat) (h : Option Nat) : Pt fun κ => cutS v l h κ := by
  cases v <;> cases h <;> first | exact pt_false | exact pt_and fun _ => pt_pure _ | exact pt_and fun _ => pt_and fun _ => pt_pure _
theorem cutA_pt (sz m : Nat) (v : AV) (l : Nat) (h : Option Nat) : Pt fun κ => cutA O sz m v l h κ := by
  cases v <;> cases h <;> first | exact pt_false | exact pt_and fun _ => pt_and fun _ => pt_pure _ | exact pt_and fun _ => pt_and fun _ => pt_and fun _ => pt_pure _ |
    (simp only [cutA]; exact pt_bind (navC_pt _ _) fun q => pt_and fun _ => pt_and fun _ => pt_and fun _ => pt_and fun _ => pt_bind (subC_pt _ _ _) fun _ => pt_pure _)
theorem optC_pt (x : Option Operand) : Pt fun κ => optC T x κ := by
  cases x with
  | none => exact pt_pure _
  | some x => simp only [optC]; exact pt_bind (evC_pt x) fun v => pt_bind (intC_pt v) fun i => pt_and fun _ => pt_pure _
end
end Go.Sy
/- Each of the propositions above speaks of one outcome (the operations). -/
namespace Go.Sy
open Go
set_option linter.unusedSimpArgs false
set_option linter.unusedVariables false
section
variable {P : Program} {T : TT} {O : OO} {n : Nat}
abbrev AON := AV × OO × Nat
theorem ownC_pt (te : Ty) (v : AV) : Pt fun κ : AV × OO → Prop => ownC te O v fun a b => κ (a, b) := by
  cases v <;> first | exact pt_false | exact pt_bind (zerosC_pt 0 te) fun c => pt_pure (c, O) |
    exact pt_and fun _ => pt_and fun _ => pt_and fun _ => pt_bind (objC_pt _) fun ob => pt_bind (rowC_pt ob) fun c => pt_and fun _ => pt_bind (rmO_pt _) fun O' => pt_pure (c, O')
theorem appC_pt (te : Ty) (bts : Nat) (c d : AV) (O : OO) : Pt fun κ : AON → Prop => appC te bts c d n O fun a b c => κ (a, b, c) :=
  pt_and fun _ => pt_and fun _ => pt_bind (catC_pt c d) fun e => pt_pure (_, _, _)
theorem viewC_pt : ∀ (f : Nat) (v : AV), Pt fun κ => viewC O f v κ := by
  intro f
  induction f with
  | zero => intro v; cases v <;> first | exact pt_false | exact pt_pure _
  | succ f ih =>
    have vs : ∀ ps : List AV, Pt fun κ => viewC.views (viewC O f) ps κ := by
      intro ps
      induction ps with
      | nil => exact pt_pure _
      | cons p ps ih2 => exact pt_bind (f := fun κ => viewC O f p κ) (g := fun q κ => viewC.views (viewC O f) ps fun qs => κ (q :: qs)) (ih p) fun q => pt_bind (f := fun κ => viewC.views (viewC O f) ps κ) (g := fun qs κ => κ (q :: qs)) ih2 fun qs => pt_pure _
    intro v
    cases v with
    | agg ps => exact pt_bind (f := fun κ => viewC.views (viewC O f) ps κ) (g := fun qs κ => κ (AV.agg qs)) (vs _) fun qs => pt_pure _
    | arr sz ps => exact pt_bind (f := fun κ => viewC.views (viewC O f) ps κ) (g := fun qs κ => κ (AV.lst sz qs.length qs)) (vs _) fun qs => pt_pure _
    | ref o p =>
      have h5 : ∀ c : AV, Pt fun κ : AV → Prop => viewC O f c fun c' => κ (.pp c' p) := fun c => pt_bind (f := fun κ => viewC O f c κ) (ih c) fun c' => pt_pure _
      exact pt_bind (f := fun κ => objC O o κ) (objC_pt o) fun ob => pt_bind (f := fun κ => varC ob κ) (varC_pt ob) h5
    | osl o p sz lo len =>
      have h4 : ∀ r : AV, Pt fun κ : AV → Prop => viewC O f r fun r' => r'.isRow = true ∧ r'.cnt = len ∧ κ (.sl r') := fun r =>
        pt_bind (f := fun κ => viewC O f r κ) (g := fun r' (κ : AV → Prop) => r'.isRow = true ∧ r'.cnt = len ∧ κ (AV.sl r')) (ih r) fun r' => pt_and fun _ => pt_and fun _ => pt_pure _
      have h3 : ∀ q : AV, Pt fun κ : AV → Prop => sz = q.esz ∧ subC q lo len fun r => viewC O f r fun r' => r'.isRow = true ∧ r'.cnt = len ∧ κ (.sl r') := fun q => pt_and fun _ => pt_bind (f := fun κ => subC q lo len κ) (subC_pt q lo len) h4
      have h2 : ∀ c : AV, Pt fun κ : AV → Prop => navC p c fun q => sz = q.esz ∧ subC q lo len fun r => viewC O f r fun r' => r'.isRow = true ∧ r'.cnt = len ∧ κ (.sl r') := fun c => pt_bind (f := fun κ => navC p c κ) (navC_pt p c) h3
      exact pt_bind (f := fun κ => objC O o κ) (objC_pt o) fun ob => pt_bind (f := fun κ => obC ob κ) (obC_pt ob) h2
    | _ => first | exact pt_false | exact pt_pure _
theorem rowC_pt' (ob : OB) : Pt fun κ => rowC ob κ := by cases ob <;> first | exact pt_pure _ | exact pt_false
theorem truncC_pt (s : AV) : Pt fun κ : OO → Prop => truncC O s κ := by
  cases s with
  | osl o p sz lo len =>
    simp only [truncC]
    exact pt_bind (objC_pt o) fun ob => pt_bind (rowC_pt' ob) fun c => pt_split (fun _ => pt_pure O) fun _ => pt_and fun _ => pt_and fun _ => pt_and fun _ => pt_bind (subC_pt c 0 len) fun c' => pt_pure _
  | _ => exact pt_pure O
theorem appendC_pt (ts : List TypeId) (s x : AV) : Pt fun κ : AON → Prop => appendC P ts s x O n fun a b c => κ (a, b, c) := by
  cases ts with
  | nil => exact pt_false
  | cons st ts =>
    cases ts with
    | nil => exact pt_false
    | cons xt ts =>
      cases ts with
      | cons _ _ => exact pt_false
      | nil =>
        refine pt_bind (f := tyC P st) (tyC_pt st) fun sty => ?_
        cases sty with
        | slice e =>
          refine pt_bind (f := tyC P e) (tyC_pt e) fun te => pt_bind (f := byC P e) (byC_pt e) fun bts => pt_and fun _ => pt_and fun _ => ?_
          have thaw : ∀ (O : OO) (c d : AV) (O' : OO), Pt fun κ : AON → Prop => thawC te O O' s c d fun c d O' => appC te bts c d n O' fun a b c => κ (a, b, c) := fun O c d O' => by
            cases c <;> cases d <;> first | exact appC_pt te bts _ _ O' | skip
            · rename_i sz ps sz' m es
              rintro κ ⟨h1, h2⟩
              cases hn : AV.nids ps with
              | true =>
                obtain ⟨y, g1, g2⟩ := appC_pt (n := n) te bts (.arr sz ps) (.lst sz' m es) O' κ (h1 hn)
                exact ⟨y, g1, fun κ' h' => ⟨fun _ => g2 κ' h', fun h => by rw [hn] at h; cases h⟩⟩
              | false =>
                have pv := pt_bind (f := fun κ => viewC (frzO O (reach O 3 (idsVs ps))) 9 (.arr sz ps) κ) (viewC_pt (O := frzO O (reach O 3 (idsVs ps))) 9 (.arr sz ps)) fun c' => pt_bind2 (f := fun κ => ownC te (dropO O (reach O 3 (idsVs ps))) s κ) (ownC_pt (O := dropO O (reach O 3 (idsVs ps))) te s) fun c2 O2 => pt_and (p := c2 = .arr sz ps) fun _ => appC_pt (n := n) te bts c' (.lst sz' m es) O2
                obtain ⟨y, g1, g2⟩ := pv κ (h2 hn)
                exact ⟨y, g1, fun κ' h' => ⟨(fun h => by rw [hn] at h; cases h), fun _ => g2 κ' h'⟩⟩
            · rename_i sz m es sz' ps
              rintro κ ⟨h1, h2⟩
              cases hn : AV.nids ps with
              | true =>
                obtain ⟨y, g1, g2⟩ := appC_pt (n := n) te bts (.lst sz m es) (.arr sz' ps) O' κ (h1 hn)
                exact ⟨y, g1, fun κ' h' => ⟨fun _ => g2 κ' h', fun h => by rw [hn] at h; cases h⟩⟩
              | false =>
                have pv := pt_bind (f := fun κ => viewC (frzO O (reach O 3 (idsVs ps))) 9 (.arr sz' ps) κ) (viewC_pt (O := frzO O (reach O 3 (idsVs ps))) 9 (.arr sz' ps)) fun d' => pt_bind2 (f := fun κ => ownC te (dropO O (reach O 3 (idsVs ps))) s κ) (ownC_pt (O := dropO O (reach O 3 (idsVs ps))) te s) fun c' O2 => appC_pt (n := n) te bts c' d' O2
                obtain ⟨y, g1, g2⟩ := pv κ (h2 hn)
                exact ⟨y, g1, fun κ' h' => ⟨(fun h => by rw [hn] at h; cases h), fun _ => g2 κ' h'⟩⟩
          have gen : Pt fun κ : AON → Prop => tyC P xt fun xty => (∀ k, xty ≠ .int k) ∧ contC O te x fun d => truncC O s fun O1 => ownC te O1 s fun c O' => thawC te O1 O' s c d fun c d O' => appC te bts c d n O' fun a b c => κ (a, b, c) :=
            pt_bind (f := tyC P xt) (tyC_pt xt) fun xty => pt_and fun _ => pt_bind (contC_pt te x) fun d => pt_bind (truncC_pt s) fun O1 => pt_bind2 (f := fun κ => ownC te O1 s κ) (ownC_pt te s) fun c O' => thaw O1 c d O'
          cases x <;> first | exact gen |
            exact pt_bind (f := tyC P xt) (tyC_pt xt) fun xty => pt_and fun _ => pt_and fun _ => pt_and fun _ => pt_bind (zerosC_pt _ te) fun d => pt_bind (truncC_pt s) fun O1 => pt_bind2 (f := fun κ => ownC te O1 s κ) (ownC_pt te s) fun c O' => appC_pt te bts c d O'
        | _ => exact pt_false
theorem putC_pt (q : AV) (lo : Nat) (d : AV) : Pt fun κ => putC q lo d κ := by cases q <;> cases d <;> first | exact pt_false | exact pt_and fun _ => pt_and fun _ => pt_pure _
theorem copyC_pt (ts : List TypeId) (s x : AV) : Pt fun κ : Nat × OO → Prop => copyC P ts s x O fun a b => κ (a, b) := by
  cases ts with
  | nil => exact pt_false
  | cons st ts =>
    refine pt_bind (f := tyC P st) (tyC_pt st) fun sty => ?_
    cases sty with
    | slice e =>
      refine pt_bind (f := tyC P e) (tyC_pt e) fun te => pt_and fun _ => ?_
      cases s with
      | nils => exact pt_bind (contC_pt te x) fun _ => pt_pure (0, O)
      | osl o p sz lo len =>
        refine pt_and fun _ => pt_bind (contC_pt te x) fun d => ?_
        have put : ∀ (d : AV) (m : Nat), Pt fun κ : Nat × OO → Prop => objC O o fun ob => obC ob fun c => navC p c fun q => putC q lo d fun q' => updO O o p q' fun O' => κ (m, O') := fun d m =>
          pt_bind (objC_pt o) fun ob => pt_bind (obC_pt ob) fun c => pt_bind (navC_pt p c) fun q => pt_bind (putC_pt q lo d) fun q' => pt_bind (updO_pt o p q') fun O' => pt_pure (m, O')
        have sub : Pt fun κ : Nat × OO → Prop => subC d 0 len fun d' => objC O o fun ob => obC ob fun c => navC p c fun q => putC q lo d' fun q' => updO O o p q' fun O' => κ (len, O') :=
          pt_bind (subC_pt d 0 len) fun d' => put d' len
        rintro κ ⟨h1, h2, h3⟩
        by_cases hz : d.cnt = 0 ∨ len = 0
        · exact ⟨_, h1 hz, fun κ' h' => ⟨fun _ => h', fun _ _ => by omega, fun _ _ => by omega⟩⟩
        · by_cases hle : d.cnt ≤ len
          · obtain ⟨y, g1, g2⟩ := put d d.cnt κ (h2 (by omega) (by omega) hle)
            exact ⟨y, g1, fun κ' h' => ⟨fun h => absurd h hz, fun _ _ _ => g2 κ' h', fun _ _ h => absurd hle h⟩⟩
          · obtain ⟨y, g1, g2⟩ := sub κ (h3 (by omega) (by omega) hle)
            exact ⟨y, g1, fun κ' h' => ⟨fun h => absurd h hz, fun _ _ h => absurd h hle, fun _ _ _ => g2 κ' h'⟩⟩
      | _ => exact pt_false
    | _ => exact pt_false
theorem lenK_pt (t : TypeId) (v : AV) : Pt fun κ => lenK P t v κ := by
  refine pt_bind (f := tyC P t) (tyC_pt t) fun ty => ?_
  cases ty <;> first | exact pt_false | exact pt_bind (lenC_pt v) fun _ => pt_pure _ | exact pt_bind (strL_pt v) fun _ => pt_pure _ | exact pt_pure _
theorem bltC_pt (b : Builtin) (ts : List TypeId) (vs : List AV) : Pt fun κ : AON → Prop => bltC P b ts vs O n fun a b c => κ (a, b, c) := fun κ h => by
  replace h : bltC P b ts vs O n (fun a b c => κ (a, b, c)) := h
  have key : ∀ (F : (AON → Prop) → Prop), Pt F → (∀ κ : AON → Prop, bltC P b ts vs O n (fun a b c => κ (a, b, c)) = F κ) → ∃ x, κ x ∧ ∀ κ' : AON → Prop, κ' x → bltC P b ts vs O n (fun a b c => κ' (a, b, c)) := fun F hF e => by
    rw [e] at h
    obtain ⟨x, h1, h2⟩ := hF κ h
    exact ⟨x, h1, fun κ' h' => by rw [e]; exact h2 κ' h'⟩
  unfold bltC at h
  split at h
  · split at h
    · rename_i v _ t
      exact key _ (pt_bind (lenK_pt t v) fun r => pt_pure (r, O, n)) fun _ => rfl
    · exact h.elim
  · rename_i s x
    exact key _ (appendC_pt ts s x) fun _ => rfl
  · rename_i s x
    exact key _ (pt_bind2 (f := fun κ => copyC P ts s x O κ) (copyC_pt ts s x) fun m O' => pt_pure (.int .i64 m, O', n)) fun _ => rfl
  · exact key _ (pt_and fun _ => pt_pure (_, O, n)) fun _ => rfl
  · exact key _ (pt_and fun _ => pt_pure (_, O, n)) fun _ => rfl
  · exact h.elim
theorem convC_pt (q t : TypeId) (v : AV) : Pt fun κ : AON → Prop => convC P q t v O n fun a b c => κ (a, b, c) := by
  refine pt_bind (f := tyC P q) (tyC_pt q) fun sty => pt_bind (f := tyC P t) (tyC_pt t) fun d => ?_
  cases d <;> cases v <;> first | exact pt_false | exact pt_pure (_, O, n) | exact pt_and fun _ => pt_bind (f := tyC P _) (tyC_pt _) fun te => pt_and fun _ => pt_pure (_, _, _) | skip
  all_goals first | exact pt_and fun _ => pt_and fun _ => pt_and fun _ => pt_bind (f := tyC P _) (tyC_pt _) fun te => pt_and fun _ => pt_bind (objC_pt _) fun ob => pt_bind (rowC_pt ob) fun _ => pt_pure (_, O, n) | skip
  all_goals
    cases sty <;> first | exact pt_false | exact pt_bind (f := tyC P _) (tyC_pt _) fun te => pt_and fun _ => pt_bind (contC_pt te _) fun c => pt_bind (bytesOf_pt c) fun s => pt_pure (_, O, n)
theorem fldA_pt (f : Nat) (ts : List Ty) (v : AV) : Pt fun κ => fldA f ts v κ := by
  cases v <;> first | exact pt_false | exact pt_bind2 (f := fun κ => nthTC ts f 0 κ) (nthTC_pt ts f 0) fun _ _ => pt_pure _
theorem idxA_pt (ty : Ty) (v : AV) (i : Int) : Pt fun κ => idxA ty (fun e κ => tyC P e fun te => κ te.size) v i κ := by
  have hs : ∀ e, Pt fun κ => tyC P e fun te => κ te.size := fun e => pt_bind (f := tyC P e) (tyC_pt e) fun te => pt_pure _
  cases ty <;> cases v <;> first | exact pt_false | exact pt_and fun _ => pt_and fun _ => pt_pure _ |
    exact pt_and fun _ => pt_and fun _ => pt_bind (f := fun κ => tyC P _ fun te => κ te.size) (hs _) fun z => pt_and fun _ => pt_pure _
theorem idxV_pt (te : Ty) (m : Nat) (v : AV) (i : Int) : Pt fun κ => idxV te m v i κ := by
  cases v <;> first | exact pt_false | exact pt_and fun _ => pt_and fun _ => pt_and fun _ => pt_and fun _ => pt_and fun _ => pt_pure _ |
    exact pt_and fun _ => pt_and fun _ => pt_and fun _ => pt_and fun _ => pt_all fun q => fitC_pt te q (pt_pure q) | skip
  rename_i sz ps
  have h : Pt fun κ => (ps.length = m ∧ 0 ≤ i ∧ i < m ∧ sz = te.size) ∧ (i.toNat < ps.length ∧ ∀ q, ps[i.toNat]? = some q → fitC te q (κ q)) := pt_and fun _ => pt_all fun q => fitC_pt te q (pt_pure q)
  intro κ hk
  obtain ⟨y, h1, h2⟩ := h κ ⟨⟨hk.1, hk.2.1, hk.2.2.1, hk.2.2.2.1⟩, by have := hk.1; have := hk.2.1; have := hk.2.2.1; omega, hk.2.2.2.2⟩
  exact ⟨y, h1, fun κ' h' => by obtain ⟨⟨g1, g2, g3, g4⟩, _, g5⟩ := h2 κ' h'; exact ⟨g1, g2, g3, g4, g5⟩⟩
theorem s2aC_pt (m : Nat) (te : Ty) (v : AV) : Pt fun κ => s2aC m te v κ := by
  cases v <;> first | exact pt_false | exact pt_and fun _ => pt_and fun _ => pt_and fun _ => pt_bind (subC_pt _ _ _) fun q => pt_pure _ | exact pt_and fun _ => pt_and fun _ => pt_and fun _ => pt_and fun _ => pt_pure _
theorem CallP_pt (f : FuncId) (args : List AV) : Pt fun κ : AON → Prop => CallP P f args O n fun a b c => κ (a, b, c) := by
  rintro κ ⟨ks, bor, σ, τ, A, O1, O2, r, O', n', h1, h2, h3, h4, h5, h6, h7, h8, h9, h10, h11, h12, h13, h⟩
  have : Pt fun κ : AON → Prop => renC τ r fun r' => renOO τ O' fun L => κ (r', L ++ O2, n') := pt_bind (renC_pt τ r) fun r' => pt_bind (renOO_pt τ O') fun L => pt_pure (r', L ++ O2, n')
  obtain ⟨x, g1, g2⟩ := this κ h
  exact ⟨x, g1, fun κ' h' => ⟨ks, bor, σ, τ, A, O1, O2, r, O', n', h1, h2, h3, h4, h5, h6, h7, h8, h9, h10, h11, h12, h13, g2 κ' h'⟩⟩
theorem mpC_pt (ob : OB) : Pt fun κ => mpC ob κ := by cases ob <;> first | exact pt_pure _ | exact pt_false
theorem mapKC_pt (ty : Ty) (u : AV) : Pt fun κ => mapKC P ty u κ := by
  cases ty <;> cases u <;> first | exact pt_false | skip
  refine pt_bind (f := tyC P _) (tyC_pt _) fun tk => pt_bind (f := tyC P _) (tyC_pt _) fun te => ?_
  cases tk <;> first | exact pt_false | skip
  rename_i tk'
  cases tk' <;> first | exact pt_false | exact pt_and fun _ => pt_and fun _ => pt_and fun _ => pt_and fun _ => pt_and fun _ => pt_pure _
theorem setM_pt (o : Nat) (d : List Int) : Pt fun κ => setM O o d κ := by
  induction O with
  | nil => exact pt_false
  | cons q O ih =>
    obtain ⟨i, ob⟩ := q
    exact pt_ite (fun _ => pt_bind (mpC_pt ob) fun _ => pt_and fun _ => pt_pure _) fun _ => pt_bind ih fun _ => pt_pure _
theorem mapQ_pt {α : Type} {A : List Int → (α → Prop) → Prop} {B : MK → Ty → (α → Prop) → Prop} (ty : Ty) (u : AV) (hA : ∀ d, Pt fun κ => A d κ) (hB : ∀ k te, Pt fun κ => B k te κ) : Pt fun κ : α → Prop => mapQ P ty u (fun d => A d κ) (fun k te => B k te κ) := by
  cases u with
  | str t =>
    cases ty with
    | map kt et => exact pt_bind (f := tyC P kt) (tyC_pt kt) fun tk => pt_bind (f := tyC P et) (tyC_pt et) fun te => pt_and fun _ => hB _ _
    | _ => exact pt_false
  | int k n =>
    cases ty with
    | map kt et => exact pt_bind (f := tyC P kt) (tyC_pt kt) fun tk => pt_bind (f := tyC P et) (tyC_pt et) fun te => pt_and fun _ => pt_and fun _ => hB _ _
    | _ => exact pt_false
  | _ => exact pt_bind (mapKC_pt ty _) fun d => hA d
theorem gmC_pt {α : Type} {B : List MK → List AV → (α → Prop) → Prop} (k : MK) (ob : OB) (hB : ∀ ks vs, Pt fun κ => B ks vs κ) : Pt fun κ : α → Prop => gmC k ob fun ks vs => B ks vs κ := by
  cases ob with
  | gm f ks vs => exact pt_and fun _ => hB ks vs
  | map ds => exact pt_and fun _ => hB [] []
  | _ => exact pt_false
theorem fndC_pt {α : Type} {B : AV → Bool → (α → Prop) → Prop} (x : Option AV) (z : AV) (hB : ∀ r h, Pt fun κ => B r h κ) : Pt fun κ : α → Prop => fndC x z fun r h => B r h κ := by
  cases x with
  | none => exact hB z false
  | some v => exact hB v true
theorem setG_pt (o : Nat) (k : MK) (z : AV) : Pt fun κ => setG O o k z κ := by
  induction O with
  | nil => exact pt_false
  | cons q O ih =>
    obtain ⟨i, ob⟩ := q
    exact pt_ite (fun _ => gmC_pt k ob fun ks vs => pt_pure _) fun _ => pt_bind ih fun _ => pt_pure _
theorem vcOp_pt (op : Op) : Pt fun κ : AON → Prop => vcOp P op T O n fun a b c => κ (a, b, c) := by
  cases op with
  | move x => exact pt_bind (evC_pt x) fun v => pt_pure (v, O, n)
  | assign x => exact pt_bind (evC_pt x) fun v => pt_pure (v, O, n)
  | pick c x y =>
    refine pt_bind (evC_pt c) fun v => pt_bind (boolC_pt v) fun b => pt_bind (iteC_pt b) fun t => ?_
    cases t
    · exact pt_bind (evC_pt y) fun v => pt_pure (v, O, n)
    · exact pt_bind (evC_pt x) fun v => pt_pure (v, O, n)
  | alloc t => exact pt_bind (f := tyC P t) (tyC_pt t) fun ty => pt_pure (_, _, _)
  | box t x => exact pt_bind (evC_pt x) fun v => pt_and fun _ => pt_pure (_, _, _)
  | build t ps =>
    refine pt_bind (f := tyC P t) (tyC_pt t) fun ty => pt_bind (partsC_pt ps.toList) fun l => ?_
    cases ty <;> first | exact pt_false | exact pt_bind (bldS_pt l _) fun qs => pt_pure (_, O, n) | exact pt_bind (elemsC_pt _ _ l) fun v => pt_pure (v, O, n)
  | buildSlice t m ps =>
    refine pt_bind (f := tyC P t) (tyC_pt t) fun ty => pt_bind (partsC_pt ps.toList) fun l => ?_
    cases ty <;> first | exact pt_false | exact pt_bind (f := tyC P _) (tyC_pt _) fun te => pt_and fun _ => pt_and fun _ => pt_bind (elemsC_pt _ _ l) fun c => pt_pure (_, _, _)
  | load t x => exact pt_bind (f := tyC P t) (tyC_pt t) fun ty => pt_bind (evC_pt x) fun v => pt_bind (loadC_pt v) fun q => fitC_pt ty q (pt_pure (q, O, n))
  | store t x y =>
    refine pt_bind (f := tyC P t) (tyC_pt t) fun ty => pt_bind (evC_pt x) fun v => pt_bind (evC_pt y) fun u => pt_and fun _ => pt_and fun _ => pt_and fun _ => ?_
    cases v <;> first | exact pt_false | exact pt_bind (updO_pt _ _ u) fun O' => pt_pure (AV.junk, O', n)
  | nilCheck x =>
    refine pt_bind (evC_pt x) fun v => ?_
    cases v <;> first | exact pt_false | exact pt_pure (_, O, n) | skip
    rename_i f ps
    cases f <;> first | exact pt_false | exact pt_pure (_, O, n)
  | binOp op t x y t' => exact pt_bind (evC_pt x) fun v => pt_bind (evC_pt y) fun u => pt_bind (binC_pt op t v u) fun r => pt_pure (r, O, n)
  | unOp op t x => exact pt_bind (evC_pt x) fun v => pt_bind (unC_pt op v) fun r => pt_pure (r, O, n)
  | convert q t x => exact pt_bind (evC_pt x) fun v => convC_pt q t v
  | makeFunc f fs cs => exact pt_and fun _ => pt_bind (evsC_pt _) fun vs => pt_pure (_, O, n)
  | makeSlice t x y =>
    refine pt_bind (f := tyC P t) (tyC_pt t) fun ty => pt_bind (evC_pt x) fun u => pt_bind (evC_pt y) fun v => pt_bind (intC_pt u) fun i => pt_bind (intC_pt v) fun j => ?_
    cases ty <;> first | exact pt_false | exact pt_bind (f := tyC P _) (tyC_pt _) fun te => pt_bind (f := byC P _) (byC_pt _) fun bts => pt_and fun _ => pt_and fun _ => pt_and fun _ => pt_and fun _ => pt_and fun _ => pt_bind (zerosC_pt _ te) fun q => pt_pure (_, _, _)
  | slice t x lo hi mx =>
    cases mx with
    | some _ => exact pt_false
    | none =>
      refine pt_bind (f := tyC P t) (tyC_pt t) fun ty => pt_bind (evC_pt x) fun v => pt_bind (optC_pt lo) fun l => pt_bind (optC_pt hi) fun h => ?_
      cases ty with
      | arr m e te => exact pt_bind (cutA_pt te.size m v _ _) fun r => pt_pure (r, O, n)
      | slice e => exact pt_bind (f := tyC P e) (tyC_pt e) fun te => pt_and fun _ => pt_and fun _ => pt_bind (cutC_pt v _ _) fun r => pt_pure (r, O, n)
      | str => exact pt_bind (cutS_pt v _ _) fun r => pt_pure (r, O, n)
      | ptr q =>
        refine pt_bind (f := tyC P q) (tyC_pt q) fun at' => ?_
        cases at' <;> first | exact pt_false | exact pt_bind (cutA_pt _ _ v _ _) fun r => pt_pure (r, O, n)
      | _ => exact pt_false
  | sliceToArrayPointer t x =>
    refine pt_bind (f := tyC P t) (tyC_pt t) fun ty => pt_bind (evC_pt x) fun v => ?_
    cases ty <;> first | exact pt_false | exact pt_bind (s2aC_pt _ _ v) fun r => pt_pure (r, O, n)
  | fieldAddr s x f =>
    refine pt_bind (f := tyC P s) (tyC_pt s) fun ty => pt_bind (evC_pt x) fun v => ?_
    cases ty <;> first | exact pt_false | exact pt_bind (fldA_pt f _ v) fun r => pt_pure (r, O, n)
  | field s x f =>
    refine pt_bind (f := tyC P s) (tyC_pt s) fun ty => pt_bind (evC_pt x) fun v => ?_
    cases ty <;> cases v <;> first | exact pt_false | exact pt_bind2 (f := fun κ => nthTC _ f 0 κ) (nthTC_pt _ f 0) fun te off => pt_bind (fldC_pt _ f off) fun q => fitC_pt te q (pt_pure (q, O, n))
  | indexAddr t x i => exact pt_bind (f := tyC P t) (tyC_pt t) fun ty => pt_bind (evC_pt x) fun v => pt_bind (evC_pt i) fun u => pt_bind (intC_pt u) fun j => pt_bind (idxA_pt ty v j) fun r => pt_pure (r, O, n)
  | index t x i =>
    refine pt_bind (f := tyC P t) (tyC_pt t) fun ty => pt_bind (evC_pt x) fun v => pt_bind (evC_pt i) fun u => pt_bind (intC_pt u) fun j => ?_
    cases ty with
    | arr m e te => exact pt_bind (idxV_pt te m v j) fun r => pt_pure (r, O, n)
    | str => cases v <;> first | exact pt_false | exact pt_and fun _ => pt_and fun _ => pt_pure (_, O, n)
    | _ => exact pt_false
  | extract x i =>
    refine pt_bind (evC_pt x) fun v => ?_
    cases v <;> first | exact pt_false | exact pt_bind (nthC_pt _ i) fun r => pt_pure (r, O, n)
  | call c =>
    obtain ⟨callee, args, ats⟩ := c
    cases callee with
    | value f =>
      refine pt_bind (evC_pt f) fun fv => pt_bind (evsC_pt _) fun vs => ?_
      cases fv <;> first | exact pt_false | skip
      rename_i g ps
      cases g <;> first | exact pt_false | exact CallP_pt _ _
    | builtin b => exact pt_bind (evsC_pt _) fun vs => bltC_pt b _ vs
    | invoke x m => exact pt_false
  | makeMap t r => cases r <;> first | exact pt_false | exact pt_pure (_, _, _)
  | lookup t x i ok =>
    refine pt_bind (f := tyC P t) (tyC_pt t) fun ty => pt_bind (evC_pt x) fun v => pt_bind (evC_pt i) fun u => mapQ_pt ty u (fun d => pt_and fun _ => ?_) fun k te => ?_
    · cases v <;> first | exact pt_false | exact pt_bind (objC_pt _) fun ob => pt_bind (mpC_pt ob) fun ds => pt_pure (_, O, n)
    · cases v <;> first | exact pt_false | exact pt_bind (objC_pt _) fun ob => gmC_pt k ob fun ks vs => fndC_pt _ _ fun r h => pt_ite (fun _ => pt_pure (_, O, n)) (fun _ => pt_pure (_, O, n))
  | mapUpdate t m k x =>
    refine pt_bind (f := tyC P t) (tyC_pt t) fun ty => pt_bind (evC_pt m) fun v => pt_bind (evC_pt k) fun u => pt_bind (evC_pt x) fun z => mapQ_pt ty u (fun d => pt_and fun _ => ?_) fun k te => ?_
    · cases v <;> first | exact pt_false | exact pt_bind (setM_pt _ d) fun O' => pt_pure (AV.junk, O', n)
    · cases v <;> first | exact pt_false | exact pt_bind (setG_pt _ k z) fun O' => pt_pure (AV.junk, O', n)
  | _ => exact pt_false
end
end Go.Sy
/- Regions in the text's order. -/
namespace Go.Sy
open Go
set_option linter.unusedSimpArgs false
set_option linter.unusedVariables false
/-- The guard's temporary and its test: `A` where it is as wanted, `B` where it is not, or nothing was yielded. -/
def gdC (all : List Oper) (j : Nat) (want : Bool) (T : TT) (A B : TT → Prop) : Prop :=
  match (all[j]?).bind (·.dst) with
  | none => False
  | some g => lkC T g fun v => match v with
    | .bool b => (b = want → A ((g, .bool want) :: T)) ∧ (b = !want → B ((g, .bool (!want)) :: T))
    | .tup [] => B T
    | _ => False
def vcOps (P : Program) (all : List Oper) : List Oper → CK → CK
  | [], K, T, O, n => K T O n
  | o :: rest, K, T, O, n =>
    match o.guard with
    | none => vcOp P o.op T O n fun v O' n' => vcOps P all rest K (putT o.dst v T) O' n'
    | some (j, want) => gdC all j want T (fun T => vcOp P o.op T O n fun v O' n' => vcOps P all rest K (putT o.dst v T) O' n') (fun T => vcOps P all rest K (putT o.dst (.tup []) T) O n)
section
variable {E : Env} {N : Nat} {M M' M1 : Pool} {β β' β1 : Bmap} {T : TT} {O O' O1 O2 J : OO} {n : Nat} {a : Act} {w w' : World} {P : Program} {o : Oper}

theorem RelAt.know (hr : RelAt E N M β T O n a w) {g : Nat} {b : Bool} (hg : a.tmps[g]? = some (.bool b)) : RelAt E N M β ((g, .bool b) :: T) O n a w :=
  ⟨hr.st, hr.ids, fun t v hl => by
    simp only [lk] at hl
    split at hl
    · rename_i e; subst e; cases hl; exact ⟨_, hg, .one rfl (.bool b)⟩
    · exact hr.tmps t v hl, hr.nd, hr.sz, hr.base, hr.le0⟩
theorem gdC_spec (hr : RelAt E N M β T O n a w) {ops : Array Oper} {j : Nat} {want : Bool} {A B : TT → Prop} (h : gdC ops.toList j want T A B) :
    ∃ T', RelAt E N M β T' O n a w ∧ ((A T' ∧ yielded ops a.tmps j = some want) ∨ (B T' ∧ (yielded ops a.tmps j == some want) = false)) := by
  unfold gdC at h
  split at h
  · exact h.elim
  · rename_i g hg
    obtain ⟨v, hl, h⟩ := lkC_spec h
    obtain ⟨x, hx, hv⟩ := hr.tmps g _ hl
    have e : (ops[j]?).bind (·.dst) = some g := by simpa using hg
    split at h
    · rename_i b
      have := hv.bool_inv
      subst this
      have hy : yielded ops a.tmps j = some b := by
        unfold yielded
        rw [e]
        simp [hx]
      by_cases eb : b = want
      · subst eb
        exact ⟨_, hr.know hx, .inl ⟨h.1 rfl, hy⟩⟩
      · have e2 : b = !want := by cases b <;> cases want <;> simp_all
        exact ⟨_, hr.know (by rw [← e2]; exact hx), .inr ⟨h.2 e2, by rw [hy]; simpa using eb⟩⟩
    · have : x = .tuple #[] := by
        cases hv with
        | tup h => cases h; rfl
        | one hm h => cases h
        | agg hm h => cases h
      subst this
      refine ⟨T, hr, .inr ⟨h, ?_⟩⟩
      unfold yielded
      rw [e]
      simp [hx]
    · exact h.elim
theorem wanted_of {ops : Array Oper} {j : Nat} {want b : Bool} (hg : o.guard = some (j, want)) (hy : yielded ops a.tmps j = some b) : Region.wanted o (yielded ops a.tmps) = (b == want) := by
  unfold Region.wanted
  rw [hg]
  simp only [hy]
  cases b <;> cases want <;> rfl
theorem vcOps_sound (hE : ∀ o, E.ok o) {ops : Array Oper} {Q : Exit → Act → World → Prop} {K : CK} (hd : ∀ o ∈ ops.toList, ∀ t, o.dst = some t → t < N) (h : vcOps P ops.toList ops.toList K T O n) (hr : Rel E N T O n a w)
    (hK : ∀ T O n a w, K T O n → Rel E N T O n a w → Q .normal a w) : wpOps P ops Q (List.range ops.size) a w := by
  have key : ∀ (rest : List Oper) (i : Nat) (T : TT) (O : OO) (n : Nat) (a : Act) (w : World), ops.toList.drop i = rest → vcOps P ops.toList rest K T O n → Rel E N T O n a w → wpOps P ops Q (List.range' i rest.length) a w := by
    intro rest
    induction rest with
    | nil => intro i T O n a w _ h hr; exact hK _ _ _ _ _ h hr
    | cons o rest ih =>
      intro i T O n a w hi h hr
      have hio : ops[i]? = some o := by
        have : (ops.toList.drop i)[0]? = some o := by rw [hi]; rfl
        simpa using this
      have hmem : o ∈ ops.toList := List.mem_of_mem_drop (by rw [hi]; simp)
      have hi' : ops.toList.drop (i + 1) = rest := by
        have := congrArg List.tail hi
        simpa using this
      simp only [List.length_cons, List.range'_succ, wpOps, hio]
      obtain ⟨M, β, hr⟩ := hr
      simp only [vcOps] at h
      split at h
      · rename_i hg
        have : Region.wanted o (yielded ops a.tmps) = true := by unfold Region.wanted; rw [hg]
        rw [if_pos this]
        refine .inl (vcOp_sound (fun _ _ _ _ o _ _ => hE o) rfl h hr _ _ fun v O' n' x w' M' β' hk hr' hv => ih _ _ _ _ _ _ hi' hk ⟨M', β', hr'.value (hd o hmem) hv⟩)
      · rename_i j want hg
        obtain ⟨T', hr, ⟨h1, hy⟩ | ⟨h2, hy⟩⟩ := gdC_spec hr h
        · have : Region.wanted o (yielded ops a.tmps) = true := by unfold Region.wanted; rw [hg]; simp [hy]
          rw [if_pos this]
          exact .inl (vcOp_sound (fun _ _ _ _ o _ _ => hE o) rfl h1 hr _ _ fun v O' n' x w' M' β' hk hr' hv => ih _ _ _ _ _ _ hi' hk ⟨M', β', hr'.value (hd o hmem) hv⟩)
        · have : Region.wanted o (yielded ops a.tmps) = false := by unfold Region.wanted; rw [hg]; simpa using hy
          rw [this, if_neg (by simp)]
          exact ih _ _ _ _ _ _ hi' h2 ⟨M, β, hr.value (hd o hmem) (.tup .nil)⟩
  have := key ops.toList 0 T O n a w rfl h hr
  rwa [Array.length_toList, ← List.range_eq_range'] at this
end
end Go.Sy
/- An operation looks at its operands alone; the frame of an operation. -/
namespace Go.Sy
open Go
set_option linter.unusedSimpArgs false
set_option linter.unusedVariables false
section
variable {E : Env} {N : Nat} {M M' M1 : Pool} {β β' β1 β2 : Bmap} {T T' : TT} {O O' O1 O2 J V V' : OO} {n : Nat} {a : Act} {w w' : World} {P : Program} {o : Oper}

theorem lkC_eq (T : TT) (t : Nat) (K : AV → Prop) : lkC T t K = match lk T t with | some v => K v | none => False := by
  induction T with
  | nil => rfl
  | cons p T ih =>
    obtain ⟨i, v⟩ := p
    simp only [lkC, lk]
    split
    · rfl
    · exact ih
theorem evC_congr {x : Operand} (h : ∀ t, x = .tmp t → lk T' t = lk T t) : evC T' x = evC T x := by
  funext K
  cases x with
  | tmp t => simp only [evC, lkC_eq, h t rfl]
  | _ => rfl
theorem evsC_congr {xs : List Operand} (h : ∀ x ∈ xs, evC T' x = evC T x) : evsC T' xs = evsC T xs := by
  induction xs with
  | nil => rfl
  | cons x xs ih =>
    funext K
    simp only [evsC, h x (by simp), ih fun y hy => h y (by simp [hy])]
theorem partsC_congr {ps : List (Nat × Operand)} (h : ∀ x ∈ ps.map (·.2), evC T' x = evC T x) : partsC T' ps = partsC T ps := by
  induction ps with
  | nil => rfl
  | cons p ps ih =>
    obtain ⟨j, x⟩ := p
    funext K
    simp only [partsC, h x (by simp), ih fun y hy => h y (by simp only [List.map_cons, List.mem_cons]; exact .inr hy)]
theorem optC_congr {x : Option Operand} (h : ∀ y, x = some y → evC T' y = evC T y) : optC T' x = optC T x := by
  funext K
  cases x with
  | none => rfl
  | some x => simp only [optC, h x rfl]
theorem vcOp_congr {op : Op} {κ : KK} (h : ∀ x ∈ op.operands.toList, evC T' x = evC T x) : vcOp P op T' O n κ = vcOp P op T O n κ := by
  cases op with
  | build t ps => simp only [vcOp, partsC_congr (T' := T') (T := T) (ps := ps.toList) (fun x hx => h x (by simpa [Op.operands] using hx))]
  | buildSlice t m ps => simp only [vcOp, partsC_congr (T' := T') (T := T) (ps := ps.toList) (fun x hx => h x (by simpa [Op.operands] using hx))]
  | makeFunc f fs cs => simp only [vcOp, evsC_congr (T' := T') (T := T) (xs := cs.toList) (fun x hx => h x (by simp [Op.operands] at hx ⊢; exact .inr hx))]
  | slice t x lo hi mx =>
    cases mx with
    | some _ => rfl
    | none =>
      simp only [vcOp, h x (by simp [Op.operands]), optC_congr (T' := T') (T := T) (x := lo) (fun y hy => h y (by simp [Op.operands, hy])), optC_congr (T' := T') (T := T) (x := hi) (fun y hy => h y (by simp [Op.operands, hy]))]
  | call c =>
    obtain ⟨callee, args, ats⟩ := c
    have ha := evsC_congr (T' := T') (T := T) (xs := args.toList) (fun x hx => h x (by simp [Op.operands, Call.operands] at hx ⊢; exact .inr hx))
    cases callee with
    | value f => simp only [vcOp, h f (by simp [Op.operands, Call.operands]), ha]
    | builtin b => simp only [vcOp, ha]
    | invoke x m => rfl
  | move x => simp only [vcOp, h x (by simp [Op.operands])]
  | assign x => simp only [vcOp, h x (by simp [Op.operands])]
  | pick c x y => simp only [vcOp, h c (by simp [Op.operands]), h x (by simp [Op.operands]), h y (by simp [Op.operands])]
  | alloc t => rfl
  | box t x => simp only [vcOp, h x (by simp [Op.operands])]
  | load t x => simp only [vcOp, h x (by simp [Op.operands])]
  | store t x y => simp only [vcOp, h x (by simp [Op.operands]), h y (by simp [Op.operands])]
  | nilCheck x => simp only [vcOp, h x (by simp [Op.operands])]
  | binOp op t x y t' => simp only [vcOp, h x (by simp [Op.operands]), h y (by simp [Op.operands])]
  | unOp op t x => simp only [vcOp, h x (by simp [Op.operands])]
  | convert q t x => simp only [vcOp, h x (by simp [Op.operands])]
  | makeSlice t x y => simp only [vcOp, h x (by simp [Op.operands]), h y (by simp [Op.operands])]
  | sliceToArrayPointer t x => simp only [vcOp, h x (by simp [Op.operands])]
  | fieldAddr s x f => simp only [vcOp, h x (by simp [Op.operands])]
  | field s x f => simp only [vcOp, h x (by simp [Op.operands])]
  | indexAddr t x i => simp only [vcOp, h x (by simp [Op.operands]), h i (by simp [Op.operands])]
  | index t x i => simp only [vcOp, h x (by simp [Op.operands]), h i (by simp [Op.operands])]
  | extract x i => simp only [vcOp, h x (by simp [Op.operands])]
  | makeMap t r => cases r <;> rfl
  | lookup t x i ok => simp only [vcOp, h x (by simp [Op.operands]), h i (by simp [Op.operands])]
  | mapUpdate t m k x => simp only [vcOp, h m (by simp [Op.operands]), h k (by simp [Op.operands]), h x (by simp [Op.operands])]
  | _ => rfl

/-- A part of the objects, looked at alone. -/
theorem St.view (h : St E M β O w) (hV : ∀ o ob, lk V o = some ob → lk O o = some ob) (B0 : Bmap) (n0 : Nat) (ok : Nat → Prop) : St ⟨w, ownOf V β, M, B0, n0, ok⟩ M β V w :=
  ⟨h.pool, fun _ _ _ h => h, fun _ _ _ h => .inl h, fun o ob hl => h.objs _ _ (hV _ _ hl), fun o ob b κ hl hb hk => ⟨(h.mine _ _ _ _ (hV _ _ hl) hb hk).1, .inl ⟨o, ob, κ, hl, hb, hk⟩⟩,
    fun o o' ob ob' b κ κ' hl hl' => h.inj _ _ _ _ _ _ _ (hV _ _ hl) (hV _ _ hl'), Nat.le_refl _, fun _ _ _ => rfl, rfl, rfl, rfl⟩
/-- What was done to a part was done to the whole. -/
theorem St.frame (h : St E M β O w) (hV : ∀ o ob, lk V o = some ob → lk O o = some ob) {B0 : Bmap} {n0 : Nat} {ok : Nat → Prop} (h' : St ⟨w, ownOf V β, M, B0, n0, ok⟩ M' β' V' w') (hb : BLe β β')
    {O2 : OO} (hO2 : ∀ o ob, lk O2 o = some ob → lk V' o = some ob ∨ (lk O o = some ob ∧ lk V o = none)) : St E M' β' O2 w' := by
  have hMM : PLe M M' := h'.sub
  have mineO : ∀ b, ownOf V β b → (∀ i, M b i = none) ∧ (E.own b ∨ E.w0.heap.size ≤ b) := fun b ⟨o, ob, κ, h1, h2, h3⟩ => h.mine _ _ _ _ (hV _ _ h1) h2 h3
  have far : ∀ o ob b κ, lk O o = some ob → lk V o = none → β o = some (b, κ) → κ ≠ 0 → b < w.heap.size ∧ ¬ ownOf V β b := fun o ob b κ h1 h2 h3 h4 => by
    refine ⟨?_, ?_⟩
    · obtain ⟨b', κ', g1, g2⟩ := h.objs _ _ h1
      rw [h3] at g1; cases g1
      exact g2.lt h4
    · rintro ⟨o', ob', κ', g1, g2, g3⟩
      have := h.inj _ _ _ _ _ _ _ h1 (hV _ _ g1) h3 g2 h4 g3
      subst this
      rw [h2] at g1; cases g1
  have back : ∀ o ob b κ, lk O o = some ob → β' o = some (b, κ) → β o = some (b, κ) := fun o ob b κ h1 h2 => by
    obtain ⟨b', κ', g1, _⟩ := h.objs _ _ h1
    have := hb _ _ g1
    rw [h2] at this; cases this
    exact g1
  have cross : ∀ o ob o' ob' b κ κ', lk V' o = some ob → β' o = some (b, κ) → κ ≠ 0 → lk O o' = some ob' → lk V o' = none → β' o' = some (b, κ') → κ' ≠ 0 → False := fun o ob o' ob' b κ κ' h1 h2 h3 h4 h5 h6 h7 => by
    obtain ⟨g1, g2⟩ := far _ _ _ _ h4 h5 (back _ _ _ _ h4 h6) h7
    rcases (h'.mine _ _ _ _ h1 h2 h3).2 with g | g
    · exact g2 g
    · have g : w.heap.size ≤ b := g
      omega
  refine ⟨h'.pool, fun b i v hm => hMM _ _ _ (h.sub _ _ _ hm), fun b i v hm => ?_, fun o ob hl => ?_, fun o ob b κ hl hbo hk => ?_, fun o o' ob ob' b κ κ' hl hl' hbo hbo' hk hk' => ?_,
    Nat.le_trans h.size h'.size, fun b hb' hn => ?_, by rw [h'.os]; exact h.os, by rw [h'.tape]; exact h.tape, by rw [h'.output]; exact h.output⟩
  · rcases h'.only _ _ _ hm with g | g | g
    · exact h.only _ _ _ g
    · exact .inr (mineO b g).2
    · exact .inr (.inr (Nat.le_trans h.size g))
  · rcases hO2 _ _ hl with g | ⟨g1, g2⟩
    · exact h'.objs _ _ g
    · obtain ⟨b, κ, g3, g4⟩ := h.objs _ _ g1
      refine ⟨b, κ, hb _ _ g3, g4.mono2 hMM hb fun hk => ?_⟩
      obtain ⟨g5, g6⟩ := far _ _ _ _ g1 g2 g3 hk
      exact h'.keep b g5 g6
  · rcases hO2 _ _ hl with g | ⟨g1, g2⟩
    · obtain ⟨g3, g4⟩ := h'.mine _ _ _ _ g hbo hk
      refine ⟨g3, ?_⟩
      rcases g4 with g4 | g4
      · exact (mineO b g4).2
      · exact .inr (Nat.le_trans h.size g4)
    · have hbo := back _ _ _ _ g1 hbo
      obtain ⟨g3, g4⟩ := h.mine _ _ _ _ g1 hbo hk
      refine ⟨fun i => ?_, g4⟩
      cases hm : M' b i with
      | none => rfl
      | some v =>
        exfalso
        obtain ⟨g5, g6⟩ := far _ _ _ _ g1 g2 hbo hk
        rcases h'.only _ _ _ hm with g | g | g
        · have g : M b i = some v := g
          rw [g3] at g; cases g
        · exact g6 g
        · have g : w.heap.size ≤ b := g
          omega
  · rcases hO2 _ _ hl with g | ⟨g1, g2⟩
    · rcases hO2 _ _ hl' with g' | ⟨g1', g2'⟩
      · exact h'.inj _ _ _ _ _ _ _ g g' hbo hbo' hk hk'
      · exact (cross _ _ _ _ _ _ _ g hbo hk g1' g2' hbo' hk').elim
    · rcases hO2 _ _ hl' with g' | ⟨g1', g2'⟩
      · exact (cross _ _ _ _ _ _ _ g' hbo' hk' g1 g2 hbo hk).elim
      · exact h.inj _ _ _ _ _ _ _ g1 g1' (back _ _ _ _ g1 hbo) (back _ _ _ _ g1' hbo') hk hk'
  · rw [← h.keep b hb' hn]
    refine h'.keep b (Nat.lt_of_lt_of_le hb' h.size) fun hown => ?_
    rcases (mineO b hown).2 with g | g
    · exact hn g
    · omega
theorem lk_filter {α : Type} {O : List (Nat × α)} {q : Nat → Bool} {o : Nat} : lk (O.filter fun p => q p.1) o = if q o = true then lk O o else none := by
  induction O with
  | nil => simp [lk]
  | cons p O ih =>
    obtain ⟨i, v⟩ := p
    by_cases hq : q i = true
    · by_cases e : i = o
      · subst e; simp [List.filter_cons, lk, hq]
      · simp [List.filter_cons, lk, hq, e, ih]
    · by_cases e : i = o
      · subst e; simp [List.filter_cons, hq, ih]
      · simp [List.filter_cons, lk, hq, e, ih]
end
end Go.Sy
/- Regions whose order is open: what is asked, in one order. -/
namespace Go.Sy
open Go
set_option linter.unusedSimpArgs false
set_option linter.unusedVariables false

/-- The order in which the operations are gone through; of each: which ones that lie ahead of it it does not wait for; if it turns memory, the temporaries by which it finds it. -/
abbrev Plan := List (Nat × List Nat × Option (List Nat))
def hidX : List (Nat × List Nat) → List Nat → List Nat
  | [], _ => []
  | (p, W) :: acc, us => if us.contains p = true then W ++ hidX acc us else hidX acc us
def keepC : OO → List Nat → (OO → Prop) → Prop
  | [], _, K => K []
  | (o, ob) :: O, X, K => if X.contains o = true then keepC O X fun O' => K ((o, ob) :: O') else keepC O X K
def idsT (T : TT) : List Nat → List Nat
  | [] => []
  | t :: ts => (match lk T t with | some v => idsV v | none => []) ++ idsT T ts
def touch (V : OO) (T : TT) : Option (List Nat) → List Nat
  | none => []
  | some ts => reach V 3 (idsT T ts)
def rng : Nat → Nat → List Nat
  | _, 0 => []
  | n, k + 1 => n :: rng (n + 1) k
def sameC (W : List Nat) (V' : OO) : OO → Prop
  | [] => True
  | (o, ob) :: V => (W.contains o = false → objC V' o fun ob' => ob' = ob) ∧ sameC W V' V
def newC (ks : List Nat) (n n' : Nat) : OO → Prop
  | [] => True
  | (o, _) :: V => (ks.contains o = true ∨ (n ≤ o ∧ o < n')) ∧ newC ks n n' V
def ltC : List Nat → Nat → Prop
  | [], _ => True
  | o :: W, n => o < n ∧ ltC W n
def wOp (P : Program) (op : Op) (X : List Nat) (ld : Option (List Nat)) (T : TT) (O : OO) (n : Nat) (K : AV → OO → Nat → List Nat → Prop) : Prop :=
  rmsO O X fun V => keepC O X fun R => vcOp P op T V n fun v V' n' => (sameC (touch V T ld) V' V ∧ newC (keys V) n n' V' ∧ ltC (touch V T ld) n ∧ n ≤ n') ∧ K v (V' ++ R) n' (touch V T ld ++ rng n (n' - n))
def vcWalk (P : Program) (all : List Oper) : Plan → List (Nat × List Nat) → CK → CK
  | [], _, K, T, O, n => K T O n
  | (i, us, ld) :: pl, acc, K, T, O, n =>
    match all[i]? with
    | none => False
    | some o =>
      match o.guard with
      | none => wOp P o.op (hidX acc us) ld T O n fun v O' n' W => vcWalk P all pl ((i, W) :: acc) K (putT o.dst v T) O' n'
      | some (j, want) => gdC all j want T (fun T => wOp P o.op (hidX acc us) ld T O n fun v O' n' W => vcWalk P all pl ((i, W) :: acc) K (putT o.dst v T) O' n')
          (fun T => vcWalk P all pl ((i, []) :: acc) K (putT o.dst (.tup []) T) O n)
def waits (o : Oper) (b : Nat) : Bool := o.after.toList.any fun e => Region.binds .any e && e.on == b
def okPlan (ops : Array Oper) : List (Nat × List Nat) → Plan → Bool
  | acc, [] => (List.range ops.size).all fun j => (acc.map (·.1)).contains j
  | acc, (i, us, ld) :: pl =>
    match ops[i]? with
    | none => false
    | some o =>
      let B := (acc.map (·.1)).filter fun b => !us.contains b
      !(acc.map (·.1)).contains i && B.all (fun b => waits o b || acc.any fun c => waits o c.1 && c.2.contains b) &&
      o.after.toList.all (fun e => !Region.binds .any e || B.contains e.on) &&
      (acc.map (·.1)).all (fun u => !us.contains u || match ops[u]? with | some x => x.apart ops o | none => false) && (ld.isNone || us.isEmpty) && okPlan ops ((i, B) :: acc) pl

/-! The operations in that order, each with what it saw and left. -/
structure Rec where
  i : Nat
  us : List Nat
  o : Oper
  T : TT
  n : Nat
  V : OO
  v : AV
  V' : OO
  n' : Nat
  W : List Nat
  B : List Nat
  loud : Bool
def updR (r : Rec) (O : OO) : OO := (r.V'.filter fun p => r.W.contains p.1) ++ (O.filter fun p => !r.W.contains p.1)
theorem lk_updR (r : Rec) (O : OO) (o : Nat) : lk (updR r O) o = if r.W.contains o = true then lk r.V' o else lk O o := by
  unfold updR
  rw [lk_append, lk_filter (q := fun o => r.W.contains o), lk_filter (q := fun o => !r.W.contains o)]
  cases h : r.W.contains o
  · simp
  · simp
    cases lk r.V' o <;> rfl
def OS (S : Nat → Bool) : List Rec → OO → OO
  | [], O => O
  | r :: rs, O => OS S rs (if S r.i = true then updR r O else O)
def TS (S : Nat → Bool) : List Rec → TT → TT
  | [], T => T
  | r :: rs, T => TS S rs (if S r.i = true then putT r.o.dst r.v T else T)
section
variable {S S' : Nat → Bool}
theorem OS_append (l1 l2 : List Rec) : ∀ O, OS S (l1 ++ l2) O = OS S l2 (OS S l1 O) := by
  induction l1 with
  | nil => intro O; rfl
  | cons r l ih => intro O; simp only [List.cons_append, OS, ih]
theorem TS_append (l1 l2 : List Rec) : ∀ O, TS S (l1 ++ l2) O = TS S l2 (TS S l1 O) := by
  induction l1 with
  | nil => intro O; rfl
  | cons r l ih => intro O; simp only [List.cons_append, TS, ih]
theorem OS_skip {o : Nat} (l : List Rec) (h : ∀ r ∈ l, S r.i = true → r.W.contains o = false) : ∀ O, lk (OS S l O) o = lk O o := by
  induction l with
  | nil => intro O; rfl
  | cons r l ih =>
    intro O
    simp only [OS]
    rw [ih fun q hq => h q (by simp [hq])]
    split
    · rename_i e; rw [lk_updR, h r (by simp) e]; simp
    · rfl
theorem OS_lk {o : Nat} (l : List Rec) : ∀ {O O' : OO}, lk O o = lk O' o → lk (OS S l O) o = lk (OS S l O') o := by
  induction l with
  | nil => intro O O' h; exact h
  | cons r l ih =>
    intro O O' h
    simp only [OS]
    refine ih ?_
    split
    · rw [lk_updR, lk_updR, h]
    · exact h
theorem OS_agree {o : Nat} (l : List Rec) (h : ∀ r ∈ l, S r.i = false → r.W.contains o = false) : ∀ {O O' : OO}, lk O o = lk O' o → lk (OS S l O) o = lk (OS (fun _ => true) l O') o := by
  induction l with
  | nil => intro O O' h; exact h
  | cons r l ih =>
    intro O O' ho
    simp only [OS, if_true]
    refine ih (fun q hq => h q (by simp [hq])) ?_
    rw [lk_updR]
    cases e : S r.i with
    | true => simp only [if_true]; rw [lk_updR, ho]
    | false => simp only [Bool.false_eq_true, if_false, h r (by simp) e]; exact ho
theorem OS_congr (l : List Rec) (h : ∀ r ∈ l, S r.i = S' r.i) : ∀ O, OS S l O = OS S' l O := by
  induction l with
  | nil => intro O; rfl
  | cons r l ih => intro O; simp only [OS, h r (by simp)]; exact ih (fun q hq => h q (by simp [hq])) _
theorem lk_putT (d : Option Tmp) (v : AV) (T : TT) (t : Nat) : lk (putT d v T) t = if d = some t then some v else lk T t := by
  cases d with
  | none => simp [putT]
  | some d => simp [putT, lk]
theorem TS_skip {t : Nat} (l : List Rec) (h : ∀ r ∈ l, S r.i = true → r.o.dst ≠ some t) : ∀ T, lk (TS S l T) t = lk T t := by
  induction l with
  | nil => intro O; rfl
  | cons r l ih =>
    intro O
    simp only [TS]
    rw [ih fun q hq => h q (by simp [hq])]
    split
    · rename_i e; rw [lk_putT, if_neg (h r (by simp) e)]
    · rfl
theorem TS_lk {o : Nat} (l : List Rec) : ∀ {O O' : TT}, lk O o = lk O' o → lk (TS S l O) o = lk (TS S l O') o := by
  induction l with
  | nil => intro O O' h; exact h
  | cons r l ih =>
    intro O O' h
    simp only [TS]
    refine ih ?_
    split
    · rw [lk_putT, lk_putT, h]
    · exact h
theorem TS_agree {t : Nat} (l : List Rec) (h : ∀ r ∈ l, S r.i = false → r.o.dst ≠ some t) : ∀ {T T' : TT}, lk T t = lk T' t → lk (TS S l T) t = lk (TS (fun _ => true) l T') t := by
  induction l with
  | nil => intro O O' h; exact h
  | cons r l ih =>
    intro T T' ho
    simp only [TS, if_true]
    refine ih (fun q hq => h q (by simp [hq])) ?_
    rw [lk_putT]
    cases e : S r.i with
    | true => simp only [if_true]; rw [lk_putT, ho]
    | false => simp only [Bool.false_eq_true, if_false]; rw [if_neg (h r (by simp) e)]; exact ho
theorem TS_congr (l : List Rec) (h : ∀ r ∈ l, S r.i = S' r.i) : ∀ O, TS S l O = TS S' l O := by
  induction l with
  | nil => intro O; rfl
  | cons r l ih => intro O; simp only [TS, h r (by simp)]; exact ih (fun q hq => h q (by simp [hq])) _
end
structure RecOK (P : Program) (ops : Array Oper) (T0 : TT) (O0 : OO) (pre : List Rec) (r : Rec) : Prop where
  op : ops[r.i]? = some r.o
  fresh : ∀ p ∈ pre, p.i ≠ r.i
  mem : ∀ p ∈ pre, p.i ∈ r.B ∨ p.i ∈ r.us
  bef : ∀ b ∈ r.B, waits r.o b = true ∨ ∃ c ∈ pre, waits r.o c.i = true ∧ b ∈ c.B
  isB : ∀ b ∈ r.B, ∃ p ∈ pre, p.i = b
  edge : ∀ e ∈ r.o.after, Region.binds .any e = true → e.on ∈ r.B
  apart : ∀ p ∈ pre, p.i ∈ r.us → p.o.apart ops r.o = true
  loud : r.loud = true → ∀ p ∈ pre, p.i ∈ r.B
  quiet : r.loud = false → ∀ o ∈ r.W, r.n ≤ o
  wlt : ∀ o ∈ r.W, o < r.n'
  nle : r.n ≤ r.n'
  view : ∀ o ob, lk r.V o = some ob → lk (OS (fun _ => true) pre O0) o = some ob ∧ (∀ p ∈ pre, p.i ∈ r.us → o ∉ p.W) ∧ o < r.n
  tmps : ∀ t, lk r.T t = lk (TS (fun _ => true) pre T0) t
  same : ∀ o, o ∉ r.W → lk r.V' o = lk r.V o
  newer : ∀ p ∈ pre, p.n' ≤ r.n
  run : (vcOp P r.o.op r.T r.V r.n (fun v V' n' => v = r.v ∧ V' = r.V' ∧ n' = r.n') ∧ (r.o.guard = none ∨ ∃ j want g, r.o.guard = some (j, want) ∧ (ops[j]?).bind (·.dst) = some g ∧ lk r.T g = some (.bool want))) ∨
    (r.v = .tup [] ∧ r.W = [] ∧ ∃ j want g u, r.o.guard = some (j, want) ∧ (ops[j]?).bind (·.dst) = some g ∧ lk r.T g = some u ∧ (u = .bool (!want) ∨ u = .tup []))

theorem keepC_spec : ∀ {O : OO} {X : List Nat} {κ : OO → Prop}, keepC O X κ → ∃ R, κ R ∧ ∀ o, lk R o = if X.contains o = true then lk O o else none := by
  intro O
  induction O with
  | nil => intro X κ h; exact ⟨[], h, fun o => by simp [lk]⟩
  | cons p O ih =>
    obtain ⟨i, ob⟩ := p
    intro X κ h
    simp only [keepC] at h
    split at h
    · rename_i e
      obtain ⟨R, h1, h2⟩ := ih h
      refine ⟨_, h1, fun o => ?_⟩
      simp only [lk, h2]
      by_cases hi : i = o
      · subst hi; simp only [if_true, e]
      · simp [hi]
    · rename_i e
      obtain ⟨R, h1, h2⟩ := ih h
      refine ⟨_, h1, fun o => ?_⟩
      rw [h2]
      by_cases hi : i = o
      · subst hi; simp only [if_neg e]
      · simp [lk, hi]
theorem mem_rng {o n k : Nat} : o ∈ rng n k ↔ n ≤ o ∧ o < n + k := by
  induction k generalizing n with
  | zero => simp [rng]
  | succ k ih => simp only [rng, List.mem_cons, ih]; omega
theorem sameC_spec {W : List Nat} {V' : OO} : ∀ {V : OO}, sameC W V' V → ∀ o ob, lk V o = some ob → o ∉ W → lk V' o = some ob := by
  intro V
  induction V with
  | nil => intro _ o ob h; cases h
  | cons p V ih =>
    obtain ⟨i, b⟩ := p
    intro h o ob hl hw
    simp only [lk] at hl
    split at hl
    · rename_i e
      subst e
      cases hl
      obtain ⟨ob', h1, h2⟩ := objC_spec (h.1 (by simpa using hw))
      rw [h1, h2]
    · exact ih h.2 _ _ hl hw
theorem newC_spec {ks : List Nat} {n n' : Nat} : ∀ {V : OO}, newC ks n n' V → ∀ o ob, lk V o = some ob → o ∈ ks ∨ (n ≤ o ∧ o < n') := by
  intro V
  induction V with
  | nil => intro _ o ob h; cases h
  | cons p V ih =>
    obtain ⟨i, b⟩ := p
    intro h o ob hl
    simp only [lk] at hl
    split at hl
    · rename_i e
      subst e
      exact h.1.imp (by simp) id
    · exact ih h.2 _ _ hl
theorem ltC_spec {n : Nat} : ∀ {W : List Nat}, ltC W n → ∀ o ∈ W, o < n := by
  intro W
  induction W with
  | nil => intro _ o h; cases h
  | cons a W ih => intro h o ho; rcases List.mem_cons.1 ho with rfl | ho; exact h.1; exact ih h.2 o ho
end Go.Sy
/- Regions whose order is open: the records. -/
namespace Go.Sy
open Go
set_option linter.unusedSimpArgs false
set_option linter.unusedVariables false
section
variable {P : Program} {ops : Array Oper} {T0 : TT} {O0 : OO} {K : CK}

abbrev tt : Nat → Bool := fun _ => true
theorem contains_iff {l : List Nat} {o : Nat} : l.contains o = true ↔ o ∈ l := by simp
/-- One record more. -/
structure Here (ops : Array Oper) (T0 : TT) (O0 : OO) (pre : List Rec) (acc accB : List (Nat × List Nat)) (T : TT) (O : OO) (n : Nat) : Prop where
  acc : ∀ us o, o ∈ hidX acc us ↔ ∃ p ∈ pre, p.i ∈ us ∧ o ∈ p.W
  accB : ∀ q, q ∈ accB ↔ ∃ p ∈ pre, q = (p.i, p.B)
  eT : ∀ t, lk T t = lk (TS tt pre T0) t
  eO : ∀ o, lk O o = lk (OS tt pre O0) o
  lt : ∀ o ob, lk O o = some ob → o < n
  n' : ∀ p ∈ pre, p.n' ≤ n
  W : ∀ p ∈ pre, ∀ o ∈ p.W, o < n
theorem OS_tt_cons (r : Rec) (O : OO) : OS tt [r] O = updR r O := by simp [OS]
theorem Here.next {pre : List Rec} {acc accB : List (Nat × List Nat)} {T T' : TT} {O O' : OO} {n : Nat} (h : Here ops T0 O0 pre acc accB T O n) (r : Rec)
    (hT : ∀ t, lk T' t = lk (putT r.o.dst r.v T) t) (hO : ∀ o, lk O' o = if r.W.contains o = true then lk r.V' o else lk O o) (hlt : ∀ o ob, lk O' o = some ob → o < r.n') (hn : n ≤ r.n') (hW : ∀ o ∈ r.W, o < r.n') :
    Here ops T0 O0 (pre ++ [r]) ((r.i, r.W) :: acc) ((r.i, r.B) :: accB) T' O' r.n' := by
  refine ⟨fun us o => ?_, fun q => ?_, fun t => ?_, fun o => ?_, hlt, fun p hp => ?_, fun p hp o ho => ?_⟩
  · simp only [hidX]
    constructor
    · intro hm
      split at hm
      · rename_i e
        rcases List.mem_append.1 hm with hm | hm
        · exact ⟨r, by simp, by simpa using e, hm⟩
        · obtain ⟨p, hp, g⟩ := (h.acc us o).1 hm
          exact ⟨p, by simp [hp], g⟩
      · obtain ⟨p, hp, g⟩ := (h.acc us o).1 hm
        exact ⟨p, by simp [hp], g⟩
    · rintro ⟨p, hp, g1, g2⟩
      rcases List.mem_append.1 hp with hp | hp
      · have := (h.acc us o).2 ⟨p, hp, g1, g2⟩
        split
        · exact List.mem_append.2 (.inr this)
        · exact this
      · simp only [List.mem_singleton] at hp
        subst hp
        rw [if_pos (by simpa using g1)]
        exact List.mem_append.2 (.inl g2)
  · simp only [List.mem_cons, h.accB, List.mem_append, List.mem_nil_iff, or_false]
    constructor
    · rintro (rfl | ⟨p, hp, rfl⟩)
      · exact ⟨r, .inr rfl, rfl⟩
      · exact ⟨p, .inl hp, rfl⟩
    · rintro ⟨p, hp | rfl, rfl⟩
      · exact .inr ⟨p, hp, rfl⟩
      · exact .inl rfl
  · rw [hT, TS_append]
    simp only [TS, if_true]
    rw [lk_putT, lk_putT, h.eT]
  · rw [hO, OS_append, OS_tt_cons, lk_updR, h.eO]
  · rcases List.mem_append.1 hp with hp | hp
    · exact Nat.le_trans (h.n' p hp) hn
    · simp only [List.mem_singleton] at hp; subst hp; exact Nat.le_refl _
  · rcases List.mem_append.1 hp with hp | hp
    · exact Nat.lt_of_lt_of_le (h.W p hp o ho) hn
    · simp only [List.mem_singleton] at hp; subst hp; exact hW o ho
theorem okPlan_spec {accB : List (Nat × List Nat)} {i : Nat} {us : List Nat} {ld : Option (List Nat)} {pl : Plan} (h : okPlan ops accB ((i, us, ld) :: pl) = true) :
    ∃ o, ops[i]? = some o ∧ (∀ p ∈ accB, p.1 ≠ i) ∧ (∀ b, b ∈ accB.map (·.1) → b ∉ us → waits o b = true ∨ ∃ c ∈ accB, waits o c.1 = true ∧ b ∈ c.2) ∧
      (∀ e ∈ o.after, Region.binds .any e = true → e.on ∈ accB.map (·.1) ∧ e.on ∉ us) ∧ (∀ u, u ∈ accB.map (·.1) → u ∈ us → ∃ x, ops[u]? = some x ∧ x.apart ops o = true) ∧ (ld = none ∨ us = []) ∧
      okPlan ops ((i, (accB.map (·.1)).filter fun b => !us.contains b) :: accB) pl = true := by
  simp only [okPlan] at h
  split at h
  · cases h
  · rename_i o ho
    simp only [Bool.and_eq_true, Bool.not_eq_true', List.all_eq_true, Bool.or_eq_true, List.any_eq_true] at h
    obtain ⟨⟨⟨⟨⟨h1, h2⟩, h3⟩, h4⟩, h5⟩, h6⟩ := h
    refine ⟨o, ho, fun p hp e => ?_, fun b hb hu => ?_, fun e he hbd => ?_, fun u hu hus => ?_, ?_, h6⟩
    · have : (accB.map (·.1)).contains i = true := by simp only [contains_iff, List.mem_map]; exact ⟨p, hp, e⟩
      rw [h1] at this; cases this
    · rcases h2 b (List.mem_filter.2 ⟨hb, by simpa using hu⟩) with g | ⟨c, hc, g⟩
      · exact .inl g
      · exact .inr ⟨c, hc, g.1, by simpa using g.2⟩
    · have := (h3 e (by simpa using he)).resolve_left (by simp [hbd])
      simp only [contains_iff, List.mem_filter] at this
      exact ⟨this.1, by simpa using this.2⟩
    · have := (h4 u hu).resolve_left (by simpa using hus)
      split at this
      · rename_i x hx; exact ⟨x, hx, this⟩
      · cases this
    · rcases h5 with h5 | h5
      · exact .inl (by simpa using h5)
      · exact .inr (by simpa using h5)
theorem chain : ∀ (pl : Plan) (pre : List Rec) (acc accB : List (Nat × List Nat)) (T : TT) (O : OO) (n : Nat), Here ops T0 O0 pre acc accB T O n → (∀ p ∈ pre, ops[p.i]? = some p.o) → okPlan ops accB pl = true → vcWalk P ops.toList pl acc K T O n →
    ∃ rs Tf Of nf, K Tf Of nf ∧ (∀ l r post, rs = l ++ r :: post → RecOK P ops T0 O0 (pre ++ l) r ∧ n ≤ r.n ∧ r.n' ≤ nf) ∧ (∀ t, lk Tf t = lk (TS tt (pre ++ rs) T0) t) ∧ (∀ o, lk Of o = lk (OS tt (pre ++ rs) O0) o) ∧ n ≤ nf ∧
      ∀ j, j < ops.size → ∃ r ∈ pre ++ rs, r.i = j := by
  intro pl
  induction pl with
  | nil =>
    intro pre acc accB T O n hh _ hp h
    refine ⟨[], T, O, n, h, fun l r post e => by simp at e, by simpa using hh.eT, by simpa using hh.eO, Nat.le_refl _, fun j hj => ?_⟩
    simp only [okPlan, List.all_eq_true, List.mem_range, contains_iff] at hp
    obtain ⟨q, hq, rfl⟩ := List.mem_map.1 (hp j hj)
    obtain ⟨p, hp', rfl⟩ := (hh.accB q).1 hq
    exact ⟨p, by simpa using hp', rfl⟩
  | cons q pl ih =>
    obtain ⟨i, us, ld⟩ := q
    intro pre acc accB T O n hh hpo hp h
    obtain ⟨o, hio, hfr, hbef, hedge, hap, hld, hp'⟩ := okPlan_spec hp
    have hiol : ops.toList[i]? = some o := by simpa using hio
    simp only [vcWalk, hiol] at h
    have memA : ∀ b, b ∈ accB.map (·.1) ↔ ∃ p ∈ pre, p.i = b := fun b => by
      simp only [List.mem_map]
      constructor
      · rintro ⟨q, hq, rfl⟩
        obtain ⟨p, hp, rfl⟩ := (hh.accB q).1 hq
        exact ⟨p, hp, rfl⟩
      · rintro ⟨p, hp, rfl⟩
        exact ⟨_, (hh.accB _).2 ⟨p, hp, rfl⟩, rfl⟩
    -- the rest, behind a record
    have fin : ∀ (r : Rec) (T' : TT) (O' : OO), r.i = i → r.o = o → r.B = (accB.map (·.1)).filter (fun b => !us.contains b) → RecOK P ops T0 O0 pre r → n ≤ r.n → Here ops T0 O0 (pre ++ [r]) ((r.i, r.W) :: acc) ((r.i, r.B) :: accB) T' O' r.n' →
        vcWalk P ops.toList pl ((r.i, r.W) :: acc) K T' O' r.n' →
        ∃ rs Tf Of nf, K Tf Of nf ∧ (∀ l r post, rs = l ++ r :: post → RecOK P ops T0 O0 (pre ++ l) r ∧ n ≤ r.n ∧ r.n' ≤ nf) ∧ (∀ t, lk Tf t = lk (TS tt (pre ++ rs) T0) t) ∧ (∀ o, lk Of o = lk (OS tt (pre ++ rs) O0) o) ∧ n ≤ nf ∧
          ∀ j, j < ops.size → ∃ r ∈ pre ++ rs, r.i = j := by
      intro r T' O' e1 e2 e3 hr hn hh' hw
      obtain ⟨rs, Tf, Of, nf, k1, k2, k3, k4, k5, k6⟩ := ih (pre ++ [r]) _ _ T' O' r.n' hh' (fun p hp => by
        rcases List.mem_append.1 hp with hp | hp
        · exact hpo p hp
        · simp only [List.mem_singleton] at hp; subst hp; exact hr.op) (by rw [e3, e1]; exact hp') hw
      refine ⟨r :: rs, Tf, Of, nf, k1, fun l q post e => ?_, by simpa using k3, by simpa using k4, Nat.le_trans (Nat.le_trans hn hr.nle) k5, by simpa using k6⟩
      cases l with
      | nil =>
        simp only [List.nil_append, List.cons.injEq] at e
        obtain ⟨rfl, _⟩ := e
        exact ⟨by simpa using hr, hn, k5⟩
      | cons q' l =>
        simp only [List.cons_append, List.cons.injEq] at e
        obtain ⟨rfl, e⟩ := e
        obtain ⟨g1, g2, g3⟩ := k2 l q post e
        exact ⟨by simpa using g1, Nat.le_trans (Nat.le_trans hn hr.nle) g2, g3⟩
    -- what each record has
    have base : ∀ (r : Rec), r.i = i → r.us = us → r.o = o → r.B = (accB.map (·.1)).filter (fun b => !us.contains b) → r.n = n → r.loud = ld.isSome → r.n ≤ r.n' → (r.loud = false → ∀ o ∈ r.W, r.n ≤ o) → (∀ o ∈ r.W, o < r.n') →
        (∀ o, lk r.V o = if o ∈ hidX acc us then none else lk O o) → (∀ t, lk r.T t = lk T t) → (∀ o, o ∉ r.W → lk r.V' o = lk r.V o) →
        ((vcOp P r.o.op r.T r.V r.n (fun v V' n' => v = r.v ∧ V' = r.V' ∧ n' = r.n') ∧ (r.o.guard = none ∨ ∃ j want g, r.o.guard = some (j, want) ∧ (ops[j]?).bind (·.dst) = some g ∧ lk r.T g = some (.bool want))) ∨
          (r.v = .tup [] ∧ r.W = [] ∧ ∃ j want g u, r.o.guard = some (j, want) ∧ (ops[j]?).bind (·.dst) = some g ∧ lk r.T g = some u ∧ (u = .bool (!want) ∨ u = .tup []))) → RecOK P ops T0 O0 pre r := by
      intro r e1 e2 e3 e4 e5 e6 g1 g2 g3 g4 g5 g6 g7
      have inB : ∀ b, b ∈ r.B ↔ (∃ p ∈ pre, p.i = b) ∧ b ∉ us := fun b => by rw [e4, List.mem_filter, memA]; simp
      refine ⟨by rw [e1, e3]; exact hio, fun p hp => ?_, fun p hp => ?_, fun b hb => ?_, fun b hb => ((inB b).1 hb).1, fun e he hbd => ?_, fun p hp hu => ?_, fun hl p hp => ?_, g2, g3, g1, fun o' ob hl => ?_, fun t => by rw [g5]; exact hh.eT t, g6, fun p hp => by rw [e5]; exact hh.n' p hp, g7⟩
      · rw [e1]; exact hfr _ ((hh.accB _).2 ⟨p, hp, rfl⟩)
      · by_cases hu : p.i ∈ us
        · exact .inr (by rw [e2]; exact hu)
        · exact .inl ((inB _).2 ⟨⟨p, hp, rfl⟩, hu⟩)
      · obtain ⟨⟨p, hp, rfl⟩, hu⟩ := (inB b).1 hb
        rw [e3]
        rcases hbef _ ((memA _).2 ⟨p, hp, rfl⟩) hu with g | ⟨c, hc, g⟩
        · exact .inl g
        · obtain ⟨p', hp', rfl⟩ := (hh.accB c).1 hc
          exact .inr ⟨p', hp', g⟩
      · rw [e3] at he
        obtain ⟨h1, h2⟩ := hedge e he hbd
        exact (inB _).2 ⟨(memA _).1 h1, h2⟩
      · rw [e2] at hu
        obtain ⟨x, hx, ha⟩ := hap _ ((memA _).2 ⟨p, hp, rfl⟩) hu
        rw [hpo p hp] at hx; cases hx
        rw [e3]; exact ha
      · rw [e6] at hl
        rcases hld with h | h
        · rw [h] at hl; cases hl
        · exact (inB _).2 ⟨⟨p, hp, rfl⟩, by rw [h]; simp⟩
      · rw [g4] at hl
        split at hl
        · cases hl
        · rename_i hx
          refine ⟨by rw [← hh.eO]; exact hl, fun p hp hu hw => hx ?_, by rw [e5]; exact hh.lt _ _ hl⟩
          exact (hh.acc us o').2 ⟨p, hp, by rw [e2] at hu; exact hu, hw⟩
    -- an operation that is carried out
    have run : ∀ Tg : TT, (∀ t, lk Tg t = lk T t) → (o.guard = none ∨ ∃ j want g, o.guard = some (j, want) ∧ (ops[j]?).bind (·.dst) = some g ∧ lk Tg g = some (.bool want)) →
        wOp P o.op (hidX acc us) ld Tg O n (fun v O' n' W => vcWalk P ops.toList pl ((i, W) :: acc) K (putT o.dst v Tg) O' n') →
        ∃ rs Tf Of nf, K Tf Of nf ∧ (∀ l r post, rs = l ++ r :: post → RecOK P ops T0 O0 (pre ++ l) r ∧ n ≤ r.n ∧ r.n' ≤ nf) ∧ (∀ t, lk Tf t = lk (TS tt (pre ++ rs) T0) t) ∧ (∀ o, lk Of o = lk (OS tt (pre ++ rs) O0) o) ∧ n ≤ nf ∧
          ∀ j, j < ops.size → ∃ r ∈ pre ++ rs, r.i = j := by
      intro Tg hTg hgd h
      obtain ⟨V, h, hV⟩ := rmsO_spec h
      obtain ⟨R, h, hR⟩ := keepC_spec h
      obtain ⟨⟨v, V', n'⟩, ⟨⟨c1, c2, c3, c4⟩, hk⟩, hpt⟩ := vcOp_pt (P := P) (T := Tg) (O := V) (n := n) o.op (fun q => (sameC (touch V Tg ld) q.2.1 V ∧ newC (keys V) n q.2.2 q.2.1 ∧ ltC (touch V Tg ld) n ∧ n ≤ q.2.2) ∧
        vcWalk P ops.toList pl ((i, touch V Tg ld ++ rng n (q.2.2 - n)) :: acc) K (putT o.dst q.1 Tg) (q.2.1 ++ R) q.2.2) h
      have hrun := hpt (fun q => q.1 = v ∧ q.2.1 = V' ∧ q.2.2 = n') ⟨rfl, rfl, rfl⟩
      simp only at c1 c2 c3 c4 hk
      have hWlt : ∀ x ∈ touch V Tg ld ++ rng n (n' - n), x < n' := fun x hx => by
        rcases List.mem_append.1 hx with hx | hx
        · exact Nat.lt_of_lt_of_le (ltC_spec c3 x hx) c4
        · rw [mem_rng] at hx; omega
      have hsame : ∀ x, x ∉ touch V Tg ld ++ rng n (n' - n) → lk V' x = lk V x := fun x hx => by
        simp only [List.mem_append, not_or] at hx
        cases hl : lk V x with
        | some ob => exact sameC_spec c1 x ob hl hx.1
        | none =>
          cases hl' : lk V' x with
          | none => rfl
          | some ob =>
            exfalso
            rcases newC_spec c2 x ob hl' with g | g
            · rw [lk_none] at hl; exact hl g
            · exact hx.2 (mem_rng.2 (by omega))
      let r : Rec := ⟨i, us, o, Tg, n, V, v, V', n', touch V Tg ld ++ rng n (n' - n), (accB.map (·.1)).filter (fun b => !us.contains b), ld.isSome⟩
      have hrec : RecOK P ops T0 O0 pre r := base r rfl rfl rfl rfl rfl rfl c4 (fun hl x hx => by
          have hl : ld.isSome = false := hl
          have : ld = none := by cases ld <;> first | rfl | cases hl
          have hx : x ∈ touch V Tg ld ++ rng n (n' - n) := hx
          rw [this] at hx
          simp only [touch, List.nil_append, mem_rng] at hx
          exact hx.1) hWlt hV hTg hsame (.inl ⟨hrun, hgd⟩)
      refine fin r (putT o.dst v Tg) (V' ++ R) rfl rfl rfl hrec (Nat.le_refl _) (hh.next r (fun t => by rw [lk_putT, lk_putT, hTg]) (fun x => ?_) (fun x ob hl => ?_) c4 hWlt) hk
      · show lk (V' ++ R) x = if (touch V Tg ld ++ rng n (n' - n)).contains x = true then lk V' x else lk O x
        rw [lk_append]
        by_cases hx : x ∈ touch V Tg ld ++ rng n (n' - n)
        · rw [if_pos (by simpa using hx)]
          have hxX : lk R x = none := by
            rw [hR]
            by_cases hX : (hidX acc us).contains x = true
            · have hX2 : x ∈ hidX acc us := by simpa using hX
              obtain ⟨p, hp, hu, hw⟩ := (hh.acc us x).1 hX2
              rcases List.mem_append.1 hx with hx | hx
              · rcases hld with h | h
                · rw [h] at hx; simp [touch] at hx
                · rw [h] at hu; cases hu
              · rw [mem_rng] at hx
                have := hh.W p hp x hw
                omega
            · rw [if_neg hX]
          rw [hxX]
          cases lk V' x <;> rfl
        · rw [if_neg (by simpa using hx), hsame x hx, hV, hR]
          by_cases hX : x ∈ hidX acc us
          · rw [if_pos hX, if_pos (by simpa using hX)]
          · rw [if_neg hX, if_neg (by simpa using hX)]
            cases lk O x <;> rfl
      · rw [lk_append] at hl
        split at hl
        · rename_i y e
          rcases newC_spec c2 x y e with g | g
          · have : lk V x ≠ none := by rw [Ne, lk_none]; exact fun h => h g
            rw [hV] at this
            split at this
            · exact absurd rfl this
            · cases h0 : lk O x with
              | none => exact absurd h0 this
              | some ob0 => exact Nat.lt_of_lt_of_le (hh.lt _ _ h0) c4
          · exact g.2
        · rw [hR] at hl
          split at hl
          · exact Nat.lt_of_lt_of_le (hh.lt _ _ hl) c4
          · cases hl
    split at h
    · rename_i hg
      exact run T (fun _ => rfl) (.inl hg) h
    · rename_i j want hg
      have hgd : ∃ g u, (ops[j]?).bind (·.dst) = some g ∧ lk T g = some u ∧ ((u = .bool want ∧ wOp P o.op (hidX acc us) ld ((g, .bool want) :: T) O n fun v O' n' W => vcWalk P ops.toList pl ((i, W) :: acc) K (putT o.dst v ((g, .bool want) :: T)) O' n') ∨
          ∃ Tg : TT, (∀ t, lk Tg t = lk T t) ∧ (u = .bool (!want) ∨ u = .tup []) ∧ vcWalk P ops.toList pl ((i, []) :: acc) K (putT o.dst (.tup []) Tg) O n) := by
        unfold gdC at h
        split at h
        · exact h.elim
        · rename_i g hgg
          obtain ⟨v, hl, h⟩ := lkC_spec h
          refine ⟨g, v, by simpa using hgg, hl, ?_⟩
          split at h
          · rename_i b
            by_cases eb : b = want
            · subst eb; exact .inl ⟨rfl, h.1 rfl⟩
            · have e2 : b = !want := (by decide : ∀ x y : Bool, ¬ x = y → x = !y) b want eb
              refine .inr ⟨_, fun t => ?_, .inl (by rw [e2]), h.2 e2⟩
              simp only [lk]
              split
              · rename_i e3; subst e3; rw [hl, e2]
              · rfl
          · exact .inr ⟨T, fun _ => rfl, .inr rfl, h⟩
          · exact h.elim
      obtain ⟨g, u, hgj, hlb, ⟨rfl, h1⟩ | ⟨Tg, hTg, hu, h2⟩⟩ := hgd
      · refine run _ (fun t => ?_) (.inr ⟨j, want, g, hg, hgj, by simp [lk]⟩) h1
        simp only [lk]
        split
        · rename_i e2; subst e2; rw [hlb]
        · rfl
      · -- not carried out
        obtain ⟨V, _, hV⟩ := rmsO_spec (κ := fun _ => True) (os := hidX acc us) (O := O) (by
          have : ∀ (os : List Nat) (O : OO), rmsO O os fun _ => True := by
            intro os
            induction os with
            | nil => intro O; cases O <;> trivial
            | cons x os ih =>
              intro O
              have h0 : ∀ (O : OO) (κ : OO → Prop), (∀ O', κ O') → rmO O x κ := by
                intro O
                induction O with
                | nil => intro κ h; exact h _
                | cons p O ih2 =>
                  intro κ h
                  obtain ⟨y, ob⟩ := p
                  simp only [rmO]
                  split
                  · exact ih2 _ h
                  · exact ih2 _ fun O' => h _
              have := h0 O (fun O' => rmsO O' os fun _ => True) ih
              cases O <;> exact this
          exact this _ _)
        let r : Rec := ⟨i, us, o, Tg, n, V, .tup [], V, n, [], (accB.map (·.1)).filter (fun b => !us.contains b), ld.isSome⟩
        have hrec : RecOK P ops T0 O0 pre r := base r rfl rfl rfl rfl rfl rfl (Nat.le_refl _) (fun _ x hx => by cases hx) (fun x hx => by cases hx) hV hTg (fun _ _ => rfl) (.inr ⟨rfl, rfl, j, want, g, u, hg, hgj, by show lk Tg g = _; rw [hTg, hlb], hu⟩)
        exact fin r (putT o.dst (.tup []) Tg) O rfl rfl rfl hrec (Nat.le_refl _) (hh.next r (fun t => by rw [lk_putT, lk_putT, hTg]) (fun x => by
          show lk O x = if ([] : List Nat).contains x = true then lk V x else lk O x
          rw [if_neg (by simp)]) (fun x ob hl => hh.lt _ _ hl) (Nat.le_refl _) (fun x hx => by cases hx)) h2
end
end Go.Sy
/- Regions whose order is open: the rule. -/
namespace Go.Sy
open Go
set_option linter.unusedSimpArgs false
set_option linter.unusedVariables false
section
variable {E : Env} {N : Nat} {M M' M1 : Pool} {β β' β1 β2 : Bmap} {T T' T0 : TT} {O O' O1 O2 J V V' O0 : OO} {n n0 nf : Nat} {a : Act} {w w' : World} {P : Program} {ops : Array Oper} {rs : List Rec}

/-- The state when the operations `S` have come up. -/
structure Inv (E : Env) (N : Nat) (rs : List Rec) (T0 : TT) (O0 : OO) (nf : Nat) (S : Nat → Bool) (M : Pool) (β : Bmap) (a : Act) (w : World) : Prop where
  st : St E M β (OS S rs O0) w
  tmps : ∀ t v, lk (TS S rs T0) t = some v → ∃ x, a.tmps[t]? = some x ∧ VR M β v x
  nd : a.defers = []
  sz : a.tmps.size = N
  base : ∀ o, o < E.n0 → β o = E.B0 o
  top : ∀ o, nf ≤ o → β o = none
  free : ∀ r ∈ rs, S r.i = false → ∀ o, r.n ≤ o → o < r.n' → β o = none
/-- What is known of the records. -/
structure Recs (P : Program) (ops : Array Oper) (T0 : TT) (O0 : OO) (n0 nf : Nat) (rs : List Rec) : Prop where
  ok : ∀ l r post, rs = l ++ r :: post → RecOK P ops T0 O0 l r ∧ n0 ≤ r.n ∧ r.n' ≤ nf
  all : ∀ j, j < ops.size → ∃ r ∈ rs, r.i = j
/-- Whatever has come up, so has what it waits for. -/
def Dn (rs : List Rec) (S : Nat → Bool) : Prop := ∀ r ∈ rs, S r.i = true → ∀ b ∈ r.B, S b = true

theorem split_mem {r : Rec} (h : r ∈ rs) : ∃ l post, rs = l ++ r :: post := List.append_of_mem h
theorem apart_dst {x y : Oper} (h : x.apart ops y = true) : (∀ d, x.dst = some d → d ∉ y.looksAt ops) ∧ (∀ d, x.dst = some d → y.dst ≠ some d) ∧ (∀ d, y.dst = some d → d ∉ x.looksAt ops) := Oper.apart_spec h

/-- What an operation sees, whatever has come up ahead of it. -/
theorem Recs.sees (h : Recs P ops T0 O0 n0 nf rs) {S : Nat → Bool} (hd : Dn rs S) {l post : List Rec} {r : Rec} (e : rs = l ++ r :: post) (hS : S r.i = false) (hB : ∀ b ∈ r.B, S b = true) :
    (∀ o ob, lk r.V o = some ob → lk (OS S rs O0) o = some ob) ∧ (∀ t ∈ r.o.looksAt ops, lk (TS S rs T0) t = lk r.T t) ∧
    (∀ o, lk (OS (fun k => S k || k == r.i) rs O0) o = if r.W.contains o = true then lk r.V' o else lk (OS S rs O0) o) ∧ (∀ t, lk (TS (fun k => S k || k == r.i) rs T0) t = lk (putT r.o.dst r.v (TS S rs T0)) t) := by
  obtain ⟨hr, _, _⟩ := h.ok l r post e
  -- an earlier one that has not come up is not waited for
  have early : ∀ p ∈ l, S p.i = false → p.i ∈ r.us := fun p hp hs => by
    rcases hr.mem p hp with g | g
    · rw [hB _ g] at hs; cases hs
    · exact g
  have later : ∀ q ∈ post, ∃ l2 post2, rs = l2 ++ q :: post2 ∧ r ∈ l2 ∧ RecOK P ops T0 O0 l2 q := fun q hq => by
    obtain ⟨l1, p1, e1⟩ := split_mem hq
    refine ⟨l ++ r :: l1, p1, by rw [e, e1]; simp, by simp, ?_⟩
    exact (h.ok _ _ p1 (by rw [e, e1]; simp)).1
  -- a later one that has come up does not wait for it
  have late : ∀ q ∈ post, S q.i = true → r.i ∈ q.us ∧ q.loud = false ∧ r.n' ≤ q.n ∧ r.o.apart ops q.o = true := fun q hq hs => by
    obtain ⟨l2, post2, e2, hm, hq'⟩ := later q hq
    have hqm : q ∈ rs := by rw [e]; simp [hq]
    have hnB : r.i ∉ q.B := fun hb => by have := hd q hqm hs _ hb; rw [hS] at this; cases this
    have hus := (hq'.mem r hm).resolve_left hnB
    refine ⟨hus, ?_, hq'.newer r hm, hq'.apart r hm hus⟩
    cases hl : q.loud with
    | false => rfl
    | true => exact absurd (hq'.loud hl r hm) hnB
  have lateW : ∀ q ∈ post, S q.i = true → ∀ o, o < r.n' → q.W.contains o = false := fun q hq hs o ho => by
    obtain ⟨_, h1, h2, _⟩ := late q hq hs
    obtain ⟨_, _, _, _, hq'⟩ := later q hq
    cases hc : q.W.contains o with
    | false => rfl
    | true =>
      have := hq'.quiet h1 o (by simpa using hc)
      omega
  have hdiff : ∀ q ∈ post, q.i ≠ r.i := fun q hq => by
    obtain ⟨_, _, _, hm, hq'⟩ := later q hq
    exact fun e' => hq'.fresh r hm e'.symm
  have hl' : ∀ p ∈ l, (S p.i || p.i == r.i) = S p.i := fun p hp => by simp [hr.fresh p hp]
  have hp' : ∀ p ∈ post, (S p.i || p.i == r.i) = S p.i := fun p hp => by simp [hdiff p hp]
  refine ⟨fun o ob hl => ?_, fun t ht => ?_, fun o => ?_, fun t => ?_⟩
  · obtain ⟨g1, g2, g3⟩ := hr.view o ob hl
    rw [e, OS_append]
    simp only [OS, hS, Bool.false_eq_true, if_false]
    rw [OS_skip post fun q hq hs => lateW q hq hs o (Nat.lt_of_lt_of_le g3 hr.nle)]
    rw [OS_agree l (fun p hp hs => by simpa using g2 p hp (early p hp hs)) rfl]
    exact g1
  · rw [e, TS_append]
    simp only [TS, hS, Bool.false_eq_true, if_false]
    rw [TS_skip post fun q hq hs hdq => (apart_dst (late q hq hs).2.2.2).2.2 _ hdq ht]
    rw [hr.tmps]
    exact TS_agree l (fun p hp hs hdp => (apart_dst (hr.apart p hp (early p hp hs))).1 _ hdp ht) rfl
  · rw [e, OS_append, OS_append]
    simp only [OS, hS, Bool.false_or, beq_self_eq_true, if_true, Bool.false_eq_true, if_false]
    rw [OS_congr (S' := S) l hl', OS_congr (S' := S) post hp']
    by_cases hw : r.W.contains o = true
    · rw [if_pos hw]
      rw [OS_skip post fun q hq hs => lateW q hq hs o (hr.wlt o (by simpa using hw)), lk_updR, if_pos hw]
    · rw [if_neg hw]
      exact OS_lk post (by rw [lk_updR, if_neg hw])
  · rw [e, TS_append, TS_append, lk_putT]
    simp only [TS, hS, Bool.false_or, beq_self_eq_true, if_true, Bool.false_eq_true, if_false]
    rw [TS_congr (S' := S) l hl', TS_congr (S' := S) post hp']
    by_cases hdt : r.o.dst = some t
    · rw [if_pos hdt, TS_skip post fun q hq hs hdq => (apart_dst (late q hq hs).2.2.2).2.1 _ hdt hdq, lk_putT, if_pos hdt]
    · rw [if_neg hdt]
      exact TS_lk post (by rw [lk_putT, if_neg hdt])

theorem Inv.step (h : Recs P ops T0 O0 n0 nf rs) (hE : ∀ o, E.ok o) (hn0 : E.n0 ≤ n0) {S : Nat → Bool} (hd : Dn rs S) {l post : List Rec} {r : Rec} (e : rs = l ++ r :: post) (hS : S r.i = false) (hB : ∀ b ∈ r.B, S b = true)
    (hdst : ∀ t, r.o.dst = some t → t < N) (hi : Inv E N rs T0 O0 nf S M β a w) {Q : Exit → Act → World → Prop} {next : Act → World → Prop}
    (hnext : ∀ a' w' M' β', Inv E N rs T0 O0 nf (fun k => S k || k == r.i) M' β' a' w' → next a' w') : wpOp P ops Q r.i next a w := by
  obtain ⟨hr, hnr, hnf⟩ := h.ok l r post e
  obtain ⟨s1, s2, s3, s4⟩ := h.sees hd e hS hB
  have hrm : r ∈ rs := by rw [e]; simp
  have order : ∀ q ∈ rs, q.i ≠ r.i → q.n' ≤ r.n ∨ r.n' ≤ q.n := fun q hq hne => by
    rw [e] at hq
    rcases List.mem_append.1 hq with hq | hq
    · exact .inl (hr.newer q hq)
    · rcases List.mem_cons.1 hq with rfl | hq
      · exact absurd rfl hne
      · obtain ⟨l1, p1, e1⟩ := split_mem hq
        have := (h.ok (l ++ r :: l1) q p1 (by rw [e, e1]; simp)).1
        exact .inr (this.newer r (by simp))
  -- what the guard says
  have gd : ∀ j want g b, r.o.guard = some (j, want) → (ops[j]?).bind (·.dst) = some g → lk r.T g = some (.bool b) → Region.wanted r.o (yielded ops a.tmps) = (b == want) := fun j want g b h1 h2 h3 => by
    have hg : g ∈ r.o.looksAt ops := by simp only [Oper.looksAt, h1, h2]; simp
    obtain ⟨x, hx, hv⟩ := hi.tmps g _ (by rw [s2 g hg]; exact h3)
    have := hv.bool_inv
    subst this
    refine wanted_of h1 ?_
    unfold yielded
    rw [h2]
    simp [hx]
  unfold wpOp
  simp only [hr.op]
  rcases hr.run with ⟨hrun, hg⟩ | ⟨hv, hW, j, want, g, u, h1, h2, h3, hu⟩
  · have hw : Region.wanted r.o (yielded ops a.tmps) = true := by
      rcases hg with hg | ⟨j, want, g, h1, h2, h3⟩
      · unfold Region.wanted; rw [hg]
      · rw [gd j want g want h1 h2 h3]; simp
    rw [if_pos hw]
    refine .inl ?_
    have hrun' : vcOp P r.o.op (TS S rs T0) r.V r.n (fun v V' n' => v = r.v ∧ V' = r.V' ∧ n' = r.n') := by
      rw [vcOp_congr (T := r.T) fun x hx => evC_congr fun t ht => s2 t ?_]
      · exact hrun
      · subst ht
        exact List.mem_append_left _ (List.mem_filterMap.2 ⟨.tmp t, hx, rfl⟩)
    have hrel : RelAt ⟨w, ownOf r.V β, M, β, r.n, fun o => o < r.n'⟩ N M β (TS S rs T0) r.V r.n a w :=
      ⟨hi.st.view s1 _ _ _, fun o h1 h2 => hi.free r hrm hS o h1 h2, hi.tmps, hi.nd, hi.sz, fun _ _ => rfl, Nat.le_refl _⟩
    refine vcOp_sound (fun v O' n' hk o h1 h2 => by rw [hk.2.2] at h2; exact h2) rfl hrun' hrel next Q ?_
    rintro v V' n' x w' M' β' ⟨rfl, rfl, rfl⟩ hr' hv
    have hout : ∀ o, (o < r.n ∨ ¬ o < r.n') → β' o = β o := hr'.base
    have hbl : BLe β β' := fun o y hy => by
      by_cases h1 : r.n ≤ o ∧ o < r.n'
      · rw [hi.free r hrm hS o h1.1 h1.2] at hy; cases hy
      · rw [hout o (by omega)]; exact hy
    have hval := hr'.value hdst hv
    refine hnext _ _ M' β' ⟨hi.st.frame s1 hr'.st hbl fun o ob hl => ?_, fun t v hl => ?_, hval.nd, hval.sz, fun o ho => ?_, fun o ho => ?_, fun q hq hs o h1 h2 => ?_⟩
    · rw [s3] at hl
      split at hl
      · exact .inl hl
      · rename_i hw
        cases hl2 : lk r.V o with
        | none => exact .inr ⟨hl, rfl⟩
        | some ob2 =>
          have := s1 o ob2 hl2
          rw [hl] at this; cases this
          exact .inl (by rw [hr.same o (by simpa using hw)]; exact hl2)
    · rw [s4] at hl
      exact hval.tmps t v hl
    · rw [hout o (.inl (by omega))]; exact hi.base o ho
    · rw [hout o (.inr (by omega))]; exact hi.top o ho
    · have hs' : S q.i = false ∧ q.i ≠ r.i := by simpa using hs
      rw [hout o (by rcases order q hq hs'.2 with g | g <;> omega)]
      exact hi.free q hq hs'.1 o h1 h2
  · have hw : Region.wanted r.o (yielded ops a.tmps) = false := by
      rcases hu with rfl | rfl
      · rw [gd j want g (!want) h1 h2 h3]
        cases want <;> rfl
      · have hg : g ∈ r.o.looksAt ops := by simp only [Oper.looksAt, h1, h2]; simp
        obtain ⟨x, hx, hv⟩ := hi.tmps g _ (by rw [s2 g hg]; exact h3)
        have : x = .tuple #[] := by
          cases hv with
          | tup h => cases h; rfl
          | one hm h => cases h
          | agg hm h => cases h
        subst this
        unfold Region.wanted
        rw [h1]
        have : yielded ops a.tmps j = none := by unfold yielded; rw [h2]; simp [hx]
        simp [this]
    rw [hw]
    simp only [Bool.false_eq_true, if_false]
    have hsz : ∀ t, r.o.dst = some t → t < a.tmps.size := fun t ht => by rw [hi.sz]; exact hdst t ht
    refine hnext _ _ M β ⟨?_, fun t v hl => ?_, by cases r.o.dst <;> exact hi.nd, by cases hd : r.o.dst <;> simp [Act.put, hi.sz], hi.base, hi.top, fun q hq hs => hi.free q hq (by simp at hs; exact hs.1)⟩
    · refine ⟨hi.st.pool, hi.st.sub, hi.st.only, fun o ob hl => ?_, fun o ob b κ hl => ?_, fun o o' ob ob' b κ κ' hl hl' => ?_, hi.st.size, hi.st.keep, hi.st.os, hi.st.tape, hi.st.output⟩
      · rw [s3, hW] at hl; exact hi.st.objs o ob (by simpa using hl)
      · rw [s3, hW] at hl; exact hi.st.mine o ob b κ (by simpa using hl)
      · rw [s3, hW] at hl hl'; exact hi.st.inj o o' ob ob' b κ κ' (by simpa using hl) (by simpa using hl')
    · rw [s4, lk_putT, hv] at hl
      rw [put_tmps]
      split at hl
      · rename_i e'
        rw [if_pos e', if_pos (hsz t e')]
        cases hl
        exact ⟨_, rfl, .tup .nil⟩
      · rename_i e'
        rw [if_neg e']
        exact hi.tmps t v hl
end
end Go.Sy
/- Regions whose order is open: the rule, whole. -/
namespace Go.Sy
open Go
set_option linter.unusedSimpArgs false
set_option linter.unusedVariables false
section
variable {E : Env} {N : Nat} {M M' M1 : Pool} {β β' β1 β2 : Bmap} {T T' T0 : TT} {O O' O1 O2 J V V' O0 : OO} {n n0 nf : Nat} {a : Act} {w w' : World} {P : Program} {ops : Array Oper} {rs : List Rec}

theorem OS_none {S : Nat → Bool} (h : ∀ i, S i = false) : ∀ (l : List Rec) (O : OO), OS S l O = O := by
  intro l
  induction l with
  | nil => intro O; rfl
  | cons r l ih => intro O; simp only [OS, h, Bool.false_eq_true, if_false]; exact ih O
theorem TS_none {S : Nat → Bool} (h : ∀ i, S i = false) : ∀ (l : List Rec) (O : TT), TS S l O = O := by
  intro l
  induction l with
  | nil => intro O; rfl
  | cons r l ih => intro O; simp only [TS, h, Bool.false_eq_true, if_false]; exact ih O
theorem St.lkeq (h : St E M β O w) (he : ∀ o, lk O' o = lk O o) : St E M β O' w :=
  ⟨h.pool, h.sub, h.only, fun o ob hl => h.objs o ob (by rw [← he]; exact hl), fun o ob b κ hl => h.mine o ob b κ (by rw [← he]; exact hl),
    fun o o' ob ob' b κ κ' hl hl' => h.inj o o' ob ob' b κ κ' (by rw [← he]; exact hl) (by rw [← he]; exact hl'), h.size, h.keep, h.os, h.tape, h.output⟩
theorem filter_lt {p q : Nat → Bool} {x : Nat} : ∀ {l : List Nat}, (∀ i, q i = true → p i = true) → x ∈ l → p x = true → q x = false → (l.filter q).length < (l.filter p).length := by
  intro l
  induction l with
  | nil => intro _ h; cases h
  | cons a l ih =>
    intro hpq hx hp hq
    have le : ∀ l : List Nat, (l.filter q).length ≤ (l.filter p).length := by
      intro l
      induction l with
      | nil => simp
      | cons b l ih =>
        simp only [List.filter_cons]
        cases hb : q b
        · simp only [Bool.false_eq_true, if_false]; split <;> (try simp) <;> omega
        · simp only [hpq b hb, if_true, List.length_cons]; omega
    rcases List.mem_cons.1 hx with rfl | hx
    · simp only [List.filter_cons, hp, hq, if_true, Bool.false_eq_true, if_false, List.length_cons]
      have := le l
      omega
    · have := ih hpq hx hp hq
      simp only [List.filter_cons]
      cases hb : q a
      · simp only [Bool.false_eq_true, if_false]; split <;> (try simp) <;> omega
      · simp only [hpq a hb, if_true, List.length_cons]; omega
theorem waits_spec {o : Oper} {b : Nat} (h : waits o b = true) : ∃ e ∈ o.after, Region.binds .any e = true ∧ e.on = b := by
  simp only [waits, List.any_eq_true, Bool.and_eq_true, beq_iff_eq] at h
  obtain ⟨e, he, h1, h2⟩ := h
  exact ⟨e, by simpa using he, h1, h2⟩
theorem draw_any (h : Recs P ops T0 O0 n0 nf rs) (hE : ∀ o, E.ok o) (hn0 : E.n0 ≤ n0) (hd : ∀ o ∈ ops.toList, ∀ t, o.dst = some t → t < N) {Q : Exit → Act → World → Prop}
    (hQ : ∀ a w M β, Inv E N rs T0 O0 nf (fun _ => true) M β a w → Q .normal a w) : ∀ (fuel : Nat) (listed : Array Bool) (a : Act) (w : World) (M : Pool) (β : Bmap), listed.size = ops.size →
      Dn rs (fun i => listed.getD i false) → Inv E N rs T0 O0 nf (fun i => listed.getD i false) M β a w → ((List.range ops.size).filter fun i => !listed.getD i false).length ≤ fuel → wpAny P .any ops Q fuel listed a w := by
  have done : ∀ (listed : Array Bool) (a : Act) (w : World) (M : Pool) (β : Bmap), listed.size = ops.size → Inv E N rs T0 O0 nf (fun i => listed.getD i false) M β a w → Region.ready .any ops listed = [] → Q .normal a w := by
    intro listed a w M β hsz hi hrd
    have all : ∀ (l pre post : List Rec), rs = pre ++ (l ++ post) → (∀ r ∈ pre, listed.getD r.i false = true) → ∀ r ∈ l, listed.getD r.i false = true := by
      intro l
      induction l with
      | nil => intro pre post e _ r hr; cases hr
      | cons q l ih =>
        intro pre post e hpre r hr'
        have hq : listed.getD q.i false = true := by
          obtain ⟨hr, _, _⟩ := h.ok pre q (l ++ post) (by rw [e]; simp)
          cases hs : listed.getD q.i false with
          | true => rfl
          | false =>
            exfalso
            have hlt : q.i < ops.size := (Array.getElem?_eq_some_iff.1 hr.op).1
            have : q.i ∈ Region.ready .any ops listed := by
              rw [mem_ready]
              refine ⟨?_, q.o, hr.op, fun e' he hb => ?_⟩
              · have hlt' : q.i < listed.size := by omega
                simp only [Array.getD_eq_getD_getElem?, Array.getElem?_eq_getElem hlt', Option.getD_some] at hs ⊢
                exact hs
              · obtain ⟨p, hp, ep⟩ := hr.isB _ (hr.edge e' he hb)
                rw [← ep]; exact hpre p hp
            rw [hrd] at this
            cases this
        rcases List.mem_cons.1 hr' with rfl | hr'
        · exact hq
        · refine ih (pre ++ [q]) post (by rw [e]; simp) (fun p hp => ?_) r hr'
          rcases List.mem_append.1 hp with hp | hp
          · exact hpre p hp
          · simp only [List.mem_singleton] at hp; subst hp; exact hq
    have hall : ∀ r ∈ rs, listed.getD r.i false = true := all rs [] [] (by simp) (fun r hr => (by cases hr))
    refine hQ a w M β ⟨by rw [← OS_congr rs (S := fun i => listed.getD i false) hall]; exact hi.st, by rw [← TS_congr rs (S := fun i => listed.getD i false) hall]; exact hi.tmps, hi.nd, hi.sz, hi.base, hi.top, fun r hr hs => by cases hs⟩
  intro fuel
  induction fuel with
  | zero =>
    intro listed a w M β hsz hdn hi hf
    have hrd : Region.ready .any ops listed = [] := by
      cases hr : Region.ready .any ops listed with
      | nil => rfl
      | cons j l =>
        exfalso
        have hj : j ∈ Region.ready .any ops listed := by rw [hr]; simp
        obtain ⟨h1, o, h2, _⟩ := mem_ready.1 hj
        have hlt : j < ops.size := (Array.getElem?_eq_some_iff.1 h2).1
        have hlt' : j < listed.size := by omega
        have : j ∈ (List.range ops.size).filter fun i => !listed.getD i false := by
          rw [List.mem_filter]
          refine ⟨by simpa using hlt, ?_⟩
          simp only [Array.getD_eq_getD_getElem?, Array.getElem?_eq_getElem hlt', Option.getD_some] at h1 ⊢
          simp [h1]
        rw [List.eq_nil_of_length_eq_zero (Nat.le_zero.1 hf)] at this
        cases this
    exact ⟨hrd, done listed a w M β hsz hi hrd⟩
  | succ fuel ih =>
    intro listed a w M β hsz hdn hi hf
    refine ⟨fun hrd => done listed a w M β hsz hi hrd, fun i hir => ?_⟩
    obtain ⟨h1, o, h2, h3⟩ := mem_ready.1 hir
    have hlt : i < ops.size := (Array.getElem?_eq_some_iff.1 h2).1
    have hlt' : i < listed.size := by omega
    have hSi : listed.getD i false = false := by
      simp only [Array.getD_eq_getD_getElem?, Array.getElem?_eq_getElem hlt', Option.getD_some] at h1 ⊢
      exact h1
    have hBi : ∀ q ∈ rs, q.i = i → ∀ b ∈ q.B, listed.getD b false = true := fun q hq e b hb => by
      obtain ⟨l, post, e2⟩ := split_mem hq
      obtain ⟨hr, _, _⟩ := h.ok l q post e2
      have hop := hr.op
      rw [e, h2] at hop
      cases hop
      rcases hr.bef b hb with g | ⟨c, hc, g1, g2⟩
      · obtain ⟨e', he, hbd, rfl⟩ := waits_spec g
        exact h3 e' he hbd
      · obtain ⟨e', he, hbd, ec⟩ := waits_spec g1
        have := h3 e' he hbd
        rw [ec] at this
        exact hdn c (by rw [e2]; simp [hc]) this b g2
    obtain ⟨r, hr, rfl⟩ := h.all i hlt
    obtain ⟨l, post, e2⟩ := split_mem hr
    have hnew : (fun k => listed.getD k false || k == r.i) = fun k => (listed.setIfInBounds r.i true).getD k false := by
      funext k
      by_cases hk : k = r.i
      · subst hk
        simp [hlt']
      · rw [getD_set_ne false (Ne.symm hk)]
        simp [hk]
    refine Inv.step h hE hn0 hdn e2 hSi (hBi r hr rfl) (fun t ht => hd r.o (by
      have := (h.ok l r post e2).1.op
      have := Array.mem_of_getElem? this
      simpa using this) t ht) hi fun a' w' M' β' hi' => ih _ a' w' M' β' (by simpa using hsz) ?_ (by rw [← hnew]; exact hi') ?_
    · intro q hq hs b hb
      have hs' : (listed.getD q.i false || q.i == r.i) = true := by rw [congrFun hnew q.i]; exact hs
      show (listed.setIfInBounds r.i true).getD b false = true
      rw [← congrFun hnew b]
      simp only [Bool.or_eq_true, beq_iff_eq] at hs' ⊢
      rcases hs' with g | g
      · exact .inl (hdn q hq g b hb)
      · exact .inl (hBi q hq g b hb)
    · have := filter_lt (l := List.range ops.size) (p := fun i => !listed.getD i false) (q := fun i => !(listed.setIfInBounds r.i true).getD i false) (x := r.i) (fun k hk => by
        rw [← congrFun hnew k] at hk
        simp only [Bool.not_or, Bool.and_eq_true] at hk
        exact hk.1) (by simpa using hlt) (by simp only [hSi]; rfl) (by rw [← congrFun hnew r.i]; simp)
      omega
theorem vcWalk_sound (hm : P.follows .mixedOrders = true) (hE : ∀ o, E.ok o) {pl : Plan} {K : CK} {id : Nat} {Q : Exit → Act → World → Prop} (hd : ∀ o ∈ ops.toList, ∀ t, o.dst = some t → t < N) (hp : okPlan ops [] pl = true)
    (h : vcWalk P ops.toList pl [] K T O n) (hr : Rel E N T O n a w) (hK : ∀ T O n a w, K T O n → Rel E N T O n a w → Q .normal a w) : (Code.region id ops true).wp P Q a w := by
  obtain ⟨M, β, hr⟩ := hr
  have hlt : ∀ o ob, lk O o = some ob → o < n := fun o ob hl => by
    obtain ⟨b, κ, hb, _⟩ := hr.st.objs _ _ hl
    by_cases hn : o < n
    · exact hn
    · rw [hr.ids o (by omega) (hE o)] at hb; cases hb
  obtain ⟨rs, Tf, Of, nf, k1, k2, k3, k4, k5, k6⟩ := chain (T0 := T) (O0 := O) pl [] [] [] T O n ⟨fun us o => by simp [hidX], fun q => by simp, fun t => rfl, fun o => rfl, hlt, fun p hp => (by cases hp), fun p hp => (by cases hp)⟩ (fun p hp => (by cases hp)) hp h
  have hrec : Recs P ops T O n nf rs := ⟨fun l r post e => by have := k2 l r post e; simpa using this, by simpa using k6⟩
  refine wp_region_any hm (draw_any hrec hE hr.le0 hd (fun a w M β hi => hK Tf Of nf a w k1 ⟨M, β, hi.st.lkeq (by simpa using k4), fun o ho _ => hi.top o ho, fun t v hl => hi.tmps t v (by rw [← hl]; simpa using (k3 t).symm), hi.nd, hi.sz, fun o ho => hi.base o (ho.resolve_right fun h => h (hE o)), Nat.le_trans hr.le0 k5⟩) _ _ _ _ M β (by simp) ?_ ?_ ?_)
  · intro r _ hs
    exfalso
    simp [Array.getElem?_replicate] at hs
    split at hs <;> simp at hs
  · have hS : ∀ i, (fun i => (Array.replicate ops.size false).getD i false) i = false := fun i => by
      simp only [Array.getD_eq_getD_getElem?, Array.getElem?_replicate]
      split <;> rfl
    refine ⟨by rw [OS_none hS]; exact hr.st.drew, by rw [TS_none hS]; exact hr.tmps, hr.nd, hr.sz, fun o ho => hr.base o (.inl ho), fun o ho => hr.ids o (by omega) (hE o), fun r hr' _ o h1 _ => ?_⟩
    obtain ⟨l, post, e⟩ := split_mem hr'
    have := (k2 l r post e).2.1
    exact hr.ids o (by omega) (hE o)
  · have := List.length_filter_le (fun i => !(Array.replicate ops.size false).getD i false) (List.range ops.size)
    simpa using this
end
end Go.Sy
/- One value told as another one: names turn; a nil slice is a row of its own that holds nothing. -/
namespace Go.Sy
open Go
set_option linter.unusedSimpArgs false
set_option linter.unusedVariables false
def AV.void : AV → Bool
  | .ints _ n xs => n == 0 && xs.isEmpty
  | .lst _ n es => n == 0 && es.isEmpty
  | .arr _ ps => ps.isEmpty
  | _ => false
def OB.void : OB → Bool
  | .row c => c.void && decide (1 ≤ c.esz)
  | _ => false
mutual
def matC (σ : List (Nat × Nat)) (Z : List Nat) (OF : OO) : AV → AV → Prop
  | .osl o p sz lo len, u => (match u with
    | .nils => p = [] ∧ lo = 0 ∧ len = 0 ∧ Z.contains o = true
    | u => idC σ o fun o' => AV.osl o' p sz lo len = u)
  | .agg ps, u => (match u with | .agg us => matsC σ Z OF ps us | _ => False)
  | .arr sz ps, u => (match u with | .arr sz' us => sz = sz' ∧ matsC σ Z OF ps us | _ => False)
  | .tup ps, u => (match u with | .tup us => matsC σ Z OF ps us | _ => False)
  | .lst sz n es, u => (match u with | .arr sz' us => sz = sz' ∧ viewC.views (viewC OF 9) us fun qs => n = qs.length ∧ es = qs | u => AV.lst sz n es = u)
  | .sl c, u => (match u with | .nils => c.void = true | .osl o p sz lo len => viewC OF 9 (.osl o p sz lo len) fun u' => AV.sl c = u' | u => AV.sl c = u)
  | .ref o p, u => idC σ o fun o' => AV.ref o' p = u
  | .mp o, u => idC σ o fun o' => AV.mp o' = u
  | .fn f ps, u => renC σ (.fn f ps) fun v' => v' = u
  | .int k n, u => AV.int k n = u
  | .bool b, u => AV.bool b = u
  | .str s, u => AV.str s = u
  | .nilp, u => AV.nilp = u
  | .ints k n xs, u => AV.ints k n xs = u
  | .nils, u => AV.nils = u
  | .pp c p, u => AV.pp c p = u
  | .nilf, u => AV.nilf = u
  | .nilm, u => AV.nilm = u
  | .junk, _ => False
def matsC (σ : List (Nat × Nat)) (Z : List Nat) (OF : OO) : List AV → List AV → Prop
  | [], us => us = []
  | v :: vs, us => (match us with | u :: us => matC σ Z OF v u ∧ matsC σ Z OF vs us | [] => False)
end
def NilOK (Z : List Nat) (β1 : Bmap) : Prop := ∀ o, Z.contains o = true → β1 o = some (0, 0)
structure Mat (σ : List (Nat × Nat)) (Z : List Nat) (OF : OO) (v u : AV) : Prop where
  csz : ∀ {M M1 : Pool} {β : Bmap}, Views M M1 β OF → v.csz = u.csz
  row : v.isRow = u.isRow
  cnt : v.isRow = true → ∀ {M M1 : Pool} {β : Bmap}, Views M M1 β OF → v.cnt = u.cnt
  esz : v.isRow = true → v.esz = u.esz
  rv : ∀ {M M1 : Pool} {β1 β : Bmap} {cs : List Value}, PLe M M1 → Views M M1 β OF → Agr σ β1 β → NilOK Z β1 → RV M β u cs → RV M1 β1 v cs
  vr : ∀ {M M1 : Pool} {β1 β : Bmap} {x : Value}, PLe M M1 → Views M M1 β OF → Agr σ β1 β → NilOK Z β1 → VR M β u x → VR M1 β1 v x
structure Mats (σ : List (Nat × Nat)) (Z : List Nat) (OF : OO) (vs us : List AV) : Prop where
  len : vs.length = us.length
  cszs : ∀ {M M1 : Pool} {β : Bmap}, Views M M1 β OF → AV.cszs vs = AV.cszs us
  all : ∀ {M M1 : Pool} {β : Bmap}, Views M M1 β OF → ∀ sz, (∀ p ∈ us, p.csz = sz) → (∀ p ∈ vs, p.csz = sz)
  rv : ∀ {M M1 : Pool} {β1 β : Bmap} {cs : List Value}, PLe M M1 → Views M M1 β OF → Agr σ β1 β → NilOK Z β1 → RVs M β us cs → RVs M1 β1 vs cs
  vr : ∀ {M M1 : Pool} {β1 β : Bmap} {xs : List Value}, PLe M M1 → Views M M1 β OF → Agr σ β1 β → NilOK Z β1 → VRs M β us xs → VRs M1 β1 vs xs
theorem Mat.of_ren {σ : List (Nat × Nat)} {Z : List Nat} {OF : OO} {v u : AV} (h : Ren σ v u) : Mat σ Z OF v u :=
  ⟨fun _ => h.csz.symm, h.row.symm, fun _ {_ _ _} _ => h.cnt.symm, fun _ => h.esz.symm, fun hM _ ha _ g => ((h.rv ha).2 g).mono hM (BLe.refl _), fun hM _ ha _ g => ((h.vr ha).2 g).mono hM (BLe.refl _)⟩
theorem Mat.of_renC {σ : List (Nat × Nat)} {Z : List Nat} {OF : OO} {v u : AV} (h : renC σ v fun v' => v' = u) : Mat σ Z OF v u := by
  obtain ⟨v', rfl, hr⟩ := renC_spec σ v _ h
  exact .of_ren hr
theorem rv_void {M : Pool} {β : Bmap} {c : AV} (h : c.void = true) : RV M β c [] := by
  cases c with
  | ints k n xs =>
    simp [AV.void] at h
    obtain ⟨rfl, rfl⟩ := h
    exact RV.ints (xs := []) k rfl
  | lst sz n es =>
    simp [AV.void] at h
    obtain ⟨rfl, rfl⟩ := h
    exact .lst .nil (by simp) rfl
  | arr sz ps =>
    simp [AV.void] at h
    subst h
    exact .arr .nil (by simp)
  | _ => cases h
theorem void_row {c : AV} (h : c.void = true) : c.isRow = true ∧ c.cnt = 0 := by
  cases c <;> simp_all [AV.void, AV.isRow, AV.cnt]
theorem views_spec {M M1 : Pool} {β : Bmap} {OF : OO} (hV : Views M M1 β OF) : ∀ (ps : List AV) (κ : List AV → Prop), viewC.views (viewC OF 9) ps κ → ∃ qs, κ qs ∧ qs.length = ps.length ∧ (∀ sz, (∀ p ∈ ps, p.csz = sz) → ∀ p ∈ qs, p.csz = sz) ∧ ∀ {cs : List Value}, RVs M β ps cs → RVs M1 nob qs cs
  | [], κ, h => ⟨[], h, rfl, fun _ h => h, fun g => by cases g; exact .nil⟩
  | p :: ps, κ, h => by
    obtain ⟨q, h, hq⟩ := hV _ _ h
    obtain ⟨qs, h, l, al, g⟩ := views_spec hV ps _ h
    refine ⟨_, h, by simp [l], fun sz hs => ?_, fun g' => ?_⟩
    · simp only [List.mem_cons, forall_eq_or_imp] at hs ⊢
      exact ⟨by rw [hq.csz]; exact hs.1, al sz hs.2⟩
    · cases g' with | cons g1 g2 => exact .cons (hq.rv g1) (g g2)
mutual
theorem matC_spec (σ : List (Nat × Nat)) (Z : List Nat) (OF : OO) : ∀ (v u : AV), matC σ Z OF v u → Mat σ Z OF v u
  | .osl o p sz lo len, u, h => by
    have gen : ∀ u, (idC σ o fun o' => AV.osl o' p sz lo len = u) → Mat σ Z OF (.osl o p sz lo len) u := fun u h => .of_renC (by simpa only [renC] using h)
    cases u with
    | nils =>
      simp only [matC] at h
      obtain ⟨rfl, rfl, rfl, h1⟩ := h
      have key : ∀ {M M1 : Pool} {β1 β : Bmap} {cs : List Value}, Agr σ β1 β → NilOK Z β1 → RV M β .nils cs → RV M1 β1 (.osl o [] sz 0 0) cs := fun ha hn g => by
        cases g
        exact .osl (hn _ h1) (Nat.le_refl _) (fun _ => by simp) (.inl rfl)
      exact ⟨fun _ => rfl, rfl, (fun h => by cases h), (fun h => by cases h), fun _ _ ha hn g => key ha hn g, fun _ _ ha hn g => .one rfl (key ha hn (g.one_inv rfl rfl))⟩
    | _ => exact gen _ (by simpa only [matC] using h)
  | .agg ps, u, h => by
    cases u with
    | agg us =>
      have hs := matsC_spec σ Z OF ps us (by simpa only [matC] using h)
      have key : ∀ {M M1 : Pool} {β1 β : Bmap} {cs : List Value}, PLe M M1 → Views M M1 β OF → Agr σ β1 β → NilOK Z β1 → RV M β (.agg us) cs → RV M1 β1 (.agg ps) cs := fun hM hV ha hn g => by
        cases g with | agg g => exact .agg (hs.rv hM hV ha hn g)
      refine ⟨fun hV => hs.cszs hV, rfl, (fun h => by cases h), (fun h => by cases h), key, fun hM hV ha hn g => ?_⟩
      obtain ⟨cs, rfl, g'⟩ := g.agg_inv rfl rfl
      exact .agg rfl (key hM hV ha hn g')
    | _ => simp only [matC] at h
  | .arr sz ps, u, h => by
    cases u with
    | arr sz' us =>
      simp only [matC] at h
      obtain ⟨rfl, h⟩ := h
      have hs := matsC_spec σ Z OF ps us h
      have key : ∀ {M M1 : Pool} {β1 β : Bmap} {cs : List Value}, PLe M M1 → Views M M1 β OF → Agr σ β1 β → NilOK Z β1 → RV M β (.arr sz us) cs → RV M1 β1 (.arr sz ps) cs := fun hM hV ha hn g => by
        cases g with | arr g hz => exact .arr (hs.rv hM hV ha hn g) (hs.all hV _ hz)
      refine ⟨fun _ => by simp only [AV.csz, hs.len], rfl, fun _ {_ _ _} _ => hs.len, fun _ => rfl, key, fun hM hV ha hn g => ?_⟩
      obtain ⟨cs, rfl, g'⟩ := g.agg_inv rfl rfl
      exact .agg rfl (key hM hV ha hn g')
    | _ => simp only [matC] at h
  | .tup ps, u, h => by
    cases u with
    | tup us =>
      have hs := matsC_spec σ Z OF ps us (by simpa only [matC] using h)
      refine ⟨fun _ => by simp only [AV.csz], rfl, (fun h => by cases h), (fun h => by cases h), (fun _ _ ha hn g => by cases g), fun hM hV ha hn g => ?_⟩
      cases g with
      | tup g => exact .tup (hs.vr hM hV ha hn g)
      | one hm _ => cases hm
      | agg _ g => cases g
    | _ => simp only [matC] at h
  | .lst sz n es, u, h => by
    cases u with
    | arr sz' us =>
      simp only [matC] at h
      obtain ⟨rfl, h⟩ := h
      have key : ∀ {M M1 : Pool} {β1 β : Bmap} {cs : List Value}, Views M M1 β OF → RV M β (.arr sz us) cs → RV M1 β1 (.lst sz n es) cs := fun hV g => by
        obtain ⟨qs, ⟨rfl, rfl⟩, hl, hz, hr⟩ := views_spec hV us _ h
        cases g with | arr g hz' => exact .lst (hr g) (hz _ hz') rfl
      have cnt : ∀ {M M1 : Pool} {β : Bmap}, Views M M1 β OF → n = us.length := fun hV => by
        obtain ⟨qs, ⟨rfl, rfl⟩, hl, hz, hr⟩ := views_spec hV us _ h
        exact hl
      refine ⟨fun hV => by simp only [AV.csz, cnt hV], rfl, fun _ {_ _ _} hV => cnt hV, fun _ => rfl, fun _ hV _ _ g => key hV g, fun _ hV _ _ g => ?_⟩
      obtain ⟨cs, rfl, g'⟩ := g.agg_inv rfl rfl
      exact .agg rfl (key hV g')
    | _ => exact .of_renC (by simpa only [matC, renC] using h)
  | .sl c, u, h => by
    cases u with
    | nils =>
      simp only [matC] at h
      have key : ∀ {M M1 : Pool} {β1 β : Bmap} {cs : List Value}, RV M β .nils cs → RV M1 β1 (.sl c) cs := fun g => by
        cases g
        exact .sl (cc := []) (rv_void h) (void_row h).1 (void_row h).2 (Nat.le_refl _) (.inl rfl)
      exact ⟨fun _ => rfl, rfl, (fun h => by cases h), (fun h => by cases h), fun _ _ _ _ g => key g, fun _ _ _ _ g => .one rfl (key (g.one_inv rfl rfl))⟩
    | osl o p sz lo len =>
      simp only [matC] at h
      have key : ∀ {M M1 : Pool} {β1 β : Bmap} {cs : List Value}, Views M M1 β OF → RV M β (.osl o p sz lo len) cs → RV M1 β1 (.sl c) cs := fun hV g => by
        obtain ⟨u', rfl, hv⟩ := hV _ _ h
        exact (hv.rv g).nid rfl _
      exact ⟨fun _ => rfl, rfl, (fun h => by cases h), (fun h => by cases h), fun _ hV _ _ g => key hV g, fun _ hV _ _ g => .one rfl (key hV (g.one_inv rfl rfl))⟩
    | _ => exact .of_renC (by simpa only [matC, renC] using h)
  | .ref o p, u, h => .of_renC (by simpa only [matC, renC] using h)
  | .mp o, u, h => .of_renC (by simpa only [matC, renC] using h)
  | .fn f ps, u, h => .of_renC (by simpa only [matC] using h)
  | .int k n, u, h => .of_renC (by simpa only [matC, renC] using h)
  | .bool b, u, h => .of_renC (by simpa only [matC, renC] using h)
  | .str s, u, h => .of_renC (by simpa only [matC, renC] using h)
  | .nilp, u, h => .of_renC (by simpa only [matC, renC] using h)
  | .ints k n xs, u, h => .of_renC (by simpa only [matC, renC] using h)
  | .nils, u, h => .of_renC (by simpa only [matC, renC] using h)
  | .pp c p, u, h => .of_renC (by simpa only [matC, renC] using h)
  | .nilf, u, h => .of_renC (by simpa only [matC, renC] using h)
  | .nilm, u, h => .of_renC (by simpa only [matC, renC] using h)
  | .junk, u, h => by simp only [matC] at h
theorem matsC_spec (σ : List (Nat × Nat)) (Z : List Nat) (OF : OO) : ∀ (vs us : List AV), matsC σ Z OF vs us → Mats σ Z OF vs us
  | [], us, h => by
    simp only [matsC] at h
    subst h
    exact ⟨rfl, fun _ => rfl, fun _ _ h => h, (fun _ _ _ _ g => by cases g; exact .nil), (fun _ _ _ _ g => by cases g; exact .nil)⟩
  | v :: vs, us, h => by
    cases us with
    | nil => simp only [matsC] at h
    | cons u us =>
      simp only [matsC] at h
      have h1 := matC_spec σ Z OF v u h.1
      have h2 := matsC_spec σ Z OF vs us h.2
      refine ⟨by simp [h2.len], fun hV => by simp only [AV.cszs, h1.csz hV, h2.cszs hV], fun hV sz hz => ?_, fun hM hV ha hn g => ?_, fun hM hV ha hn g => ?_⟩
      · simp only [List.mem_cons, forall_eq_or_imp] at hz ⊢
        exact ⟨by rw [h1.csz hV]; exact hz.1, h2.all hV _ hz.2⟩
      · cases g with | cons g1 g2 => exact .cons (h1.rv hM hV ha hn g1) (h2.rv hM hV ha hn g2)
      · cases g with | cons g1 g2 => exact .cons (h1.vr hM hV ha hn g1) (h2.vr hM hV ha hn g2)
end
def matOB (σ : List (Nat × Nat)) (Z : List Nat) (OF : OO) : OB → OB → Prop
  | .var c, ob => (match ob with | .var d => matC σ Z OF c d | _ => False)
  | .row c, ob => (match ob with | .row d => matC σ Z OF c d | _ => False)
  | .map ds, ob => (match ob with | .map es => ds = es | _ => False)
  | .gm f ks vs, ob => (match ob with | .gm g ls us => f = g ∧ ks = ls ∧ matsC σ Z OF vs us | _ => False)
theorem matOB_spec {σ : List (Nat × Nat)} {Z : List Nat} {OF : OO} {ob ob' : OB} (h : matOB σ Z OF ob ob') {M M1 : Pool} {β1 β : Bmap} {b κ : Nat} {w : World} (hM : PLe M M1) (hV : Views M M1 β OF) (ha : Agr σ β1 β) (hn : NilOK Z β1) (g : OR M β b κ w ob') : OR M1 β1 b κ w ob := by
  cases ob with
  | var c =>
    cases ob' with
    | var d =>
      have hm := matC_spec σ Z OF c d h
      obtain ⟨h1, h2, cs, e, fz, h3, h4, h5⟩ := g
      exact ⟨h1, by rw [hm.csz hV]; exact h2, cs, e, fz, h3, h4, hm.rv hM hV ha hn h5⟩
    | _ => exact h.elim
  | row c =>
    cases ob' with
    | row d =>
      have hm := matC_spec σ Z OF c d h
      obtain ⟨h1, h2, h3⟩ := g
      have hr : c.isRow = true := by rw [hm.row]; exact h1
      refine ⟨hr, by rw [hm.esz hr]; exact h2, ?_⟩
      rw [hm.cnt hr hV, hm.esz hr]
      rcases h3 with ⟨k1, k2, k3⟩ | ⟨k1, cc, sp, e, fz, k2, k3, k4, k5⟩
      · exact .inl ⟨k1, k2, hm.rv hM hV ha hn k3⟩
      · exact .inr ⟨k1, cc, sp, e, fz, k2, k3, hm.rv hM hV ha hn k4, k5⟩
    | _ => exact h.elim
  | map ks =>
    cases ob' with
    | map es =>
      obtain rfl : ks = es := h
      exact g
    | _ => exact h.elim
  | gm f ks vs =>
    cases ob' with
    | gm g' ls us =>
      obtain ⟨rfl, rfl, h⟩ := h
      have hm := matsC_spec σ Z OF vs us h
      obtain ⟨h1, es, cl, h3, h4, h5, h6⟩ := g
      exact ⟨h1, es, cl, h3, h4, hm.vr hM hV ha hn h5, h6⟩
    | _ => exact h.elim
def homeC (σ : List (Nat × Nat)) (Z : List Nat) (OF : OO) (O : OO) (o : Nat) (ob : OB) : Prop := match lk σ o with
  | some o' => objC O o' fun ob' => matOB σ Z OF ob ob'
  | none => ob.void = true ∧ Z.contains o = true
/-- The state holds just these objects, by these names; of a nil slice, nothing. -/
def holdsN (O : OO) (σ : List (Nat × Nat)) (Z : List Nat) (OF : OO) : OO → Prop
  | [] => True
  | (o, ob) :: O1 => homeC σ Z OF O o ob ∧ holdsN O σ Z OF O1
theorem holdsN_spec {O : OO} {σ : List (Nat × Nat)} {Z : List Nat} {OF : OO} : ∀ {O1 : OO}, holdsN O σ Z OF O1 → ∀ p ∈ O1, (∃ o' ob', lk σ p.1 = some o' ∧ lk O o' = some ob' ∧ matOB σ Z OF p.2 ob') ∨ (p.2.void = true ∧ Z.contains p.1 = true) := by
  intro O1
  induction O1 with
  | nil => intro _ p hp; cases hp
  | cons q O1 ih =>
    intro h p hp
    obtain ⟨o, ob⟩ := q
    obtain ⟨h1, h2⟩ := h
    rcases List.mem_cons.1 hp with rfl | hp
    · unfold homeC at h1
      split at h1
      · rename_i o' e
        obtain ⟨ob', hl', h1⟩ := objC_spec h1
        exact .inl ⟨o', ob', e, hl', h1⟩
      · exact .inr ⟨h1.1, h1.2⟩
    · exact ih h2 p hp
end Go.Sy
