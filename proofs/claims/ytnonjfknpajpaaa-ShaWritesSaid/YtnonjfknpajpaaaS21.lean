/- Calls: the rule. -/
import Derived.Test.YtnonjfknpajpaaaS20
namespace Go.Sy
open Go
set_option linter.unusedSimpArgs false
set_option linter.unusedVariables false
open Classical in
/-- What the callee may take for granted: the pool, and (if it borrows) own memory that the caller keeps. -/
noncomputable def poolOf (bor : Bool) (M : Pool) (β : Bmap) (O2 : OO) (w : World) : Pool := fun b i =>
  if bor = true ∧ ∃ o ob κ, lk O2 o = some ob ∧ β o = some (b, κ) ∧ κ ≠ 0 then w.cell? ⟨b, i, none⟩ else M b i
section
variable {E : Env} {N : Nat} {M M' M1 : Pool} {β β' β1 : Bmap} {T : TT} {O O' O1 O2 : OO} {n : Nat} {a : Act} {w w' : World} {P : Program} {o : Oper} {K : KK}

theorem argsOK_spec {bor : Bool} {σ : List (Nat × Nat)} {M1 : Pool} {β1 : Bmap} (ha : Agr σ β1 β) (hM : PLe M M1) (hv : bor = true → ∀ v κ, viewC O2 4 v κ → ∃ c, κ c ∧ Vw M M1 β v c) :
    ∀ {as cs : List AV} {xs : List Value}, argsOK bor σ O2 as cs → VRs M β as xs → VRs M1 β1 cs xs := by
  intro as
  induction as with
  | nil => intro cs xs h hx; cases cs with | nil => cases hx; exact .nil | cons _ _ => exact h.elim
  | cons a as ih =>
    intro cs xs h hx
    cases cs with
    | nil => exact h.elim
    | cons c cs =>
      cases hx with
      | cons h1 h2 =>
        refine .cons ?_ (ih h.2 h2)
        rcases h.1 with h | ⟨hb, hn, h⟩
        · obtain ⟨c', e, hr⟩ := renC_spec σ _ _ h
          subst e
          exact ((hr.vr ha).2 h1).mono hM (BLe.refl _)
        · obtain ⟨c', e, hv'⟩ := hv hb _ _ h
          subst e
          exact (hv'.vr h1).nid hn _
theorem lk_swap {τ : List (Nat × Nat)} {o o' : Nat} (hn : (τ.map (·.1)).Nodup) (h : lk (τ.map Prod.swap) o' = some o) : lk τ o = some o' := by
  have := lk_mem h
  obtain ⟨p, hp, e⟩ := List.mem_map.1 this
  obtain ⟨p1, p2⟩ := p
  simp only [Prod.swap, Prod.mk.injEq] at e
  obtain ⟨rfl, rfl⟩ := e
  exact lk_of_mem hn hp
theorem lk_swap' {τ : List (Nat × Nat)} {o o' : Nat} (hn : (τ.map (·.2)).Nodup) (h : lk τ o = some o') : lk (τ.map Prod.swap) o' = some o := by
  refine lk_of_mem (by simpa [List.map_map, Function.comp_def] using hn) ?_
  exact List.mem_map.2 ⟨_, lk_mem h, rfl⟩

theorem call_run (hr : RelAt E N M β T O n a w) {f : FuncId} {args : List AV} {xs : List Value} {κ : AV → OO → Nat → Prop} (hK : ∀ v O' n', κ v O' n' → ∀ o, n ≤ o → o < n' → E.ok o) (hv : VRs M β args xs) (h : CallP P f args O n κ) :
    Calls P f xs.toArray w fun e w' => ∃ x r O' n' M' β', e = .returned x ∧ κ r O' n' ∧ VR M' β' r x ∧ RelAt E N M' β' T O' n' a w' := by
  obtain ⟨bor, σ, τ, A, O1, O2, r, O', n', ⟨_, hf⟩, hO2, hA, hH, hk1, hn1, hn2, hnn, ht1, ht2, hhome, hkt, hbor, h⟩ := h
  obtain ⟨O2', e, hl2⟩ := rmsO_spec hO2
  subst e
  have hH := holdsO_spec hH
  have hns : (σ.map (·.1)).Nodup := by rw [hk1]; exact hn1
  let β1 : Bmap := fun o => match lk σ o with | some o' => β o' | none => none
  let M1 : Pool := poolOf bor M β O2' w
  have hβ1 : ∀ o o', lk σ o = some o' → β1 o = β o' := fun o o' h => by show (match lk σ o with | some o' => β o' | none => none) = _; rw [h]
  have hl2' : ∀ o ob, lk O2' o = some ob → lk O o = some ob ∧ o ∉ σ.map (·.2) := fun o ob h => by
    rw [hl2] at h
    split at h
    · cases h
    · rename_i e; exact ⟨h, e⟩
  have hM : PLe M M1 := fun b i v hm => by
    show poolOf bor M β O2' w b i = some v
    unfold poolOf
    rw [if_neg]
    · exact hm
    · rintro ⟨_, o, ob, κ, h1, h2, h3⟩
      have := (hr.st.mine o ob b κ (hl2' _ _ h1).1 h2 h3).1 i
      rw [this] at hm; cases hm
  have hMf : bor = false → M1 = M := fun hb => by
    funext b i
    show poolOf bor M β O2' w b i = _
    unfold poolOf
    rw [if_neg]
    rintro ⟨h, _⟩
    rw [hb] at h; cases h
  have hO1 : ∀ o ob, lk O1 o = some ob → ∃ o' ob', lk σ o = some o' ∧ lk O o' = some ob' ∧ RenB σ ob ob' := fun o ob h => hH _ (lk_mem h)
  have hst1 : St ⟨w, ownOf O1 β1, M1, nob, 0, fun _ => True⟩ M1 β1 O1 w := by
    refine ⟨fun b i v hm => ?_, fun _ _ _ h => h, fun _ _ _ h => .inl h, fun o ob hl => ?_, fun o ob b κ hl hb hk => ⟨fun i => ?_, .inl ⟨o, ob, κ, hl, hb, hk⟩⟩, fun o o' ob ob' b κ κ' hl hl' hb hb' hk hk' => ?_, Nat.le_refl _, fun _ _ _ => rfl, rfl, rfl, rfl⟩
    · have hm : poolOf bor M β O2' w b i = some v := hm
      unfold poolOf at hm
      split at hm
      · exact hm
      · exact hr.st.pool _ _ _ hm
    · obtain ⟨o', ob', h1, h2, h3⟩ := hO1 _ _ hl
      obtain ⟨b, κ, hb, hor⟩ := hr.st.objs _ _ h2
      exact ⟨b, κ, by rw [hβ1 _ _ h1]; exact hb, ((h3 hβ1).2 hor).mono2 hM (BLe.refl _) fun _ => rfl⟩
    · obtain ⟨o', ob', h1, h2, h3⟩ := hO1 _ _ hl
      rw [hβ1 _ _ h1] at hb
      show poolOf bor M β O2' w b i = none
      unfold poolOf
      rw [if_neg]
      · exact (hr.st.mine _ _ _ _ h2 hb hk).1 i
      · rintro ⟨_, o2, ob2, κ2, g1, g2, g3⟩
        obtain ⟨g4, g5⟩ := hl2' _ _ g1
        have := hr.st.inj _ _ _ _ _ _ _ g4 h2 g2 hb g3 hk
        subst this
        exact g5 (List.mem_map.2 ⟨_, lk_mem h1, rfl⟩)
    · obtain ⟨p, ob1, h1, h2, h3⟩ := hO1 _ _ hl
      obtain ⟨p', ob1', h1', h2', h3'⟩ := hO1 _ _ hl'
      rw [hβ1 _ _ h1] at hb
      rw [hβ1 _ _ h1'] at hb'
      have := hr.st.inj _ _ _ _ _ _ _ h2 h2' hb hb' hk hk'
      subst this
      have e1 := lk_swap' hn2 h1
      have e2 := lk_swap' hn2 h1'
      rw [e1] at e2
      exact Option.some.inj e2
  have hargs : VRs M1 β1 A xs := argsOK_spec hβ1 hM (fun hb => viewC_spec hr.st hM (fun o ob h => (hl2' o ob h).1) (fun o ob b κ h1 h2 h3 i v h4 => by
    show poolOf bor M β O2' w b i = some v
    unfold poolOf
    rw [if_pos ⟨hb, o, ob, κ, h1, h2, h3⟩]
    exact h4) 4) hA hv
  have hids1 : ∀ o, lk O1 o = none → β1 o = none := fun o h => by
    rw [lk_none] at h
    have : lk σ o = none := by rw [lk_none, hk1]; exact h
    show (match lk σ o with | some o' => β o' | none => none) = _
    rw [this]
  refine Calls.mono (hf w M1 β1 xs hids1 hst1 hargs) ?_
  rintro e w' ⟨x, M', β', rfl, hrv, hst', hvar⟩
  have hhome := homesOK_spec hhome
  obtain ⟨r', h, hrr⟩ := renC_spec τ r _ h
  obtain ⟨L, hκ, hL⟩ := renOO_spec h
  have hok := hK _ _ _ hκ
  let β2 : Bmap := fun i => match lk (τ.map Prod.swap) i with | some o => β' o | none => β i
  have hβ2 : Agr τ β' β2 := fun o o' h => by
    show _ = (match lk (τ.map Prod.swap) o' with | some o => β' o | none => β o')
    rw [lk_swap' ht2 h]
  have homes : ∀ o o', lk τ o = some o' → (n ≤ o' ∧ o' < n') ∨ (lk σ o = some o' ∧ β' o = β o') := fun o o' h => by
    have : o ∈ keys O' := by rw [← hkt]; exact List.mem_map.2 ⟨_, lk_mem h, rfl⟩
    obtain ⟨p, hp, e⟩ := List.mem_map.1 this
    obtain ⟨p1, p2⟩ := p
    simp only at e; subst e
    obtain ⟨o2, g1, g2⟩ := hhome _ hp
    rw [h] at g1; cases g1
    refine g2.imp id ?_
    rintro ⟨c, g3, g4⟩
    exact ⟨g4, by rw [hvar _ _ g3, hβ1 _ _ g4]⟩
  have hbl : BLe β β2 := fun i x hb => by
    show (match lk (τ.map Prod.swap) i with | some o => β' o | none => β i) = some x
    split
    · rename_i o e
      rcases homes _ _ (lk_swap ht1 e) with ⟨g, g2⟩ | ⟨_, g⟩
      · rw [hr.ids _ g (hok _ g g2)] at hb; cases hb
      · rw [g]; exact hb
    · exact hb
  have hlow : ∀ i, (i < n ∨ ¬ E.ok i) → β2 i = β i := fun i hi => by
    show (match lk (τ.map Prod.swap) i with | some o => β' o | none => β i) = β i
    split
    · rename_i o e
      rcases homes _ _ (lk_swap ht1 e) with ⟨g, g2⟩ | ⟨_, g⟩
      · rcases hi with hi | hi
        · omega
        · exact absurd (hok _ g g2) hi
      · exact g
    · rfl
  have hids2 : ∀ o, n' ≤ o → E.ok o → β2 o = none := fun i hi hk => by
    show (match lk (τ.map Prod.swap) i with | some o => β' o | none => β i) = none
    split
    · rename_i o e
      rcases homes _ _ (lk_swap ht1 e) with ⟨_, g⟩ | ⟨_, g⟩
      · omega
      · rw [g]; exact hr.ids _ (by omega) hk
    · exact hr.ids _ (by omega) hk
  have hnO' : (O'.map (·.1)).Nodup := by have := ht1; rw [hkt] at this; exact this
  have ownO : ∀ b, ownOf O1 β1 b → ∃ o ob κ, lk O o = some ob ∧ β o = some (b, κ) ∧ κ ≠ 0 ∧ o ∈ σ.map (·.2) := by
    rintro b ⟨o, ob, κ, h1, h2, h3⟩
    obtain ⟨o', ob', g1, g2, _⟩ := hO1 _ _ h1
    rw [hβ1 _ _ g1] at h2
    exact ⟨o', ob', κ, g2, h2, h3, List.mem_map.2 ⟨_, lk_mem g1, rfl⟩⟩
  have mineO : ∀ b, ownOf O1 β1 b → (∀ i, M b i = none) ∧ (E.own b ∨ E.w0.heap.size ≤ b) := fun b hb => by
    obtain ⟨o, ob, κ, h1, h2, h3, _⟩ := ownO b hb
    exact hr.st.mine _ _ _ _ h1 h2 h3
  -- the pool behind the call
  let M2 : Pool := if bor = true then M else M'
  have hM2' : ∀ b i v, M2 b i = some v → M' b i = some v := fun b i v hm => by
    show M' b i = some v
    have hm : (if bor = true then M else M') b i = some v := hm
    split at hm
    · exact hst'.sub _ _ _ (hM _ _ _ hm)
    · exact hm
  have hMM2 : PLe M M2 := fun b i v hm => by
    show (if bor = true then M else M') b i = some v
    split
    · exact hm
    · exact hst'.sub _ _ _ (hM _ _ _ hm)
  have lifR : VR M2 β' r x := by
    by_cases hb : bor = true
    · exact pf_aux.2.2.1 hrv (hbor hb).1 _
    · have : M2 = M' := by show (if bor = true then M else M') = _; rw [if_neg hb]
      rw [this]; exact hrv
  have lifO : ∀ p ∈ O', ∀ b κ, OR M' β' b κ w' p.2 → OR M2 β' b κ w' p.2 := fun p hp b κ h => by
    by_cases hb : bor = true
    · exact h.pf ((hbor hb).2 p hp) _
    · have : M2 = M' := by show (if bor = true then M else M') = _; rw [if_neg hb]
      rw [this]; exact h
  have hLlk : ∀ i ob, lk L i = some ob → ∃ o ob', lk O' o = some ob' ∧ (o, ob') ∈ O' ∧ lk τ o = some i ∧ RenB τ ob' ob := fun i ob h => by
    obtain ⟨p, hp, g1, g2⟩ := hL _ (lk_mem h)
    exact ⟨p.1, p.2, lk_of_mem hnO' hp, hp, g1, g2⟩
  have inO2 : ∀ i ob b κ, lk O2' i = some ob → β i = some (b, κ) → κ ≠ 0 → b < w.heap.size ∧ ¬ ownOf O1 β1 b := fun i ob b κ h1 h2 h3 => by
    obtain ⟨g1, g2⟩ := hl2' _ _ h1
    refine ⟨?_, fun hown => ?_⟩
    · obtain ⟨b', κ', g3, g4⟩ := hr.st.objs _ _ g1
      rw [h2] at g3; cases g3
      exact g4.lt h3
    · obtain ⟨o, ob', κ', g3, g4, g5, g6⟩ := ownO b hown
      have := hr.st.inj _ _ _ _ _ _ _ g1 g3 h2 g4 h3 g5
      subst this
      exact g2 g6
  -- an object behind the call
  have obj2 : ∀ i ob, lk (L ++ O2') i = some ob → (∃ o ob', lk O' o = some ob' ∧ (o, ob') ∈ O' ∧ lk τ o = some i ∧ RenB τ ob' ob) ∨ (lk O2' i = some ob ∧ ∀ b κ, β i = some (b, κ) → β2 i = some (b, κ)) := fun i ob h => by
    rw [lk_append] at h
    split at h
    · rename_i x e
      cases h
      exact .inl (hLlk _ _ e)
    · exact .inr ⟨h, fun b κ hb => hbl _ _ hb⟩
  have hstE : St E M2 β2 (L ++ O2') w' := by
    refine ⟨fun b i v hm => hst'.pool _ _ _ (hM2' _ _ _ hm), fun b i v hm => hMM2 _ _ _ (hr.st.sub _ _ _ hm), fun b i v hm => ?_, fun i ob hl => ?_, fun i ob b κ hl hb hk => ?_, fun i j ob ob' b κ κ' hl hl' hb hb' hk hk' => ?_,
      Nat.le_trans hr.st.size hst'.size, fun b hb hn => ?_, by rw [hst'.os]; exact hr.st.os, by rw [hst'.tape]; exact hr.st.tape, by rw [hst'.output]; exact hr.st.output⟩
    · by_cases hbo : bor = true
      · have : M2 = M := by show (if bor = true then M else M') = _; rw [if_pos hbo]
        rw [this] at hm
        exact hr.st.only _ _ _ hm
      · rcases hst'.only _ _ _ (hM2' _ _ _ hm) with h | h | h
        · have h : M1 b i = some v := h
          rw [hMf (by simpa using hbo)] at h
          exact hr.st.only _ _ _ h
        · exact .inr (mineO b h).2
        · exact .inr (.inr (Nat.le_trans hr.st.size h))
    · rcases obj2 _ _ hl with ⟨o, ob', h1, h2, h3, h4⟩ | ⟨h1, h2⟩
      · obtain ⟨b, κ, g1, g2⟩ := hst'.objs _ _ h1
        exact ⟨b, κ, by rw [← hβ2 _ _ h3]; exact g1, (h4 hβ2).1 (lifO _ h2 _ _ g2)⟩
      · obtain ⟨b, κ, g1, g2⟩ := hr.st.objs _ _ (hl2' _ _ h1).1
        refine ⟨b, κ, h2 _ _ g1, g2.mono2 hMM2 hbl fun hk => ?_⟩
        obtain ⟨g3, g4⟩ := inO2 _ _ _ _ h1 g1 hk
        exact hst'.keep b g3 g4
    · rcases obj2 _ _ hl with ⟨o, ob', h1, h2, h3, h4⟩ | ⟨h1, h2⟩
      · rw [← hβ2 _ _ h3] at hb
        obtain ⟨g1, g2⟩ := hst'.mine _ _ _ _ h1 hb hk
        refine ⟨fun j => ?_, ?_⟩
        · cases hm : M2 b j with
          | none => rfl
          | some v => have := hM2' _ _ _ hm; rw [g1] at this; cases this
        · rcases g2 with g2 | g2
          · exact (mineO b g2).2
          · exact .inr (Nat.le_trans hr.st.size g2)
      · obtain ⟨b', κ', g1, _⟩ := hr.st.objs _ _ (hl2' _ _ h1).1
        have := h2 _ _ g1
        rw [hb] at this; cases this
        obtain ⟨g3, g4⟩ := hr.st.mine _ _ _ _ (hl2' _ _ h1).1 g1 hk
        refine ⟨fun j => ?_, g4⟩
        cases hm : M2 b j with
        | none => rfl
        | some v =>
          exfalso
          by_cases hbo : bor = true
          · have e : M2 = M := by show (if bor = true then M else M') = _; rw [if_pos hbo]
            rw [e, g3] at hm; cases hm
          · obtain ⟨g5, g6⟩ := inO2 _ _ _ _ h1 g1 hk
            rcases hst'.only _ _ _ (hM2' _ _ _ hm) with h | h | h
            · have h : M1 b j = some v := h
              rw [hMf (by simpa using hbo), g3] at h; cases h
            · exact g6 h
            · have h : w.heap.size ≤ b := h
              omega
    · have far : ∀ o ob' i ob2 b κ κ', lk O' o = some ob' → β' o = some (b, κ) → κ ≠ 0 → lk O2' i = some ob2 → β i = some (b, κ') → κ' ≠ 0 → False := fun o ob' i ob2 b κ κ' h1 h2 h3 h4 h5 h6 => by
        obtain ⟨g5, g6⟩ := inO2 _ _ _ _ h4 h5 h6
        rcases (hst'.mine _ _ _ _ h1 h2 h3).2 with h | h
        · exact g6 h
        · have h : w.heap.size ≤ b := h
          omega
      have back : ∀ i ob b κ, lk O2' i = some ob → (∀ b κ, β i = some (b, κ) → β2 i = some (b, κ)) → β2 i = some (b, κ) → β i = some (b, κ) := fun i ob b κ h1 h2 h3 => by
        obtain ⟨b', κ', g1, _⟩ := hr.st.objs _ _ (hl2' _ _ h1).1
        have := h2 _ _ g1
        rw [h3] at this; cases this
        exact g1
      rcases obj2 _ _ hl with ⟨o, ob1, h1, h2, h3, h4⟩ | ⟨h1, h2⟩
      · rw [← hβ2 _ _ h3] at hb
        rcases obj2 _ _ hl' with ⟨o', ob1', h1', h2', h3', h4'⟩ | ⟨h1', h2'⟩
        · rw [← hβ2 _ _ h3'] at hb'
          have := hst'.inj _ _ _ _ _ _ _ h1 h1' hb hb' hk hk'
          subst this
          rw [h3] at h3'
          exact Option.some.inj h3'
        · exact (far _ _ _ _ _ _ _ h1 hb hk h1' (back _ _ _ _ h1' h2' hb') hk').elim
      · have hb := back _ _ _ _ h1 h2 hb
        rcases obj2 _ _ hl' with ⟨o', ob1', h1', h2', h3', h4'⟩ | ⟨h1', h2'⟩
        · rw [← hβ2 _ _ h3'] at hb'
          exact (far _ _ _ _ _ _ _ h1' hb' hk' h1 hb hk).elim
        · exact hr.st.inj _ _ _ _ _ _ _ (hl2' _ _ h1).1 (hl2' _ _ h1').1 hb (back _ _ _ _ h1' h2' hb') hk hk'
    · rw [← hr.st.keep b hb hn]
      refine hst'.keep b (Nat.lt_of_lt_of_le hb hr.st.size) fun hown => ?_
      rcases (mineO b hown).2 with h | h
      · exact hn h
      · omega
  exact ⟨x, r', L ++ O2', n', M2, β2, rfl, hκ, (hrr.vr hβ2).1 lifR, hstE, hids2, fun t v hl => by obtain ⟨y, hy, hvy⟩ := hr.tmps t v hl; exact ⟨y, hy, hvy.mono hMM2 hbl⟩, hr.nd, hr.sz, fun o ho => by rw [← hr.base o ho]; exact hlow o (ho.imp (fun ho => Nat.lt_of_lt_of_le ho hr.le0) id), Nat.le_trans hr.le0 hnn⟩
theorem CallP.enters {f : FuncId} {args : List AV} {κ : AV → OO → Nat → Prop} (h : CallP P f args O n κ) : Enters P f := by
  obtain ⟨bor, σ, τ, A, O1, O2, r, O', n', ⟨he, _⟩, _⟩ := h
  exact he
theorem s_call (hK : ∀ v O' n', K v O' n' → ∀ o, n ≤ o → o < n' → E.ok o) {c : Call} {x : Operand} (ho : o.op = .call c) (hc : c.callee = .value x)
    (h : evC T x fun fv => evsC T c.args.toList fun vs => (match fv with | .fn (.func g) ps => CallP P g (vs ++ ps) O n fun r O' n' => K r O' n' | _ => False))
    (hr : RelAt E N M β T O n a w) : OpS P o E N T K a w := by
  obtain ⟨fv, h, hfv⟩ := evC_spec hr h
  obtain ⟨vs, h, hvs⟩ := evsC_spec hr h
  cases fv with
  | fn f ps =>
    cases f with
    | func g =>
      obtain ⟨ys, e, hps⟩ := hfv.fn_inv
      have hall : VRs M β (vs ++ ps) (c.args.toList.map a.eval ++ ys) := by
        clear h e
        revert hvs
        generalize c.args.toList.map a.eval = zs
        intro hvs
        induction vs generalizing zs with
        | nil => cases hvs; exact hps
        | cons v vs ih => cases hvs with | cons h1 h2 => exact .cons h1 (ih _ h2)
      obtain ⟨fn, h1, h2, h3⟩ := h.enters
      intro next Q hn
      unfold Oper.wp
      have hrun : (execOp a.eval o).run P w = .ok (.enter g (c.args.toList.map a.eval ++ ys).toArray) w := by
        simp only [execOp, ho, resolve, hc, e, Deferred.ofValue, Sem.run_bind, Sem.run_pure, Result.andThen_ok, invoke, callFunc, run_program, h1, h2, h3, Bool.false_eq_true, if_false]
        simp
        try rfl
      rw [hrun, Oper.upon_enter]
      refine Calls.mono (call_run hr hK hall h) ?_
      rintro _ w' ⟨x, r, O', n', M', β', rfl, hk, hv, hr'⟩
      exact hn _ _ _ _ _ _ _ hk hr' hv
    | _ => exact h.elim
  | _ => exact h.elim
end
end Go.Sy
