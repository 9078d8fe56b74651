/- A range over a function: what is run, what it asks, what it leaves. -/
import Derived.Test.YtclkaibkepaebaaGG
import Derived.RangeFuncRecord
namespace Go.Sy
open Go
set_option linter.unusedSimpArgs false
set_option linter.unusedVariables false
section
variable {E : Env} {N : Nat} {M M' M1 : Pool} {β β' β1 β2 : Bmap} {T T' : TT} {O O' O1 O2 : OO} {n m : Nat} {a : Act} {w w' : World} {P : Program} {o : Oper}

/-- Something that is run: what is to be so, that it ends as is wanted. -/
abbrev Runner := List Value → World → (Ending → World → Prop) → Prop
/-- What is run keeps a contract. -/
def RunC (R : Runner) (args : List AV) (O : OO) (r : AV) (O' : OO) : Prop :=
  ∀ (w : World) (M : Pool) (β : Bmap) (xs : List Value), (∀ o, lk O o = none → β o = none) → St ⟨w, ownOf O β, M, nob, 0, fun _ => True⟩ M β O w → VRs M β args xs →
    R xs w fun e w' => ∃ x M' β', e = .returned x ∧ VR M' β' r x ∧ St ⟨w, ownOf O β, M, nob, 0, fun _ => True⟩ M' β' O' w' ∧ (∀ o c, lk O o = some (.var c) → β' o = β o)
/-- What is run, out of a state: as CallP. -/
def RunP (R : Runner) (args : List AV) (O : OO) (n : Nat) (κ : AV → OO → Nat → Prop) : Prop :=
  ∃ (bor : Bool) (σ τ : List (Nat × Nat)) (A : List AV) (O1 O2 : OO) (r : AV) (O' : OO) (n' : Nat), RunC R A O1 r O' ∧ (rmsO O (σ.map (·.2)) fun O' => O' = O2) ∧ argsOK bor σ O2 args A ∧ holdsO O σ O1 ∧
    (σ.map (·.1) = keys O1) ∧ (keys O1).Nodup ∧ (σ.map (·.2)).Nodup ∧
    n ≤ n' ∧ (τ.map (·.1)).Nodup ∧ (τ.map (·.2)).Nodup ∧ homesOK σ τ O1 n n' O' ∧ (τ.map (·.1) = keys O') ∧
      (bor = true → r.pf = true ∧ ∀ p ∈ O', p.2.pf = true) ∧
      renC τ r fun r' => renOO τ O' fun L => κ r' (L ++ O2) n'
theorem run_gen {R : Runner} (hmono : ∀ (xs : List Value) (w : World) (Q Q' : Ending → World → Prop), (∀ e w', Q e w' → Q' e w') → R xs w Q → R xs w Q') (hr : RelAt E N M β T O n a w) {args : List AV} {xs : List Value} {κ : AV → OO → Nat → Prop} (hK : ∀ v O' n', κ v O' n' → ∀ o, n ≤ o → o < n' → E.ok o) (hv : VRs M β args xs) (h : RunP R args O n κ) :
    R xs w fun e w' => ∃ x r O' n' M' β', e = .returned x ∧ κ r O' n' ∧ VR M' β' r x ∧ RelAt E N M' β' T O' n' a w' := by
  obtain ⟨bor, σ, τ, A, O1, O2, r, O', n', hf, hO2, hA, hH, hk1, hn1, hn2, hnn, ht1, ht2, hhome, hkt, hbor, h⟩ := h
  obtain ⟨O2', e, hl2⟩ := rmsO_spec hO2
  subst e
  have hH := holdsO_spec hH
  have hns : (σ.map (·.1)).Nodup := by rw [hk1]; exact hn1
  let β1 : Bmap := fun o => match lk σ o with | some o' => β o' | none => none
  let M1 : Pool := poolOf bor M β O2' w
  have hβ1 : ∀ o o', lk σ o = some o' → β1 o = β o' := fun o o' h => by show (match lk σ o with | some o' => β o' | none => none) = _; rw [h]
  have hl2' : ∀ o ob, lk O2' o = some ob → lk O o = some ob ∧ o ∉ σ.map (·.2) := fun o ob h => by
    rw [hl2] at h
    split at h
    · cases h
    · rename_i e; exact ⟨h, e⟩
  have hM : PLe M M1 := fun b i v hm => by
    show poolOf bor M β O2' w b i = some v
    unfold poolOf
    rw [if_neg]
    · exact hm
    · rintro ⟨_, o, ob, κ, h1, h2, h3⟩
      have := (hr.st.mine o ob b κ (hl2' _ _ h1).1 h2 h3).1 i
      rw [this] at hm; cases hm
  have hMf : bor = false → M1 = M := fun hb => by
    funext b i
    show poolOf bor M β O2' w b i = _
    unfold poolOf
    rw [if_neg]
    rintro ⟨h, _⟩
    rw [hb] at h; cases h
  have hO1 : ∀ o ob, lk O1 o = some ob → ∃ o' ob', lk σ o = some o' ∧ lk O o' = some ob' ∧ RenB σ ob ob' := fun o ob h => hH _ (lk_mem h)
  have hst1 : St ⟨w, ownOf O1 β1, M1, nob, 0, fun _ => True⟩ M1 β1 O1 w := by
    refine ⟨fun b i v hm => ?_, fun _ _ _ h => h, fun _ _ _ h => .inl h, fun o ob hl => ?_, fun o ob b κ hl hb hk => ⟨fun i => ?_, .inl ⟨o, ob, κ, hl, hb, hk⟩⟩, fun o o' ob ob' b κ κ' hl hl' hb hb' hk hk' => ?_, Nat.le_refl _, fun _ _ _ => rfl, rfl, rfl, rfl⟩
    · have hm : poolOf bor M β O2' w b i = some v := hm
      unfold poolOf at hm
      split at hm
      · exact hm
      · exact hr.st.pool _ _ _ hm
    · obtain ⟨o', ob', h1, h2, h3⟩ := hO1 _ _ hl
      obtain ⟨b, κ, hb, hor⟩ := hr.st.objs _ _ h2
      exact ⟨b, κ, by rw [hβ1 _ _ h1]; exact hb, ((h3 hβ1).2 hor).mono2 hM (BLe.refl _) fun _ => rfl⟩
    · obtain ⟨o', ob', h1, h2, h3⟩ := hO1 _ _ hl
      rw [hβ1 _ _ h1] at hb
      show poolOf bor M β O2' w b i = none
      unfold poolOf
      rw [if_neg]
      · exact (hr.st.mine _ _ _ _ h2 hb hk).1 i
      · rintro ⟨_, o2, ob2, κ2, g1, g2, g3⟩
        obtain ⟨g4, g5⟩ := hl2' _ _ g1
        have := hr.st.inj _ _ _ _ _ _ _ g4 h2 g2 hb g3 hk
        subst this
        exact g5 (List.mem_map.2 ⟨_, lk_mem h1, rfl⟩)
    · obtain ⟨p, ob1, h1, h2, h3⟩ := hO1 _ _ hl
      obtain ⟨p', ob1', h1', h2', h3'⟩ := hO1 _ _ hl'
      rw [hβ1 _ _ h1] at hb
      rw [hβ1 _ _ h1'] at hb'
      have := hr.st.inj _ _ _ _ _ _ _ h2 h2' hb hb' hk hk'
      subst this
      have e1 := lk_swap' hn2 h1
      have e2 := lk_swap' hn2 h1'
      rw [e1] at e2
      exact Option.some.inj e2
  have hargs : VRs M1 β1 A xs := argsOK_spec hβ1 hM (fun hb => viewC_spec hr.st hM (fun o ob h => (hl2' o ob h).1) (fun o ob b κ h1 h2 h3 i v h4 => by
    show poolOf bor M β O2' w b i = some v
    unfold poolOf
    rw [if_pos ⟨hb, o, ob, κ, h1, h2, h3⟩]
    exact h4) 9) hA hv
  have hids1 : ∀ o, lk O1 o = none → β1 o = none := fun o h => by
    rw [lk_none] at h
    have : lk σ o = none := by rw [lk_none, hk1]; exact h
    show (match lk σ o with | some o' => β o' | none => none) = _
    rw [this]
  refine hmono _ _ _ _ ?_ (hf w M1 β1 xs hids1 hst1 hargs)
  rintro e w' ⟨x, M', β', rfl, hrv, hst', hvar⟩
  have hhome := homesOK_spec hhome
  obtain ⟨r', h, hrr⟩ := renC_spec τ r _ h
  obtain ⟨L, hκ, hL⟩ := renOO_spec h
  have hok := hK _ _ _ hκ
  let β2 : Bmap := fun i => match lk (τ.map Prod.swap) i with | some o => β' o | none => β i
  have hβ2 : Agr τ β' β2 := fun o o' h => by
    show _ = (match lk (τ.map Prod.swap) o' with | some o => β' o | none => β o')
    rw [lk_swap' ht2 h]
  have homes : ∀ o o', lk τ o = some o' → (n ≤ o' ∧ o' < n') ∨ (lk σ o = some o' ∧ β' o = β o') := fun o o' h => by
    have : o ∈ keys O' := by rw [← hkt]; exact List.mem_map.2 ⟨_, lk_mem h, rfl⟩
    obtain ⟨p, hp, e⟩ := List.mem_map.1 this
    obtain ⟨p1, p2⟩ := p
    simp only at e; subst e
    obtain ⟨o2, g1, g2⟩ := hhome _ hp
    rw [h] at g1; cases g1
    refine g2.imp id ?_
    rintro ⟨c, g3, g4⟩
    exact ⟨g4, by rw [hvar _ _ g3, hβ1 _ _ g4]⟩
  have hbl : BLe β β2 := fun i x hb => by
    show (match lk (τ.map Prod.swap) i with | some o => β' o | none => β i) = some x
    split
    · rename_i o e
      rcases homes _ _ (lk_swap ht1 e) with ⟨g, g2⟩ | ⟨_, g⟩
      · rw [hr.ids _ g (hok _ g g2)] at hb; cases hb
      · rw [g]; exact hb
    · exact hb
  have hlow : ∀ i, (i < n ∨ ¬ E.ok i) → β2 i = β i := fun i hi => by
    show (match lk (τ.map Prod.swap) i with | some o => β' o | none => β i) = β i
    split
    · rename_i o e
      rcases homes _ _ (lk_swap ht1 e) with ⟨g, g2⟩ | ⟨_, g⟩
      · rcases hi with hi | hi
        · omega
        · exact absurd (hok _ g g2) hi
      · exact g
    · rfl
  have hids2 : ∀ o, n' ≤ o → E.ok o → β2 o = none := fun i hi hk => by
    show (match lk (τ.map Prod.swap) i with | some o => β' o | none => β i) = none
    split
    · rename_i o e
      rcases homes _ _ (lk_swap ht1 e) with ⟨_, g⟩ | ⟨_, g⟩
      · omega
      · rw [g]; exact hr.ids _ (by omega) hk
    · exact hr.ids _ (by omega) hk
  have hnO' : (O'.map (·.1)).Nodup := by have := ht1; rw [hkt] at this; exact this
  have ownO : ∀ b, ownOf O1 β1 b → ∃ o ob κ, lk O o = some ob ∧ β o = some (b, κ) ∧ κ ≠ 0 ∧ o ∈ σ.map (·.2) := by
    rintro b ⟨o, ob, κ, h1, h2, h3⟩
    obtain ⟨o', ob', g1, g2, _⟩ := hO1 _ _ h1
    rw [hβ1 _ _ g1] at h2
    exact ⟨o', ob', κ, g2, h2, h3, List.mem_map.2 ⟨_, lk_mem g1, rfl⟩⟩
  have mineO : ∀ b, ownOf O1 β1 b → (∀ i, M b i = none) ∧ (E.own b ∨ E.w0.heap.size ≤ b) := fun b hb => by
    obtain ⟨o, ob, κ, h1, h2, h3, _⟩ := ownO b hb
    exact hr.st.mine _ _ _ _ h1 h2 h3
  -- the pool behind the call
  let M2 : Pool := if bor = true then M else M'
  have hM2' : ∀ b i v, M2 b i = some v → M' b i = some v := fun b i v hm => by
    show M' b i = some v
    have hm : (if bor = true then M else M') b i = some v := hm
    split at hm
    · exact hst'.sub _ _ _ (hM _ _ _ hm)
    · exact hm
  have hMM2 : PLe M M2 := fun b i v hm => by
    show (if bor = true then M else M') b i = some v
    split
    · exact hm
    · exact hst'.sub _ _ _ (hM _ _ _ hm)
  have lifR : VR M2 β' r x := by
    by_cases hb : bor = true
    · exact pf_aux.2.2.1 hrv (hbor hb).1 _
    · have : M2 = M' := by show (if bor = true then M else M') = _; rw [if_neg hb]
      rw [this]; exact hrv
  have lifO : ∀ p ∈ O', ∀ b κ, OR M' β' b κ w' p.2 → OR M2 β' b κ w' p.2 := fun p hp b κ h => by
    by_cases hb : bor = true
    · exact h.pf ((hbor hb).2 p hp) _
    · have : M2 = M' := by show (if bor = true then M else M') = _; rw [if_neg hb]
      rw [this]; exact h
  have hLlk : ∀ i ob, lk L i = some ob → ∃ o ob', lk O' o = some ob' ∧ (o, ob') ∈ O' ∧ lk τ o = some i ∧ RenB τ ob' ob := fun i ob h => by
    obtain ⟨p, hp, g1, g2⟩ := hL _ (lk_mem h)
    exact ⟨p.1, p.2, lk_of_mem hnO' hp, hp, g1, g2⟩
  have inO2 : ∀ i ob b κ, lk O2' i = some ob → β i = some (b, κ) → κ ≠ 0 → b < w.heap.size ∧ ¬ ownOf O1 β1 b := fun i ob b κ h1 h2 h3 => by
    obtain ⟨g1, g2⟩ := hl2' _ _ h1
    refine ⟨?_, fun hown => ?_⟩
    · obtain ⟨b', κ', g3, g4⟩ := hr.st.objs _ _ g1
      rw [h2] at g3; cases g3
      exact g4.lt h3
    · obtain ⟨o, ob', κ', g3, g4, g5, g6⟩ := ownO b hown
      have := hr.st.inj _ _ _ _ _ _ _ g1 g3 h2 g4 h3 g5
      subst this
      exact g2 g6
  -- an object behind the call
  have obj2 : ∀ i ob, lk (L ++ O2') i = some ob → (∃ o ob', lk O' o = some ob' ∧ (o, ob') ∈ O' ∧ lk τ o = some i ∧ RenB τ ob' ob) ∨ (lk O2' i = some ob ∧ ∀ b κ, β i = some (b, κ) → β2 i = some (b, κ)) := fun i ob h => by
    rw [lk_append] at h
    split at h
    · rename_i x e
      cases h
      exact .inl (hLlk _ _ e)
    · exact .inr ⟨h, fun b κ hb => hbl _ _ hb⟩
  have hstE : St E M2 β2 (L ++ O2') w' := by
    refine ⟨fun b i v hm => hst'.pool _ _ _ (hM2' _ _ _ hm), fun b i v hm => hMM2 _ _ _ (hr.st.sub _ _ _ hm), fun b i v hm => ?_, fun i ob hl => ?_, fun i ob b κ hl hb hk => ?_, fun i j ob ob' b κ κ' hl hl' hb hb' hk hk' => ?_,
      Nat.le_trans hr.st.size hst'.size, fun b hb hn => ?_, by rw [hst'.os]; exact hr.st.os, by rw [hst'.tape]; exact hr.st.tape, by rw [hst'.output]; exact hr.st.output⟩
    · by_cases hbo : bor = true
      · have : M2 = M := by show (if bor = true then M else M') = _; rw [if_pos hbo]
        rw [this] at hm
        exact hr.st.only _ _ _ hm
      · rcases hst'.only _ _ _ (hM2' _ _ _ hm) with h | h | h
        · have h : M1 b i = some v := h
          rw [hMf (by simpa using hbo)] at h
          exact hr.st.only _ _ _ h
        · exact .inr (mineO b h).2
        · exact .inr (.inr (Nat.le_trans hr.st.size h))
    · rcases obj2 _ _ hl with ⟨o, ob', h1, h2, h3, h4⟩ | ⟨h1, h2⟩
      · obtain ⟨b, κ, g1, g2⟩ := hst'.objs _ _ h1
        exact ⟨b, κ, by rw [← hβ2 _ _ h3]; exact g1, (h4 hβ2).1 (lifO _ h2 _ _ g2)⟩
      · obtain ⟨b, κ, g1, g2⟩ := hr.st.objs _ _ (hl2' _ _ h1).1
        refine ⟨b, κ, h2 _ _ g1, g2.mono2 hMM2 hbl fun hk => ?_⟩
        obtain ⟨g3, g4⟩ := inO2 _ _ _ _ h1 g1 hk
        exact hst'.keep b g3 g4
    · rcases obj2 _ _ hl with ⟨o, ob', h1, h2, h3, h4⟩ | ⟨h1, h2⟩
      · rw [← hβ2 _ _ h3] at hb
        obtain ⟨g1, g2⟩ := hst'.mine _ _ _ _ h1 hb hk
        refine ⟨fun j => ?_, ?_⟩
        · cases hm : M2 b j with
          | none => rfl
          | some v => have := hM2' _ _ _ hm; rw [g1] at this; cases this
        · rcases g2 with g2 | g2
          · exact (mineO b g2).2
          · exact .inr (Nat.le_trans hr.st.size g2)
      · obtain ⟨b', κ', g1, _⟩ := hr.st.objs _ _ (hl2' _ _ h1).1
        have := h2 _ _ g1
        rw [hb] at this; cases this
        obtain ⟨g3, g4⟩ := hr.st.mine _ _ _ _ (hl2' _ _ h1).1 g1 hk
        refine ⟨fun j => ?_, g4⟩
        cases hm : M2 b j with
        | none => rfl
        | some v =>
          exfalso
          by_cases hbo : bor = true
          · have e : M2 = M := by show (if bor = true then M else M') = _; rw [if_pos hbo]
            rw [e, g3] at hm; cases hm
          · obtain ⟨g5, g6⟩ := inO2 _ _ _ _ h1 g1 hk
            rcases hst'.only _ _ _ (hM2' _ _ _ hm) with h | h | h
            · have h : M1 b j = some v := h
              rw [hMf (by simpa using hbo), g3] at h; cases h
            · exact g6 h
            · have h : w.heap.size ≤ b := h
              omega
    · have far : ∀ o ob' i ob2 b κ κ', lk O' o = some ob' → β' o = some (b, κ) → κ ≠ 0 → lk O2' i = some ob2 → β i = some (b, κ') → κ' ≠ 0 → False := fun o ob' i ob2 b κ κ' h1 h2 h3 h4 h5 h6 => by
        obtain ⟨g5, g6⟩ := inO2 _ _ _ _ h4 h5 h6
        rcases (hst'.mine _ _ _ _ h1 h2 h3).2 with h | h
        · exact g6 h
        · have h : w.heap.size ≤ b := h
          omega
      have back : ∀ i ob b κ, lk O2' i = some ob → (∀ b κ, β i = some (b, κ) → β2 i = some (b, κ)) → β2 i = some (b, κ) → β i = some (b, κ) := fun i ob b κ h1 h2 h3 => by
        obtain ⟨b', κ', g1, _⟩ := hr.st.objs _ _ (hl2' _ _ h1).1
        have := h2 _ _ g1
        rw [h3] at this; cases this
        exact g1
      rcases obj2 _ _ hl with ⟨o, ob1, h1, h2, h3, h4⟩ | ⟨h1, h2⟩
      · rw [← hβ2 _ _ h3] at hb
        rcases obj2 _ _ hl' with ⟨o', ob1', h1', h2', h3', h4'⟩ | ⟨h1', h2'⟩
        · rw [← hβ2 _ _ h3'] at hb'
          have := hst'.inj _ _ _ _ _ _ _ h1 h1' hb hb' hk hk'
          subst this
          rw [h3] at h3'
          exact Option.some.inj h3'
        · exact (far _ _ _ _ _ _ _ h1 hb hk h1' (back _ _ _ _ h1' h2' hb') hk').elim
      · have hb := back _ _ _ _ h1 h2 hb
        rcases obj2 _ _ hl' with ⟨o', ob1', h1', h2', h3', h4'⟩ | ⟨h1', h2'⟩
        · rw [← hβ2 _ _ h3'] at hb'
          exact (far _ _ _ _ _ _ _ h1' hb' hk' h1 hb hk).elim
        · exact hr.st.inj _ _ _ _ _ _ _ (hl2' _ _ h1).1 (hl2' _ _ h1').1 hb (back _ _ _ _ h1' h2' hb') hk hk'
    · rw [← hr.st.keep b hb hn]
      refine hst'.keep b (Nat.lt_of_lt_of_le hb hr.st.size) fun hown => ?_
      rcases (mineO b hown).2 with h | h
      · exact hn h
      · omega
  exact ⟨x, r', L ++ O2', n', M2, β2, rfl, hκ, (hrr.vr hβ2).1 lifR, hstE, hids2, fun t v hl => by obtain ⟨y, hy, hvy⟩ := hr.tmps t v hl; exact ⟨y, hy, hvy.mono hMM2 hbl⟩, hr.nd, hr.sz, fun o ho => by rw [← hr.base o ho]; exact hlow o (ho.imp (fun ho => Nat.lt_of_lt_of_le ho hr.le0) id), Nat.le_trans hr.le0 hnn⟩

/-- A block that no object of ours lies in turns: the same is so of the world behind it. -/
theorem RelAt.swap (h : RelAt E N M β T O n a w) {l : Nat} {x : Obj} (hl : w.heap[l]? = some x) (hc : ∀ cs e fz, x ≠ .cells cs e fz) (hm : ∀ es cl, x ≠ .map es cl) {W0 : World} (hs : w'.heap.size = w.heap.size) (hb : ∀ b, b ≠ l → w'.heap[b]? = w.heap[b]?) (hos : w'.os = W0.os) (htp : w'.tape = W0.tape) (hou : w'.output = W0.output)
    (hz : W0.heap.size = E.w0.heap.size) (hk : ∀ b, b < E.w0.heap.size → ¬ E.own b → w'.heap[b]? = W0.heap[b]?) : RelAt { E with w0 := W0 } N M β T O n a w' := by
  have cells : ∀ b i v, w.cell? ⟨b, i, none⟩ = some v → w'.cell? ⟨b, i, none⟩ = some v := fun b i v hv => by
    have hne : b ≠ l := fun e => by
      subst e
      unfold World.cell? at hv
      simp only [hl] at hv
      cases x <;> simp_all
    unfold World.cell? at hv ⊢
    simp only [hb b hne]
    exact hv
  have st := h.st
  refine ⟨⟨fun b i v hv => cells b i v (st.pool b i v hv), st.sub, fun b i v hv => (st.only b i v hv).imp id (Or.imp id fun h => by show W0.heap.size ≤ b; rw [hz]; exact h), fun o ob ho => ?_, fun o ob b κ h1 h2 h3 => ⟨(st.mine o ob b κ h1 h2 h3).1, (st.mine o ob b κ h1 h2 h3).2.imp id fun h => by show W0.heap.size ≤ b; rw [hz]; exact h⟩, st.inj, ?_, fun b hlt hn => hk b (by rw [← hz]; exact hlt) hn, hos, htp, hou⟩, h.ids, h.tmps, h.nd, h.sz, h.base, h.le0⟩
  · obtain ⟨b, κ, h1, h2⟩ := st.objs o ob ho
    refine ⟨b, κ, h1, h2.mono (BLe.refl _) fun hk => hb b fun e => ?_⟩
    subst e
    cases ob with
    | var c => obtain ⟨_, _, cs, e, fz, h3, _⟩ := h2; rw [hl] at h3; exact hc _ _ _ (Option.some.inj h3)
    | row c =>
      obtain ⟨_, _, ⟨h3, _⟩ | ⟨_, cc, sp, e, fz, h3, _⟩⟩ := h2
      · exact hk h3
      · rw [hl] at h3; exact hc _ _ _ (Option.some.inj h3)
    | map ks => obtain ⟨_, es, cl, h3, _⟩ := h2; rw [hl] at h3; exact hm _ _ (Option.some.inj h3)
  · show W0.heap.size ≤ w'.heap.size
    rw [hz, hs]; exact st.size
/-- A block is laid that is none of ours. -/
theorem RelAt.laid (h : RelAt E N M β T O n a w) (x : Obj) : RelAt E N M β T O n a (w.alloc x) := by
  have st := h.st
  have old : ∀ b, b < w.heap.size → (w.alloc x).heap[b]? = w.heap[b]? := fun b hb => by
    show (w.heap.push x)[b]? = _
    rw [Array.getElem?_push, if_neg (by omega)]
  refine ⟨⟨fun b i v hv => ?_, st.sub, st.only, fun o ob ho => ?_, st.mine, st.inj, ?_, fun b hlt hn => ?_, st.os, st.tape, st.output⟩, h.ids, h.tmps, h.nd, h.sz, h.base, h.le0⟩
  · have hlt := st.pool_lt hv
    have hc := st.pool b i v hv
    unfold World.cell? at hc ⊢
    simp only [old b hlt]
    exact hc
  · obtain ⟨b, κ, h1, h2⟩ := st.objs o ob ho
    exact ⟨b, κ, h1, h2.mono (BLe.refl _) fun hk => old b (h2.lt hk)⟩
  · rw [World.size_alloc]; have := st.size; omega
  · rw [old b (Nat.lt_of_lt_of_le hlt st.size)]; exact st.keep b hlt hn
/-- What is no cells, and lay there, lies there still. -/
theorem RelAt.other (h : RelAt E N M β T O n a w) (hown : ∀ b, E.own b → ∃ cs e fz, E.w0.heap[b]? = some (.cells cs e fz)) {l : Nat} {x : Obj} (hl : E.w0.heap[l]? = some x) (hc : ∀ cs e fz, x ≠ .cells cs e fz) : w.heap[l]? = some x := by
  rw [h.st.keep l (Array.getElem?_eq_some_iff.1 hl).1 fun ho => ?_, hl]
  obtain ⟨cs, e, fz, h1⟩ := hown l ho
  rw [hl] at h1
  exact hc _ _ _ (Option.some.inj h1)

/-- Code that is walked in a round, or at large: a fence that lets all by. -/
def wideF : Option Nat → Fence
  | none => Fence.wide
  | some l => Fence.wide.inRound l
theorem wideF_calls {ro : Option Nat} {k : Nat} {f : FuncId} {args : Array Value} {R : Ending → World → Prop} (h : Calls P f args w R) : CallsIn (wideF ro) k P f args w R := by
  have := (callsIn_wide (n := k)).2 h
  cases ro with
  | none => exact this
  | some l => exact this
theorem wideF_fn (ro : Option Nat) (f : FuncId) : (wideF ro).fn f := by cases ro <;> trivial
theorem wideF_depth (ro : Option Nat) : (wideF ro).depth.isSome = false := by cases ro <;> rfl
theorem wideF_round (ro : Option Nat) : (wideF ro).round = ro := by cases ro <;> rfl
theorem wideF_rows {ro : Option Nat} {k : Nat} {row : String} {args : Array Value} {R : Value → World → Prop} (h : Rows P row args w R) : RowsIn (wideF ro) k P row args w R := fun c cs _ => by
  obtain ⟨v, w', r, s⟩ := h c cs
  refine ⟨v, w', r, ?_⟩
  have := stepsIn_wide.2 s
  cases ro with
  | none => exact this
  | some l => exact this
theorem wideF_op {ro : Option Nat} {k : Nat} {next next' : Act → World → Prop} {Q Q' : Exit → Act → World → Prop} (hd : ∀ c, o.op ≠ .defer c) (hn : ∀ a w, next a w → next' a w) (hq : ∀ e a w, Q e a w → Q' e a w) (h : o.wp P a w next Q) : o.wpIn (wideF ro) k P a w next' Q' := by
  refine ⟨fun f _ => wideF_fn ro f, ?_⟩
  rw [wideF_round, Oper.semAt_eq _ _ _ hd]
  unfold Oper.wp at h
  have hdep : (wideF ro).depth.isSome = true → 1 ≤ k := fun e => by rw [wideF_depth] at e; cases e
  generalize (execOp a.eval o).run P w = x at *
  unfold Oper.upon at h
  unfold Oper.uponIn
  split at h
  · exact hn _ _ h
  · exact hn _ _ h
  · exact hn _ _ h
  · refine ⟨hdep, wideF_calls (Calls.mono h ?_)⟩
    intro e w' he
    cases e with
    | returned v => exact hn _ _ he
    | panicked chain => exact hq _ _ _ he
    | outgrown => obtain ⟨a0, w0, h0⟩ := he; exact ⟨a0, w0, hq _ _ _ h0⟩
  · exact ⟨hdep, wideF_rows (Rows.mono h fun v w' h => hn _ _ h)⟩
  · exact hq _ _ _ h
  · exact h.elim
/-- What a function's end hands back. -/
theorem ends_run {fn : Func} {r : AV} {k0 : Nat} (hvar : ∀ o c, lk O o = some (.var c) → o < k0) : ∀ T O1 n a w', EndC P fn.results.toList O r O' T O1 n → Rel ⟨w, ownOf O β, M, β, k0, fun _ => True⟩ fn.ntmps T O1 n a w' → a.defers = [] ∧ ∃ v, (results fn a.tmps).run P w' = .ok v w' ∧
      ∃ x M' β', Ending.returned v = .returned x ∧ VR M' β' r x ∧ St ⟨w, ownOf O β, M, nob, 0, fun _ => True⟩ M' β' O' w' ∧ (∀ o c, lk O o = some (.var c) → β' o = β o) := by
  rintro T O1 n a w' he ⟨M', β', hr⟩
  obtain ⟨vs, x, ⟨σ, Z, F, h1, h2, h3, h4⟩, hrun, hv⟩ := results_run hr he
  simp only [okE, Bool.and_eq_true, List.all_eq_true, decide_eq_true_eq, Bool.not_eq_true'] at h1
  obtain ⟨⟨⟨hF, h1⟩, hσZ⟩, hZ⟩ := h1
  have hF' : ∀ f ∈ F, ∀ o, lk σ o ≠ some f := fun f hf o e => by
    have := hF f hf
    have hm : f ∈ σ.map (·.2) := List.mem_map.2 ⟨_, lk_mem e, rfl⟩
    simp only [Bool.eq_false_iff] at this
    exact this (by simpa using hm)
  let b1 : Bmap := fun o => match lk σ o with | some o' => β' o' | none => if Z.contains o = true then some (0, 0) else β o
  have ha : Agr σ b1 β' := fun o o' h => by show (match lk σ o with | some o' => β' o' | none => _) = _; rw [h]
  have hz : NilOK Z b1 := fun o ho => by
    have : lk σ o = none := by
      rw [lk_none]
      intro hm
      obtain ⟨p, hp, rfl⟩ := List.mem_map.1 hm
      have := hσZ p hp
      rw [ho] at this
      cases this
    show (match lk σ o with | some o' => β' o' | none => if Z.contains o = true then some (0, 0) else β o) = _
    rw [this]
    simp only [ho, if_true]
  obtain ⟨M1, hM, hV, this⟩ := hr.st.ren hF' h1 ha hz h3
  refine ⟨hr.nd, x, hrun, x, M1, b1, rfl, (matC_spec σ Z _ _ _ h2).vr hM hV ha hz hv, ?_, fun o c hl => ?_⟩
  · exact ⟨this.pool, this.sub, this.only, this.objs, this.mine, this.inj, this.size, this.keep, this.os, this.tape, this.output⟩
  · show (match lk σ o with | some o' => β' o' | none => if Z.contains o = true then some (0, 0) else β o) = β o
    split
    · rename_i o' e'
      have : ∀ {O : OO}, varsOK σ O → (o, OB.var c) ∈ O → o' = o := by
        intro O
        induction O with
        | nil => intro _ h; cases h
        | cons q O ih =>
          obtain ⟨i, ob⟩ := q
          intro hv hm
          rcases List.mem_cons.1 hm with e2 | hm
          · cases e2; exact hv.1 ⟨c, rfl⟩ _ e'
          · exact ih hv.2 hm
      rw [this h4 (lk_mem hl)]
      exact hr.base o (.inl (hvar _ _ hl))
    · rw [if_neg]
      intro hc
      have := hZ o (by simpa using hc)
      have hm : o ∈ keys O := List.mem_map.2 ⟨_, lk_mem hl, rfl⟩
      simp [hm] at this

theorem vcOps_in {ro : Option Nat} {k : Nat} (hE : ∀ o, E.ok o) {ops : Array Oper} {Q : Exit → Act → World → Prop} {K : CK} (hd : ∀ o ∈ ops.toList, ∀ t, o.dst = some t → t < N) (hnd : ∀ o ∈ ops.toList, ∀ c, o.op ≠ .defer c) (tail : List Oper)
    (hK : ∀ T O n a w, K T O n → Rel E N T O n a w → wpOpsIn (wideF ro) k P ops Q (List.range' (ops.size - tail.length) tail.length) a w) :
    ∀ (rest : List Oper) (i : Nat) (T : TT) (O : OO) (n : Nat) (a : Act) (w : World), ops.toList.drop i = rest ++ tail → i + rest.length = ops.size - tail.length → vcOps P ops.toList rest K T O n → Rel E N T O n a w → wpOpsIn (wideF ro) k P ops Q (List.range' i (rest.length + tail.length)) a w := by
  intro rest
  induction rest with
  | nil =>
    intro i T O n a w _ hi h hr
    have := hK _ _ _ _ _ h hr
    simp only [List.length_nil, Nat.zero_add, Nat.add_zero] at hi ⊢
    rw [hi]; exact this
  | cons o rest ih =>
    intro i T O n a w hi hlen h hr
    have hio : ops[i]? = some o := by
      have : (ops.toList.drop i)[0]? = some o := by rw [hi]; rfl
      simpa using this
    have hmem : o ∈ ops.toList := List.mem_of_mem_drop (by rw [hi]; simp)
    have hi' : ops.toList.drop (i + 1) = rest ++ tail := by
      have := congrArg List.tail hi
      simpa using this
    have hlen' : i + 1 + rest.length = ops.size - tail.length := by rw [← hlen, List.length_cons]; omega
    rw [show (o :: rest).length + tail.length = (rest.length + tail.length) + 1 by rw [List.length_cons]; omega]
    simp only [List.range'_succ, wpOpsIn, hio]
    obtain ⟨M, β, hr⟩ := hr
    simp only [vcOps] at h
    split at h
    · rename_i hg
      have : Region.wanted o (yielded ops a.tmps) = true := by unfold Region.wanted; rw [hg]
      rw [if_pos this]
      exact wideF_op (hnd o hmem) (fun _ _ h => h) (fun _ _ _ h => h) (vcOp_sound (fun _ _ _ _ o _ _ => hE o) rfl h hr _ Q fun v O' n' x w' M' β' hk hr' hv => ih _ _ _ _ _ _ hi' hlen' hk ⟨M', β', hr'.value (hd o hmem) hv⟩)
    · rename_i j want hg
      obtain ⟨T', hr, ⟨h1, hy⟩ | ⟨h2, hy⟩⟩ := gdC_spec hr h
      · have : Region.wanted o (yielded ops a.tmps) = true := by unfold Region.wanted; rw [hg]; simp [hy]
        rw [if_pos this]
        exact wideF_op (hnd o hmem) (fun _ _ h => h) (fun _ _ _ h => h) (vcOp_sound (fun _ _ _ _ o _ _ => hE o) rfl h1 hr _ Q fun v O' n' x w' M' β' hk hr' hv => ih _ _ _ _ _ _ hi' hlen' hk ⟨M', β', hr'.value (hd o hmem) hv⟩)
      · have : Region.wanted o (yielded ops a.tmps) = false := by unfold Region.wanted; rw [hg]; simpa using hy
        rw [this, if_neg (by simp)]
        exact ⟨fun f _ => wideF_fn ro f, ih _ _ _ _ _ _ hi' hlen' h2 ⟨M, β, hr.value (hd o hmem) (.tup .nil)⟩⟩
def noDefer (o : Oper) : Bool := match o.op with | .defer _ => false | _ => true
theorem noDefer_spec {o : Oper} (h : noDefer o = true) : ∀ c, o.op ≠ .defer c := fun c e => by unfold noDefer at h; rw [e] at h; cases h
/-- Code without loops, jumps, regions of open order. -/
def plainC (tb : List (Nat × Plan)) : Code → Bool
  | .skip => true
  | .region id ops false => (lk tb (100000 + id)).isNone && ops.toList.all noDefer
  | .seq x y => plainC tb x && plainC tb y
  | .cond _ x y => plainC tb x && plainC tb y
  | .block _ c => plainC tb c
  | _ => false
theorem vcC_in {ro : Option Nat} {k : Nat} (hE : ∀ o, E.ok o) (tb : List (Nat × Plan)) : ∀ (c : Code) {Q : Exit → Act → World → Prop} {K : CK} {X : Nat → CK} {R : CK} {T : TT} {O : OO} {n : Nat} {a : Act} {w : World}, Cont3 E N Q K X R → dstOK tb N c = true → plainC tb c = true →
    vcC P tb E.n0 c K X R T O n → Rel E N T O n a w → c.wpIn (wideF ro) k P Q a w := by
  intro c
  induction c with
  | skip => intro Q K X R T O n a w hc _ _ h hr; exact wpIn_skip (hc.norm _ _ _ _ _ h hr)
  | region id ops draw =>
    intro Q K X R T O n a w hc hd hp h hr
    cases draw with
    | true => cases hp
    | false =>
      simp only [dstOK, Bool.and_eq_true, List.all_eq_true] at hd
      obtain ⟨hd1, hd2⟩ := hd
      have hd : ∀ o ∈ ops.toList, ∀ t, o.dst = some t → t < N := fun o ho t e => by
        have := hd1 o ho
        rw [e] at this
        simpa using this
      simp only [plainC, Bool.and_eq_true, List.all_eq_true, Option.isNone_iff_eq_none] at hp
      simp only [vcC, hp.1] at h
      have := vcOps_in (ro := ro) (k := k) hE hd (fun o ho => noDefer_spec (hp.2 o ho)) [] (fun T O n a w hk hr => hc.norm _ _ _ _ _ hk hr) ops.toList 0 T O n a w (by simp) (by simp) h hr
      rw [List.length_nil, Nat.add_zero, Array.length_toList, ← List.range_eq_range'] at this
      exact wpIn_region this
  | seq x y ihx ihy =>
    intro Q K X R T O n a w hc hd hp h hr
    simp only [dstOK, Bool.and_eq_true] at hd
    simp only [plainC, Bool.and_eq_true] at hp
    exact wpIn_seq (ihx ⟨fun T O n a w hk hr => ihy hc hd.2 hp.2 hk hr, fun i T O n a w => hc.exit i T O n a w, fun T O n a w => hc.ret T O n a w⟩ hd.1 hp.1 h hr)
  | cond c x y ihx ihy =>
    intro Q K X R T O n a w hc hd hp h hr
    simp only [dstOK, Bool.and_eq_true] at hd
    simp only [plainC, Bool.and_eq_true] at hp
    obtain ⟨M, β, hr⟩ := hr
    obtain ⟨v, h, hv⟩ := evC_spec hr h
    obtain ⟨b, rfl, h1, h2⟩ := boolC_spec h
    exact wpIn_cond_split hv.bool_inv (fun e => ihx hc hd.1 hp.1 (h1 e) ⟨M, β, hr⟩) fun e => ihy hc hd.2 hp.2 (h2 e) ⟨M, β, hr⟩
  | block id c ih =>
    intro Q K X R T O n a w hc hd hp h hr
    refine wpIn_block (ih ⟨fun T O n a w => hc.norm T O n a w, fun i T O n a w hx hr => ?_, fun T O n a w => hc.ret T O n a w⟩ hd hp h hr)
    simp only [Exit.inBlock]
    split at hx
    · rename_i e; rw [if_pos e]; exact hc.norm _ _ _ _ _ hx hr
    · rename_i e; rw [if_neg e]; exact hc.exit _ _ _ _ _ _ hx hr
  | _ => intro Q K X R T O n a w hc _ hp; cases hp
/-- Loads, stores, moves: what is deferred is nothing to them. -/
def quiet (o : Oper) : Bool := match o.op with | .move _ | .assign _ | .load .. | .store .. => true | _ => false
theorem quiet_run {o : Oper} (h : quiet o = true) (ρ : Operand → Value) : ∀ d w', (execOp ρ o).run P w ≠ .ok (.defer d) w' := by
  intro d w' e
  unfold quiet at h
  unfold execOp at e
  split at h <;> rename_i ho <;> simp only [ho] at e
  · simp at e
  · simp at e
  · simp only [Sem.run_bind, Sem.run_pure] at e
    generalize (Instr.loadAt _ _).run P w = x at e
    cases x <;> simp [Result.andThen] at e
  · simp only [Sem.run_bind, Sem.run_pure] at e
    generalize (Instr.storeAt _ _ _).run P w = x at e
    cases x <;> simp [Result.andThen] at e
  · cases h
theorem opsIn_defers {ro : Option Nat} {k : Nat} {ops : Array Oper} {Q : Exit → Act → World → Prop} (ds : List Deferred) (hq : ∀ o ∈ ops.toList, quiet o = true) : ∀ (l : List Nat) (a : Act) (w : World), wpOpsIn (wideF ro) k P ops (fun e a w => Q e { a with defers := ds } w) l a w → wpOpsIn (wideF ro) k P ops Q l { a with defers := ds } w := by
  intro l
  induction l with
  | nil => intro a w h; exact h
  | cons i rest ih =>
    intro a w h
    unfold wpOpsIn at h ⊢
    cases ho : ops[i]? with
    | none => simp only [ho] at h ⊢; exact ih _ _ h
    | some o =>
      simp only [ho] at h ⊢
      have hqo := hq o (by rw [Array.mem_toList_iff]; exact Array.mem_of_getElem? ho)
      have hput : ∀ (d : Option Tmp) (v : Value), ({ a with defers := ds } : Act).put d v = { a.put d v with defers := ds } := fun d v => by cases d <;> rfl
      have hev : ({ a with defers := ds } : Act).eval = a.eval := by funext x; cases x <;> rfl
      by_cases hw : Region.wanted o (yielded ops a.tmps) = true
      · rw [if_pos hw] at h ⊢
        obtain ⟨h1, h2⟩ := h
        refine ⟨by rw [hev]; exact h1, ?_⟩
        have hnd : ∀ c, o.op ≠ .defer c := fun c e => by unfold quiet at hqo; rw [e] at hqo; cases hqo
        rw [hev]
        have hrun := quiet_run (P := P) (w := w) hqo a.eval
        rw [wideF_round, Oper.semAt_eq _ _ _ hnd] at h2 ⊢
        generalize (execOp a.eval o).run P w = x at *
        unfold Oper.uponIn at h2 ⊢
        split at h2
        · rw [hput]; exact ih _ _ h2
        · rw [hput]; exact ih _ _ h2
        · exact absurd rfl (hrun _ _)
        · refine ⟨h2.1, h2.2.mono ?_⟩
          intro e w' he
          cases e with
          | returned v => simp only at he ⊢; rw [hput]; exact ih _ _ he
          | panicked chain => exact he
          | outgrown => obtain ⟨a0, w0, h0⟩ := he; exact ⟨_, w0, h0⟩
        · refine ⟨h2.1, h2.2.mono ?_⟩
          intro v w' he
          rw [hput]; exact ih _ _ he
        · refine ⟨h2.1, h2.2.mono ?_⟩
          intro e w' he
          cases e with
          | returned v => simp only at he ⊢; rw [hput]; exact ih _ _ he
          | panicked chain => exact he
          | outgrown => obtain ⟨a0, w0, h0⟩ := he; exact ⟨_, w0, h0⟩
        · exact h2
        · exact h2.elim
      · rw [if_neg hw] at h ⊢
        refine ⟨by rw [hev]; exact h.1, ?_⟩
        rw [hput]; exact ih _ _ h.2
end
end Go.Sy
/- A range over a function: an iterator's code, where yield is called. -/
namespace Go.Sy
open Go
set_option linter.unusedSimpArgs false
set_option linter.unusedVariables false
@[congr] theorem RunP_congr {R : Runner} {args args' : List AV} {O : OO} {n : Nat} {κ : AV → OO → Nat → Prop} (h : mk args = args') : RunP R args O n κ = RunP R args' O n κ := by rw [← h]; rfl
/-- A region in which calls are calls of yield. -/
def vcY (P : Program) (R : Runner) (y : AV) (refs : List AV) : List Oper → CK → CK
  | [], K, T, O, n => K T O n
  | o :: rest, K, T, O, n => match o.guard with
    | some _ => False
    | none => match o.op with
      | .call c => (match c.callee with
        | .value f => evC T f fun fv => fv = y ∧ evsC T c.args.toList fun vs => RunP R (vs ++ refs) O n fun r O' n' => nxt o.dst r O' n' T (vcY P R y refs rest K)
        | _ => False)
      | .defer _ => False
      | op => vcOp P op T O n fun v O' n' => nxt o.dst v O' n' T (vcY P R y refs rest K)
/-- Code, where the regions that the table marks (200000 and their number) are told by Y. -/
def vcD (P : Program) (tb : List (Nat × Plan)) (k : Nat) (Y : List Oper → CK → CK) : Code → CK → (Nat → CK) → CK → CK
  | .skip, K, _, _, T, O, n => K T O n
  | .region _ _ true, _, _, _, _, _, _ => False
  | .region id ops false, K, _, _, T, O, n => (match lk tb (200000 + id) with
      | none => vcOps P ops.toList ops.toList K T O n
      | some _ => Y ops.toList K T O n)
  | .seq a b, K, X, R, T, O, n => vcD P tb k Y a (vcD P tb k Y b K X R) X R T O n
  | .cond c x y, K, X, R, T, O, n => evC T c fun v => boolC v fun b => (b = true → vcD P tb k Y x K X R T O n) ∧ (b = false → vcD P tb k Y y K X R T O n)
  | .block id c, K, X, R, T, O, n => vcD P tb k Y c K (fun i => if i = id then K else X i) R T O n
  | .loop c, _, X, R, T, O, n => VLoop k (fun K' => vcD P tb k Y c K' X R) T O n
  | .exit id, _, X, _, T, O, n => X id T O n
  | .label _, K, _, _, T, O, n => K T O n
  | .ret, _, _, R, T, O, n => R T O n
  | _, _, _, _, _, _, _ => False
section
variable {P : Program} {tb : List (Nat × Plan)} {k : Nat} {K : CK} {X : Nat → CK} {R : CK} {T : TT} {O : OO} {n : Nat} {Y : List Oper → CK → CK}
theorem vcD_cond (c : Operand) (x y : Code) : vcD P tb k Y (.cond c x y) K X R T O n = evC T c fun v => boolC v fun b => brC b (vcD P tb k Y x K X R T O n) (vcD P tb k Y y K X R T O n) := by
  simp only [vcD]
  rfl
theorem vcD_reg (id : Nat) (l : List Oper) : vcD P tb k Y (.region id l.toArray false) K X R T O n = ev (lk tb (200000 + id)) fun q => match q with
    | none => vcOps P l l K T O n
    | some _ => Y l K T O n := by
  simp only [vcD, ev_eq]
end
attribute [go_sem ↓ high] vcD_cond vcD_reg
attribute [go_sem ↓] vcD vcY
section
variable {E : Env} {N : Nat} {M M' M1 : Pool} {β β' β1 β2 : Bmap} {T T' : TT} {O O' O1 O2 : OO} {n m : Nat} {a : Act} {w w' : World} {P : Program} {o : Oper}
theorem runG {R : Runner} {args A : List AV} {r : AV} {κ : KK} (bor : Bool) (σ τ : List (Nat × Nat)) (n' : Nat) (h : RunC R A O1 r O') (h1 : (σ.map (·.1) = keys O1) ∧ (keys O1).Nodup ∧ (σ.map (·.2)).Nodup ∧ n ≤ n' ∧ (τ.map (·.1)).Nodup ∧ (τ.map (·.2)).Nodup ∧ τ.map (·.1) = keys O')
    (hk : ev (σ.map (·.2)) fun l => rmsO O l fun O2 => argsOK bor σ O2 args A ∧ holdsO O σ O1 ∧ homesOK σ τ O1 n n' O' ∧ (bor = true → r.pf = true ∧ ∀ p ∈ O', p.2.pf = true) ∧ renC τ r fun r' => renOO τ O' fun L => κ r' (L ++ O2) n') : RunP R args O n κ := by
  obtain ⟨O2, k0, k1, k2, k3, k4, k5⟩ := rmsO_run hk
  obtain ⟨a1, a2, a3, a4, a5, a6, a7⟩ := h1
  exact ⟨bor, σ, τ, A, O1, O2, r, O', n', h, k0, k1, k2, a1, a2, a3, a4, a5, a6, k3, a7, k4, k5⟩
/-- What is asked of a call of yield, loop l's record being `rec`: its arguments, and behind them pointers that lie fast. -/
def YRun (P : Program) (l : Nat) (rec : Loop) (xp : List Value) : Runner := fun xs w Q => ∀ ys, xs = ys ++ xp → w.heap[l]? = some (.loop rec) →
  ∃ fn tmps assign body, (Instr.yield l ys.toArray).run P w = .ok (.round l fn tmps assign body) w ∧ RoundIn Fence.wide 0 P l fn tmps assign body w Q
theorem YRun.mono {l : Nat} {rec : Loop} {xp : List Value} (xs : List Value) (w : World) (Q Q' : Ending → World → Prop) (h : ∀ e w', Q e w' → Q' e w') (hy : YRun P l rec xp xs w Q) : YRun P l rec xp xs w Q' := fun ys e hl => by
  obtain ⟨fn, tmps, assign, body, h1, h2⟩ := hy ys e hl
  exact ⟨fn, tmps, assign, body, h1, h2.mono h⟩
theorem VRs.append {vs us : List AV} {xs zs : List Value} (h : VRs M β vs xs) (h' : VRs M β us zs) : VRs M β (vs ++ us) (xs ++ zs) := by
  induction vs generalizing xs with
  | nil => cases h; exact h'
  | cons v vs ih => cases h with | cons h1 h2 => exact .cons h1 (ih h2)
theorem wideF_row {ro : Option Nat} {k : Nat} {l f : Nat} {tmps : Array Value} {assign body : Code} {Q : Ending → World → Prop} (h : RoundIn Fence.wide k P l f tmps assign body w Q) : RoundIn (wideF ro) k P l f tmps assign body w Q := by
  cases ro with
  | none => exact h
  | some i => exact h
theorem roundIn_any {k : Nat} {l f : Nat} {tmps : Array Value} {assign body : Code} {Q : Ending → World → Prop} (h : RoundIn Fence.wide 0 P l f tmps assign body w Q) : RoundIn Fence.wide k P l f tmps assign body w Q :=
  ⟨h.1, fun c cs hr => h.2 c cs (room_wide _)⟩
theorem vcY_sound {l : Nat} {rec : Loop} {xp : List Value} {refs : List AV} (hE : ∀ o, E.ok o) (hl : E.w0.heap[l]? = some (.loop rec)) (hown : ∀ b, E.own b → ∃ cs e fz, E.w0.heap[b]? = some (.cells cs e fz))
    (hrefs : ∀ (M : Pool) (β : Bmap), (∀ o, o < E.n0 → β o = E.B0 o) → VRs M β refs xp) {ops : Array Oper} {Q : Exit → Act → World → Prop} {K : CK} (hd : ∀ o ∈ ops.toList, ∀ t, o.dst = some t → t < N)
    (hK : ∀ T O n a w, K T O n → Rel E N T O n a w → Q .normal a w) :
    ∀ (rest : List Oper) (i : Nat) (T : TT) (O : OO) (n : Nat) (a : Act) (w : World), ops.toList.drop i = rest → vcY P (YRun P l rec xp) (.fn (.yield l) []) refs rest K T O n → Rel E N T O n a w → wpOpsIn (wideF none) 1 P ops Q (List.range' i rest.length) a w := by
  intro rest
  induction rest with
  | nil => intro i T O n a w _ h hr; exact hK _ _ _ _ _ h hr
  | cons o rest ih =>
    intro i T O n a w hi h hr
    have hio : ops[i]? = some o := by
      have : (ops.toList.drop i)[0]? = some o := by rw [hi]; rfl
      simpa using this
    have hmem : o ∈ ops.toList := List.mem_of_mem_drop (by rw [hi]; simp)
    have hi' : ops.toList.drop (i + 1) = rest := by
      have := congrArg List.tail hi
      simpa using this
    simp only [List.length_cons, List.range'_succ, wpOpsIn, hio]
    obtain ⟨M, β, hr⟩ := hr
    unfold vcY at h
    split at h
    · exact h.elim
    rename_i hg
    have : Region.wanted o (yielded ops a.tmps) = true := by unfold Region.wanted; rw [hg]
    rw [if_pos this]
    split at h
    · rename_i c hop
      split at h
      · rename_i f hc
        obtain ⟨fv, ⟨rfl, h⟩, hfv⟩ := evC_spec hr h
        obtain ⟨vs, h, hvs⟩ := evsC_spec hr h
        obtain ⟨ys, e, hps⟩ := hfv.fn_inv
        cases hps
        have hxp := hrefs M β (fun o ho => hr.base o (.inl ho))
        have hrun := run_gen (fun xs w Q Q' => YRun.mono xs w Q Q') hr (fun _ _ _ _ o _ _ => hE o) (VRs.append hvs hxp) h
        have hlw : w.heap[l]? = some (.loop rec) := hr.other hown hl (fun _ _ _ e => by cases e)
        obtain ⟨fn, tmps, assign, body, h1, h2⟩ := hrun _ rfl hlw
        refine ⟨fun f _ => wideF_fn none f, ?_⟩
        have hx : (o.semAt (wideF none).round a.eval).run P w = .ok (.round l fn tmps assign body) w := by
          rw [wideF_round, Oper.semAt_none]
          have em : (List.map a.eval c.args.toList).toArray = Array.map a.eval c.args := by rw [← Array.toList_map]
          rw [em] at h1
          rw [← h1]
          simp only [execOp, hop, resolve, hc, e, Deferred.ofValue, Sem.run_bind, Sem.run_pure, Result.andThen_ok, invoke]
          simp
        rw [hx, Oper.uponIn_round]
        refine ⟨fun _ => Nat.le_refl _, wideF_row (h2.mono ?_)⟩
        rintro _ w' ⟨x, r, O', n', M', β', rfl, hk, hv, hr'⟩
        simp only [nxt_eq] at hk
        exact ih _ _ _ _ _ _ hi' hk ⟨M', β', hr'.value (hd o hmem) hv⟩
      · exact h.elim
    · exact h.elim
    · rename_i hnc hnd
      exact wideF_op hnd (fun _ _ h => h) (fun _ _ _ h => h) (vcOp_sound (fun _ _ _ _ o _ _ => hE o) rfl h hr _ Q fun v O' n' x w' M' β' hk hr' hv => by
        simp only [nxt_eq] at hk
        exact ih _ _ _ _ _ _ hi' hk ⟨M', β', hr'.value (hd o hmem) hv⟩)
theorem vcD_sound (hE : ∀ o, E.ok o) (tb : List (Nat × Plan)) {Y : List Oper → CK → CK}
    (hY : ∀ (id : Nat) (ops : Array Oper) (K : CK) (Q : Exit → Act → World → Prop) (T : TT) (O : OO) (n : Nat) (a : Act) (w : World), (∀ o ∈ ops.toList, ∀ t, o.dst = some t → t < N) → (∀ T O n a w, K T O n → Rel E N T O n a w → Q .normal a w) → Y ops.toList K T O n → Rel E N T O n a w → (Code.region id ops false).wp P Q a w) :
    ∀ (c : Code) {Q : Exit → Act → World → Prop} {K : CK} {X : Nat → CK} {R : CK} {T : TT} {O : OO} {n : Nat} {a : Act} {w : World}, Cont3 E N Q K X R → dstOK tb N c = true →
    vcD P tb E.n0 Y c K X R T O n → Rel E N T O n a w → c.wp P Q a w := by
  intro c
  induction c with
  | skip => intro Q K X R T O n a w hc _ h hr; exact wp_skip (hc.norm _ _ _ _ _ h hr)
  | label l => intro Q K X R T O n a w hc _ h hr; exact wp_label (hc.norm _ _ _ _ _ h hr)
  | region id ops draw =>
    intro Q K X R T O n a w hc hd h hr
    cases draw with
    | true => exact h.elim
    | false =>
      simp only [dstOK, Bool.and_eq_true, List.all_eq_true] at hd
      obtain ⟨hd1, hd2⟩ := hd
      have hd : ∀ o ∈ ops.toList, ∀ t, o.dst = some t → t < N := fun o ho t e => by
        have := hd1 o ho
        rw [e] at this
        simpa using this
      simp only [vcD] at h
      cases hq : lk tb (200000 + id) with
      | none =>
        rw [hq] at h
        exact wp_region (vcOps_sound hE hd h hr fun T O n a w => hc.norm T O n a w)
      | some q =>
        rw [hq] at h
        exact hY id ops K Q T O n a w hd (fun T O n a w hk hr => hc.norm T O n a w hk hr) h hr
  | seq x y ihx ihy =>
    intro Q K X R T O n a w hc hd h hr
    simp only [dstOK, Bool.and_eq_true] at hd
    exact wp_seq (ihx ⟨fun T O n a w hk hr => ihy hc hd.2 hk hr, fun i T O n a w => hc.exit i T O n a w, fun T O n a w => hc.ret T O n a w⟩ hd.1 h hr)
  | cond c x y ihx ihy =>
    intro Q K X R T O n a w hc hd h hr
    simp only [dstOK, Bool.and_eq_true] at hd
    obtain ⟨M, β, hr⟩ := hr
    obtain ⟨v, h, hv⟩ := evC_spec hr h
    obtain ⟨b, rfl, h1, h2⟩ := boolC_spec h
    exact wp_cond_split hv.bool_inv (fun e => ihx hc hd.1 (h1 e) ⟨M, β, hr⟩) fun e => ihy hc hd.2 (h2 e) ⟨M, β, hr⟩
  | block id c ih =>
    intro Q K X R T O n a w hc hd h hr
    refine wp_block (ih ⟨fun T O n a w => hc.norm T O n a w, fun i T O n a w hx hr => ?_, fun T O n a w => hc.ret T O n a w⟩ hd h hr)
    simp only [Exit.inBlock]
    split at hx
    · rename_i e; rw [if_pos e]; exact hc.norm _ _ _ _ _ hx hr
    · rename_i e; rw [if_neg e]; exact hc.exit _ _ _ _ _ _ hx hr
  | loop c ih =>
    intro Q K X R T O n a w hc hd h hr
    obtain ⟨ι, I, J, m, μ, i0, h0, hi⟩ := h
    let Inv : Act → World → Prop := fun a w => ∃ i, Rel E N (I i) (J i) (m i) a w
    let Lv : Act → World → Nat → Prop := fun a w z => ∃ i, μ i = z ∧ Rel E N (I i) (J i) (m i) a w
    have least : ∀ a w, Inv a w → ∃ z, Lv a w z ∧ ∀ z', Lv a w z' → z ≤ z' := fun a w ⟨i, hi⟩ => by
      have : ∀ z, (∃ z', z' ≤ z ∧ Lv a w z') → ∃ z, Lv a w z ∧ ∀ z', Lv a w z' → z ≤ z' := by
        intro z
        induction z using Nat.strongRecOn with
        | _ z ih =>
          rintro ⟨z', hz, hl⟩
          by_cases hm : ∀ z'', Lv a w z'' → z' ≤ z''
          · exact ⟨z', hl, hm⟩
          · simp only [Classical.not_forall] at hm
            obtain ⟨z'', hl'', hlt⟩ := hm
            exact ih z'' (by omega) ⟨z'', Nat.le_refl _, hl''⟩
      exact this (μ i) ⟨μ i, Nat.le_refl _, i, rfl, hi⟩
    have hlv : ∀ a w, ∃ z, Inv a w → Lv a w z ∧ ∀ z', Lv a w z' → z ≤ z' := fun a w => by
      by_cases h : Inv a w
      · obtain ⟨z, hz⟩ := least a w h; exact ⟨z, fun _ => hz⟩
      · exact ⟨0, fun h' => absurd h' h⟩
    let ν : Act → World → Nat := fun a w => Classical.choose (hlv a w)
    have hν : ∀ a w, Inv a w → Lv a w (ν a w) ∧ ∀ z', Lv a w z' → ν a w ≤ z' := fun a w => Classical.choose_spec (hlv a w)
    obtain ⟨M, β, hr⟩ := hr
    obtain ⟨M1, β1, hr1⟩ := hr.ren hE h0
    refine wp_loop Inv ν ⟨i0, M1, β1, hr1⟩ fun a w hinv => ?_
    obtain ⟨⟨i, hz, hri⟩, _⟩ := hν a w hinv
    refine ih ⟨fun T O n a' w' ⟨i', hlt, hs⟩ hr' => ?_, fun i T O n a w => hc.exit i T O n a w, fun T O n a w => hc.ret T O n a w⟩ hd (hi i) hri
    obtain ⟨M', β', hr'⟩ := hr'
    obtain ⟨M2, β2, hr2⟩ := hr'.ren hE hs
    have hinv' : Inv a' w' := ⟨i', M2, β2, hr2⟩
    exact ⟨hinv', Nat.lt_of_le_of_lt ((hν a' w' hinv').2 _ ⟨i', rfl, M2, β2, hr2⟩) (by omega)⟩
  | exit id => intro Q K X R T O n a w hc _ h hr; exact wp_exit (hc.exit _ _ _ _ _ _ h hr)
  | ret => intro Q K X R T O n a w hc _ h hr; exact wp_ret (hc.ret _ _ _ _ _ h hr)
  | _ => intro Q K X R T O n a w hc _ h hr; exact h.elim
end
end Go.Sy
/- A range over a function: the iterator's contract, a round's, the function's that ranges. -/
namespace Go.Sy
open Go
set_option linter.unusedSimpArgs false
set_option linter.unusedVariables false
section
variable {E : Env} {N : Nat} {M M' M1 : Pool} {β β' β1 β2 : Bmap} {T T' : TT} {O O' O1 O2 : OO} {n m : Nat} {a : Act} {w w' : World} {P : Program} {o : Oper}

theorem VRs.len {vs : List AV} {xs : List Value} (h : VRs M β vs xs) : xs.length = vs.length := by
  induction vs generalizing xs with
  | nil => cases h; rfl
  | cons v vs ih => cases h with | cons h1 h2 => simp [ih h2]
theorem VRs.split {vs us : List AV} {xs zs : List Value} (h : VRs M β (vs ++ us) (xs ++ zs)) (hl : zs.length = us.length) : VRs M β vs xs ∧ VRs M β us zs := by
  have hx : xs.length = vs.length := by have := h.len; simp only [List.length_append] at this; omega
  clear hl
  induction vs generalizing xs with
  | nil =>
    cases xs with
    | nil => exact ⟨.nil, h⟩
    | cons x xs => cases hx
  | cons v vs ih =>
    cases xs with
    | nil => cases hx
    | cons x xs => cases h with | cons h1 h2 => exact ⟨.cons h1 (ih h2 (by simpa using hx)).1, (ih h2 (by simpa using hx)).2⟩
/-- Pointers to variables: what they are hangs on their places alone. -/
def isRefs (k0 : Nat) : List AV → Bool
  | [] => true
  | .ref o [] :: l => Nat.ble (o + 1) k0 && isRefs k0 l
  | _ :: _ => false
theorem refs_vr {k0 : Nat} : ∀ {refs : List AV} {xp : List Value}, isRefs k0 refs = true → VRs M β refs xp → (∀ o, o < k0 → β' o = β o) → VRs M' β' refs xp
  | [], _, _, h, _ => by cases h; exact .nil
  | r :: l, _, hr, h, hb => by
    cases h with
    | cons h1 h2 =>
      cases r with
      | ref o p =>
        cases p with
        | nil =>
          simp only [isRefs, Bool.and_eq_true] at hr
          have ho := Nat.le_of_ble_eq_true hr.1
          refine .cons ?_ (refs_vr hr.2 h2 hb)
          cases h1 with
          | one hm h =>
            cases h with
            | ref h => exact .one rfl (.ref (by rw [hb o (by omega)]; exact h))
          | agg hm h => cases hm
        | cons _ _ => cases hr
      | _ => cases hr
theorem own_cells (hst : St E M β O w) (hm : (O.all fun p => match p.2 with | .map _ => false | _ => true) = true) : ∀ b, ownOf O β b → ∃ cs e fz, w.heap[b]? = some (.cells cs e fz) := by
  rintro b ⟨o, ob, κ, hl, hb, hk⟩
  obtain ⟨b', κ', hb', hor⟩ := hst.objs o ob hl
  rw [hb] at hb'
  cases hb'
  have hp := List.all_eq_true.1 hm _ (lk_mem hl)
  cases ob with
  | var c => obtain ⟨_, _, cs, e, fz, h3, _⟩ := hor; exact ⟨_, _, _, h3⟩
  | row c =>
    obtain ⟨_, _, ⟨h3, _⟩ | ⟨_, cc, sp, e, fz, h3, _⟩⟩ := hor
    · exact absurd h3 hk
    · exact ⟨_, _, _, h3⟩
  | map ks => cases hp
/-- What is asked of an iterator's call. -/
def ItRun (P : Program) (gf : FuncId) (l : Nat) (rec : Loop) (xp : List Value) : Runner := fun xs w Q => ∀ ys, xs = ys ++ xp → w.heap[l]? = some (.loop rec) →
  Calls P gf ys.toArray w fun e w' => Q e w' ∧ ∀ (b : Nat) (x : Obj), w.heap[b]? = some x → (∀ cs e fz, x ≠ .cells cs e fz) → w'.heap[b]? = some x
theorem ItRun.mono {gf : FuncId} {l : Nat} {rec : Loop} {xp : List Value} (xs : List Value) (w : World) (Q Q' : Ending → World → Prop) (h : ∀ e w', Q e w' → Q' e w') (hy : ItRun P gf l rec xp xs w Q) : ItRun P gf l rec xp xs w Q' := fun ys e hl =>
  Calls.mono (hy ys e hl) fun e w' h' => ⟨h e w' h'.1, h'.2⟩
theorem rel_entry {args : List AV} {xs : List Value} {fn : Func} {k k0 : Nat} (hids : ∀ o, lk O o = none → β o = none) (hst : St ⟨w, ownOf O β, M, nob, 0, fun _ => True⟩ M β O w) (hxs : VRs M β args xs) (hN : args.length ≤ fn.ntmps) (hk : ∀ p ∈ O, p.1 < k) (hk0 : k0 ≤ k) :
    RelAt ⟨w, ownOf O β, M, β, k0, fun _ => True⟩ fn.ntmps M β (numT 0 args) O k { tmps := xs.toArray ++ Array.replicate (fn.ntmps - xs.toArray.size) undef, defers := [] } w := by
  have hxl := hxs.len
  refine ⟨⟨hst.pool, hst.sub, hst.only, hst.objs, hst.mine, hst.inj, hst.size, hst.keep, hst.os, hst.tape, hst.output⟩, fun o ho _ => hids o ?_, fun t v hl => ?_, rfl, ?_, fun _ _ => rfl, hk0⟩
  · rw [lk_none]
    intro hm
    obtain ⟨p, hp, rfl⟩ := List.mem_map.1 hm
    have := hk p hp
    omega
  · obtain ⟨x, hx, hv⟩ := numT_spec [] hxs t v hl
    refine ⟨x, ?_, hv⟩
    have ht : t < xs.length := by
      have := (List.getElem?_eq_some_iff.1 hx).1
      simpa using this
    simp only [List.nil_append] at hx
    rw [Array.getElem?_append_left (by simpa using ht)]
    simpa using hx
  · simp; omega
/-- An iterator's contract. -/
theorem it_of_vc (tb : List (Nat × Plan)) {gf : FuncId} {fn : Func} {c : Code} {args refs : List AV} {r : AV} {l : Nat} {rec : Loop} {xp : List Value} (k0 k na : Nat) (rs : List ResultVar) (hf : P.funcs[gf]? = some fn) (hb : fn.body = some c) (hres : fn.results.toList = rs) (hna : args.length = na) (hN : Nat.ble na fn.ntmps = true) (hd : dstOK tb fn.ntmps c = true) (hk : ∀ p ∈ O, p.1 < k) (hk0 : Nat.ble k0 k = true)
    (hv : (O.all fun p => match p.2 with | .var _ => Nat.ble (p.1 + 1) k0 | _ => true) = true) (hm : (O.all fun p => match p.2 with | .map _ => false | _ => true) = true) (hrefs : isRefs k0 refs = true) (hxp : xp.length = refs.length)
    (h : ev (numT 0 args) fun T => ev O fun O1 => vcD P tb k0 (vcY P (YRun P l rec xp) (.fn (.yield l) []) refs) c (EndN P rs O r O') (fun _ _ _ _ => False) (EndN P rs O r O') T O1 k) : RunC (ItRun P gf l rec xp) (args ++ refs) O r O' := by
  intro w M β xs hids hst hxs ys e hl
  subst e
  obtain ⟨h1, h2⟩ := VRs.split hxs hxp
  have hvar : ∀ o c, lk O o = some (.var c) → o < k0 := fun o c h => Nat.le_of_ble_eq_true (List.all_eq_true.1 hv _ (lk_mem h))
  have hown := own_cells hst hm
  refine calls_of_wp hf hb ?_
  have fin : ∀ T O1 n a w', EndN P rs O r O' T O1 n → Rel ⟨w, ownOf O β, M, β, k0, fun _ => True⟩ fn.ntmps T O1 n a w' → a.defers = [] ∧ ∃ v, (results fn a.tmps).run P w' = .ok v w' ∧ ((∃ x M' β', Ending.returned v = .returned x ∧ VR M' β' r x ∧ St ⟨w, ownOf O β, M, nob, 0, fun _ => True⟩ M' β' O' w' ∧ (∀ o c, lk O o = some (.var c) → β' o = β o)) ∧
      ∀ (b : Nat) (x : Obj), w.heap[b]? = some x → (∀ cs e fz, x ≠ .cells cs e fz) → w'.heap[b]? = some x) := by
    intro T O1 n a w' he hr
    obtain ⟨g1, v, g2, g3⟩ := ends_run hvar T O1 n a w' (by rw [hres]; exact he) hr
    refine ⟨g1, v, g2, g3, fun b x hb hc => ?_⟩
    obtain ⟨M', β', hr⟩ := hr
    exact hr.other hown hb hc
  exact vcD_sound (E := ⟨w, ownOf O β, M, β, k0, fun _ => True⟩) (N := fn.ntmps) (fun _ => trivial) tb (fun id ops K Q T O n a w hd hK hy hr => wpIn_wide.1 (wpIn_region (n := 1) (by
      have := vcY_sound (fun _ => trivial) hl hown (fun M' β' hb => refs_vr hrefs h2 hb) hd hK ops.toList 0 T O n a w rfl hy hr
      rw [Array.length_toList, ← List.range_eq_range'] at this
      exact this))) c ⟨fun T O1 n a w' he hr => fin T O1 n a w' he hr, fun _ _ _ _ _ _ h _ => h.elim, fun T O1 n a w' he hr => fin T O1 n a w' he hr⟩ hd h ⟨M, β, rel_entry hids hst h1 (by rw [hna]; exact Nat.le_of_ble_eq_true hN) hk (Nat.le_of_ble_eq_true hk0)⟩
/-- A round's contract: the loop's parameters are p1 and p2; `tr` are the temporaries that hold pointers. -/
theorem round_of_vc (tb : List (Nat × Plan)) {fn : Func} {as bo : Code} {refs : List AV} {l : Nat} {rec : Loop} {xp : List Value} {A1 A2 : AV} {tr : TT} (k0 k p1 p2 : Nat) (has : rec.assign = as) (hbo : rec.body = bo) (hps : rec.params = #[p1, p2]) (hst0 : rec.state = .ready) (hpe : rec.pending = none) (hsz : rec.tmps.size = fn.ntmps)
    (hp : p1 ≠ p2) (hp1 : p1 < fn.ntmps) (hp2 : p2 < fn.ntmps) (hdr : dstOK tb fn.ntmps as = true) (hdb : dstOK tb fn.ntmps bo = true) (hpl1 : plainC tb as = true) (hpl2 : plainC tb bo = true) (hk : ∀ p ∈ O, p.1 < k) (hk0 : Nat.ble k0 k = true)
    (hv : (O.all fun p => match p.2 with | .var _ => Nat.ble (p.1 + 1) k0 | _ => true) = true) (hm : (O.all fun p => match p.2 with | .map _ => false | _ => true) = true) (hxp : xp.length = refs.length)
    (htr : ∀ (M : Pool) (β : Bmap), VRs M β refs xp → ∀ t v, lk tr t = some v → t ≠ p1 ∧ t ≠ p2 ∧ ∃ x, rec.tmps[t]? = some x ∧ VR M β v x)
    (h : vcC P tb k0 as (vcC P tb k0 bo (EndC P [] O (.tup []) O') (fun _ _ _ _ => False) (fun _ _ _ => False)) (fun _ _ _ _ => False) (fun _ _ _ => False) ((p1, A1) :: (p2, A2) :: tr) O k) : RunC (YRun P l rec xp) ([A1, A2] ++ refs) O (.bool true) O' := by
  intro w M β xs hids hst hxs ys e hl
  subst e
  obtain ⟨h1, h2⟩ := VRs.split hxs hxp
  have hvar : ∀ o c, lk O o = some (.var c) → o < k0 := fun o c h => Nat.le_of_ble_eq_true (List.all_eq_true.1 hv _ (lk_mem h))
  have hown := own_cells hst hm
  cases h1 with
  | @cons _ _ _ x1 _ hv1 h1 =>
    cases h1 with
    | @cons _ _ _ x2 _ hv2 h1 =>
      cases h1
      refine ⟨rec.fn, _, rec.assign, rec.body, run_yield hl (by rw [hps]; rfl), roundIn_of_wpIn trivial ?_⟩
      rw [has, hbo, hps]
      have hnl : ∀ (cs : Array Value) (e : TypeId) (fz : Nat × Nat), Obj.loop rec ≠ .cells cs e fz := fun _ _ _ e => by cases e
      have hnm : ∀ es cl, Obj.loop rec ≠ .map es cl := fun _ _ e => by cases e
      have hlt := (Array.getElem?_eq_some_iff.1 hl).1
      have hnown : ¬ ownOf O β l := fun ho => by obtain ⟨cs, e, fz, h3⟩ := hown l ho; rw [hl] at h3; cases h3
      -- the round's state at its beginning
      have hr0 : RelAt ⟨w, ownOf O β, M, β, k0, fun _ => True⟩ fn.ntmps M β ((p1, A1) :: (p2, A2) :: tr) O k { tmps := ((#[p1, p2] : Array Nat).zip [x1, x2].toArray).foldl (fun t (p, v) => t.setIfInBounds p v) rec.tmps, defers := [] } w := by
        have etm : ((#[p1, p2] : Array Nat).zip [x1, x2].toArray).foldl (fun t (p, v) => t.setIfInBounds p v) rec.tmps = (rec.tmps.setIfInBounds p1 x1).setIfInBounds p2 x2 := by simp [← Array.foldl_toList, Array.toList_zip]
        rw [etm]
        refine ⟨⟨hst.pool, hst.sub, hst.only, hst.objs, hst.mine, hst.inj, hst.size, hst.keep, hst.os, hst.tape, hst.output⟩, fun o ho _ => hids o ?_, fun t v hl => ?_, rfl, ?_, fun _ _ => rfl, Nat.le_of_ble_eq_true hk0⟩
        · rw [lk_none]
          intro hm
          obtain ⟨p, hp, rfl⟩ := List.mem_map.1 hm
          have := hk p hp
          omega
        · simp only [lk] at hl
          split at hl
          · rename_i e; subst e; cases hl
            refine ⟨x1, ?_, hv1⟩
            rw [Array.getElem?_setIfInBounds_ne (Ne.symm hp), Array.getElem?_setIfInBounds_self_of_lt (by rw [hsz]; exact hp1)]
          · split at hl
            · rename_i e; subst e; cases hl
              refine ⟨x2, ?_, hv2⟩
              rw [Array.getElem?_setIfInBounds_self_of_lt (by rw [Array.size_setIfInBounds, hsz]; exact hp2)]
            · obtain ⟨g1, g2, x, g3, g4⟩ := htr M β h2 t v hl
              exact ⟨x, by rw [Array.getElem?_setIfInBounds_ne (Ne.symm g2), Array.getElem?_setIfInBounds_ne (Ne.symm g1)]; exact g3, g4⟩
        · rw [Array.size_setIfInBounds, Array.size_setIfInBounds, hsz]
      refine vcC_in (ro := some l) (E := ⟨w, ownOf O β, M, β, k0, fun _ => True⟩) (N := fn.ntmps) (fun _ => trivial) tb as ⟨fun T O1 n a w1 hk1 hr1 => ?_, fun _ _ _ _ _ _ h _ => h.elim, fun _ _ _ _ _ h _ => h.elim⟩ hdr hpl1 h ⟨M, β, hr0⟩
      obtain ⟨M1, β1, hr1⟩ := hr1
      have hl1 : w1.heap[l]? = some (.loop rec) := hr1.other hown hl hnl
      have hlt1 := (Array.getElem?_eq_some_iff.1 hl1).1
      refine ⟨_, run_beginRound hl1 hst0, ?_⟩
      have hr2 := hr1.swap (w' := w1.putObj l (.loop { rec with state := .busy })) (W0 := w.putObj l (.loop { rec with state := .busy })) hl1 hnl hnm World.putObj_size (fun b hb => World.putObj_heap_other hb) hr1.st.os hr1.st.tape hr1.st.output World.putObj_size
        (fun b hlt hn => by
          by_cases e : b = l
          · subst e; rw [World.putObj_heap_same hlt1, World.putObj_heap_same hlt]
          · rw [World.putObj_heap_other e, World.putObj_heap_other e]; exact hr1.st.keep b hlt hn)
      refine vcC_in (ro := some l) (E := ⟨w.putObj l (.loop { rec with state := .busy }), ownOf O β, M, β, k0, fun _ => True⟩) (N := fn.ntmps) (fun _ => trivial) tb bo ⟨fun T O1 n a w3 hk3 hr3 => ?_, fun _ _ _ _ _ _ h _ => h.elim, fun _ _ _ _ _ h _ => h.elim⟩ hdb hpl2 hk1 ⟨M1, β1, hr2⟩
      obtain ⟨M3, β3, hr3⟩ := hr3
      have hl3 : w3.heap[l]? = some (.loop { rec with state := .busy }) := hr3.other (fun b ho => by
        obtain ⟨cs, e, fz, h3⟩ := hown b ho
        have hbl : b ≠ l := fun h => hnown (by rw [← h]; exact ho)
        exact ⟨cs, e, fz, (World.putObj_heap_other hbl).trans h3⟩) (World.putObj_heap_same hlt) (fun _ _ _ e => by cases e)
      have hlt3 := (Array.getElem?_eq_some_iff.1 hl3).1
      have erec : ({ ({ rec with state := .busy } : Loop) with state := if (none : Option Code).isNone then LoopState.ready else .done, pending := none } : Loop) = rec := by
        cases rec; simp_all
      have hend := run_endRound (P := P) none hl3
      rw [erec] at hend
      refine ⟨.bool true, _, hend, ?_⟩
      have hr4 := hr3.swap (w' := w3.putObj l (.loop rec)) (W0 := w) hl3 (fun _ _ _ e => by cases e) (fun _ _ e => by cases e) World.putObj_size (fun b hb => World.putObj_heap_other hb) hr3.st.os hr3.st.tape hr3.st.output World.putObj_size.symm
        (fun b hlt' hn => by
          by_cases e : b = l
          · subst e; rw [World.putObj_heap_same hlt3]; exact hl.symm
          · rw [World.putObj_heap_other e]
            have := hr3.st.keep b hlt' hn
            rw [this]
            exact World.putObj_heap_other e)
      obtain ⟨_, v, _, x, M5, β5, _, _, g1, g2⟩ := ends_run (fn := { fn with results := #[] }) hvar T O1 n a _ hk3 ⟨M3, β3, hr4⟩
      exact ⟨_, M5, β5, rfl, .one rfl (.bool true), g1, g2⟩
end
end Go.Sy
/- A range over a function: the function that ranges. -/
namespace Go.Sy
open Go
set_option linter.unusedSimpArgs false
set_option linter.unusedVariables false
section
variable {E : Env} {N : Nat} {M M' M1 : Pool} {β β' β1 β2 : Bmap} {T T' : TT} {O O' O1 O2 : OO} {n m : Nat} {a : Act} {w w' : World} {P : Program} {o : Oper}
theorem tr_vr {tm : Array Value} {tr : TT} : VRs M β (tr.map (·.2)) (tr.map fun p => tm.getD p.1 undef) → (∀ p ∈ tr, p.1 < tm.size) → ∀ t v, lk tr t = some v → ∃ x, tm[t]? = some x ∧ VR M β v x := by
  induction tr with
  | nil => intro _ _ t v h; cases h
  | cons p tr ih =>
    obtain ⟨t0, v0⟩ := p
    intro h hlt t v hl
    cases h with
    | cons h1 h2 =>
      simp only [lk] at hl
      split at hl
      · rename_i e; subst e; cases hl
        have := hlt (t0, v0) (List.mem_cons_self ..)
        exact ⟨_, by rw [Array.getElem?_eq_getElem this], by simpa [Array.getD, this] using h1⟩
      · exact ih h2 (fun p hp => hlt p (List.mem_cons_of_mem _ hp)) t v hl
/-- Part of the world is looked at as new: what was laid since, but for block D. -/
theorem RelAt.since (h : RelAt E N M β T O n a w) {D : Nat} {x : Obj} (hD : w.heap[D]? = some x) (hc : ∀ cs e fz, x ≠ .cells cs e fz) (hm : ∀ es cl, x ≠ .map es cl) :
    RelAt ⟨w, fun b => (E.own b ∨ E.w0.heap.size ≤ b) ∧ b ≠ D, E.M0, E.B0, E.n0, E.ok⟩ N M β T O n a w := by
  have st := h.st
  have noM : ∀ i v, M D i ≠ some v := fun i v hv => by
    have := st.pool D i v hv
    unfold World.cell? at this
    simp only [hD] at this
    cases x <;> simp_all
  refine ⟨⟨st.pool, st.sub, fun b i v hv => (st.only b i v hv).imp id fun ho => .inl ⟨ho, fun e => noM i v (e ▸ hv)⟩, st.objs, fun o ob b κ h1 h2 h3 => ⟨(st.mine o ob b κ h1 h2 h3).1, .inl ⟨(st.mine o ob b κ h1 h2 h3).2, fun e => ?_⟩⟩, st.inj, Nat.le_refl _, fun _ _ _ => rfl, rfl, rfl, rfl⟩, h.ids, h.tmps, h.nd, h.sz, h.base, h.le0⟩
  subst e
  obtain ⟨b', κ', g1, g2⟩ := st.objs o ob h1
  rw [h2] at g1
  cases g1
  cases ob with
  | var c => obtain ⟨_, _, cs, e, fz, h4, _⟩ := g2; rw [hD] at h4; exact hc _ _ _ (Option.some.inj h4)
  | row c =>
    obtain ⟨_, _, ⟨h4, _⟩ | ⟨_, cc, sp, e, fz, h4, _⟩⟩ := g2
    · exact h3 h4
    · rw [hD] at h4; exact hc _ _ _ (Option.some.inj h4)
  | map ks => obtain ⟨_, es, cl, h4, _⟩ := g2; rw [hD] at h4; exact hm _ _ (Option.some.inj h4)
theorem RelAt.back {D : Nat} {w1 : World} (h1 : St E M1 β1 O1 w1) (h : RelAt ⟨w1, fun b => (E.own b ∨ E.w0.heap.size ≤ b) ∧ b ≠ D, E.M0, E.B0, E.n0, E.ok⟩ N M β T O n a w) : RelAt E N M β T O n a w := by
  have st := h.st
  have hs := h1.size
  refine ⟨⟨st.pool, st.sub, fun b i v hv => (st.only b i v hv).imp id fun ho => ho.elim (fun h => h.1) (fun h => .inr (Nat.le_trans hs h)), st.objs, fun o ob b κ g1 g2 g3 => ⟨(st.mine o ob b κ g1 g2 g3).1, (st.mine o ob b κ g1 g2 g3).2.elim (fun h => h.1) (fun h => .inr (Nat.le_trans hs h))⟩, st.inj, Nat.le_trans hs st.size, fun b hlt hn => ?_, st.os.trans h1.os, st.tape.trans h1.tape, st.output.trans h1.output⟩, h.ids, h.tmps, h.nd, h.sz, h.base, h.le0⟩
  rw [st.keep b (Nat.lt_of_lt_of_le hlt hs) (fun ho => ho.1.elim hn (fun h => by omega))]
  exact h1.keep b hlt hn
theorem tr_pts {I : TT} {N : Nat} (hr : RelAt E N M β I O n a w) : ∀ {tr : TT}, (∀ p ∈ tr, lk I p.1 = some p.2) → VRs M β (tr.map (·.2)) (tr.map fun p => a.tmps.getD p.1 undef)
  | [], _ => .nil
  | p :: tr, h => by
    obtain ⟨x, hx, hv⟩ := hr.tmps _ _ (h p (List.mem_cons_self ..))
    refine .cons ?_ (tr_pts hr fun q hq => h q (List.mem_cons_of_mem _ hq))
    have hlt := (Array.getElem?_eq_some_iff.1 hx).1
    rw [Array.getElem?_eq_getElem hlt] at hx
    cases hx
    simpa [Array.getD, hlt] using hv
/-- A function that ranges over a function, and hands back what lies in its variables then. -/
theorem fn_range (hm : P.follows .mixedOrders = true) (tb : List (Nat × Plan)) {f gf : FuncId} {fn : Func} {args caps : List AV} {r : AV} {r0 r1 cd r3 as bo : Code} {bid i9 : Nat} {ops9 : Array Oper} {I1 : TT} {J1 : OO} {n1 : Nat} (tr : TT) (na gt p1 p2 : Nat) (rs : List ResultVar)
    (hf : P.funcs[f]? = some fn) (hb : fn.body = some (.seq r0 (.seq (.seq r1 cd) (.seq (.seq r3 (.block bid (.rangeFunc (.tmp gt) #[p1, p2] as bo))) (.seq (.region i9 ops9 false) .ret))))) (hres : fn.results.toList = rs) (hnm : (fn.name == "runtime.NumGoroutine") = false)
    (hna : args.length = na) (hN : Nat.ble na fn.ntmps = true) (hd0 : dstOK tb fn.ntmps r0 = true) (hd1 : dstOK tb fn.ntmps (.seq r1 cd) = true) (hd3 : dstOK tb fn.ntmps r3 = true) (hd9 : dstOK tb fn.ntmps (.region i9 ops9 false) = true) (hq9 : ops9.toList.all quiet = true)
    (heg : ∀ (args : Array Value) (w : World), (callFunc gf args).run P w = .ok (.enter gf args) w)
    (hpre : ev (numT 0 args) fun T => vcC P tb 0 r0 (vcC P tb 0 (.seq r1 cd) (vcC P tb 0 r3 (fun T O n => Sub 0 T O I1 J1 n1) (fun _ _ _ _ => False) (End0 P rs r)) (fun _ _ _ _ => False) (End0 P rs r)) (fun _ _ _ _ => False) (End0 P rs r) T [] 0)
    (hcl : lk I1 gt = some (.fn (.func gf) caps)) (htr : (tr.all fun p => Nat.ble (p.1 + 1) fn.ntmps && !Nat.beq p.1 p1 && !Nat.beq p.1 p2) = true) (htrI : ∀ p ∈ tr, lk I1 p.1 = some p.2)
    (hit : ∀ (l : Nat) (rec : Loop) (xp : List Value), rec.assign = as → rec.body = bo → rec.params = #[p1, p2] → rec.state = .ready → rec.pending = none → rec.tmps.size = fn.ntmps → xp.length = (tr.map (·.2)).length →
      (∀ (M : Pool) (β : Bmap), VRs M β (tr.map (·.2)) xp → ∀ t v, lk tr t = some v → t ≠ p1 ∧ t ≠ p2 ∧ ∃ x, rec.tmps[t]? = some x ∧ VR M β v x) →
      RunP (ItRun P gf l rec xp) (.fn (.yield l) [] :: (caps ++ tr.map (·.2))) J1 n1 fun _ O' n' => vcOps P ops9.toList ops9.toList (End0 P rs r) I1 O' n') : FnC P f args [] r [] := by
  refine ⟨⟨fn, hf, hnm, by simp [hb]⟩, fun w M β xs hids hst hxs => callsIn_wide.1 (callsIn_of_wp_marks (F := Fence.wide) (n := 1) hf hb trivial (wpIn_wide.2 ?_))⟩
  have fin : ∀ T O1 n a w', End0 P rs r T O1 n → Rel ⟨w, ownOf [] β, M, β, 0, fun _ => True⟩ fn.ntmps T O1 n a w' → a.defers = [] ∧ ∃ v, (results fn a.tmps).run P w' = .ok v w' ∧ ∃ x M' β', Ending.returned v = .returned x ∧ VR M' β' r x ∧ St ⟨w, ownOf [] β, M, nob, 0, fun _ => True⟩ M' β' [] w' ∧ (∀ o c, lk ([] : OO) o = some (.var c) → β' o = β o) := fun T O1 n a w' he hr =>
    ends_run (fun o c h => by cases h) T O1 n a w' (by rw [hres]; exact End0_EndC T O1 n he) hr
  have hret : ∀ T O1 n a w', End0 P rs r T O1 n → Rel ⟨w, ownOf [] β, M, β, 0, fun _ => True⟩ fn.ntmps T O1 n a w' → bodyPostM Fence.wide 1 P fn (fun e w' => ∃ x M' β', e = .returned x ∧ VR M' β' r x ∧ St ⟨w, ownOf [] β, M, nob, 0, fun _ => True⟩ M' β' [] w' ∧ (∀ o c, lk ([] : OO) o = some (.var c) → β' o = β o)) .ret a w' := fun T O1 n a w' he hr => by
    obtain ⟨g1, v, g2, g3⟩ := fin T O1 n a w' he hr
    show LeavesInM _ _ _ _ _ _ a.defers _ _
    rw [g1]
    exact ⟨v, g2, g3⟩
  have hE : ∀ o, (⟨w, ownOf [] β, M, β, 0, fun _ => True⟩ : Env).ok o := fun _ => trivial
  have hr0 := rel_entry (fn := fn) (k := 0) (k0 := 0) hids hst hxs (by rw [hna]; exact Nat.le_of_ble_eq_true hN) (fun p h => by cases h) (Nat.le_refl _)
  refine wp_seq (vcC_sound hm hE tb (N := fn.ntmps) r0 ⟨fun Ta Oa na aa wa k1 g1 => ?_, fun _ _ _ _ _ _ h _ => h.elim, hret⟩ hd0 hpre ⟨M, β, hr0⟩)
  refine wp_seq (vcC_sound hm hE tb (N := fn.ntmps) _ ⟨fun Tb Ob nb ab wb k2 g2 => ?_, fun _ _ _ _ _ _ h _ => h.elim, hret⟩ hd1 k1 g1)
  refine wp_seq (wp_seq (vcC_sound hm hE tb (N := fn.ntmps) r3 ⟨fun Tc Oc nc a w1 k3 g3 => ?_, fun _ _ _ _ _ _ h _ => h.elim, hret⟩ hd3 k2 g2))
  obtain ⟨M0, β0, g3⟩ := g3
  obtain ⟨M1, β1, hr1⟩ := g3.ren hE k3
  clear g3 k3 g2 k2 g1 k1 hr0 hpre
  refine wp_block ((wpIn_wide (n := 1)).1 (wpIn_rangeFunc fun fq _ => ?_))
  obtain ⟨gx, hgx, hgv⟩ := hr1.tmps gt _ hcl
  cases hgv with
  | agg hm _ => cases hm
  | one _ hgv =>
  cases hgv with
  | @fn _ _ _ lb hcaps =>
  have heval : a.eval (.tmp gt) = .func (.func gf) #[] lb.toArray := by simp [Act.eval, hgx]
  obtain ⟨rec, hrec⟩ : ∃ rec : Loop, rec = { state := .ready, pending := none, fn := fq, tmps := a.tmps, params := #[p1, p2], assign := as, body := bo, defers := w1.heap.size } := ⟨_, rfl⟩
  obtain ⟨W2, hW2⟩ : ∃ W2, (w1.alloc (.deferred (some []))).alloc (.loop rec) = W2 := ⟨_, rfl⟩
  have hL : W2.heap[w1.heap.size + 1]? = some (.loop rec) := by
    rw [← hW2]; have := World.alloc_heap_new (w1.alloc (.deferred (some []))) (.loop rec); rwa [World.size_alloc] at this
  have hD : W2.heap[w1.heap.size]? = some (.deferred (some [])) := by
    rw [← hW2]
    show ((w1.alloc (.deferred (some []))).heap.push _)[w1.heap.size]? = _
    rw [Array.getElem?_push, if_neg (by rw [World.size_alloc]; omega)]
    exact World.alloc_heap_new w1 _
  have hr2 : RelAt ⟨w, ownOf [] β, M, β, 0, fun _ => True⟩ fn.ntmps M1 β1 I1 J1 n1 a W2 := by rw [← hW2]; exact (hr1.laid _).laid _
  have hall : ∀ p ∈ tr, p.1 < a.tmps.size ∧ p.1 ≠ p1 ∧ p.1 ≠ p2 := fun p hp => by
    have := List.all_eq_true.1 htr p hp
    simp only [Bool.and_eq_true, Bool.not_eq_true'] at this
    refine ⟨?_, fun e => ?_, fun e => ?_⟩
    · rw [hr1.sz]; exact Nat.le_of_ble_eq_true this.1.1
    · rw [e] at this; simp at this
    · rw [e] at this; simp at this
  have hxv := tr_pts hr1 htrI
  have hRun := hit (w1.heap.size + 1) rec (tr.map fun p => a.tmps.getD p.1 undef) (by rw [hrec]) (by rw [hrec]) (by rw [hrec]) (by rw [hrec]) (by rw [hrec]) (by rw [hrec]; exact hr1.sz) (by simp) (fun M β hv t v hl => by
    obtain ⟨p, hp, e⟩ : ∃ p ∈ tr, p.1 = t := by
      have := lk_mem hl
      exact ⟨_, this, rfl⟩
    obtain ⟨x, hx, hxv⟩ := tr_vr hv (fun p hp => (hall p hp).1) t v hl
    refine ⟨e ▸ (hall p hp).2.1, e ▸ (hall p hp).2.2, x, by rw [hrec]; exact hx, hxv⟩)
  have hcall := run_gen (E := ⟨w, ownOf [] β, M, β, 0, fun _ => True⟩) (ItRun.mono) hr2 (fun _ _ _ _ _ _ _ => trivial) (.cons (.one rfl (.fn .nil)) (hcaps.append hxv)) hRun (.func (.yield (w1.heap.size + 1)) #[] #[] :: lb) rfl hL
  refine ⟨w1.heap.size + 1, [{ target := .collected w1.heap.size, args := #[] }], W2, { target := .fn (.func gf) lb.toArray, args := #[.func (.yield (w1.heap.size + 1)) #[] #[]] }, W2, gf, #[.func (.yield (w1.heap.size + 1)) #[] #[]] ++ lb.toArray, W2, ?_, ?_, fun _ _ => trivial, ?_, fun _ => Nat.le_refl _, callsIn_wide.2 ?_⟩
  · rw [← hW2, hrec]; exact run_enterLoop_outer _ _ _ _ _
  · simp only [resolve, heval]
    simp [go_sem]
  · simp [invoke, go_sem, heg]
  have earg : #[Value.func (.yield (w1.heap.size + 1)) #[] #[]] ++ lb.toArray = (Value.func (.yield (w1.heap.size + 1)) #[] #[] :: lb).toArray := by simp
  rw [earg]
  refine Calls.mono hcall ?_
  rintro e w3 ⟨⟨x, r', O3, n3, M3, β3, rfl, hκ, hvr, hr3⟩, hkeep⟩
  have hL3 := hkeep _ _ hL (fun _ _ _ e => by cases e)
  have hD3 := hkeep _ _ hD (fun _ _ _ e => by cases e)
  have hend := run_endLoop (P := P) hL3 (by rw [hrec]; simp)
  obtain ⟨w4, hw4⟩ : ∃ w4, w3.putObj (w1.heap.size + 1) (.loop { rec with state := .exhausted }) = w4 := ⟨_, rfl⟩
  rw [hw4] at hend
  have epe : rec.pending = none := by rw [hrec]
  rw [epe] at hend
  refine ⟨none, w4, hend, ?_⟩
  have hws : w.heap.size ≤ w1.heap.size := hr1.st.size
  have hD4 : w4.heap[w1.heap.size]? = some (.deferred (some [])) := by rw [← hw4]; exact (World.putObj_heap_other (by omega)).trans hD3
  have hr4 := hr3.swap (w' := w4) (W0 := w) hL3 (fun _ _ _ e => by cases e) (fun _ _ e => by cases e) (by rw [← hw4]; exact World.putObj_size) (fun b hb => by rw [← hw4]; exact World.putObj_heap_other hb) (by rw [← hw4]; exact hr3.st.os) (by rw [← hw4]; exact hr3.st.tape) (by rw [← hw4]; exact hr3.st.output) rfl
    (fun b hlt hn => by
      have hlt' : b < w.heap.size := hlt
      rw [← hw4]
      exact (World.putObj_heap_other (by omega)).trans (hr3.st.keep b hlt hn))
  have hd9' : ∀ o ∈ ops9.toList, ∀ t, o.dst = some t → t < fn.ntmps := fun o ho t e => by
    simp only [dstOK, Bool.and_eq_true, List.all_eq_true] at hd9
    have := hd9.1 o ho
    rw [e] at this
    simpa using this
  have hnd := hr1.nd
  rw [hnd]
  show (Code.seq (.region i9 ops9 false) .ret).wp P _ _ _
  refine wp_seq ((wpIn_wide (n := 1)).1 (wpIn_region ?_))
  refine opsIn_defers (ro := none) (k := 1) [{ target := .collected w1.heap.size, args := #[] }] (fun o ho => List.all_eq_true.1 hq9 o ho) _ a w4 ?_
  have hq : ∀ o ∈ ops9.toList, ∀ c, o.op ≠ .defer c := fun o ho c e => by
    have := List.all_eq_true.1 hq9 o ho
    unfold quiet at this
    rw [e] at this
    cases this
  have := vcOps_in (ro := none) (k := 1) (E := ⟨w4, fun b => (ownOf [] β b ∨ w.heap.size ≤ b) ∧ b ≠ w1.heap.size, M, β, 0, fun _ => True⟩) (N := fn.ntmps) (P := P) (ops := ops9) (K := End0 P rs r)
    (Q := fun e a w' => (Exit.then (Code.ret.wp P (bodyPostM Fence.wide 1 P fn (fun e w' => ∃ x M' β', e = .returned x ∧ VR M' β' r x ∧ St ⟨w, ownOf [] β, M, nob, 0, fun _ => True⟩ M' β' [] w' ∧ (∀ o c, lk ([] : OO) o = some (.var c) → β' o = β o)))) (bodyPostM Fence.wide 1 P fn (fun e w' => ∃ x M' β', e = .returned x ∧ VR M' β' r x ∧ St ⟨w, ownOf [] β, M, nob, 0, fun _ => True⟩ M' β' [] w' ∧ (∀ o c, lk ([] : OO) o = some (.var c) → β' o = β o)))) e { a with defers := [{ target := .collected w1.heap.size, args := #[] }] } w')
    (fun _ => trivial) hd9' hq [] (fun T9 O9 n9 a9 w9 hk9 hr9 => ?_) ops9.toList 0 I1 O3 n3 a w4 (by simp) (by simp) hκ ⟨M3, β3, hr4.since hD4 (fun _ _ _ e => by cases e) (fun _ _ e => by cases e)⟩
  · rw [Array.length_toList, List.length_nil, Nat.add_zero, ← List.range_eq_range'] at this
    exact this
  · obtain ⟨M9, β9, hr9⟩ := hr9
    have hlt4 := (Array.getElem?_eq_some_iff.1 hD4).1
    have hD9 : w9.heap[w1.heap.size]? = some (.deferred (some [])) := by
      rw [hr9.st.keep _ hlt4 (fun h => h.2 rfl)]; exact hD4
    have hr9 : RelAt ⟨w, ownOf [] β, M, β, 0, fun _ => True⟩ fn.ntmps M9 β9 T9 O9 n9 a9 w9 := RelAt.back (E := ⟨w, ownOf [] β, M, β, 0, fun _ => True⟩) hr4.st hr9
    have hr10 := hr9.swap (w' := w9.putObj w1.heap.size (.deferred none)) (W0 := w) hD9 (fun _ _ _ e => by cases e) (fun _ _ e => by cases e) World.putObj_size (fun b hb => World.putObj_heap_other hb) hr9.st.os hr9.st.tape hr9.st.output rfl
      (fun b hlt hn => by
        have hlt' : b < w.heap.size := hlt
        exact (World.putObj_heap_other (by omega)).trans (hr9.st.keep b hlt hn))
    obtain ⟨e1, v, e2, e3⟩ := fin T9 O9 n9 a9 _ hk9 ⟨M9, β9, hr10⟩
    show Code.ret.wp P _ _ _
    refine wp_ret ?_
    exact ⟨by simp, .inl ⟨_, _, rfl, run_takeDeferred hD9, v, e2, e3⟩⟩
end
end Go.Sy
/- A contract by which rows, too, stay where they are: by a walk. -/
namespace Go.Sy
open Go
set_option linter.unusedSimpArgs false
set_option linter.unusedVariables false
def keepsOK (σ : List (Nat × Nat)) : List Nat → Prop
  | [] => True
  | o :: ks => (idC σ o fun o' => o' = o) ∧ keepsOK σ ks
theorem keepsOK_spec {σ : List (Nat × Nat)} : ∀ {ks : List Nat}, keepsOK σ ks → ∀ o, ks.contains o = true → lk σ o = some o
  | [], _, o, h => by cases h
  | x :: ks, h, o, ho => by
    rw [List.contains_cons, Bool.or_eq_true, beq_iff_eq] at ho
    rcases ho with rfl | ho
    · obtain ⟨o', h1, h2⟩ := idC_spec h.1
      rw [h1, h2]
    · exact keepsOK_spec h.2 o ho
def EndY (ks : List Nat) (O0 : OO) (r : AV) (O' : OO) (v : AV) (O : OO) : Prop := ∃ (σ : List (Nat × Nat)) (Z F : List Nat), okE σ Z F O0 = true ∧ matC σ Z (frzO O F) r v ∧ holdsN O σ Z (frzO O F) O' ∧ varsOK σ O0 ∧ keepsOK σ ks
def EndK (P : Program) (ks : List Nat) (rs : List ResultVar) (O0 : OO) (r : AV) (O' : OO) : CK := fun T O _ => resC P T O rs fun vs => ev (packC vs) fun v => EndY ks O0 r O' v O
section
variable {P : Program} {O O' : OO} {n : Nat} {k : Nat}
theorem fn_of_vcK (hm : P.follows .mixedOrders = true) (tb : List (Nat × Plan)) {f : FuncId} {fn : Func} {c : Code} {args : List AV} {r : AV} (ks : List Nat) (k : Nat) (hf : P.funcs[f]? = some fn) (hb : fn.body = some c) (hnm : (fn.name == "runtime.NumGoroutine") = false) (hN : args.length ≤ fn.ntmps) (hd : dstOK tb fn.ntmps c = true) (hk : ∀ p ∈ O, p.1 < k) (k0 : Nat) (hk0 : k0 ≤ k) (hvar : ∀ o c, lk O o = some (.var c) → o < k0) (hks : ∀ o, ks.contains o = true → o < k0)
    (F : CK) (hF : ∀ T O1 n, F T O1 n → EndK P ks fn.results.toList O r O' T O1 n) (h : vcC P tb k0 c F (fun _ _ _ _ => False) F (numT 0 args) O k) : FnK P ks f args O r O' := by
  refine ⟨⟨fn, hf, hnm, by simp [hb]⟩, fun w M β xs hids hst hxs => calls_of_wp hf hb ?_⟩
  have hxl : xs.length = args.length := by
    clear h hN
    revert hxs
    generalize args = args
    intro hxs
    induction xs generalizing args with
    | nil => cases hxs; rfl
    | cons x xs ih => cases hxs with | cons _ h2 => simp [ih _ h2]
  have ends : ∀ T O1 n a w', EndK P ks fn.results.toList O r O' T O1 n → Rel ⟨w, ownOf O β, M, β, k0, fun _ => True⟩ fn.ntmps T O1 n a w' → a.defers = [] ∧ ∃ v, (results fn a.tmps).run P w' = .ok v w' ∧
      ∃ x M' β', Ending.returned v = .returned x ∧ VR M' β' r x ∧ St ⟨w, ownOf O β, M, nob, 0, fun _ => True⟩ M' β' O' w' ∧ (∀ o c, lk O o = some (.var c) → β' o = β o) ∧ (∀ o, ks.contains o = true → β' o = β o) := by
    rintro T O1 n a w' he ⟨M', β', hr⟩
    obtain ⟨vs, x, ⟨σ, Z, F, h1, h2, h3, h4, h5⟩, hrun, hv⟩ := results_run hr he
    simp only [okE, Bool.and_eq_true, List.all_eq_true, decide_eq_true_eq, Bool.not_eq_true'] at h1
    obtain ⟨⟨⟨hF, h1⟩, hσZ⟩, hZ⟩ := h1
    have hF' : ∀ f ∈ F, ∀ o, lk σ o ≠ some f := fun f hf o e => by
      have := hF f hf
      have hm : f ∈ σ.map (·.2) := List.mem_map.2 ⟨_, lk_mem e, rfl⟩
      simp only [Bool.eq_false_iff] at this
      exact this (by simpa using hm)
    let b1 : Bmap := fun o => match lk σ o with | some o' => β' o' | none => if Z.contains o = true then some (0, 0) else β o
    have ha : Agr σ b1 β' := fun o o' h => by show (match lk σ o with | some o' => β' o' | none => _) = _; rw [h]
    have hz : NilOK Z b1 := fun o ho => by
      have : lk σ o = none := by
        rw [lk_none]
        intro hm
        obtain ⟨p, hp, rfl⟩ := List.mem_map.1 hm
        have := hσZ p hp
        rw [ho] at this
        cases this
      show (match lk σ o with | some o' => β' o' | none => if Z.contains o = true then some (0, 0) else β o) = _
      rw [this]
      simp only [ho, if_true]
    obtain ⟨M1, hM, hV, this⟩ := hr.st.ren hF' h1 ha hz h3
    refine ⟨hr.nd, x, hrun, x, M1, b1, rfl, (matC_spec σ Z _ _ _ h2).vr hM hV ha hz hv, ?_, fun o c hl => ?_, fun o ho => ?_⟩
    · exact ⟨this.pool, this.sub, this.only, this.objs, this.mine, this.inj, this.size, this.keep, this.os, this.tape, this.output⟩
    · show (match lk σ o with | some o' => β' o' | none => if Z.contains o = true then some (0, 0) else β o) = β o
      split
      · rename_i o' e'
        have : ∀ {O : OO}, varsOK σ O → (o, OB.var c) ∈ O → o' = o := by
          intro O
          induction O with
          | nil => intro _ h; cases h
          | cons q O ih =>
            obtain ⟨i, ob⟩ := q
            intro hv hm
            rcases List.mem_cons.1 hm with e2 | hm
            · cases e2; exact hv.1 ⟨c, rfl⟩ _ e'
            · exact ih hv.2 hm
        rw [this h4 (lk_mem hl)]
        exact hr.base o (.inl (hvar _ _ hl))
      · rw [if_neg]
        intro hc
        have := hZ o (by simpa using hc)
        have hm : o ∈ keys O := List.mem_map.2 ⟨_, lk_mem hl, rfl⟩
        simp [hm] at this
    · rw [ha _ _ (keepsOK_spec h5 o ho)]
      exact hr.base o (.inl (hks o ho))
  refine vcC_sound hm (fun _ => trivial) tb (E := ⟨w, ownOf O β, M, β, k0, fun _ => True⟩) (N := fn.ntmps) c ⟨fun T O1 n a w' he hr => ends T O1 n a w' (hF _ _ _ he) hr, fun _ _ _ _ _ _ h _ => h.elim, fun T O1 n a w' he hr => ends T O1 n a w' (hF _ _ _ he) hr⟩ hd h ⟨M, β, ⟨hst.pool, hst.sub, hst.only, hst.objs, hst.mine, hst.inj, hst.size, hst.keep, hst.os, hst.tape, hst.output⟩, fun o ho _ => hids o ?_, fun t v hl => ?_, rfl, ?_, fun _ _ => rfl, hk0⟩
  · rw [lk_none]
    intro hm
    obtain ⟨p, hp, rfl⟩ := List.mem_map.1 hm
    have := hk p hp
    omega
  · obtain ⟨x, hx, hv⟩ := numT_spec [] hxs t v hl
    refine ⟨x, ?_, hv⟩
    have ht : t < xs.length := by
      have := (List.getElem?_eq_some_iff.1 hx).1
      simpa using this
    simp only [List.nil_append] at hx
    rw [Array.getElem?_append_left (by simpa using ht)]
    simpa using hx
  · simp; omega
/-- As fnN. -/
theorem fnK (ks : List Nat) (hm : P.follows .mixedOrders = true) (tb : List (Nat × Plan)) {f : FuncId} {fn : Func} {c : Code} {args : List AV} {r : AV} (k na : Nat) (rs : List ResultVar) (hf : P.funcs[f]? = some fn) (hb : fn.body = some c) (hres : fn.results.toList = rs)
    (hnm : (fn.name == "runtime.NumGoroutine") = false) (hna : args.length = na) (hN : Nat.ble na fn.ntmps = true) (hd : dstOK tb fn.ntmps c = true) (hk : ∀ p ∈ O, p.1 < k)
    (h : ev (numT 0 args) fun T => ev O fun O1 => vcC P tb k c (EndK P ks rs O r O') (fun _ _ _ _ => False) (EndK P ks rs O r O') T O1 k) (hks : (ks.all fun o => Nat.ble (o + 1) k) = true := by rfl) : FnK P ks f args O r O' :=
  fn_of_vcK hm tb ks k hf hb hnm (by rw [hna]; exact Nat.le_of_ble_eq_true hN) hd hk k (Nat.le_refl _) (fun o c h => hk _ (lk_mem h)) (fun o ho => by
    have := List.all_eq_true.1 hks o (by simpa using ho)
    exact Nat.le_of_ble_eq_true this) (EndK P ks rs O r O') (fun T O1 n he => by rw [hres]; exact he) h
end
attribute [go_sem ↓] EndK
attribute [go_sem] keepsOK
end Go.Sy
