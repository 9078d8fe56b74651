/- Texts, joined. -/
import Derived.Control
import Derived.Test.YtololahjocfbeaaGreatC06
namespace Go.Sy
open Go
set_option linter.unusedSimpArgs false
set_option linter.unusedVariables false
def idsOK (σ : List (Nat × Nat)) : Nat → Prop
  | 0 => True
  | k + 1 => (idC σ k fun o => o = k) ∧ idsOK σ k
def tmpsOK (σ : List (Nat × Nat)) (Z : List Nat) (OF : OO) (T' : TT) : TT → Prop
  | [] => True
  | (t, v) :: I => (lkC T' t fun u => matC σ Z OF v u) ∧ tmpsOK σ Z OF T' I
def okσ (k m : Nat) (σ : List (Nat × Nat)) (Z F : List Nat) : Bool := F.all (fun f => !(σ.map (·.2)).contains f) && σ.all (fun p => decide (p.1 < m) && !Z.contains p.1) && decide ((σ.map (·.2)).Nodup) && Nat.ble k m && Z.all (fun z => decide (z < m) && decide (k ≤ z))
def Sub (k : Nat) (T' : TT) (O' : OO) (I : TT) (J : OO) (m : Nat) : Prop :=
  ∃ (σ : List (Nat × Nat)) (Z F : List Nat), okσ k m σ Z F = true ∧ idsOK σ k ∧ tmpsOK σ Z (frzO O' F) T' I ∧ holdsN O' σ Z (frzO O' F) J
def VLoop (k : Nat) (F : CK → CK) (T : TT) (O : OO) (n : Nat) : Prop :=
  ∃ (ι : Type) (I : ι → TT) (J : ι → OO) (m : ι → Nat) (μ : ι → Nat) (i0 : ι), Sub k T O (I i0) (J i0) (m i0) ∧ ∀ i, F (fun T' O' _ => ∃ i', μ i' < μ i ∧ Sub k T' O' (I i') (J i') (m i')) (I i) (J i) (m i)
def Cut (k : Nat) (F : CK) (T : TT) (O : OO) (n : Nat) : Prop := ∃ I J m, Sub k T O I J m ∧ F I J m
def vcC (P : Program) (tb : List (Nat × Plan)) (k : Nat) : Code → CK → (Nat → CK) → CK → CK
  | .skip, K, _, _, T, O, n => K T O n
  | .region id ops true, K, _, _, T, O, n => (match lk tb (100000 + id) with
      | none => (match lk tb id with | some pl => vcWalk P ops.toList pl [] K T O n | none => False)
      | some _ => Cut k (fun T O n => (match lk tb id with | some pl => vcWalk P ops.toList pl [] K T O n | none => False)) T O n)
  | .region id ops false, K, _, _, T, O, n => (match lk tb (100000 + id) with
      | none => vcOps P ops.toList ops.toList K T O n
      | some _ => Cut k (vcOps P ops.toList ops.toList K) T O n)
  | .seq a b, K, X, R, T, O, n => vcC P tb k a (vcC P tb k b K X R) X R T O n
  | .cond c x y, K, X, R, T, O, n => evC T c fun v => boolC v fun b => (b = true → vcC P tb k x K X R T O n) ∧ (b = false → vcC P tb k y K X R T O n)
  | .block id c, K, X, R, T, O, n => vcC P tb k c K (fun i => if i = id then K else X i) R T O n
  | .loop c, _, X, R, T, O, n => VLoop k (fun K' => vcC P tb k c K' X R) T O n
  | .exit id, _, X, _, T, O, n => X id T O n
  | .label _, K, _, _, T, O, n => K T O n
  | .ret, _, _, R, T, O, n => R T O n
  | _, _, _, _, _, _, _ => False
def dstOK (tb : List (Nat × Plan)) (N : Nat) : Code → Bool
  | .region id ops draw => (ops.toList.all fun o => match o.dst with | some t => decide (t < N) | none => true) && (!draw || match lk tb id with | some pl => okPlan ops [] pl | none => true)
  | .seq a b => dstOK tb N a && dstOK tb N b
  | .cond _ a b => dstOK tb N a && dstOK tb N b
  | .block _ c => dstOK tb N c
  | .loop c => dstOK tb N c
  | _ => true
section
variable {E : Env} {N : Nat} {M M' M1 : Pool} {β β' β1 : Bmap} {T : TT} {O O' O1 O2 J : OO} {n : Nat} {a : Act} {w w' : World} {P : Program} {o : Oper} {K : KK}
theorem St.ren (h : St E M β O w) {σ : List (Nat × Nat)} {Z F : List Nat} (hF : ∀ f ∈ F, ∀ o, lk σ o ≠ some f) (hn : (σ.map (·.2)).Nodup) (ha : Agr σ β1 β) (hz : NilOK Z β1) (hH : holdsN O σ Z (frzO O F) J) : ∃ M1, PLe M M1 ∧ Views M M1 β (frzO O F) ∧ St E M1 β1 J w := by
  obtain ⟨M1, hM, hV, hs⟩ := h.freeze F
  refine ⟨M1, hM, hV, ?_⟩
  have hH := holdsN_spec hH
  have hO1 : ∀ o ob, lk J o = some ob → (∃ o' ob', lk σ o = some o' ∧ lk O o' = some ob' ∧ lk (dropO O F) o' = some ob' ∧ matOB σ Z (frzO O F) ob ob') ∨ (ob.void = true ∧ β1 o = some (0, 0)) := fun o ob hl =>
    (hH _ (lk_mem hl)).imp (fun ⟨o', ob', h1, h2, h3⟩ => ⟨o', ob', h1, h2, by
      rw [lk_dropO, if_neg]
      · exact h2
      · intro hc
        exact hF o' (by simpa using hc) _ h1, h3⟩) fun ⟨h1, h2⟩ => ⟨h1, hz _ h2⟩
  refine ⟨hs.pool, hs.sub, hs.only, fun o ob hl => ?_, fun o ob b κ hl hb hk => ?_, fun o o' ob ob' b κ κ' hl hl' hb hb' hk hk' => ?_, h.size, h.keep, h.os, h.tape, h.output⟩
  · rcases hO1 _ _ hl with ⟨o', ob', h1, h2, h2', h3⟩ | ⟨h1, h2⟩
    · obtain ⟨b, κ, hb, hor⟩ := h.objs _ _ h2
      exact ⟨b, κ, by rw [ha _ _ h1]; exact hb, matOB_spec h3 hM hV ha hz hor⟩
    · refine ⟨0, 0, h2, ?_⟩
      cases ob with
      | row c =>
        simp only [OB.void, Bool.and_eq_true, decide_eq_true_eq] at h1
        exact ⟨(void_row h1.1).1, h1.2, .inl ⟨rfl, (void_row h1.1).2, rv_void h1.1⟩⟩
      | _ => cases h1
  · rcases hO1 _ _ hl with ⟨o', ob', h1, h2, h2', h3⟩ | ⟨h1, h2⟩
    · rw [ha _ _ h1] at hb
      exact hs.mine _ _ _ _ h2' hb hk
    · rw [h2] at hb; cases hb; exact absurd rfl hk
  · rcases hO1 _ _ hl with ⟨p, ob1, h1, h2, h2x, h3⟩ | ⟨h1, h2⟩
    · rcases hO1 _ _ hl' with ⟨p', ob1', h1', h2', h2x', h3'⟩ | ⟨h1', h2'⟩
      · rw [ha _ _ h1] at hb
        rw [ha _ _ h1'] at hb'
        have := h.inj _ _ _ _ _ _ _ h2 h2' hb hb' hk hk'
        subst this
        have e1 := lk_swap' hn h1
        have e2 := lk_swap' hn h1'
        rw [e1] at e2
        exact Option.some.inj e2
      · rw [h2'] at hb'; cases hb'; exact absurd rfl hk'
    · rw [h2] at hb; cases hb; exact absurd rfl hk
theorem idsOK_spec {σ : List (Nat × Nat)} : ∀ {k : Nat}, idsOK σ k → ∀ o, o < k → lk σ o = some o := by
  intro k
  induction k with
  | zero => intro _ o ho; omega
  | succ k ih =>
    intro h o ho
    by_cases e : o = k
    · subst e
      obtain ⟨o', h1, rfl⟩ := idC_spec h.1
      exact h1
    · exact ih h.2 o (by omega)
theorem tmpsOK_spec {σ : List (Nat × Nat)} {Z : List Nat} {OF : OO} {T' : TT} (hM : PLe M M1) (hV : Views M M1 β OF) (ha : Agr σ β1 β) (hz : NilOK Z β1) (hT : ∀ t v, lk T' t = some v → ∃ x, a.tmps[t]? = some x ∧ VR M β v x) :
    ∀ {I : TT}, tmpsOK σ Z OF T' I → ∀ t v, lk I t = some v → ∃ x, a.tmps[t]? = some x ∧ VR M1 β1 v x := by
  intro I
  induction I with
  | nil => intro _ t v h; cases h
  | cons p I ih =>
    obtain ⟨s, u⟩ := p
    intro h t v hl
    simp only [lk] at hl
    split at hl
    · rename_i e
      subst e
      cases hl
      obtain ⟨y, h1, h2⟩ := lkC_spec h.1
      obtain ⟨x, hx, hv⟩ := hT _ _ h1
      exact ⟨x, hx, (matC_spec σ Z OF _ _ h2).vr hM hV ha hz hv⟩
    · exact ih h.2 _ _ hl
theorem RelAt.ren (hE : ∀ o, E.ok o) (h : RelAt E N M β T O n a w) {I : TT} {m : Nat} (hs : Sub E.n0 T O I J m) : ∃ M1 β1, RelAt E N M1 β1 I J m a w := by
  obtain ⟨σ, Z, F, h1, h4, h5, h6⟩ := hs
  simp only [okσ, Bool.and_eq_true, List.all_eq_true, decide_eq_true_eq, Bool.not_eq_true'] at h1
  obtain ⟨⟨⟨⟨hF, h1⟩, h2⟩, h3⟩, hZ⟩ := h1
  have h3 := Nat.le_of_ble_eq_true h3
  have h4 := idsOK_spec h4
  let b1 : Bmap := fun o => match lk σ o with | some o' => β o' | none => if Z.contains o = true then some (0, 0) else none
  have ha : Agr σ b1 β := fun o o' h => by show (match lk σ o with | some o' => β o' | none => _) = _; rw [h]
  have hz : NilOK Z b1 := fun o ho => by
    have : lk σ o = none := by
      rw [lk_none]
      intro hm
      obtain ⟨p, hp, rfl⟩ := List.mem_map.1 hm
      have := (h1 p hp).2
      rw [ho] at this
      cases this
    show (match lk σ o with | some o' => β o' | none => if Z.contains o = true then some (0, 0) else none) = _
    rw [this]
    simp only [ho, if_true]
  have hF' : ∀ f ∈ F, ∀ o, lk σ o ≠ some f := fun f hf o e => by
    have := hF f hf
    have hm : f ∈ σ.map (·.2) := List.mem_map.2 ⟨_, lk_mem e, rfl⟩
    simp only [Bool.eq_false_iff] at this
    exact this (by simpa using hm)
  obtain ⟨M1, hM, hV, hst⟩ := h.st.ren hF' h2 ha hz h6
  refine ⟨M1, b1, hst, fun o ho _ => ?_, tmpsOK_spec hM hV ha hz h.tmps h5, h.nd, h.sz, fun o ho => ?_, h3⟩
  · have : lk σ o = none := by
      rw [lk_none]
      intro hm
      obtain ⟨p, hp, rfl⟩ := List.mem_map.1 hm
      have := (h1 p hp).1
      omega
    show (match lk σ o with | some o' => β o' | none => if Z.contains o = true then some (0, 0) else none) = none
    rw [this]
    have : Z.contains o = false := by
      rw [Bool.eq_false_iff]
      intro hc
      have := (hZ o (by simpa using hc)).1
      omega
    simp only [this, if_false, Bool.false_eq_true]
  · rw [← h.base o ho]
    exact ha _ _ (h4 o (ho.resolve_right fun h => h (hE o)))
structure Cont3 (E : Env) (N : Nat) (Q : Exit → Act → World → Prop) (K : CK) (X : Nat → CK) (R : CK) : Prop where
  norm : ∀ T O n a w, K T O n → Rel E N T O n a w → Q .normal a w
  exit : ∀ i T O n a w, X i T O n → Rel E N T O n a w → Q (.exit i) a w
  ret : ∀ T O n a w, R T O n → Rel E N T O n a w → Q .ret a w
theorem vcC_sound (hm : P.follows .mixedOrders = true) (hE : ∀ o, E.ok o) (tb : List (Nat × Plan)) : ∀ (c : Code) {Q : Exit → Act → World → Prop} {K : CK} {X : Nat → CK} {R : CK} {T : TT} {O : OO} {n : Nat} {a : Act} {w : World}, Cont3 E N Q K X R → dstOK tb N c = true →
    vcC P tb E.n0 c K X R T O n → Rel E N T O n a w → c.wp P Q a w := by
  intro c
  induction c with
  | skip => intro Q K X R T O n a w hc _ h hr; exact wp_skip (hc.norm _ _ _ _ _ h hr)
  | label l => intro Q K X R T O n a w hc _ h hr; exact wp_label (hc.norm _ _ _ _ _ h hr)
  | region id ops draw =>
    intro Q K X R T O n a w hc hd h hr
    simp only [dstOK, Bool.and_eq_true, List.all_eq_true] at hd
    obtain ⟨hd1, hd2⟩ := hd
    have hd : ∀ o ∈ ops.toList, ∀ t, o.dst = some t → t < N := fun o ho t e => by
      have := hd1 o ho
      rw [e] at this
      simpa using this
    cases draw with
    | false =>
      simp only [vcC] at h
      cases hq : lk tb (100000 + id) with
      | none =>
        rw [hq] at h
        exact wp_region (vcOps_sound hE hd h hr fun T O n a w => hc.norm T O n a w)
      | some q =>
        rw [hq] at h
        obtain ⟨I, J, m, hs, h⟩ := h
        obtain ⟨M, β, hr⟩ := hr
        obtain ⟨M1, β1, hr⟩ := hr.ren hE hs
        exact wp_region (vcOps_sound hE hd h ⟨M1, β1, hr⟩ fun T O n a w => hc.norm T O n a w)
    | true =>
      have go : ∀ {T : TT} {O : OO} {n : Nat} {a : Act} {w : World}, (match lk tb id with | some pl => vcWalk P ops.toList pl [] K T O n | none => False) → Rel E N T O n a w → (Code.region id ops true).wp P Q a w := fun {T O n a w} h hr => by
        cases hl : lk tb id with
        | none => rw [hl] at h; exact h.elim
        | some pl =>
          rw [hl] at h
          rw [hl] at hd2
          exact vcWalk_sound hm hE hd (by simpa using hd2) h hr fun T O n a w => hc.norm T O n a w
      simp only [vcC] at h
      cases hq : lk tb (100000 + id) with
      | none => rw [hq] at h; exact go h hr
      | some q =>
        rw [hq] at h
        obtain ⟨I, J, m, hs, h⟩ := h
        obtain ⟨M, β, hr⟩ := hr
        obtain ⟨M1, β1, hr⟩ := hr.ren hE hs
        exact go h ⟨M1, β1, hr⟩
  | seq x y ihx ihy =>
    intro Q K X R T O n a w hc hd h hr
    simp only [dstOK, Bool.and_eq_true] at hd
    exact wp_seq (ihx ⟨fun T O n a w hk hr => ihy hc hd.2 hk hr, fun i T O n a w => hc.exit i T O n a w, fun T O n a w => hc.ret T O n a w⟩ hd.1 h hr)
  | cond c x y ihx ihy =>
    intro Q K X R T O n a w hc hd h hr
    simp only [dstOK, Bool.and_eq_true] at hd
    obtain ⟨M, β, hr⟩ := hr
    obtain ⟨v, h, hv⟩ := evC_spec hr h
    obtain ⟨b, rfl, h1, h2⟩ := boolC_spec h
    exact wp_cond_split hv.bool_inv (fun e => ihx hc hd.1 (h1 e) ⟨M, β, hr⟩) fun e => ihy hc hd.2 (h2 e) ⟨M, β, hr⟩
  | block id c ih =>
    intro Q K X R T O n a w hc hd h hr
    refine wp_block (ih ⟨fun T O n a w => hc.norm T O n a w, fun i T O n a w hx hr => ?_, fun T O n a w => hc.ret T O n a w⟩ hd h hr)
    simp only [Exit.inBlock]
    split at hx
    · rename_i e; rw [if_pos e]; exact hc.norm _ _ _ _ _ hx hr
    · rename_i e; rw [if_neg e]; exact hc.exit _ _ _ _ _ _ hx hr
  | loop c ih =>
    intro Q K X R T O n a w hc hd h hr
    obtain ⟨ι, I, J, m, μ, i0, h0, hi⟩ := h
    let Inv : Act → World → Prop := fun a w => ∃ i, Rel E N (I i) (J i) (m i) a w
    let Lv : Act → World → Nat → Prop := fun a w z => ∃ i, μ i = z ∧ Rel E N (I i) (J i) (m i) a w
    have least : ∀ a w, Inv a w → ∃ z, Lv a w z ∧ ∀ z', Lv a w z' → z ≤ z' := fun a w ⟨i, hi⟩ => by
      have : ∀ z, (∃ z', z' ≤ z ∧ Lv a w z') → ∃ z, Lv a w z ∧ ∀ z', Lv a w z' → z ≤ z' := by
        intro z
        induction z using Nat.strongRecOn with
        | _ z ih =>
          rintro ⟨z', hz, hl⟩
          by_cases hm : ∀ z'', Lv a w z'' → z' ≤ z''
          · exact ⟨z', hl, hm⟩
          · simp only [Classical.not_forall] at hm
            obtain ⟨z'', hl'', hlt⟩ := hm
            exact ih z'' (by omega) ⟨z'', Nat.le_refl _, hl''⟩
      exact this (μ i) ⟨μ i, Nat.le_refl _, i, rfl, hi⟩
    have hlv : ∀ a w, ∃ z, Inv a w → Lv a w z ∧ ∀ z', Lv a w z' → z ≤ z' := fun a w => by
      by_cases h : Inv a w
      · obtain ⟨z, hz⟩ := least a w h; exact ⟨z, fun _ => hz⟩
      · exact ⟨0, fun h' => absurd h' h⟩
    let ν : Act → World → Nat := fun a w => Classical.choose (hlv a w)
    have hν : ∀ a w, Inv a w → Lv a w (ν a w) ∧ ∀ z', Lv a w z' → ν a w ≤ z' := fun a w => Classical.choose_spec (hlv a w)
    obtain ⟨M, β, hr⟩ := hr
    obtain ⟨M1, β1, hr1⟩ := hr.ren hE h0
    refine wp_loop Inv ν ⟨i0, M1, β1, hr1⟩ fun a w hinv => ?_
    obtain ⟨⟨i, hz, hri⟩, _⟩ := hν a w hinv
    refine ih ⟨fun T O n a' w' ⟨i', hlt, hs⟩ hr' => ?_, fun i T O n a w => hc.exit i T O n a w, fun T O n a w => hc.ret T O n a w⟩ hd (hi i) hri
    obtain ⟨M', β', hr'⟩ := hr'
    obtain ⟨M2, β2, hr2⟩ := hr'.ren hE hs
    have hinv' : Inv a' w' := ⟨i', M2, β2, hr2⟩
    exact ⟨hinv', Nat.lt_of_le_of_lt ((hν a' w' hinv').2 _ ⟨i', rfl, M2, β2, hr2⟩) (by omega)⟩
  | exit id => intro Q K X R T O n a w hc _ h hr; exact wp_exit (hc.exit _ _ _ _ _ _ h hr)
  | ret => intro Q K X R T O n a w hc _ h hr; exact wp_ret (hc.ret _ _ _ _ _ h hr)
  | _ => intro Q K X R T O n a w hc _ h hr; exact h.elim
def resC (P : Program) (T : TT) (O : OO) : List ResultVar → (List AV → Prop) → Prop
  | [], K => K []
  | .tmp t :: rs, K => lkC T t fun v => resC P T O rs fun vs => K (v :: vs)
  | .cell t ty :: rs, K => lkC T t fun p => tyC P ty fun y => loadC O p fun q => fitC y q (resC P T O rs fun vs => K (q :: vs))
def packC : List AV → AV
  | [v] => v
  | vs => .tup vs
def varsOK (σ : List (Nat × Nat)) : OO → Prop
  | [] => True
  | (o, ob) :: O => ((∃ c, ob = .var c) → ∀ o', lk σ o = some o' → o' = o) ∧ varsOK σ O
def okE (σ : List (Nat × Nat)) (Z F : List Nat) (O0 : OO) : Bool := F.all (fun f => !(σ.map (·.2)).contains f) && decide ((σ.map (·.2)).Nodup) && σ.all (fun p => !Z.contains p.1) && Z.all (fun z => !(keys O0).contains z)
def EndC (P : Program) (rs : List ResultVar) (O0 : OO) (r : AV) (O' : OO) : CK := fun T O _ =>
  resC P T O rs fun vs => ∃ (σ : List (Nat × Nat)) (Z F : List Nat), okE σ Z F O0 = true ∧ matC σ Z (frzO O F) r (packC vs) ∧ holdsN O σ Z (frzO O F) O' ∧ varsOK σ O0
def numT : Nat → List AV → TT
  | _, [] => []
  | i, v :: vs => (i, v) :: numT (i + 1) vs
end
end Go.Sy
namespace Go.Sy
open Go
set_option linter.unusedSimpArgs false
set_option linter.unusedVariables false
section
variable {E : Env} {N : Nat} {M M' M1 : Pool} {β β' β1 : Bmap} {T : TT} {O O' O1 O2 J : OO} {n : Nat} {a : Act} {w w' : World} {P : Program} {o : Oper} {K : KK}
def resV (a : Act) : ResultVar → Sem Value
  | .tmp t => pure (a.tmps.getD t undef)
  | .cell x t => do loadVar t (← asAddr (a.tmps.getD x undef))
theorem resC_spec (hr : RelAt E N M β T O n a w) : ∀ {rs : List ResultVar} {κ : List AV → Prop}, resC P T O rs κ → ∃ vs xs, κ vs ∧ (rs.mapM (resV a)).run P w = .ok xs w ∧ VRs M β vs xs := by
  intro rs
  induction rs with
  | nil => intro κ h; exact ⟨[], [], h, by simp, .nil⟩
  | cons r rs ih =>
    intro κ h
    cases r with
    | tmp t =>
      obtain ⟨v, hl, h⟩ := lkC_spec h
      obtain ⟨x, hx, hv⟩ := hr.tmps t v hl
      obtain ⟨vs, xs, hk, hrun, hvs⟩ := ih h
      refine ⟨v :: vs, x :: xs, hk, ?_, .cons hv hvs⟩
      simp only [List.mapM_cons, resV, Sem.run_bind, Sem.run_pure, Result.andThen_ok, hrun, Array.getD_eq_getD_getElem?, hx, Option.getD_some]
    | cell p ty =>
      obtain ⟨v, hl, h⟩ := lkC_spec h
      obtain ⟨x, hx, hv⟩ := hr.tmps p v hl
      obtain ⟨y, hok, _, h⟩ := tyC_spec h
      have fin : ∀ (b off : Nat) (q : AV) (cs : List Value), x = .pointer (some ⟨b, off, none⟩) → RV M β q cs → CellsAt w b off cs → fitC y q (resC P T O rs fun vs => κ (q :: vs)) →
          ∃ vs xs, κ vs ∧ ((ResultVar.cell p ty :: rs).mapM (resV a)).run P w = .ok xs w ∧ VRs M β vs xs := fun b off q cs ex hq hc hf => by
        obtain ⟨f1, f2, hk⟩ := hf
        obtain ⟨z, hrun, hz⟩ := run_loadVar (w := w) hok hc hq f1 f2
        obtain ⟨vs, xs, hk, hrun2, hvs⟩ := ih hk
        refine ⟨q :: vs, z :: xs, hk, ?_, .cons hz hvs⟩
        simp only [List.mapM_cons, resV, Sem.run_bind, Sem.run_pure, Result.andThen_ok, Array.getD_eq_getD_getElem?, hx, Option.getD_some, ex, asAddr, hrun, hrun2]
      cases v with
      | ref i p' =>
        obtain ⟨ob, hl, h3⟩ := objC_spec h
        obtain ⟨c, hc, h4⟩ := obC_spec h3
        obtain ⟨b, κ0, hb, ex⟩ := hv.ref_inv
        obtain ⟨cc, hcc, hca⟩ := hr.st.cells hl hb hc
        obtain ⟨q, hf, hq⟩ := nav_spec _ _ _ h4
        obtain ⟨_, hq2⟩ := hq hcc
        exact fin b (poff p') q _ ex hq2 (by have := hca.piece (m := poff p') (k := q.csz); rwa [Nat.zero_add] at this) hf
      | pp c p' =>
        obtain ⟨q, hf, hq⟩ := nav_spec _ _ _ h
        obtain ⟨cc, b, off, ex, hcc, hm⟩ := hv.pp_inv
        obtain ⟨_, hq2⟩ := hq hcc
        exact fin b (off + poff p') q _ ex (hq2.mono (PLe.refl _) (BLe.nob _)) (CellsAt.piece fun i v hi => hr.st.pool _ _ _ (hm i v hi)) hf
      | _ => exact h.elim
theorem results_run (hr : RelAt E N M β T O n a w) {fn : Func} {κ : List AV → Prop} (h : resC P T O fn.results.toList κ) : ∃ vs x, κ vs ∧ (results fn a.tmps).run P w = .ok x w ∧ VR M β (packC vs) x := by
  obtain ⟨vs, xs, hk, hrun, hv⟩ := resC_spec hr h
  have hm : (fn.results.mapM (resV a)).run P w = .ok xs.toArray w := by
    rw [Array.mapM_eq_mapM_toList]
    simp only [Sem.run_map, hrun, Result.andThen_ok]
  have e : results fn a.tmps = (do let vs ← fn.results.mapM (resV a); pure (if h : vs.size = 1 then vs[0] else .tuple vs)) := by
    unfold results
    congr 1
  refine ⟨vs, if h : xs.toArray.size = 1 then xs.toArray[0] else .tuple xs.toArray, hk, by rw [e]; simp only [Sem.run_bind, hm, Result.andThen_ok, Sem.run_pure], ?_⟩
  cases hv with
  | nil => exact .tup .nil
  | cons h1 h2 =>
    cases h2 with
    | nil => simpa [packC] using h1
    | cons h2 h3 => simpa [packC] using VR.tup (.cons h1 (.cons h2 h3))
theorem numT_spec : ∀ {vs : List AV} {xs : List Value} (pre : List Value), VRs M β vs xs → ∀ t v, lk (numT pre.length vs) t = some v → ∃ x, (pre ++ xs)[t]? = some x ∧ VR M β v x := by
  intro vs
  induction vs with
  | nil => intro xs pre h t v hl; cases hl
  | cons u vs ih =>
    intro xs pre h t v hl
    cases h with
    | @cons _ _ _ x xs h1 h2 =>
      simp only [numT, lk] at hl
      split at hl
      · rename_i e; subst e; cases hl; exact ⟨x, by simp, h1⟩
      · have := ih (pre ++ [x]) h2 t v (by simpa using hl)
        simpa using this
theorem fn_of_vc (hm : P.follows .mixedOrders = true) (tb : List (Nat × Plan)) {f : FuncId} {fn : Func} {c : Code} {args : List AV} {r : AV} (k : Nat) (hf : P.funcs[f]? = some fn) (hb : fn.body = some c) (hnm : (fn.name == "runtime.NumGoroutine") = false) (hN : args.length ≤ fn.ntmps) (hd : dstOK tb fn.ntmps c = true) (hk : ∀ p ∈ O, p.1 < k) (k0 : Nat) (hk0 : k0 ≤ k) (hvar : ∀ o c, lk O o = some (.var c) → o < k0)
    (F : CK) (hF : ∀ T O1 n, F T O1 n → EndC P fn.results.toList O r O' T O1 n) (h : vcC P tb k0 c F (fun _ _ _ _ => False) F (numT 0 args) O k) : FnC P f args O r O' := by
  refine ⟨⟨fn, hf, hnm, by simp [hb]⟩, fun w M β xs hids hst hxs => calls_of_wp hf hb ?_⟩
  have hxl : xs.length = args.length := by
    clear h hN
    revert hxs
    generalize args = args
    intro hxs
    induction xs generalizing args with
    | nil => cases hxs; rfl
    | cons x xs ih => cases hxs with | cons _ h2 => simp [ih _ h2]
  have ends : ∀ T O1 n a w', EndC P fn.results.toList O r O' T O1 n → Rel ⟨w, ownOf O β, M, β, k0, fun _ => True⟩ fn.ntmps T O1 n a w' → a.defers = [] ∧ ∃ v, (results fn a.tmps).run P w' = .ok v w' ∧
      ∃ x M' β', Ending.returned v = .returned x ∧ VR M' β' r x ∧ St ⟨w, ownOf O β, M, nob, 0, fun _ => True⟩ M' β' O' w' ∧ (∀ o c, lk O o = some (.var c) → β' o = β o) := by
    rintro T O1 n a w' he ⟨M', β', hr⟩
    obtain ⟨vs, x, ⟨σ, Z, F, h1, h2, h3, h4⟩, hrun, hv⟩ := results_run hr he
    simp only [okE, Bool.and_eq_true, List.all_eq_true, decide_eq_true_eq, Bool.not_eq_true'] at h1
    obtain ⟨⟨⟨hF, h1⟩, hσZ⟩, hZ⟩ := h1
    have hF' : ∀ f ∈ F, ∀ o, lk σ o ≠ some f := fun f hf o e => by
      have := hF f hf
      have hm : f ∈ σ.map (·.2) := List.mem_map.2 ⟨_, lk_mem e, rfl⟩
      simp only [Bool.eq_false_iff] at this
      exact this (by simpa using hm)
    let b1 : Bmap := fun o => match lk σ o with | some o' => β' o' | none => if Z.contains o = true then some (0, 0) else β o
    have ha : Agr σ b1 β' := fun o o' h => by show (match lk σ o with | some o' => β' o' | none => _) = _; rw [h]
    have hz : NilOK Z b1 := fun o ho => by
      have : lk σ o = none := by
        rw [lk_none]
        intro hm
        obtain ⟨p, hp, rfl⟩ := List.mem_map.1 hm
        have := hσZ p hp
        rw [ho] at this
        cases this
      show (match lk σ o with | some o' => β' o' | none => if Z.contains o = true then some (0, 0) else β o) = _
      rw [this]
      simp only [ho, if_true]
    obtain ⟨M1, hM, hV, this⟩ := hr.st.ren hF' h1 ha hz h3
    refine ⟨hr.nd, x, hrun, x, M1, b1, rfl, (matC_spec σ Z _ _ _ h2).vr hM hV ha hz hv, ?_, fun o c hl => ?_⟩
    · exact ⟨this.pool, this.sub, this.only, this.objs, this.mine, this.inj, this.size, this.keep, this.os, this.tape, this.output⟩
    · show (match lk σ o with | some o' => β' o' | none => if Z.contains o = true then some (0, 0) else β o) = β o
      split
      · rename_i o' e'
        have : ∀ {O : OO}, varsOK σ O → (o, OB.var c) ∈ O → o' = o := by
          intro O
          induction O with
          | nil => intro _ h; cases h
          | cons q O ih =>
            obtain ⟨i, ob⟩ := q
            intro hv hm
            rcases List.mem_cons.1 hm with e2 | hm
            · cases e2; exact hv.1 ⟨c, rfl⟩ _ e'
            · exact ih hv.2 hm
        rw [this h4 (lk_mem hl)]
        exact hr.base o (.inl (hvar _ _ hl))
      · rw [if_neg]
        intro hc
        have := hZ o (by simpa using hc)
        have hm : o ∈ keys O := List.mem_map.2 ⟨_, lk_mem hl, rfl⟩
        simp [hm] at this
  refine vcC_sound hm (fun _ => trivial) tb (E := ⟨w, ownOf O β, M, β, k0, fun _ => True⟩) (N := fn.ntmps) c ⟨fun T O1 n a w' he hr => ends T O1 n a w' (hF _ _ _ he) hr, fun _ _ _ _ _ _ h _ => h.elim, fun T O1 n a w' he hr => ends T O1 n a w' (hF _ _ _ he) hr⟩ hd h ⟨M, β, ⟨hst.pool, hst.sub, hst.only, hst.objs, hst.mine, hst.inj, hst.size, hst.keep, hst.os, hst.tape, hst.output⟩, fun o ho _ => hids o ?_, fun t v hl => ?_, rfl, ?_, fun _ _ => rfl, hk0⟩
  · rw [lk_none]
    intro hm
    obtain ⟨p, hp, rfl⟩ := List.mem_map.1 hm
    have := hk p hp
    omega
  · obtain ⟨x, hx, hv⟩ := numT_spec [] hxs t v hl
    refine ⟨x, ?_, hv⟩
    have ht : t < xs.length := by
      have := (List.getElem?_eq_some_iff.1 hx).1
      simpa using this
    simp only [List.nil_append] at hx
    rw [Array.getElem?_append_left (by simpa using ht)]
    simpa using hx
  · simp; omega
end
end Go.Sy
namespace Go.Sy
open Go
def ev {α : Type} (x : α) (K : α → Prop) : Prop := K x
def mk {α : Type} (x : α) : α := x
def mk3 {α : Type} (x : α) : α := x
theorem mk_in {α : Type} (x : α) : mk x = mk3 x := Eq.trans (Eq.refl (mk x)) (Eq.refl x)
theorem mk_eq {α : Type} (x : α) : mk3 x = x := Eq.trans (Eq.refl (mk3 x)) (Eq.refl x)
@[congr] theorem ev_congr {α : Type} {x y : α} {K : α → Prop} (h : mk x = y) : ev x K = ev y K := by rw [← h]; rfl
theorem ev_eq {α : Type} (x : α) (K : α → Prop) : ev x K = K x := rfl
@[congr] theorem CallP_congr {P : Program} {f : FuncId} {args args' : List AV} {O : OO} {n : Nat} {κ : AV → OO → Nat → Prop} (h : mk args = args') : CallP P f args O n κ = CallP P f args' O n κ := by rw [← h]; rfl
@[congr] theorem idC_congr {σ σ' : List (Nat × Nat)} {o : Nat} {K : Nat → Prop} (h : mk σ = σ') : idC σ o K = idC σ' o K := by rw [← h]; rfl
@[congr] theorem Cut_congr {k : Nat} {F : CK} {T T' : TT} {O : OO} {n : Nat} (h : mk T = T') : Cut k F T O n = Cut k F T' O n := by rw [← h]; rfl
@[congr] theorem VLoop_congr {k : Nat} {F : CK → CK} {T T' : TT} {O : OO} {n : Nat} (h : mk T = T') : VLoop k F T O n = VLoop k F T' O n := by rw [← h]; rfl
def brC (b : Bool) (A B : Prop) : Prop := (b = true → A) ∧ (b = false → B)
@[congr] theorem brC_congr {b b' : Bool} {A B : Prop} (h : mk b = b') : brC b A B = brC b' A B := by rw [← h]; rfl
theorem brC_true (A B : Prop) : brC true A B = A := by simp [brC]
theorem brC_false (A B : Prop) : brC false A B = B := by simp [brC]
theorem brC_not (b : Bool) (A B : Prop) : brC (!b) A B = brC b B A := by cases b <;> simp [brC]
theorem br {b : Bool} {A B : Prop} (h1 : b = true → A) (h2 : b = false → B) : brC b A B := ⟨h1, h2⟩
theorem brd {p : Prop} [Decidable p] {A B : Prop} (h1 : p → A) (h2 : ¬ p → B) : brC (decide p) A B := ⟨fun h => h1 (of_decide_eq_true h), fun h => h2 (of_decide_eq_false h)⟩
theorem imp_br {c A B : Prop} [Decidable c] : ((c → A) ∧ (¬ c → B)) = brC (decide c) A B := by
  by_cases h : c <;> simp [h, brC]
theorem iteC_br (b : Bool) (K : Bool → Prop) : iteC b K = brC b (K true) (K false) := by
  cases b <;> simp [iteC, brC]
def wantC (b want : Bool) (A B : Prop) : Prop := (b = want → A) ∧ (b = !want → B)
theorem wantC_true (b : Bool) (A B : Prop) : wantC b true A B = brC b A B := rfl
theorem wantC_false (b : Bool) (A B : Prop) : wantC b false A B = brC b B A := by cases b <;> simp [wantC, brC]
def getP (es : List AV) (i : Nat) (K : AV → Prop) : Prop := ∀ q, es[i]? = some q → K q
@[congr] theorem getP_congr {es es' : List AV} {i i' : Nat} {K : AV → Prop} (h : mk es = es') (h' : mk i = i') : getP es i K = getP es' i' K := by rw [← h, ← h']; rfl
theorem getP_zero (a : AV) (l : List AV) (K : AV → Prop) : getP (a :: l) 0 K = K a := by simp [getP]
theorem getP_succ (a : AV) (l : List AV) (i : Nat) (K : AV → Prop) : getP (a :: l) (i + 1) K = getP l i K := by simp [getP]
theorem getP_lit (a : AV) (l : List AV) (i : Nat) (K : AV → Prop) : getP (a :: l) (OfNat.ofNat (i + 1)) K = getP l i K := by simp [getP, OfNat.ofNat]
section
variable {P : Program} {tb : List (Nat × Plan)} {k : Nat} {K : CK} {X : Nat → CK} {R : CK} {T : TT} {O : OO} {n : Nat}
theorem vcC_cond (c : Operand) (x y : Code) : vcC P tb k (.cond c x y) K X R T O n = evC T c fun v => boolC v fun b => brC b (vcC P tb k x K X R T O n) (vcC P tb k y K X R T O n) := by
  simp only [vcC]
  rfl
def nxt (d : Option Tmp) (v : AV) (O : OO) (n : Nat) (T : TT) (K : CK) : Prop := ev v fun v => ev O fun O => ev n fun n => match d with | some d => K ((d, v) :: T) O n | none => K T O n
theorem nxt_eq (d : Option Tmp) (v : AV) (O : OO) (n : Nat) (T : TT) (K : CK) : nxt d v O n T K = K (putT d v T) O n := by cases d <;> rfl
theorem vcOps_cons (all : List Oper) (o : Oper) (rest : List Oper) : vcOps P all (o :: rest) K T O n = match o.guard with
    | none => vcOp P o.op T O n fun v O' n' => nxt o.dst v O' n' T (vcOps P all rest K)
    | some (j, want) => gdC all j want T (fun T => vcOp P o.op T O n fun v O' n' => nxt o.dst v O' n' T (vcOps P all rest K)) (fun T => nxt o.dst (.tup []) O n T (vcOps P all rest K)) := by
  simp only [vcOps, nxt_eq]
  cases o.guard <;> rfl
def wOp2 (P : Program) (op : Op) (acc : List (Nat × List Nat)) (us : List Nat) (ld : Option (List Nat)) (d : Option Tmp) (T : TT) (O : OO) (n : Nat) (K : List Nat → CK) : Prop :=
  ev (hidX acc us) fun X => rmsO O X fun V => keepC O X fun R => vcOp P op T V n fun v V' n' => ev v fun v => ev V' fun V' => ev n' fun n' => ev (touch V T ld) fun W => (sameC W V' V ∧ newC (keys V) n n' V' ∧ ltC W n ∧ n ≤ n') ∧
    ev (W ++ rng n (n' - n)) fun W => nxt d v (V' ++ R) n' T (K W)
theorem wOp2_eq (op : Op) (acc : List (Nat × List Nat)) (us : List Nat) (ld : Option (List Nat)) (d : Option Tmp) (K : List Nat → CK) : wOp2 P op acc us ld d T O n K = wOp P op (hidX acc us) ld T O n fun v O' n' W => K W (putT d v T) O' n' := by
  simp only [wOp2, wOp, ev_eq, nxt_eq]
def opAt : List Oper → Nat → Option Oper
  | [], _ => none
  | o :: _, 0 => some o
  | _ :: l, j + 1 => opAt l j
theorem opAt_eq : ∀ (l : List Oper) (j : Nat), l[j]? = opAt l j
  | [], _ => by simp [opAt]
  | _ :: _, 0 => by simp [opAt]
  | _ :: l, j + 1 => by simp [opAt, opAt_eq l j]
theorem vcWalk_cons (all : List Oper) (i : Nat) (us : List Nat) (ld : Option (List Nat)) (pl : Plan) (acc : List (Nat × List Nat)) : vcWalk P all ((i, us, ld) :: pl) acc K T O n = ev (opAt all i) fun r => match r with
    | none => False
    | some o => match o.guard with
      | none => wOp2 P o.op acc us ld o.dst T O n fun W => vcWalk P all pl ((i, W) :: acc) K
      | some (j, want) => gdC all j want T (fun T => wOp2 P o.op acc us ld o.dst T O n fun W => vcWalk P all pl ((i, W) :: acc) K)
          (fun T => nxt o.dst (.tup []) O n T (vcWalk P all pl ((i, []) :: acc) K)) := by
  simp only [vcWalk, nxt_eq, wOp2_eq, ev_eq, opAt_eq]
  cases opAt all i with
  | none => rfl
  | some o => simp only []; cases o.guard <;> rfl
theorem tmpsOK_frz (σ : List (Nat × Nat)) (Z F : List Nat) (I : TT) : tmpsOK σ Z (frzO O F) T I = ev (frzO O F) fun OF => tmpsOK σ Z OF T I := rfl
theorem holdsN_frz (σ : List (Nat × Nat)) (Z F : List Nat) (O' J : OO) : holdsN O' σ Z (frzO O F) J = ev (frzO O F) fun OF => holdsN O' σ Z OF J := rfl
theorem matC_frz (σ : List (Nat × Nat)) (Z F : List Nat) (v u : AV) : matC σ Z (frzO O F) v u = ev (frzO O F) fun OF => matC σ Z OF v u := rfl
theorem vcOps_nil (all : List Oper) : vcOps P all [] K T O n = K T O n := rfl
theorem vcWalk_nil (all : List Oper) (acc : List (Nat × List Nat)) : vcWalk P all [] acc K T O n = K T O n := rfl
theorem subC_arr (sz : Nat) (ps : List AV) (lo len : Nat) (κ : AV → Prop) : subC (.arr sz ps) lo len κ = (lo + len ≤ ps.length ∧ ev ((ps.drop lo).take len) fun qs => κ (.arr sz qs)) := rfl
def gdV (g : Nat) (want : Bool) (T : TT) (A B : TT → Prop) : AV → Prop
  | .bool b => wantC b want (ev ((g, .bool want) :: T) A) (ev ((g, .bool (!want)) :: T) B)
  | .tup [] => ev T B
  | _ => False
theorem gdC_ev (all : List Oper) (j : Nat) (want : Bool) (A B : TT → Prop) : gdC all j want T A B = ev (opAt all j) fun r => match r with | none => False | some o => match o.dst with | none => False | some g => lkC T g (gdV g want T A B) := by
  simp only [gdC, ev_eq, opAt_eq]
  have e : ∀ g v, (match v with
    | AV.bool b => (b = want → A ((g, .bool want) :: T)) ∧ (b = !want → B ((g, .bool (!want)) :: T))
    | .tup [] => B T
    | _ => False) = gdV g want T A B v := fun g v => by cases v <;> first | rfl | (rename_i vs; cases vs <;> rfl)
  cases opAt all j with
  | none => rfl
  | some o =>
    cases h : o.dst with
    | none => simp [h]
    | some g =>
      simp only [h, Option.bind_some]
      congr 1
theorem vcOps_arr (l l' : List Oper) : vcOps P l.toArray.toList l'.toArray.toList K T O n = vcOps P l l' K T O n := rfl
theorem vcC_draw (id : Nat) (l : List Oper) : vcC P tb k (.region id l.toArray true) K X R T O n = ev (lk tb (100000 + id)) fun q => match q with
    | none => ev (lk tb id) fun r => match r with | some pl => vcWalk P l pl [] K T O n | none => False
    | some _ => Cut k (fun T O n => ev (lk tb id) fun r => match r with | some pl => vcWalk P l pl [] K T O n | none => False) T O n := by
  simp only [vcC, ev_eq]
theorem vcC_reg (id : Nat) (l : List Oper) : vcC P tb k (.region id l.toArray false) K X R T O n = ev (lk tb (100000 + id)) fun q => match q with
    | none => vcOps P l l K T O n
    | some _ => Cut k (vcOps P l l K) T O n := by
  simp only [vcC, ev_eq]
theorem partsC_arr (l : List (Nat × Operand)) (κ : List (Nat × AV) → Prop) : partsC T l.toArray.toList κ = partsC T l κ := rfl
theorem evsC_arr (l : List Operand) (κ : List AV → Prop) : evsC T l.toArray.toList κ = evsC T l κ := rfl
theorem bltC_arr (b : Builtin) (l : List TypeId) (vs : List AV) (κ : KK) : bltC P b l.toArray.toList vs O n κ = bltC P b l vs O n κ := rfl
theorem bldS_zeros (ts : List Ty) (l : List (Nat × AV)) (κ : List AV → Prop) : bldS (Ty.zeros ts) l κ = ev (Ty.zeros ts) fun ps => bldS ps l κ := rfl
theorem cutC_map (v : AV) (l : Nat) (h : Option Int) (κ : AV → Prop) : cutC v l (h.map Int.toNat) κ = ev (h.map Int.toNat) fun h => cutC v l h κ := rfl
theorem cutS_map (v : AV) (l : Nat) (h : Option Int) (κ : AV → Prop) : cutS v l (h.map Int.toNat) κ = ev (h.map Int.toNat) fun h => cutS v l h κ := rfl
theorem cutA_map (sz m : Nat) (v : AV) (l : Nat) (h : Option Int) (κ : AV → Prop) : cutA O sz m v l (h.map Int.toNat) κ = ev (h.map Int.toNat) fun h => cutA O sz m v l h κ := rfl
theorem subC_ints (kk : IntKind) (m : Nat) (xs : List Int) (lo len : Nat) (κ : AV → Prop) : subC (.ints kk m xs) lo len κ = (lo + len ≤ m ∧ brC (decide (lo = 0 ∧ len = m)) (κ (.ints kk m xs)) (κ (.ints kk len ((xs.drop lo).take len)))) := by
  simp only [subC, imp_br]
theorem subC_lst (sz m : Nat) (es : List AV) (lo len : Nat) (κ : AV → Prop) : subC (.lst sz m es) lo len κ = (lo + len ≤ m ∧ brC (decide (lo = 0 ∧ len = m)) (κ (.lst sz m es)) (κ (.lst sz len ((es.drop lo).take len)))) := by
  simp only [subC, imp_br]
theorem navC_arr (i sz : Nat) (p : List Stp) (s : Nat) (ps : List AV) (κ : AV → Prop) : navC (.at i sz :: p) (.arr s ps) κ = (s = sz ∧ i < ps.length ∧ getP ps i fun q => navC p q κ) := by simp only [navC, getP]
theorem navC_lst (i sz : Nat) (p : List Stp) (s m : Nat) (ps : List AV) (κ : AV → Prop) : navC (.at i sz :: p) (.lst s m ps) κ = (s = sz ∧ i < ps.length ∧ getP ps i fun q => navC p q κ) := by simp only [navC, getP]
theorem updC_arr (i sz : Nat) (p : List Stp) (s : Nat) (ps : List AV) (x : AV) (κ : AV → Prop) : updC (.at i sz :: p) (.arr s ps) x κ = (s = sz ∧ i < ps.length ∧ getP ps i fun q => updC p q x fun q' => κ (.arr s (ps.set i q'))) := by simp only [updC, getP]
theorem updC_lst (i sz : Nat) (p : List Stp) (s m : Nat) (ps : List AV) (x : AV) (κ : AV → Prop) : updC (.at i sz :: p) (.lst s m ps) x κ = (s = sz ∧ i < ps.length ∧ x.nid = true ∧ getP ps i fun q => updC p q x fun q' => κ (.lst s m (ps.set i q'))) := by simp only [updC, getP]
theorem idxV_lst (te : Ty) (n' sz m : Nat) (es : List AV) (i : Int) (κ : AV → Prop) : idxV te n' (.lst sz m es) i κ = (m = n' ∧ 0 ≤ i ∧ i < n' ∧ sz = te.size ∧ i.toNat < es.length ∧ getP es i.toNat fun q => fitC te q (κ q)) := by simp only [idxV, getP]
theorem idxV_arr (te : Ty) (n' sz : Nat) (es : List AV) (i : Int) (κ : AV → Prop) : idxV te n' (.arr sz es) i κ = (es.length = n' ∧ 0 ≤ i ∧ i < n' ∧ sz = te.size ∧ getP es i.toNat fun q => fitC te q (κ q)) := by simp only [idxV, getP]
theorem elemsC_br (n' : Nat) (te : Ty) (l : List (Nat × AV)) (κ : AV → Prop) : elemsC n' te l κ = match te with
    | .int k => seqI k 0 l fun m xs => m ≤ n' ∧ κ (.ints k n' (xs ++ List.replicate (n' - m) 0))
    | te => brC (decide (l.isEmpty = true ∧ n' = 0)) (κ (.lst te.size 0 [])) (seqV te.size 0 l fun m vs => m ≤ n' ∧ κ (.arr te.size (vs ++ List.replicate (n' - m) te.zero))) := by
  have e : (l.isEmpty = true) = (l = []) := by cases l <;> simp
  cases te <;> simp only [elemsC, e] <;> exact imp_br
theorem cp_br (d l : Nat) (A B C : Prop) : ((d = 0 ∨ l = 0 → A) ∧ (0 < d → 0 < l → d ≤ l → B) ∧ (0 < d → 0 < l → ¬ d ≤ l → C)) = brC (decide (d = 0 ∨ l = 0)) A (brC (decide (d ≤ l)) B C) := by
  by_cases h1 : d = 0 ∨ l = 0
  · have : ¬ (0 < d ∧ 0 < l) := by omega
    have h2 : ((0 < d → 0 < l → d ≤ l → B) ∧ (0 < d → 0 < l → ¬ d ≤ l → C)) = True := by
      simp only [eq_iff_iff, iff_true]
      exact ⟨fun a b => absurd ⟨a, b⟩ this, fun a b => absurd ⟨a, b⟩ this⟩
    rw [h2]
    simp [h1, brC]
  · have h3 : 0 < d := by omega
    have h4 : 0 < l := by omega
    rw [decide_eq_false h1, brC_false]
    simp only [h1, false_imp_iff, true_and, h3, h4, true_implies, imp_br]
theorem thawC_br (te : Ty) (O O' : OO) (s c d : AV) (K : AV → AV → OO → Prop) : thawC te O O' s c d K = (match c, d with
  | .lst _ _ _, .arr sz ps => brC (AV.nids ps) (K c d O') (ev (reach O 3 (idsVs ps)) fun F => ev (frzO O F) fun OF => viewC OF 9 (.arr sz ps) fun d' => ev (dropO O F) fun O1 => ownC te O1 s fun c' O2 => K c' d' O2)
  | .arr sz ps, .lst _ _ _ => brC (AV.nids ps) (K c d O') (ev (reach O 3 (idsVs ps)) fun F => ev (frzO O F) fun OF => viewC OF 9 (.arr sz ps) fun c' => ev (dropO O F) fun O1 => ownC te O1 s fun c2 O2 => c2 = .arr sz ps ∧ K c' d O2)
  | _, _ => K c d O') := by
  simp only [thawC]
  rfl
theorem truncC_br (s : AV) (K : OO → Prop) : truncC O s K = (match s with
  | .osl o p _ lo len => objC O o fun ob => rowC ob fun c => brC (decide (c.cnt = len)) (K O) (p = [] ∧ lo = 0 ∧ len < c.cnt ∧ subC c 0 len fun c' => ev (repO O o (.row c')) fun O1 => K O1)
  | _ => K O) := by
  cases s <;> simp only [truncC, imp_br, ev_eq]
theorem copyC_br (ts : List TypeId) (s x : AV) (κ : Nat → OO → Prop) : copyC P ts s x O κ = (match ts with
  | st :: _ => tyC P st fun sty =>
    match sty with
    | .slice e => tyC P e fun te => 0 < te.size ∧
      match s with
      | .osl o p sz lo len => sz = te.size ∧ contC O te x fun d => brC (decide (d.cnt = 0 ∨ len = 0)) (κ 0 O)
          (brC (decide (d.cnt ≤ len)) (objC O o fun ob => obC ob fun c => navC p c fun q => putC q lo d fun q' => updO O o p q' fun O' => κ d.cnt O')
           (subC d 0 len fun d' => objC O o fun ob => obC ob fun c => navC p c fun q => putC q lo d' fun q' => updO O o p q' fun O' => κ len O'))
      | .nils => contC O te x fun _ => κ 0 O
      | _ => False
    | _ => False
  | _ => False) := by
  simp only [copyC, cp_br]
  rfl
end
attribute [go_sem ↓ high] tmpsOK_frz holdsN_frz matC_frz gdC_ev vcOps_arr vcC_draw vcC_reg partsC_arr evsC_arr bltC_arr iteC_br wantC_true wantC_false brC_true brC_false brC_not elemsC_br thawC_br truncC_br copyC_br navC_arr navC_lst updC_arr updC_lst idxV_lst idxV_arr vcC_cond vcOps_cons vcWalk_cons vcOps_nil vcWalk_nil subC_arr subC_ints subC_lst bldS_zeros cutC_map cutS_map cutA_map
attribute [go_sem ↓] nxt wOp2 gdV
attribute [go_sem ↓] mk_in
attribute [go_sem] brC_true brC_false brC_not getP_zero getP_succ getP_lit
attribute [go_sem] ev_eq mk_eq Option.map_some Option.map_none Option.getD_some Option.getD_none
attribute [go_sem] opAt
attribute [go_sem ↓] vcC vcOp evC evsC lkC objC obC rowC cstC putT boolC intC fitC nthC nthTC setC intB strB eqC eqsC binC unC loadC updOB updO rmO rmsO renC rensC idC renOB renOO partsC bldS seqI seqV elemsC zerosC catC contC lenC strL bytesOf cutC cutS varC cutA optC viewC viewC.views lenK appC ownC appendC putC copyC bltC convC s2aC fldA idxA idxV navC fldC fldU intU updC keepC hidX mapKC mapQ gmC fndC setG MK.isS mpC setM resC sameC newC ltC tmpsOK idsOK holdsO argsOK homesOK homesK varsOK matC matsC matOB homeC holdsN frzO dropO
attribute [go_sem] AV.void OB.void List.isEmpty_nil List.isEmpty_cons
attribute [go_sem] repO lk AV.csz AV.cszs AV.multi AV.mem AV.cnt AV.esz AV.isRow AV.nid AV.nids AV.pf AV.pf.pfs OB.pf Ty.size Ty.sizes Ty.multi Ty.zero Ty.zeros poff keys rng touch reach idsT idsV idsVs idsO idsOB packC numT Bool.true_and Bool.and_true Bool.false_and Bool.and_false Bool.not_true Bool.not_false decide_true decide_false List.map_cons List.map_nil List.cons_append List.nil_append List.append_nil true_and and_true and_self if_true if_false Nat.reduceAdd Nat.reduceMul Nat.reduceLT Nat.reduceSub Nat.reduceEqDiff Nat.lt_irrefl Nat.le_refl eq_self Option.some.injEq Option.bind Option.map Option.getD List.length_cons List.length_nil Int.cast_ofNat_Int Int.reduceLE Int.reduceLT Int.reduceToNat Int.reduceAdd Int.reduceSub Int.reduceMul Int.reduceEq Int.reduceNe Int.reduceNeg Nat.reduceLeDiff Nat.reduceBEq Nat.reduceBNe Nat.reduceEqDiff
end Go.Sy
