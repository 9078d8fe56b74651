/- Code: what it asks of a state; loops; functions. -/
import Derived.Test.YtnonjfknpajpaaaS26e
import Derived.Control
namespace Go.Sy
open Go
set_option linter.unusedSimpArgs false
set_option linter.unusedVariables false

/-! One state told in another's words. -/
def idsOK (σ : List (Nat × Nat)) : Nat → Prop
  | 0 => True
  | k + 1 => (idC σ k fun o => o = k) ∧ idsOK σ k
def tmpsOK (σ : List (Nat × Nat)) (Z : List Nat) (OF : OO) (T' : TT) : TT → Prop
  | [] => True
  | (t, v) :: I => (lkC T' t fun u => matC σ Z OF v u) ∧ tmpsOK σ Z OF T' I
def okσ (k m : Nat) (σ : List (Nat × Nat)) (Z F : List Nat) : Bool := F.all (fun f => !(σ.map (·.2)).contains f) && σ.all (fun p => decide (p.1 < m) && !Z.contains p.1) && decide ((σ.map (·.2)).Nodup) && Nat.ble k m && Z.all (fun z => decide (z < m) && decide (k ≤ z))
def Sub (k : Nat) (T' : TT) (O' : OO) (I : TT) (J : OO) (m : Nat) : Prop :=
  ∃ (σ : List (Nat × Nat)) (Z F : List Nat), okσ k m σ Z F = true ∧ idsOK σ k ∧ tmpsOK σ Z (frzO O' F) T' I ∧ holdsN O' σ Z (frzO O' F) J
/-- A loop: a family of states, a measure that falls, and the rule that each round leads from one of them to another one. -/
def VLoop (k : Nat) (F : CK → CK) (T : TT) (O : OO) (n : Nat) : Prop :=
  ∃ (ι : Type) (I : ι → TT) (J : ι → OO) (m : ι → Nat) (μ : ι → Nat) (i0 : ι), Sub k T O (I i0) (J i0) (m i0) ∧ ∀ i, F (fun T' O' _ => ∃ i', μ i' < μ i ∧ Sub k T' O' (I i') (J i') (m i')) (I i) (J i) (m i)

def vcC (P : Program) (tb : List (Nat × Plan)) (k : Nat) : Code → CK → (Nat → CK) → CK → CK
  | .skip, K, _, _, T, O, n => K T O n
  | .region id ops true, K, _, _, T, O, n => (match lk tb id with | some pl => vcWalk P ops.toList pl [] K T O n | none => False)
  | .region _ ops false, K, _, _, T, O, n => vcOps P ops.toList ops.toList K T O n
  | .seq a b, K, X, R, T, O, n => vcC P tb k a (vcC P tb k b K X R) X R T O n
  | .cond c x y, K, X, R, T, O, n => evC T c fun v => boolC v fun b => (b = true → vcC P tb k x K X R T O n) ∧ (b = false → vcC P tb k y K X R T O n)
  | .block id c, K, X, R, T, O, n => vcC P tb k c K (fun i => if i = id then K else X i) R T O n
  | .loop c, _, X, R, T, O, n => VLoop k (fun K' => vcC P tb k c K' X R) T O n
  | .exit id, _, X, _, T, O, n => X id T O n
  | .label _, K, _, _, T, O, n => K T O n
  | .ret, _, _, R, T, O, n => R T O n
  | _, _, _, _, _, _, _ => False
def dstOK (tb : List (Nat × Plan)) (N : Nat) : Code → Bool
  | .region id ops draw => (ops.toList.all fun o => match o.dst with | some t => decide (t < N) | none => true) && (!draw || match lk tb id with | some pl => okPlan ops [] pl | none => true)
  | .seq a b => dstOK tb N a && dstOK tb N b
  | .cond _ a b => dstOK tb N a && dstOK tb N b
  | .block _ c => dstOK tb N c
  | .loop c => dstOK tb N c
  | _ => true
section
variable {E : Env} {N : Nat} {M M' M1 : Pool} {β β' β1 : Bmap} {T : TT} {O O' O1 O2 J : OO} {n : Nat} {a : Act} {w w' : World} {P : Program} {o : Oper} {K : KK}

theorem St.ren (h : St E M β O w) {σ : List (Nat × Nat)} {Z F : List Nat} (hF : ∀ f ∈ F, ∀ o, lk σ o ≠ some f) (hn : (σ.map (·.2)).Nodup) (ha : Agr σ β1 β) (hz : NilOK Z β1) (hH : holdsN O σ Z (frzO O F) J) : ∃ M1, PLe M M1 ∧ Views M M1 β (frzO O F) ∧ St E M1 β1 J w := by
  obtain ⟨M1, hM, hV, hs⟩ := h.freeze F
  refine ⟨M1, hM, hV, ?_⟩
  have hH := holdsN_spec hH
  have hO1 : ∀ o ob, lk J o = some ob → (∃ o' ob', lk σ o = some o' ∧ lk O o' = some ob' ∧ lk (dropO O F) o' = some ob' ∧ matOB σ Z (frzO O F) ob ob') ∨ (ob.void = true ∧ β1 o = some (0, 0)) := fun o ob hl =>
    (hH _ (lk_mem hl)).imp (fun ⟨o', ob', h1, h2, h3⟩ => ⟨o', ob', h1, h2, by
      rw [lk_dropO, if_neg]
      · exact h2
      · intro hc
        exact hF o' (by simpa using hc) _ h1, h3⟩) fun ⟨h1, h2⟩ => ⟨h1, hz _ h2⟩
  refine ⟨hs.pool, hs.sub, hs.only, fun o ob hl => ?_, fun o ob b κ hl hb hk => ?_, fun o o' ob ob' b κ κ' hl hl' hb hb' hk hk' => ?_, h.size, h.keep, h.os, h.tape, h.output⟩
  · rcases hO1 _ _ hl with ⟨o', ob', h1, h2, h2', h3⟩ | ⟨h1, h2⟩
    · obtain ⟨b, κ, hb, hor⟩ := h.objs _ _ h2
      exact ⟨b, κ, by rw [ha _ _ h1]; exact hb, matOB_spec h3 hM hV ha hz hor⟩
    · refine ⟨0, 0, h2, ?_⟩
      cases ob with
      | row c =>
        simp only [OB.void, Bool.and_eq_true, decide_eq_true_eq] at h1
        exact ⟨(void_row h1.1).1, h1.2, .inl ⟨rfl, (void_row h1.1).2, rv_void h1.1⟩⟩
      | _ => cases h1
  · rcases hO1 _ _ hl with ⟨o', ob', h1, h2, h2', h3⟩ | ⟨h1, h2⟩
    · rw [ha _ _ h1] at hb
      exact hs.mine _ _ _ _ h2' hb hk
    · rw [h2] at hb; cases hb; exact absurd rfl hk
  · rcases hO1 _ _ hl with ⟨p, ob1, h1, h2, h2x, h3⟩ | ⟨h1, h2⟩
    · rcases hO1 _ _ hl' with ⟨p', ob1', h1', h2', h2x', h3'⟩ | ⟨h1', h2'⟩
      · rw [ha _ _ h1] at hb
        rw [ha _ _ h1'] at hb'
        have := h.inj _ _ _ _ _ _ _ h2 h2' hb hb' hk hk'
        subst this
        have e1 := lk_swap' hn h1
        have e2 := lk_swap' hn h1'
        rw [e1] at e2
        exact Option.some.inj e2
      · rw [h2'] at hb'; cases hb'; exact absurd rfl hk'
    · rw [h2] at hb; cases hb; exact absurd rfl hk
theorem idsOK_spec {σ : List (Nat × Nat)} : ∀ {k : Nat}, idsOK σ k → ∀ o, o < k → lk σ o = some o := by
  intro k
  induction k with
  | zero => intro _ o ho; omega
  | succ k ih =>
    intro h o ho
    by_cases e : o = k
    · subst e
      obtain ⟨o', h1, rfl⟩ := idC_spec h.1
      exact h1
    · exact ih h.2 o (by omega)
theorem tmpsOK_spec {σ : List (Nat × Nat)} {Z : List Nat} {OF : OO} {T' : TT} (hM : PLe M M1) (hV : Views M M1 β OF) (ha : Agr σ β1 β) (hz : NilOK Z β1) (hT : ∀ t v, lk T' t = some v → ∃ x, a.tmps[t]? = some x ∧ VR M β v x) :
    ∀ {I : TT}, tmpsOK σ Z OF T' I → ∀ t v, lk I t = some v → ∃ x, a.tmps[t]? = some x ∧ VR M1 β1 v x := by
  intro I
  induction I with
  | nil => intro _ t v h; cases h
  | cons p I ih =>
    obtain ⟨s, u⟩ := p
    intro h t v hl
    simp only [lk] at hl
    split at hl
    · rename_i e
      subst e
      cases hl
      obtain ⟨y, h1, h2⟩ := lkC_spec h.1
      obtain ⟨x, hx, hv⟩ := hT _ _ h1
      exact ⟨x, hx, (matC_spec σ Z OF _ _ h2).vr hM hV ha hz hv⟩
    · exact ih h.2 _ _ hl
theorem RelAt.ren (hE : ∀ o, E.ok o) (h : RelAt E N M β T O n a w) {I : TT} {m : Nat} (hs : Sub E.n0 T O I J m) : ∃ M1 β1, RelAt E N M1 β1 I J m a w := by
  obtain ⟨σ, Z, F, h1, h4, h5, h6⟩ := hs
  simp only [okσ, Bool.and_eq_true, List.all_eq_true, decide_eq_true_eq, Bool.not_eq_true'] at h1
  obtain ⟨⟨⟨⟨hF, h1⟩, h2⟩, h3⟩, hZ⟩ := h1
  have h3 := Nat.le_of_ble_eq_true h3
  have h4 := idsOK_spec h4
  let b1 : Bmap := fun o => match lk σ o with | some o' => β o' | none => if Z.contains o = true then some (0, 0) else none
  have ha : Agr σ b1 β := fun o o' h => by show (match lk σ o with | some o' => β o' | none => _) = _; rw [h]
  have hz : NilOK Z b1 := fun o ho => by
    have : lk σ o = none := by
      rw [lk_none]
      intro hm
      obtain ⟨p, hp, rfl⟩ := List.mem_map.1 hm
      have := (h1 p hp).2
      rw [ho] at this
      cases this
    show (match lk σ o with | some o' => β o' | none => if Z.contains o = true then some (0, 0) else none) = _
    rw [this]
    simp only [ho, if_true]
  have hF' : ∀ f ∈ F, ∀ o, lk σ o ≠ some f := fun f hf o e => by
    have := hF f hf
    have hm : f ∈ σ.map (·.2) := List.mem_map.2 ⟨_, lk_mem e, rfl⟩
    simp only [Bool.eq_false_iff] at this
    exact this (by simpa using hm)
  obtain ⟨M1, hM, hV, hst⟩ := h.st.ren hF' h2 ha hz h6
  refine ⟨M1, b1, hst, fun o ho _ => ?_, tmpsOK_spec hM hV ha hz h.tmps h5, h.nd, h.sz, fun o ho => ?_, h3⟩
  · have : lk σ o = none := by
      rw [lk_none]
      intro hm
      obtain ⟨p, hp, rfl⟩ := List.mem_map.1 hm
      have := (h1 p hp).1
      omega
    show (match lk σ o with | some o' => β o' | none => if Z.contains o = true then some (0, 0) else none) = none
    rw [this]
    have : Z.contains o = false := by
      rw [Bool.eq_false_iff]
      intro hc
      have := (hZ o (by simpa using hc)).1
      omega
    simp only [this, if_false, Bool.false_eq_true]
  · rw [← h.base o ho]
    exact ha _ _ (h4 o (ho.resolve_right fun h => h (hE o)))

/-- What the continuations mean. -/
structure Cont3 (E : Env) (N : Nat) (Q : Exit → Act → World → Prop) (K : CK) (X : Nat → CK) (R : CK) : Prop where
  norm : ∀ T O n a w, K T O n → Rel E N T O n a w → Q .normal a w
  exit : ∀ i T O n a w, X i T O n → Rel E N T O n a w → Q (.exit i) a w
  ret : ∀ T O n a w, R T O n → Rel E N T O n a w → Q .ret a w
theorem vcC_sound (hm : P.follows .mixedOrders = true) (hE : ∀ o, E.ok o) (tb : List (Nat × Plan)) : ∀ (c : Code) {Q : Exit → Act → World → Prop} {K : CK} {X : Nat → CK} {R : CK} {T : TT} {O : OO} {n : Nat} {a : Act} {w : World}, Cont3 E N Q K X R → dstOK tb N c = true →
    vcC P tb E.n0 c K X R T O n → Rel E N T O n a w → c.wp P Q a w := by
  intro c
  induction c with
  | skip => intro Q K X R T O n a w hc _ h hr; exact wp_skip (hc.norm _ _ _ _ _ h hr)
  | label l => intro Q K X R T O n a w hc _ h hr; exact wp_label (hc.norm _ _ _ _ _ h hr)
  | region id ops draw =>
    intro Q K X R T O n a w hc hd h hr
    simp only [dstOK, Bool.and_eq_true, List.all_eq_true] at hd
    obtain ⟨hd1, hd2⟩ := hd
    have hd : ∀ o ∈ ops.toList, ∀ t, o.dst = some t → t < N := fun o ho t e => by
      have := hd1 o ho
      rw [e] at this
      simpa using this
    cases draw with
    | false => exact wp_region (vcOps_sound hE hd (by simpa only [vcC] using h) hr fun T O n a w => hc.norm T O n a w)
    | true =>
      simp only [vcC] at h
      cases hl : lk tb id with
      | none => rw [hl] at h; exact h.elim
      | some pl =>
        rw [hl] at h hd2
        exact vcWalk_sound hm hE hd (by simpa using hd2) h hr fun T O n a w => hc.norm T O n a w
  | seq x y ihx ihy =>
    intro Q K X R T O n a w hc hd h hr
    simp only [dstOK, Bool.and_eq_true] at hd
    exact wp_seq (ihx ⟨fun T O n a w hk hr => ihy hc hd.2 hk hr, fun i T O n a w => hc.exit i T O n a w, fun T O n a w => hc.ret T O n a w⟩ hd.1 h hr)
  | cond c x y ihx ihy =>
    intro Q K X R T O n a w hc hd h hr
    simp only [dstOK, Bool.and_eq_true] at hd
    obtain ⟨M, β, hr⟩ := hr
    obtain ⟨v, h, hv⟩ := evC_spec hr h
    obtain ⟨b, rfl, h1, h2⟩ := boolC_spec h
    exact wp_cond_split hv.bool_inv (fun e => ihx hc hd.1 (h1 e) ⟨M, β, hr⟩) fun e => ihy hc hd.2 (h2 e) ⟨M, β, hr⟩
  | block id c ih =>
    intro Q K X R T O n a w hc hd h hr
    refine wp_block (ih ⟨fun T O n a w => hc.norm T O n a w, fun i T O n a w hx hr => ?_, fun T O n a w => hc.ret T O n a w⟩ hd h hr)
    simp only [Exit.inBlock]
    split at hx
    · rename_i e; rw [if_pos e]; exact hc.norm _ _ _ _ _ hx hr
    · rename_i e; rw [if_neg e]; exact hc.exit _ _ _ _ _ _ hx hr
  | loop c ih =>
    intro Q K X R T O n a w hc hd h hr
    obtain ⟨ι, I, J, m, μ, i0, h0, hi⟩ := h
    let Inv : Act → World → Prop := fun a w => ∃ i, Rel E N (I i) (J i) (m i) a w
    let Lv : Act → World → Nat → Prop := fun a w z => ∃ i, μ i = z ∧ Rel E N (I i) (J i) (m i) a w
    have least : ∀ a w, Inv a w → ∃ z, Lv a w z ∧ ∀ z', Lv a w z' → z ≤ z' := fun a w ⟨i, hi⟩ => by
      have : ∀ z, (∃ z', z' ≤ z ∧ Lv a w z') → ∃ z, Lv a w z ∧ ∀ z', Lv a w z' → z ≤ z' := by
        intro z
        induction z using Nat.strongRecOn with
        | _ z ih =>
          rintro ⟨z', hz, hl⟩
          by_cases hm : ∀ z'', Lv a w z'' → z' ≤ z''
          · exact ⟨z', hl, hm⟩
          · simp only [Classical.not_forall] at hm
            obtain ⟨z'', hl'', hlt⟩ := hm
            exact ih z'' (by omega) ⟨z'', Nat.le_refl _, hl''⟩
      exact this (μ i) ⟨μ i, Nat.le_refl _, i, rfl, hi⟩
    have hlv : ∀ a w, ∃ z, Inv a w → Lv a w z ∧ ∀ z', Lv a w z' → z ≤ z' := fun a w => by
      by_cases h : Inv a w
      · obtain ⟨z, hz⟩ := least a w h; exact ⟨z, fun _ => hz⟩
      · exact ⟨0, fun h' => absurd h' h⟩
    let ν : Act → World → Nat := fun a w => Classical.choose (hlv a w)
    have hν : ∀ a w, Inv a w → Lv a w (ν a w) ∧ ∀ z', Lv a w z' → ν a w ≤ z' := fun a w => Classical.choose_spec (hlv a w)
    obtain ⟨M, β, hr⟩ := hr
    obtain ⟨M1, β1, hr1⟩ := hr.ren hE h0
    refine wp_loop Inv ν ⟨i0, M1, β1, hr1⟩ fun a w hinv => ?_
    obtain ⟨⟨i, hz, hri⟩, _⟩ := hν a w hinv
    refine ih ⟨fun T O n a' w' ⟨i', hlt, hs⟩ hr' => ?_, fun i T O n a w => hc.exit i T O n a w, fun T O n a w => hc.ret T O n a w⟩ hd (hi i) hri
    obtain ⟨M', β', hr'⟩ := hr'
    obtain ⟨M2, β2, hr2⟩ := hr'.ren hE hs
    have hinv' : Inv a' w' := ⟨i', M2, β2, hr2⟩
    exact ⟨hinv', Nat.lt_of_le_of_lt ((hν a' w' hinv').2 _ ⟨i', rfl, M2, β2, hr2⟩) (by omega)⟩
  | exit id => intro Q K X R T O n a w hc _ h hr; exact wp_exit (hc.exit _ _ _ _ _ _ h hr)
  | ret => intro Q K X R T O n a w hc _ h hr; exact wp_ret (hc.ret _ _ _ _ _ h hr)
  | _ => intro Q K X R T O n a w hc _ h hr; exact h.elim
/-- What a function hands back. -/
def resC (P : Program) (T : TT) (O : OO) : List ResultVar → (List AV → Prop) → Prop
  | [], K => K []
  | .tmp t :: rs, K => lkC T t fun v => resC P T O rs fun vs => K (v :: vs)
  | .cell t ty :: rs, K => lkC T t fun p => tyC P ty fun y => loadC O p fun q => fitC y q (resC P T O rs fun vs => K (q :: vs))
def packC : List AV → AV
  | [v] => v
  | vs => .tup vs
/-- The parameters keep their names where they are variables. -/
def varsOK (σ : List (Nat × Nat)) : OO → Prop
  | [] => True
  | (o, ob) :: O => ((∃ c, ob = .var c) → ∀ o', lk σ o = some o' → o' = o) ∧ varsOK σ O
def okE (σ : List (Nat × Nat)) (Z F : List Nat) (O0 : OO) : Bool := F.all (fun f => !(σ.map (·.2)).contains f) && decide ((σ.map (·.2)).Nodup) && σ.all (fun p => !Z.contains p.1) && Z.all (fun z => !(keys O0).contains z)
def EndC (P : Program) (rs : List ResultVar) (O0 : OO) (r : AV) (O' : OO) : CK := fun T O _ =>
  resC P T O rs fun vs => ∃ (σ : List (Nat × Nat)) (Z F : List Nat), okE σ Z F O0 = true ∧ matC σ Z (frzO O F) r (packC vs) ∧ holdsN O σ Z (frzO O F) O' ∧ varsOK σ O0
def numT : Nat → List AV → TT
  | _, [] => []
  | i, v :: vs => (i, v) :: numT (i + 1) vs
end
end Go.Sy
