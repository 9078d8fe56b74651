/- Code: what it asks of a state; loops; functions. -/
import Derived.Test.YtjaailbgeadnnaaGreatGE
import Derived.Control
import Derived.KernelRfl
import Derived.WalkKit
import Derived.ProofKit
import Derived.OpenShut
import Derived.ShutString
import Derived.ChangeOld
import Derived.Below
import Derived.Carry
import Derived.SizedLaws
import Derived.ChangeSlices
namespace Go.Sy
open Go
set_option linter.unusedSimpArgs false
set_option linter.unusedVariables false

/-! One state told in another's words. -/
def idsOK (σ : List (Nat × Nat)) : Nat → Prop
  | 0 => True
  | k + 1 => (idC σ k fun o => o = k) ∧ idsOK σ k
def tmpsOK (σ : List (Nat × Nat)) (Z : List Nat) (OF : OO) (T' : TT) : TT → Prop
  | [] => True
  | (t, v) :: I => (lkC T' t fun u => matC σ Z OF v u) ∧ tmpsOK σ Z OF T' I
def okσ (k m : Nat) (σ : List (Nat × Nat)) (Z F : List Nat) : Bool := F.all (fun f => !(σ.map (·.2)).contains f) && σ.all (fun p => decide (p.1 < m) && !Z.contains p.1) && decide ((σ.map (·.2)).Nodup) && Nat.ble k m && Z.all (fun z => decide (z < m) && decide (k ≤ z))
def Sub (k : Nat) (T' : TT) (O' : OO) (I : TT) (J : OO) (m : Nat) : Prop :=
  ∃ (σ : List (Nat × Nat)) (Z F : List Nat), okσ k m σ Z F = true ∧ idsOK σ k ∧ tmpsOK σ Z (frzO O' F) T' I ∧ holdsN O' σ Z (frzO O' F) J
/-- A loop: a family of states, a measure that falls, and the rule that each round leads from one of them to another one. -/
def VLoop (k : Nat) (F : CK → CK) (T : TT) (O : OO) (n : Nat) : Prop :=
  ∃ (ι : Type) (I : ι → TT) (J : ι → OO) (m : ι → Nat) (μ : ι → Nat) (i0 : ι), Sub k T O (I i0) (J i0) (m i0) ∧ ∀ i, F (fun T' O' _ => ∃ i', μ i' < μ i ∧ Sub k T' O' (I i') (J i') (m i')) (I i) (J i) (m i)

/-- Where the table bids it (100000 and the region's number), the state is told in other words ahead of a region. -/
def Cut (k : Nat) (F : CK) (T : TT) (O : OO) (n : Nat) : Prop := ∃ I J m, Sub k T O I J m ∧ F I J m
def vcC (P : Program) (tb : List (Nat × Plan)) (k : Nat) : Code → CK → (Nat → CK) → CK → CK
  | .skip, K, _, _, T, O, n => K T O n
  | .region id ops true, K, _, _, T, O, n => (match lk tb (100000 + id) with
      | none => (match lk tb id with | some pl => vcWalk P ops.toList pl [] K T O n | none => False)
      | some _ => Cut k (fun T O n => (match lk tb id with | some pl => vcWalk P ops.toList pl [] K T O n | none => False)) T O n)
  | .region id ops false, K, _, _, T, O, n => (match lk tb (100000 + id) with
      | none => vcOps P ops.toList ops.toList K T O n
      | some _ => Cut k (vcOps P ops.toList ops.toList K) T O n)
  | .seq a b, K, X, R, T, O, n => vcC P tb k a (vcC P tb k b K X R) X R T O n
  | .cond c x y, K, X, R, T, O, n => evC T c fun v => boolC v fun b => (b = true → vcC P tb k x K X R T O n) ∧ (b = false → vcC P tb k y K X R T O n)
  | .block id c, K, X, R, T, O, n => vcC P tb k c K (fun i => if i = id then K else X i) R T O n
  | .loop c, _, X, R, T, O, n => VLoop k (fun K' => vcC P tb k c K' X R) T O n
  | .exit id, _, X, _, T, O, n => X id T O n
  | .label _, K, _, _, T, O, n => K T O n
  | .ret, _, _, R, T, O, n => R T O n
  | _, _, _, _, _, _, _ => False
def dstOK (tb : List (Nat × Plan)) (N : Nat) : Code → Bool
  | .region id ops draw => (ops.toList.all fun o => match o.dst with | some t => decide (t < N) | none => true) && (!draw || match lk tb id with | some pl => okPlan ops [] pl | none => true)
  | .seq a b => dstOK tb N a && dstOK tb N b
  | .cond _ a b => dstOK tb N a && dstOK tb N b
  | .block _ c => dstOK tb N c
  | .loop c => dstOK tb N c
  | _ => true
section
variable {E : Env} {N : Nat} {M M' M1 : Pool} {β β' β1 : Bmap} {T : TT} {O O' O1 O2 J : OO} {n : Nat} {a : Act} {w w' : World} {P : Program} {o : Oper} {K : KK}

theorem St.ren (h : St E M β O w) {σ : List (Nat × Nat)} {Z F : List Nat} (hF : ∀ f ∈ F, ∀ o, lk σ o ≠ some f) (hn : (σ.map (·.2)).Nodup) (ha : Agr σ β1 β) (hz : NilOK Z β1) (hH : holdsN O σ Z (frzO O F) J) : ∃ M1, PLe M M1 ∧ Views M M1 β (frzO O F) ∧ St E M1 β1 J w := by
  obtain ⟨M1, hM, hV, hs⟩ := h.freeze F
  refine ⟨M1, hM, hV, ?_⟩
  have hH := holdsN_spec hH
  have hO1 : ∀ o ob, lk J o = some ob → (∃ o' ob', lk σ o = some o' ∧ lk O o' = some ob' ∧ lk (dropO O F) o' = some ob' ∧ matOB σ Z (frzO O F) ob ob') ∨ (ob.void = true ∧ β1 o = some (0, 0)) := fun o ob hl =>
    (hH _ (lk_mem hl)).imp (fun ⟨o', ob', h1, h2, h3⟩ => ⟨o', ob', h1, h2, by
      rw [lk_dropO, if_neg]
      · exact h2
      · intro hc
        exact hF o' (by simpa using hc) _ h1, h3⟩) fun ⟨h1, h2⟩ => ⟨h1, hz _ h2⟩
  refine ⟨hs.pool, hs.sub, hs.only, fun o ob hl => ?_, fun o ob b κ hl hb hk => ?_, fun o o' ob ob' b κ κ' hl hl' hb hb' hk hk' => ?_, h.size, h.keep, h.os, h.tape, h.output⟩
  · rcases hO1 _ _ hl with ⟨o', ob', h1, h2, h2', h3⟩ | ⟨h1, h2⟩
    · obtain ⟨b, κ, hb, hor⟩ := h.objs _ _ h2
      exact ⟨b, κ, by rw [ha _ _ h1]; exact hb, matOB_spec h3 hM hV ha hz hor⟩
    · refine ⟨0, 0, h2, ?_⟩
      cases ob with
      | row c =>
        simp only [OB.void, Bool.and_eq_true, decide_eq_true_eq] at h1
        exact ⟨(void_row h1.1).1, h1.2, .inl ⟨rfl, (void_row h1.1).2, rv_void h1.1⟩⟩
      | _ => cases h1
  · rcases hO1 _ _ hl with ⟨o', ob', h1, h2, h2', h3⟩ | ⟨h1, h2⟩
    · rw [ha _ _ h1] at hb
      exact hs.mine _ _ _ _ h2' hb hk
    · rw [h2] at hb; cases hb; exact absurd rfl hk
  · rcases hO1 _ _ hl with ⟨p, ob1, h1, h2, h2x, h3⟩ | ⟨h1, h2⟩
    · rcases hO1 _ _ hl' with ⟨p', ob1', h1', h2', h2x', h3'⟩ | ⟨h1', h2'⟩
      · rw [ha _ _ h1] at hb
        rw [ha _ _ h1'] at hb'
        have := h.inj _ _ _ _ _ _ _ h2 h2' hb hb' hk hk'
        subst this
        have e1 := lk_swap' hn h1
        have e2 := lk_swap' hn h1'
        rw [e1] at e2
        exact Option.some.inj e2
      · rw [h2'] at hb'; cases hb'; exact absurd rfl hk'
    · rw [h2] at hb; cases hb; exact absurd rfl hk
theorem idsOK_spec {σ : List (Nat × Nat)} : ∀ {k : Nat}, idsOK σ k → ∀ o, o < k → lk σ o = some o := by
  intro k
  induction k with
  | zero => intro _ o ho; omega
  | succ k ih =>
    intro h o ho
    by_cases e : o = k
    · subst e
      obtain ⟨o', h1, rfl⟩ := idC_spec h.1
      exact h1
    · exact ih h.2 o (by omega)
theorem tmpsOK_spec {σ : List (Nat × Nat)} {Z : List Nat} {OF : OO} {T' : TT} (hM : PLe M M1) (hV : Views M M1 β OF) (ha : Agr σ β1 β) (hz : NilOK Z β1) (hT : ∀ t v, lk T' t = some v → ∃ x, a.tmps[t]? = some x ∧ VR M β v x) :
    ∀ {I : TT}, tmpsOK σ Z OF T' I → ∀ t v, lk I t = some v → ∃ x, a.tmps[t]? = some x ∧ VR M1 β1 v x := by
  intro I
  induction I with
  | nil => intro _ t v h; cases h
  | cons p I ih =>
    obtain ⟨s, u⟩ := p
    intro h t v hl
    simp only [lk] at hl
    split at hl
    · rename_i e
      subst e
      cases hl
      obtain ⟨y, h1, h2⟩ := lkC_spec h.1
      obtain ⟨x, hx, hv⟩ := hT _ _ h1
      exact ⟨x, hx, (matC_spec σ Z OF _ _ h2).vr hM hV ha hz hv⟩
    · exact ih h.2 _ _ hl
theorem RelAt.ren (hE : ∀ o, E.ok o) (h : RelAt E N M β T O n a w) {I : TT} {m : Nat} (hs : Sub E.n0 T O I J m) : ∃ M1 β1, RelAt E N M1 β1 I J m a w := by
  obtain ⟨σ, Z, F, h1, h4, h5, h6⟩ := hs
  simp only [okσ, Bool.and_eq_true, List.all_eq_true, decide_eq_true_eq, Bool.not_eq_true'] at h1
  obtain ⟨⟨⟨⟨hF, h1⟩, h2⟩, h3⟩, hZ⟩ := h1
  have h3 := Nat.le_of_ble_eq_true h3
  have h4 := idsOK_spec h4
  let b1 : Bmap := fun o => match lk σ o with | some o' => β o' | none => if Z.contains o = true then some (0, 0) else none
  have ha : Agr σ b1 β := fun o o' h => by show (match lk σ o with | some o' => β o' | none => _) = _; rw [h]
  have hz : NilOK Z b1 := fun o ho => by
    have : lk σ o = none := by
      rw [lk_none]
      intro hm
      obtain ⟨p, hp, rfl⟩ := List.mem_map.1 hm
      have := (h1 p hp).2
      rw [ho] at this
      cases this
    show (match lk σ o with | some o' => β o' | none => if Z.contains o = true then some (0, 0) else none) = _
    rw [this]
    simp only [ho, if_true]
  have hF' : ∀ f ∈ F, ∀ o, lk σ o ≠ some f := fun f hf o e => by
    have := hF f hf
    have hm : f ∈ σ.map (·.2) := List.mem_map.2 ⟨_, lk_mem e, rfl⟩
    simp only [Bool.eq_false_iff] at this
    exact this (by simpa using hm)
  obtain ⟨M1, hM, hV, hst⟩ := h.st.ren hF' h2 ha hz h6
  refine ⟨M1, b1, hst, fun o ho _ => ?_, tmpsOK_spec hM hV ha hz h.tmps h5, h.nd, h.sz, fun o ho => ?_, h3⟩
  · have : lk σ o = none := by
      rw [lk_none]
      intro hm
      obtain ⟨p, hp, rfl⟩ := List.mem_map.1 hm
      have := (h1 p hp).1
      omega
    show (match lk σ o with | some o' => β o' | none => if Z.contains o = true then some (0, 0) else none) = none
    rw [this]
    have : Z.contains o = false := by
      rw [Bool.eq_false_iff]
      intro hc
      have := (hZ o (by simpa using hc)).1
      omega
    simp only [this, if_false, Bool.false_eq_true]
  · rw [← h.base o ho]
    exact ha _ _ (h4 o (ho.resolve_right fun h => h (hE o)))

/-- What the continuations mean. -/
structure Cont3 (E : Env) (N : Nat) (Q : Exit → Act → World → Prop) (K : CK) (X : Nat → CK) (R : CK) : Prop where
  norm : ∀ T O n a w, K T O n → Rel E N T O n a w → Q .normal a w
  exit : ∀ i T O n a w, X i T O n → Rel E N T O n a w → Q (.exit i) a w
  ret : ∀ T O n a w, R T O n → Rel E N T O n a w → Q .ret a w
theorem vcC_sound (hm : P.follows .mixedOrders = true) (hE : ∀ o, E.ok o) (tb : List (Nat × Plan)) : ∀ (c : Code) {Q : Exit → Act → World → Prop} {K : CK} {X : Nat → CK} {R : CK} {T : TT} {O : OO} {n : Nat} {a : Act} {w : World}, Cont3 E N Q K X R → dstOK tb N c = true →
    vcC P tb E.n0 c K X R T O n → Rel E N T O n a w → c.wp P Q a w := by
  intro c
  induction c with
  | skip => intro Q K X R T O n a w hc _ h hr; exact wp_skip (hc.norm _ _ _ _ _ h hr)
  | label l => intro Q K X R T O n a w hc _ h hr; exact wp_label (hc.norm _ _ _ _ _ h hr)
  | region id ops draw =>
    intro Q K X R T O n a w hc hd h hr
    simp only [dstOK, Bool.and_eq_true, List.all_eq_true] at hd
    obtain ⟨hd1, hd2⟩ := hd
    have hd : ∀ o ∈ ops.toList, ∀ t, o.dst = some t → t < N := fun o ho t e => by
      have := hd1 o ho
      rw [e] at this
      simpa using this
    cases draw with
    | false =>
      simp only [vcC] at h
      cases hq : lk tb (100000 + id) with
      | none =>
        rw [hq] at h
        exact wp_region (vcOps_sound hE hd h hr fun T O n a w => hc.norm T O n a w)
      | some q =>
        rw [hq] at h
        obtain ⟨I, J, m, hs, h⟩ := h
        obtain ⟨M, β, hr⟩ := hr
        obtain ⟨M1, β1, hr⟩ := hr.ren hE hs
        exact wp_region (vcOps_sound hE hd h ⟨M1, β1, hr⟩ fun T O n a w => hc.norm T O n a w)
    | true =>
      have go : ∀ {T : TT} {O : OO} {n : Nat} {a : Act} {w : World}, (match lk tb id with | some pl => vcWalk P ops.toList pl [] K T O n | none => False) → Rel E N T O n a w → (Code.region id ops true).wp P Q a w := fun {T O n a w} h hr => by
        cases hl : lk tb id with
        | none => rw [hl] at h; exact h.elim
        | some pl =>
          rw [hl] at h
          rw [hl] at hd2
          exact vcWalk_sound hm hE hd (by simpa using hd2) h hr fun T O n a w => hc.norm T O n a w
      simp only [vcC] at h
      cases hq : lk tb (100000 + id) with
      | none => rw [hq] at h; exact go h hr
      | some q =>
        rw [hq] at h
        obtain ⟨I, J, m, hs, h⟩ := h
        obtain ⟨M, β, hr⟩ := hr
        obtain ⟨M1, β1, hr⟩ := hr.ren hE hs
        exact go h ⟨M1, β1, hr⟩
  | seq x y ihx ihy =>
    intro Q K X R T O n a w hc hd h hr
    simp only [dstOK, Bool.and_eq_true] at hd
    exact wp_seq (ihx ⟨fun T O n a w hk hr => ihy hc hd.2 hk hr, fun i T O n a w => hc.exit i T O n a w, fun T O n a w => hc.ret T O n a w⟩ hd.1 h hr)
  | cond c x y ihx ihy =>
    intro Q K X R T O n a w hc hd h hr
    simp only [dstOK, Bool.and_eq_true] at hd
    obtain ⟨M, β, hr⟩ := hr
    obtain ⟨v, h, hv⟩ := evC_spec hr h
    obtain ⟨b, rfl, h1, h2⟩ := boolC_spec h
    exact wp_cond_split hv.bool_inv (fun e => ihx hc hd.1 (h1 e) ⟨M, β, hr⟩) fun e => ihy hc hd.2 (h2 e) ⟨M, β, hr⟩
  | block id c ih =>
    intro Q K X R T O n a w hc hd h hr
    refine wp_block (ih ⟨fun T O n a w => hc.norm T O n a w, fun i T O n a w hx hr => ?_, fun T O n a w => hc.ret T O n a w⟩ hd h hr)
    simp only [Exit.inBlock]
    split at hx
    · rename_i e; rw [if_pos e]; exact hc.norm _ _ _ _ _ hx hr
    · rename_i e; rw [if_neg e]; exact hc.exit _ _ _ _ _ _ hx hr
  | loop c ih =>
    intro Q K X R T O n a w hc hd h hr
    obtain ⟨ι, I, J, m, μ, i0, h0, hi⟩ := h
    let Inv : Act → World → Prop := fun a w => ∃ i, Rel E N (I i) (J i) (m i) a w
    let Lv : Act → World → Nat → Prop := fun a w z => ∃ i, μ i = z ∧ Rel E N (I i) (J i) (m i) a w
    have least : ∀ a w, Inv a w → ∃ z, Lv a w z ∧ ∀ z', Lv a w z' → z ≤ z' := fun a w ⟨i, hi⟩ => by
      have : ∀ z, (∃ z', z' ≤ z ∧ Lv a w z') → ∃ z, Lv a w z ∧ ∀ z', Lv a w z' → z ≤ z' := by
        intro z
        induction z using Nat.strongRecOn with
        | _ z ih =>
          rintro ⟨z', hz, hl⟩
          by_cases hm : ∀ z'', Lv a w z'' → z' ≤ z''
          · exact ⟨z', hl, hm⟩
          · simp only [Classical.not_forall] at hm
            obtain ⟨z'', hl'', hlt⟩ := hm
            exact ih z'' (by omega) ⟨z'', Nat.le_refl _, hl''⟩
      exact this (μ i) ⟨μ i, Nat.le_refl _, i, rfl, hi⟩
    have hlv : ∀ a w, ∃ z, Inv a w → Lv a w z ∧ ∀ z', Lv a w z' → z ≤ z' := fun a w => by
      by_cases h : Inv a w
      · obtain ⟨z, hz⟩ := least a w h; exact ⟨z, fun _ => hz⟩
      · exact ⟨0, fun h' => absurd h' h⟩
    let ν : Act → World → Nat := fun a w => Classical.choose (hlv a w)
    have hν : ∀ a w, Inv a w → Lv a w (ν a w) ∧ ∀ z', Lv a w z' → ν a w ≤ z' := fun a w => Classical.choose_spec (hlv a w)
    obtain ⟨M, β, hr⟩ := hr
    obtain ⟨M1, β1, hr1⟩ := hr.ren hE h0
    refine wp_loop Inv ν ⟨i0, M1, β1, hr1⟩ fun a w hinv => ?_
    obtain ⟨⟨i, hz, hri⟩, _⟩ := hν a w hinv
    refine ih ⟨fun T O n a' w' ⟨i', hlt, hs⟩ hr' => ?_, fun i T O n a w => hc.exit i T O n a w, fun T O n a w => hc.ret T O n a w⟩ hd (hi i) hri
    obtain ⟨M', β', hr'⟩ := hr'
    obtain ⟨M2, β2, hr2⟩ := hr'.ren hE hs
    have hinv' : Inv a' w' := ⟨i', M2, β2, hr2⟩
    exact ⟨hinv', Nat.lt_of_le_of_lt ((hν a' w' hinv').2 _ ⟨i', rfl, M2, β2, hr2⟩) (by omega)⟩
  | exit id => intro Q K X R T O n a w hc _ h hr; exact wp_exit (hc.exit _ _ _ _ _ _ h hr)
  | ret => intro Q K X R T O n a w hc _ h hr; exact wp_ret (hc.ret _ _ _ _ _ h hr)
  | _ => intro Q K X R T O n a w hc _ h hr; exact h.elim
/-- What a function hands back. -/
def resC (P : Program) (T : TT) (O : OO) : List ResultVar → (List AV → Prop) → Prop
  | [], K => K []
  | .tmp t :: rs, K => lkC T t fun v => resC P T O rs fun vs => K (v :: vs)
  | .cell t ty :: rs, K => lkC T t fun p => tyC P ty fun y => loadC O p fun q => fitC y q (resC P T O rs fun vs => K (q :: vs))
def packC : List AV → AV
  | [v] => v
  | vs => .tup vs
/-- The parameters keep their names where they are variables. -/
def varsOK (σ : List (Nat × Nat)) : OO → Prop
  | [] => True
  | (o, ob) :: O => ((∃ c, ob = .var c) → ∀ o', lk σ o = some o' → o' = o) ∧ varsOK σ O
def okE (σ : List (Nat × Nat)) (Z F : List Nat) (O0 : OO) : Bool := F.all (fun f => !(σ.map (·.2)).contains f) && decide ((σ.map (·.2)).Nodup) && σ.all (fun p => !Z.contains p.1) && Z.all (fun z => !(keys O0).contains z)
def EndC (P : Program) (rs : List ResultVar) (O0 : OO) (r : AV) (O' : OO) : CK := fun T O _ =>
  resC P T O rs fun vs => ∃ (σ : List (Nat × Nat)) (Z F : List Nat), okE σ Z F O0 = true ∧ matC σ Z (frzO O F) r (packC vs) ∧ holdsN O σ Z (frzO O F) O' ∧ varsOK σ O0
def numT : Nat → List AV → TT
  | _, [] => []
  | i, v :: vs => (i, v) :: numT (i + 1) vs
end
end Go.Sy
/- Functions. -/
namespace Go.Sy
open Go
set_option linter.unusedSimpArgs false
set_option linter.unusedVariables false
section
variable {E : Env} {N : Nat} {M M' M1 : Pool} {β β' β1 : Bmap} {T : TT} {O O' O1 O2 J : OO} {n : Nat} {a : Act} {w w' : World} {P : Program} {o : Oper} {K : KK}

def resV (a : Act) : ResultVar → Sem Value
  | .tmp t => pure (a.tmps.getD t undef)
  | .cell x t => do loadVar t (← asAddr (a.tmps.getD x undef))
theorem resC_spec (hr : RelAt E N M β T O n a w) : ∀ {rs : List ResultVar} {κ : List AV → Prop}, resC P T O rs κ → ∃ vs xs, κ vs ∧ (rs.mapM (resV a)).run P w = .ok xs w ∧ VRs M β vs xs := by
  intro rs
  induction rs with
  | nil => intro κ h; exact ⟨[], [], h, by simp, .nil⟩
  | cons r rs ih =>
    intro κ h
    cases r with
    | tmp t =>
      obtain ⟨v, hl, h⟩ := lkC_spec h
      obtain ⟨x, hx, hv⟩ := hr.tmps t v hl
      obtain ⟨vs, xs, hk, hrun, hvs⟩ := ih h
      refine ⟨v :: vs, x :: xs, hk, ?_, .cons hv hvs⟩
      simp only [List.mapM_cons, resV, Sem.run_bind, Sem.run_pure, Result.andThen_ok, hrun, Array.getD_eq_getD_getElem?, hx, Option.getD_some]
    | cell p ty =>
      obtain ⟨v, hl, h⟩ := lkC_spec h
      obtain ⟨x, hx, hv⟩ := hr.tmps p v hl
      obtain ⟨y, hok, _, h⟩ := tyC_spec h
      have fin : ∀ (b off : Nat) (q : AV) (cs : List Value), x = .pointer (some ⟨b, off, none⟩) → RV M β q cs → CellsAt w b off cs → fitC y q (resC P T O rs fun vs => κ (q :: vs)) →
          ∃ vs xs, κ vs ∧ ((ResultVar.cell p ty :: rs).mapM (resV a)).run P w = .ok xs w ∧ VRs M β vs xs := fun b off q cs ex hq hc hf => by
        obtain ⟨f1, f2, hk⟩ := hf
        obtain ⟨z, hrun, hz⟩ := run_loadVar (w := w) hok hc hq f1 f2
        obtain ⟨vs, xs, hk, hrun2, hvs⟩ := ih hk
        refine ⟨q :: vs, z :: xs, hk, ?_, .cons hz hvs⟩
        simp only [List.mapM_cons, resV, Sem.run_bind, Sem.run_pure, Result.andThen_ok, Array.getD_eq_getD_getElem?, hx, Option.getD_some, ex, asAddr, hrun, hrun2]
      cases v with
      | ref i p' =>
        obtain ⟨ob, hl, h3⟩ := objC_spec h
        obtain ⟨c, hc, h4⟩ := obC_spec h3
        obtain ⟨b, κ0, hb, ex⟩ := hv.ref_inv
        obtain ⟨cc, hcc, hca⟩ := hr.st.cells hl hb hc
        obtain ⟨q, hf, hq⟩ := nav_spec _ _ _ h4
        obtain ⟨_, hq2⟩ := hq hcc
        exact fin b (poff p') q _ ex hq2 (by have := hca.piece (m := poff p') (k := q.csz); rwa [Nat.zero_add] at this) hf
      | pp c p' =>
        obtain ⟨q, hf, hq⟩ := nav_spec _ _ _ h
        obtain ⟨cc, b, off, ex, hcc, hm⟩ := hv.pp_inv
        obtain ⟨_, hq2⟩ := hq hcc
        exact fin b (off + poff p') q _ ex (hq2.mono (PLe.refl _) (BLe.nob _)) (CellsAt.piece fun i v hi => hr.st.pool _ _ _ (hm i v hi)) hf
      | _ => exact h.elim
theorem results_run (hr : RelAt E N M β T O n a w) {fn : Func} {κ : List AV → Prop} (h : resC P T O fn.results.toList κ) : ∃ vs x, κ vs ∧ (results fn a.tmps).run P w = .ok x w ∧ VR M β (packC vs) x := by
  obtain ⟨vs, xs, hk, hrun, hv⟩ := resC_spec hr h
  have hm : (fn.results.mapM (resV a)).run P w = .ok xs.toArray w := by
    rw [Array.mapM_eq_mapM_toList]
    simp only [Sem.run_map, hrun, Result.andThen_ok]
  have e : results fn a.tmps = (do let vs ← fn.results.mapM (resV a); pure (if h : vs.size = 1 then vs[0] else .tuple vs)) := by
    unfold results
    congr 1
  refine ⟨vs, if h : xs.toArray.size = 1 then xs.toArray[0] else .tuple xs.toArray, hk, by rw [e]; simp only [Sem.run_bind, hm, Result.andThen_ok, Sem.run_pure], ?_⟩
  cases hv with
  | nil => exact .tup .nil
  | cons h1 h2 =>
    cases h2 with
    | nil => simpa [packC] using h1
    | cons h2 h3 => simpa [packC] using VR.tup (.cons h1 (.cons h2 h3))
theorem numT_spec : ∀ {vs : List AV} {xs : List Value} (pre : List Value), VRs M β vs xs → ∀ t v, lk (numT pre.length vs) t = some v → ∃ x, (pre ++ xs)[t]? = some x ∧ VR M β v x := by
  intro vs
  induction vs with
  | nil => intro xs pre h t v hl; cases hl
  | cons u vs ih =>
    intro xs pre h t v hl
    cases h with
    | @cons _ _ _ x xs h1 h2 =>
      simp only [numT, lk] at hl
      split at hl
      · rename_i e; subst e; cases hl; exact ⟨x, by simp, h1⟩
      · have := ih (pre ++ [x]) h2 t v (by simpa using hl)
        simpa using this
theorem fn_of_vc (hm : P.follows .mixedOrders = true) (tb : List (Nat × Plan)) {f : FuncId} {fn : Func} {c : Code} {args : List AV} {r : AV} (k : Nat) (hf : P.funcs[f]? = some fn) (hb : fn.body = some c) (hnm : (fn.name == "runtime.NumGoroutine") = false) (hN : args.length ≤ fn.ntmps) (hd : dstOK tb fn.ntmps c = true) (hk : ∀ p ∈ O, p.1 < k) (k0 : Nat) (hk0 : k0 ≤ k) (hvar : ∀ o c, lk O o = some (.var c) → o < k0)
    (F : CK) (hF : ∀ T O1 n, F T O1 n → EndC P fn.results.toList O r O' T O1 n) (h : vcC P tb k0 c F (fun _ _ _ _ => False) F (numT 0 args) O k) : FnC P f args O r O' := by
  refine ⟨⟨fn, hf, hnm, by simp [hb]⟩, fun w M β xs hids hst hxs => calls_of_wp hf hb ?_⟩
  have hxl : xs.length = args.length := by
    clear h hN
    revert hxs
    generalize args = args
    intro hxs
    induction xs generalizing args with
    | nil => cases hxs; rfl
    | cons x xs ih => cases hxs with | cons _ h2 => simp [ih _ h2]
  have ends : ∀ T O1 n a w', EndC P fn.results.toList O r O' T O1 n → Rel ⟨w, ownOf O β, M, β, k0, fun _ => True⟩ fn.ntmps T O1 n a w' → a.defers = [] ∧ ∃ v, (results fn a.tmps).run P w' = .ok v w' ∧
      ∃ x M' β', Ending.returned v = .returned x ∧ VR M' β' r x ∧ St ⟨w, ownOf O β, M, nob, 0, fun _ => True⟩ M' β' O' w' ∧ (∀ o c, lk O o = some (.var c) → β' o = β o) := by
    rintro T O1 n a w' he ⟨M', β', hr⟩
    obtain ⟨vs, x, ⟨σ, Z, F, h1, h2, h3, h4⟩, hrun, hv⟩ := results_run hr he
    simp only [okE, Bool.and_eq_true, List.all_eq_true, decide_eq_true_eq, Bool.not_eq_true'] at h1
    obtain ⟨⟨⟨hF, h1⟩, hσZ⟩, hZ⟩ := h1
    have hF' : ∀ f ∈ F, ∀ o, lk σ o ≠ some f := fun f hf o e => by
      have := hF f hf
      have hm : f ∈ σ.map (·.2) := List.mem_map.2 ⟨_, lk_mem e, rfl⟩
      simp only [Bool.eq_false_iff] at this
      exact this (by simpa using hm)
    let b1 : Bmap := fun o => match lk σ o with | some o' => β' o' | none => if Z.contains o = true then some (0, 0) else β o
    have ha : Agr σ b1 β' := fun o o' h => by show (match lk σ o with | some o' => β' o' | none => _) = _; rw [h]
    have hz : NilOK Z b1 := fun o ho => by
      have : lk σ o = none := by
        rw [lk_none]
        intro hm
        obtain ⟨p, hp, rfl⟩ := List.mem_map.1 hm
        have := hσZ p hp
        rw [ho] at this
        cases this
      show (match lk σ o with | some o' => β' o' | none => if Z.contains o = true then some (0, 0) else β o) = _
      rw [this]
      simp only [ho, if_true]
    obtain ⟨M1, hM, hV, this⟩ := hr.st.ren hF' h1 ha hz h3
    refine ⟨hr.nd, x, hrun, x, M1, b1, rfl, (matC_spec σ Z _ _ _ h2).vr hM hV ha hz hv, ?_, fun o c hl => ?_⟩
    · exact ⟨this.pool, this.sub, this.only, this.objs, this.mine, this.inj, this.size, this.keep, this.os, this.tape, this.output⟩
    · show (match lk σ o with | some o' => β' o' | none => if Z.contains o = true then some (0, 0) else β o) = β o
      split
      · rename_i o' e'
        have : ∀ {O : OO}, varsOK σ O → (o, OB.var c) ∈ O → o' = o := by
          intro O
          induction O with
          | nil => intro _ h; cases h
          | cons q O ih =>
            obtain ⟨i, ob⟩ := q
            intro hv hm
            rcases List.mem_cons.1 hm with e2 | hm
            · cases e2; exact hv.1 ⟨c, rfl⟩ _ e'
            · exact ih hv.2 hm
        rw [this h4 (lk_mem hl)]
        exact hr.base o (.inl (hvar _ _ hl))
      · rw [if_neg]
        intro hc
        have := hZ o (by simpa using hc)
        have hm : o ∈ keys O := List.mem_map.2 ⟨_, lk_mem hl, rfl⟩
        simp [hm] at this
  refine vcC_sound hm (fun _ => trivial) tb (E := ⟨w, ownOf O β, M, β, k0, fun _ => True⟩) (N := fn.ntmps) c ⟨fun T O1 n a w' he hr => ends T O1 n a w' (hF _ _ _ he) hr, fun _ _ _ _ _ _ h _ => h.elim, fun T O1 n a w' he hr => ends T O1 n a w' (hF _ _ _ he) hr⟩ hd h ⟨M, β, ⟨hst.pool, hst.sub, hst.only, hst.objs, hst.mine, hst.inj, hst.size, hst.keep, hst.os, hst.tape, hst.output⟩, fun o ho _ => hids o ?_, fun t v hl => ?_, rfl, ?_, fun _ _ => rfl, hk0⟩
  · rw [lk_none]
    intro hm
    obtain ⟨p, hp, rfl⟩ := List.mem_map.1 hm
    have := hk p hp
    omega
  · obtain ⟨x, hx, hv⟩ := numT_spec [] hxs t v hl
    refine ⟨x, ?_, hv⟩
    have ht : t < xs.length := by
      have := (List.getElem?_eq_some_iff.1 hx).1
      simpa using this
    simp only [List.nil_append] at hx
    rw [Array.getElem?_append_left (by simpa using ht)]
    simpa using hx
  · simp; omega
end
end Go.Sy
/- The reckoning: which words simp unfolds. -/
namespace Go.Sy
open Go
/-- The argument is reckoned first. -/
def ev {α : Type} (x : α) (K : α → Prop) : Prop := K x
def mk {α : Type} (x : α) : α := x
def mk3 {α : Type} (x : α) : α := x
theorem mk_in {α : Type} (x : α) : mk x = mk3 x := Eq.trans (Eq.refl (mk x)) (Eq.refl x)
theorem mk_eq {α : Type} (x : α) : mk3 x = x := Eq.trans (Eq.refl (mk3 x)) (Eq.refl x)
@[congr] theorem ev_congr {α : Type} {x y : α} {K : α → Prop} (h : mk x = y) : ev x K = ev y K := by rw [← h]; rfl
theorem ev_eq {α : Type} (x : α) (K : α → Prop) : ev x K = K x := rfl
@[congr] theorem CallP_congr {P : Program} {f : FuncId} {args args' : List AV} {O : OO} {n : Nat} {κ : AV → OO → Nat → Prop} (h : mk args = args') : CallP P f args O n κ = CallP P f args' O n κ := by rw [← h]; rfl
@[congr] theorem idC_congr {σ σ' : List (Nat × Nat)} {o : Nat} {K : Nat → Prop} (h : mk σ = σ') : idC σ o K = idC σ' o K := by rw [← h]; rfl
@[congr] theorem Cut_congr {k : Nat} {F : CK} {T T' : TT} {O : OO} {n : Nat} (h : mk T = T') : Cut k F T O n = Cut k F T' O n := by rw [← h]; rfl
@[congr] theorem VLoop_congr {k : Nat} {F : CK → CK} {T T' : TT} {O : OO} {n : Nat} (h : mk T = T') : VLoop k F T O n = VLoop k F T' O n := by rw [← h]; rfl
/-- Two roads: which one is told by a Boolean that is reckoned first; neither is gone into before it is known. -/
def brC (b : Bool) (A B : Prop) : Prop := (b = true → A) ∧ (b = false → B)
@[congr] theorem brC_congr {b b' : Bool} {A B : Prop} (h : mk b = b') : brC b A B = brC b' A B := by rw [← h]; rfl
theorem brC_true (A B : Prop) : brC true A B = A := by simp [brC]
theorem brC_false (A B : Prop) : brC false A B = B := by simp [brC]
theorem brC_not (b : Bool) (A B : Prop) : brC (!b) A B = brC b B A := by cases b <;> simp [brC]
theorem br {b : Bool} {A B : Prop} (h1 : b = true → A) (h2 : b = false → B) : brC b A B := ⟨h1, h2⟩
theorem brd {p : Prop} [Decidable p] {A B : Prop} (h1 : p → A) (h2 : ¬ p → B) : brC (decide p) A B := ⟨fun h => h1 (of_decide_eq_true h), fun h => h2 (of_decide_eq_false h)⟩
theorem imp_br {c A B : Prop} [Decidable c] : ((c → A) ∧ (¬ c → B)) = brC (decide c) A B := by
  by_cases h : c <;> simp [h, brC]
theorem iteC_br (b : Bool) (K : Bool → Prop) : iteC b K = brC b (K true) (K false) := by
  cases b <;> simp [iteC, brC]
/-- The guard's Boolean, as it is wanted, or not. -/
def wantC (b want : Bool) (A B : Prop) : Prop := (b = want → A) ∧ (b = !want → B)
theorem wantC_true (b : Bool) (A B : Prop) : wantC b true A B = brC b A B := rfl
theorem wantC_false (b : Bool) (A B : Prop) : wantC b false A B = brC b B A := by cases b <;> simp [wantC, brC]
/-- An element of a list: of a list that is written out it is reckoned; else the road ends here. -/
def getP (es : List AV) (i : Nat) (K : AV → Prop) : Prop := ∀ q, es[i]? = some q → K q
@[congr] theorem getP_congr {es es' : List AV} {i i' : Nat} {K : AV → Prop} (h : mk es = es') (h' : mk i = i') : getP es i K = getP es' i' K := by rw [← h, ← h']; rfl
theorem getP_zero (a : AV) (l : List AV) (K : AV → Prop) : getP (a :: l) 0 K = K a := by simp [getP]
theorem getP_succ (a : AV) (l : List AV) (i : Nat) (K : AV → Prop) : getP (a :: l) (i + 1) K = getP l i K := by simp [getP]
theorem getP_lit (a : AV) (l : List AV) (i : Nat) (K : AV → Prop) : getP (a :: l) (OfNat.ofNat (i + 1)) K = getP l i K := by simp [getP, OfNat.ofNat]
theorem got {es : List AV} {i : Nat} {K : AV → Prop} (h : ∀ q, es[i]? = some q → K q) : getP es i K := h
section
variable {P : Program} {tb : List (Nat × Plan)} {k : Nat} {K : CK} {X : Nat → CK} {R : CK} {T : TT} {O : OO} {n : Nat}
theorem vcC_cond (c : Operand) (x y : Code) : vcC P tb k (.cond c x y) K X R T O n = evC T c fun v => boolC v fun b => brC b (vcC P tb k x K X R T O n) (vcC P tb k y K X R T O n) := by
  simp only [vcC]
  rfl
def nxt (d : Option Tmp) (v : AV) (O : OO) (n : Nat) (T : TT) (K : CK) : Prop := ev v fun v => ev O fun O => ev n fun n => match d with | some d => K ((d, v) :: T) O n | none => K T O n
theorem nxt_eq (d : Option Tmp) (v : AV) (O : OO) (n : Nat) (T : TT) (K : CK) : nxt d v O n T K = K (putT d v T) O n := by cases d <;> rfl
theorem vcOps_cons (all : List Oper) (o : Oper) (rest : List Oper) : vcOps P all (o :: rest) K T O n = match o.guard with
    | none => vcOp P o.op T O n fun v O' n' => nxt o.dst v O' n' T (vcOps P all rest K)
    | some (j, want) => gdC all j want T (fun T => vcOp P o.op T O n fun v O' n' => nxt o.dst v O' n' T (vcOps P all rest K)) (fun T => nxt o.dst (.tup []) O n T (vcOps P all rest K)) := by
  simp only [vcOps, nxt_eq]
  cases o.guard <;> rfl
def wOp2 (P : Program) (op : Op) (acc : List (Nat × List Nat)) (us : List Nat) (ld : Option (List Nat)) (d : Option Tmp) (T : TT) (O : OO) (n : Nat) (K : List Nat → CK) : Prop :=
  ev (hidX acc us) fun X => rmsO O X fun V => keepC O X fun R => vcOp P op T V n fun v V' n' => ev v fun v => ev V' fun V' => ev n' fun n' => ev (touch V T ld) fun W => (sameC W V' V ∧ newC (keys V) n n' V' ∧ ltC W n ∧ n ≤ n') ∧
    ev (W ++ rng n (n' - n)) fun W => nxt d v (V' ++ R) n' T (K W)
theorem wOp2_eq (op : Op) (acc : List (Nat × List Nat)) (us : List Nat) (ld : Option (List Nat)) (d : Option Tmp) (K : List Nat → CK) : wOp2 P op acc us ld d T O n K = wOp P op (hidX acc us) ld T O n fun v O' n' W => K W (putT d v T) O' n' := by
  simp only [wOp2, wOp, ev_eq, nxt_eq]
def opAt : List Oper → Nat → Option Oper
  | [], _ => none
  | o :: _, 0 => some o
  | _ :: l, j + 1 => opAt l j
theorem opAt_eq : ∀ (l : List Oper) (j : Nat), l[j]? = opAt l j
  | [], _ => by simp [opAt]
  | _ :: _, 0 => by simp [opAt]
  | _ :: l, j + 1 => by simp [opAt, opAt_eq l j]
theorem vcWalk_cons (all : List Oper) (i : Nat) (us : List Nat) (ld : Option (List Nat)) (pl : Plan) (acc : List (Nat × List Nat)) : vcWalk P all ((i, us, ld) :: pl) acc K T O n = ev (opAt all i) fun r => match r with
    | none => False
    | some o => match o.guard with
      | none => wOp2 P o.op acc us ld o.dst T O n fun W => vcWalk P all pl ((i, W) :: acc) K
      | some (j, want) => gdC all j want T (fun T => wOp2 P o.op acc us ld o.dst T O n fun W => vcWalk P all pl ((i, W) :: acc) K)
          (fun T => nxt o.dst (.tup []) O n T (vcWalk P all pl ((i, []) :: acc) K)) := by
  simp only [vcWalk, nxt_eq, wOp2_eq, ev_eq, opAt_eq]
  cases opAt all i with
  | none => rfl
  | some o => simp only []; cases o.guard <;> rfl
theorem tmpsOK_frz (σ : List (Nat × Nat)) (Z F : List Nat) (I : TT) : tmpsOK σ Z (frzO O F) T I = ev (frzO O F) fun OF => tmpsOK σ Z OF T I := rfl
theorem holdsN_frz (σ : List (Nat × Nat)) (Z F : List Nat) (O' J : OO) : holdsN O' σ Z (frzO O F) J = ev (frzO O F) fun OF => holdsN O' σ Z OF J := rfl
theorem matC_frz (σ : List (Nat × Nat)) (Z F : List Nat) (v u : AV) : matC σ Z (frzO O F) v u = ev (frzO O F) fun OF => matC σ Z OF v u := rfl
theorem vcOps_nil (all : List Oper) : vcOps P all [] K T O n = K T O n := rfl
theorem vcWalk_nil (all : List Oper) (acc : List (Nat × List Nat)) : vcWalk P all [] acc K T O n = K T O n := rfl
theorem subC_arr (sz : Nat) (ps : List AV) (lo len : Nat) (κ : AV → Prop) : subC (.arr sz ps) lo len κ = (lo + len ≤ ps.length ∧ ev ((ps.drop lo).take len) fun qs => κ (.arr sz qs)) := rfl
def gdV (g : Nat) (want : Bool) (T : TT) (A B : TT → Prop) : AV → Prop
  | .bool b => wantC b want (ev ((g, .bool want) :: T) A) (ev ((g, .bool (!want)) :: T) B)
  | .tup [] => ev T B
  | _ => False
theorem gdC_ev (all : List Oper) (j : Nat) (want : Bool) (A B : TT → Prop) : gdC all j want T A B = ev (opAt all j) fun r => match r with | none => False | some o => match o.dst with | none => False | some g => lkC T g (gdV g want T A B) := by
  simp only [gdC, ev_eq, opAt_eq]
  have e : ∀ g v, (match v with
    | AV.bool b => (b = want → A ((g, .bool want) :: T)) ∧ (b = !want → B ((g, .bool (!want)) :: T))
    | .tup [] => B T
    | _ => False) = gdV g want T A B v := fun g v => by cases v <;> first | rfl | (rename_i vs; cases vs <;> rfl)
  cases opAt all j with
  | none => rfl
  | some o =>
    cases h : o.dst with
    | none => simp [h]
    | some g =>
      simp only [h, Option.bind_some]
      congr 1
theorem vcOps_arr (l l' : List Oper) : vcOps P l.toArray.toList l'.toArray.toList K T O n = vcOps P l l' K T O n := rfl
theorem vcC_draw (id : Nat) (l : List Oper) : vcC P tb k (.region id l.toArray true) K X R T O n = ev (lk tb (100000 + id)) fun q => match q with
    | none => ev (lk tb id) fun r => match r with | some pl => vcWalk P l pl [] K T O n | none => False
    | some _ => Cut k (fun T O n => ev (lk tb id) fun r => match r with | some pl => vcWalk P l pl [] K T O n | none => False) T O n := by
  simp only [vcC, ev_eq]
theorem vcC_reg (id : Nat) (l : List Oper) : vcC P tb k (.region id l.toArray false) K X R T O n = ev (lk tb (100000 + id)) fun q => match q with
    | none => vcOps P l l K T O n
    | some _ => Cut k (vcOps P l l K) T O n := by
  simp only [vcC, ev_eq]
theorem partsC_arr (l : List (Nat × Operand)) (κ : List (Nat × AV) → Prop) : partsC T l.toArray.toList κ = partsC T l κ := rfl
theorem evsC_arr (l : List Operand) (κ : List AV → Prop) : evsC T l.toArray.toList κ = evsC T l κ := rfl
theorem bltC_arr (b : Builtin) (l : List TypeId) (vs : List AV) (κ : KK) : bltC P b l.toArray.toList vs O n κ = bltC P b l vs O n κ := rfl
theorem bldS_zeros (ts : List Ty) (l : List (Nat × AV)) (κ : List AV → Prop) : bldS (Ty.zeros ts) l κ = ev (Ty.zeros ts) fun ps => bldS ps l κ := rfl
theorem cutC_map (v : AV) (l : Nat) (h : Option Int) (κ : AV → Prop) : cutC v l (h.map Int.toNat) κ = ev (h.map Int.toNat) fun h => cutC v l h κ := rfl
theorem cutS_map (v : AV) (l : Nat) (h : Option Int) (κ : AV → Prop) : cutS v l (h.map Int.toNat) κ = ev (h.map Int.toNat) fun h => cutS v l h κ := rfl
theorem cutA_map (sz m : Nat) (v : AV) (l : Nat) (h : Option Int) (κ : AV → Prop) : cutA O sz m v l (h.map Int.toNat) κ = ev (h.map Int.toNat) fun h => cutA O sz m v l h κ := rfl
theorem subC_ints (kk : IntKind) (m : Nat) (xs : List Int) (lo len : Nat) (κ : AV → Prop) : subC (.ints kk m xs) lo len κ = (lo + len ≤ m ∧ brC (decide (lo = 0 ∧ len = m)) (κ (.ints kk m xs)) (κ (.ints kk len ((xs.drop lo).take len)))) := by
  simp only [subC, imp_br]
theorem subC_lst (sz m : Nat) (es : List AV) (lo len : Nat) (κ : AV → Prop) : subC (.lst sz m es) lo len κ = (lo + len ≤ m ∧ brC (decide (lo = 0 ∧ len = m)) (κ (.lst sz m es)) (κ (.lst sz len ((es.drop lo).take len)))) := by
  simp only [subC, imp_br]
theorem navC_arr (i sz : Nat) (p : List Stp) (s : Nat) (ps : List AV) (κ : AV → Prop) : navC (.at i sz :: p) (.arr s ps) κ = (s = sz ∧ i < ps.length ∧ getP ps i fun q => navC p q κ) := by simp only [navC, getP]
theorem navC_lst (i sz : Nat) (p : List Stp) (s m : Nat) (ps : List AV) (κ : AV → Prop) : navC (.at i sz :: p) (.lst s m ps) κ = (s = sz ∧ i < ps.length ∧ getP ps i fun q => navC p q κ) := by simp only [navC, getP]
theorem updC_arr (i sz : Nat) (p : List Stp) (s : Nat) (ps : List AV) (x : AV) (κ : AV → Prop) : updC (.at i sz :: p) (.arr s ps) x κ = (s = sz ∧ i < ps.length ∧ getP ps i fun q => updC p q x fun q' => κ (.arr s (ps.set i q'))) := by simp only [updC, getP]
theorem updC_lst (i sz : Nat) (p : List Stp) (s m : Nat) (ps : List AV) (x : AV) (κ : AV → Prop) : updC (.at i sz :: p) (.lst s m ps) x κ = (s = sz ∧ i < ps.length ∧ x.nid = true ∧ getP ps i fun q => updC p q x fun q' => κ (.lst s m (ps.set i q'))) := by simp only [updC, getP]
theorem idxV_lst (te : Ty) (n' sz m : Nat) (es : List AV) (i : Int) (κ : AV → Prop) : idxV te n' (.lst sz m es) i κ = (m = n' ∧ 0 ≤ i ∧ i < n' ∧ sz = te.size ∧ i.toNat < es.length ∧ getP es i.toNat fun q => fitC te q (κ q)) := by simp only [idxV, getP]
theorem idxV_arr (te : Ty) (n' sz : Nat) (es : List AV) (i : Int) (κ : AV → Prop) : idxV te n' (.arr sz es) i κ = (es.length = n' ∧ 0 ≤ i ∧ i < n' ∧ sz = te.size ∧ getP es i.toNat fun q => fitC te q (κ q)) := by simp only [idxV, getP]
theorem elemsC_br (n' : Nat) (te : Ty) (l : List (Nat × AV)) (κ : AV → Prop) : elemsC n' te l κ = match te with
    | .int k => seqI k 0 l fun m xs => m ≤ n' ∧ κ (.ints k n' (xs ++ List.replicate (n' - m) 0))
    | te => brC (decide (l.isEmpty = true ∧ n' = 0)) (κ (.lst te.size 0 [])) (seqV te.size 0 l fun m vs => m ≤ n' ∧ κ (.arr te.size (vs ++ List.replicate (n' - m) te.zero))) := by
  have e : (l.isEmpty = true) = (l = []) := by cases l <;> simp
  cases te <;> simp only [elemsC, e] <;> exact imp_br
theorem cp_br (d l : Nat) (A B C : Prop) : ((d = 0 ∨ l = 0 → A) ∧ (0 < d → 0 < l → d ≤ l → B) ∧ (0 < d → 0 < l → ¬ d ≤ l → C)) = brC (decide (d = 0 ∨ l = 0)) A (brC (decide (d ≤ l)) B C) := by
  by_cases h1 : d = 0 ∨ l = 0
  · have : ¬ (0 < d ∧ 0 < l) := by omega
    have h2 : ((0 < d → 0 < l → d ≤ l → B) ∧ (0 < d → 0 < l → ¬ d ≤ l → C)) = True := by
      simp only [eq_iff_iff, iff_true]
      exact ⟨fun a b => absurd ⟨a, b⟩ this, fun a b => absurd ⟨a, b⟩ this⟩
    rw [h2]
    simp [h1, brC]
  · have h3 : 0 < d := by omega
    have h4 : 0 < l := by omega
    rw [decide_eq_false h1, brC_false]
    simp only [h1, false_imp_iff, true_and, h3, h4, true_implies, imp_br]
theorem thawC_br (te : Ty) (O O' : OO) (s c d : AV) (K : AV → AV → OO → Prop) : thawC te O O' s c d K = (match c, d with
  | .lst _ _ _, .arr sz ps => brC (AV.nids ps) (K c d O') (ev (reach O 3 (idsVs ps)) fun F => ev (frzO O F) fun OF => viewC OF 9 (.arr sz ps) fun d' => ev (dropO O F) fun O1 => ownC te O1 s fun c' O2 => K c' d' O2)
  | .arr sz ps, .lst _ _ _ => brC (AV.nids ps) (K c d O') (ev (reach O 3 (idsVs ps)) fun F => ev (frzO O F) fun OF => viewC OF 9 (.arr sz ps) fun c' => ev (dropO O F) fun O1 => ownC te O1 s fun c2 O2 => c2 = .arr sz ps ∧ K c' d O2)
  | _, _ => K c d O') := by
  simp only [thawC]
  rfl
theorem truncC_br (s : AV) (K : OO → Prop) : truncC O s K = (match s with
  | .osl o p _ lo len => objC O o fun ob => rowC ob fun c => brC (decide (c.cnt = len)) (K O) (p = [] ∧ lo = 0 ∧ len < c.cnt ∧ subC c 0 len fun c' => ev (repO O o (.row c')) fun O1 => K O1)
  | _ => K O) := by
  cases s <;> simp only [truncC, imp_br, ev_eq]
theorem copyC_br (ts : List TypeId) (s x : AV) (κ : Nat → OO → Prop) : copyC P ts s x O κ = (match ts with
  | st :: _ => tyC P st fun sty =>
    match sty with
    | .slice e => tyC P e fun te => 0 < te.size ∧
      match s with
      | .osl o p sz lo len => sz = te.size ∧ contC O te x fun d => brC (decide (d.cnt = 0 ∨ len = 0)) (κ 0 O)
          (brC (decide (d.cnt ≤ len)) (objC O o fun ob => obC ob fun c => navC p c fun q => putC q lo d fun q' => updO O o p q' fun O' => κ d.cnt O')
           (subC d 0 len fun d' => objC O o fun ob => obC ob fun c => navC p c fun q => putC q lo d' fun q' => updO O o p q' fun O' => κ len O'))
      | .nils => contC O te x fun _ => κ 0 O
      | _ => False
    | _ => False
  | _ => False) := by
  simp only [copyC, cp_br]
  rfl
end
attribute [go_sem ↓ high] tmpsOK_frz holdsN_frz matC_frz gdC_ev vcOps_arr vcC_draw vcC_reg partsC_arr evsC_arr bltC_arr iteC_br wantC_true wantC_false brC_true brC_false brC_not elemsC_br thawC_br truncC_br copyC_br navC_arr navC_lst updC_arr updC_lst idxV_lst idxV_arr vcC_cond vcOps_cons vcWalk_cons vcOps_nil vcWalk_nil subC_arr subC_ints subC_lst bldS_zeros cutC_map cutS_map cutA_map
attribute [go_sem ↓] nxt wOp2 gdV
attribute [go_sem ↓] mk_in
attribute [go_sem] brC_true brC_false brC_not getP_zero getP_succ getP_lit
attribute [go_sem] ev_eq mk_eq Option.map_some Option.map_none Option.getD_some Option.getD_none
attribute [go_sem] opAt
attribute [go_sem ↓] vcC vcOp evC evsC lkC objC obC rowC cstC putT boolC intC fitC nthC nthTC setC intB strB eqC eqsC binC unC loadC updOB updO rmO rmsO renC rensC idC renOB renOO
  partsC bldS seqI seqV elemsC zerosC catC contC lenC strL bytesOf cutC cutS varC cutA optC viewC viewC.views lenK appC ownC appendC putC copyC bltC convC s2aC fldA idxA idxV navC fldC fldU intU updC keepC hidX
  mapKC mapQ gmC fndC setG MK.isS mpC setM resC sameC newC ltC tmpsOK idsOK holdsO argsOK homesOK homesK varsOK matC matsC matOB homeC holdsN frzO dropO
attribute [go_sem] AV.void OB.void List.isEmpty_nil List.isEmpty_cons
attribute [go_sem] repO lk AV.csz AV.cszs AV.multi AV.mem AV.cnt AV.esz AV.isRow AV.nid AV.nids AV.pf AV.pf.pfs OB.pf Ty.size Ty.sizes Ty.multi Ty.zero Ty.zeros poff keys rng touch reach idsT idsV idsVs idsO idsOB packC numT
  Bool.true_and Bool.and_true Bool.false_and Bool.and_false Bool.not_true Bool.not_false decide_true decide_false List.map_cons List.map_nil List.cons_append List.nil_append List.append_nil true_and and_true and_self if_true if_false
  Nat.reduceAdd Nat.reduceMul Nat.reduceLT Nat.reduceSub Nat.reduceEqDiff Nat.lt_irrefl Nat.le_refl eq_self Option.some.injEq Option.bind Option.map Option.getD List.length_cons List.length_nil Int.cast_ofNat_Int
  Int.reduceLE Int.reduceLT Int.reduceToNat Int.reduceAdd Int.reduceSub Int.reduceMul Int.reduceEq Int.reduceNe Int.reduceNeg Nat.reduceLeDiff Nat.reduceBEq Nat.reduceBNe Nat.reduceEqDiff
end Go.Sy
/- Helpers: contracts and calls without objects. -/
namespace Go.Sy
open Go
set_option linter.unusedSimpArgs false
set_option linter.unusedVariables false
/-! No own object is named, and all is told. -/
mutual
def AV.plain : AV → Bool
  | .agg ps => AV.plains ps
  | .arr _ ps => AV.plains ps
  | .tup ps => AV.plains ps
  | .fn _ ps => AV.plains ps
  | .ref .. | .osl .. | .mp _ | .junk => false
  | .int .. | .bool _ | .str _ | .nilp | .ints .. | .lst .. | .sl _ | .nils | .pp .. | .nilf | .nilm => true
def AV.plains : List AV → Bool
  | [] => true
  | v :: vs => v.plain && AV.plains vs
end
mutual
theorem plain_ren (σ : List (Nat × Nat)) : ∀ (v : AV) (K : AV → Prop), v.plain = true → K v → renC σ v K
  | .agg ps, K, h, hk => by simp only [renC]; exact plains_ren σ ps _ (by simpa [AV.plain] using h) hk
  | .arr sz ps, K, h, hk => by simp only [renC]; exact plains_ren σ ps _ (by simpa [AV.plain] using h) hk
  | .tup ps, K, h, hk => by simp only [renC]; exact plains_ren σ ps _ (by simpa [AV.plain] using h) hk
  | .fn f ps, K, h, hk => by simp only [renC]; exact plains_ren σ ps _ (by simpa [AV.plain] using h) hk
  | .ref .., _, h, _ => by simp [AV.plain] at h
  | .osl .., _, h, _ => by simp [AV.plain] at h
  | .mp _, _, h, _ => by simp [AV.plain] at h
  | .junk, _, h, _ => by simp [AV.plain] at h
  | .int .., _, _, hk => by simpa only [renC] using hk
  | .bool _, _, _, hk => by simpa only [renC] using hk
  | .str _, _, _, hk => by simpa only [renC] using hk
  | .nilp, _, _, hk => by simpa only [renC] using hk
  | .ints .., _, _, hk => by simpa only [renC] using hk
  | .lst .., _, _, hk => by simpa only [renC] using hk
  | .sl _, _, _, hk => by simpa only [renC] using hk
  | .nils, _, _, hk => by simpa only [renC] using hk
  | .pp .., _, _, hk => by simpa only [renC] using hk
  | .nilf, _, _, hk => by simpa only [renC] using hk
  | .nilm, _, _, hk => by simpa only [renC] using hk
theorem plains_ren (σ : List (Nat × Nat)) : ∀ (vs : List AV) (K : List AV → Prop), AV.plains vs = true → K vs → rensC σ vs K
  | [], _, _, hk => by simpa only [rensC] using hk
  | v :: vs, K, h, hk => by
    simp only [AV.plains, Bool.and_eq_true] at h
    simp only [rensC]
    exact plain_ren σ v _ h.1 (plains_ren σ vs _ h.2 hk)
end
def End0 (P : Program) (rs : List ResultVar) (r : AV) : CK := fun T O _ => resC P T O rs fun vs => matC [] [] [] r (packC vs)
/-- What is to be shown where a function ends that hands back objects: they by their names, of the contract and of the code (`σ`), and the nil slices (`Z`). -/
def EndX (O0 : OO) (r : AV) (O' : OO) (v : AV) (O : OO) : Prop := ∃ (σ : List (Nat × Nat)) (Z F : List Nat), okE σ Z F O0 = true ∧ matC σ Z (frzO O F) r v ∧ holdsN O σ Z (frzO O F) O' ∧ varsOK σ O0
def EndN (P : Program) (rs : List ResultVar) (O0 : OO) (r : AV) (O' : OO) : CK := fun T O _ => resC P T O rs fun vs => ev (packC vs) fun v => EndX O0 r O' v O
section
variable {P : Program} {O O' : OO} {n : Nat}
theorem resC_mono {T : TT} : ∀ {rs : List ResultVar} {κ κ' : List AV → Prop}, (∀ vs, κ vs → κ' vs) → resC P T O rs κ → resC P T O rs κ' := by
  intro rs
  induction rs with
  | nil => intro κ κ' h hk; exact h _ hk
  | cons r rs ih =>
    intro κ κ' h hk
    cases r with
    | tmp t =>
      simp only [resC, lkC_eq] at hk ⊢
      cases hl : lk T t with
      | none => rw [hl] at hk; exact hk
      | some v => rw [hl] at hk; exact ih (fun vs => h (v :: vs)) hk
    | cell t ty =>
      simp only [resC, lkC_eq] at hk ⊢
      cases hl : lk T t with
      | none => rw [hl] at hk; exact hk
      | some p =>
        rw [hl] at hk
        obtain ⟨y, h1, h2⟩ := hk
        obtain ⟨q, h3, h4⟩ := loadC_pt p _ h2
        exact ⟨y, h1, h4 _ ⟨h3.1, h3.2.1, ih (fun vs => h (q :: vs)) h3.2.2⟩⟩
theorem varsOK_nil : ∀ (O : OO), varsOK [] O
  | [] => trivial
  | (o, ob) :: O => ⟨fun _ o' h => (by cases h), varsOK_nil O⟩
theorem frzO_nil : ∀ O : OO, frzO O [] = []
  | [] => rfl
  | (o, ob) :: O => by simp [frzO, frzO_nil O]
theorem End0_EndC {rs : List ResultVar} {O0 : OO} {r : AV} (T : TT) (O : OO) (n : Nat) (h : End0 P rs r T O n) : EndC P rs O0 r [] T O n :=
  resC_mono (fun vs e => ⟨[], [], [], rfl, by rw [frzO_nil]; exact e, trivial, varsOK_nil O0⟩) h
/-- A contract of a function that hands back nothing of its own. -/
theorem fn0 (hm : P.follows .mixedOrders = true) (tb : List (Nat × Plan)) {f : FuncId} {fn : Func} {c : Code} {args : List AV} {r : AV} (k na : Nat) (rs : List ResultVar) (hf : P.funcs[f]? = some fn) (hb : fn.body = some c) (hres : fn.results.toList = rs)
    (hnm : (fn.name == "runtime.NumGoroutine") = false) (hna : args.length = na) (hN : Nat.ble na fn.ntmps = true) (hd : dstOK tb fn.ntmps c = true) (hk : ∀ p ∈ O, p.1 < k)
    (h : ev (numT 0 args) fun T => vcC P tb k c (End0 P rs r) (fun _ _ _ _ => False) (End0 P rs r) T O k) : FnC P f args O r [] :=
  fn_of_vc hm tb k hf hb hnm (by rw [hna]; exact Nat.le_of_ble_eq_true hN) hd hk k (Nat.le_refl _) (fun o c h => hk _ (lk_mem h)) (End0 P rs r) (fun T O1 n he => by rw [hres]; exact End0_EndC T O1 n he) h
/-- A contract of a function that is handed objects, or hands some back. -/
theorem fnN (hm : P.follows .mixedOrders = true) (tb : List (Nat × Plan)) {f : FuncId} {fn : Func} {c : Code} {args : List AV} {r : AV} (k na : Nat) (rs : List ResultVar) (hf : P.funcs[f]? = some fn) (hb : fn.body = some c) (hres : fn.results.toList = rs)
    (hnm : (fn.name == "runtime.NumGoroutine") = false) (hna : args.length = na) (hN : Nat.ble na fn.ntmps = true) (hd : dstOK tb fn.ntmps c = true) (hk : ∀ p ∈ O, p.1 < k)
    (h : ev (numT 0 args) fun T => ev O fun O1 => vcC P tb k c (EndN P rs O r O') (fun _ _ _ _ => False) (EndN P rs O r O') T O1 k) : FnC P f args O r O' :=
  fn_of_vc hm tb k hf hb hnm (by rw [hna]; exact Nat.le_of_ble_eq_true hN) hd hk k (Nat.le_refl _) (fun o c h => hk _ (lk_mem h)) (EndN P rs O r O') (fun T O1 n he => by rw [hres]; exact he) h
/-- The same, where only the first k0 of the k names are to stay (all variables that are handed over are among them): rows may be named anew in loops. -/
theorem fnV (hm : P.follows .mixedOrders = true) (tb : List (Nat × Plan)) {f : FuncId} {fn : Func} {c : Code} {args : List AV} {r : AV} (k0 k na : Nat) (rs : List ResultVar) (hf : P.funcs[f]? = some fn) (hb : fn.body = some c) (hres : fn.results.toList = rs)
    (hnm : (fn.name == "runtime.NumGoroutine") = false) (hna : args.length = na) (hN : Nat.ble na fn.ntmps = true) (hd : dstOK tb fn.ntmps c = true) (hk : ∀ p ∈ O, p.1 < k) (hk0 : Nat.ble k0 k = true) (hv : (O.all fun p => match p.2 with | .var _ => Nat.ble (p.1 + 1) k0 | _ => true) = true)
    (h : ev (numT 0 args) fun T => ev O fun O1 => vcC P tb k0 c (EndN P rs O r O') (fun _ _ _ _ => False) (EndN P rs O r O') T O1 k) : FnC P f args O r O' :=
  fn_of_vc hm tb k hf hb hnm (by rw [hna]; exact Nat.le_of_ble_eq_true hN) hd hk k0 (Nat.le_of_ble_eq_true hk0) (fun o c h => Nat.le_of_ble_eq_true (List.all_eq_true.1 hv _ (lk_mem h))) (EndN P rs O r O') (fun T O1 n he => by rw [hres]; exact he) h
theorem argsOK_plain (bor : Bool) (σ : List (Nat × Nat)) (O : OO) : ∀ {as : List AV}, AV.plains as = true → argsOK bor σ O as as
  | [], _ => trivial
  | a :: as, h => by
    simp only [AV.plains, Bool.and_eq_true] at h
    exact ⟨.inl (plain_ren _ _ _ h.1 rfl), argsOK_plain bor σ O h.2⟩
theorem rmsO_nil (O : OO) (κ : OO → Prop) (h : κ O) : rmsO O [] κ := by cases O <;> exact h
/-- A call that hands over nothing of the caller's own. -/
theorem call0 {f : FuncId} {args : List AV} {r : AV} {κ : KK} (h : FnC P f args [] r []) (hk : κ r O n) (ha : AV.plains args = true := by rfl) (hr : r.plain = true := by rfl) : CallP P f args O n κ :=
  ⟨[], false, [], [], args, [], O, r, [], n, h.k, rmsO_nil _ _ rfl, argsOK_plain _ _ _ ha, trivial, rfl, List.nodup_nil, List.nodup_nil, Nat.le_refl _, List.nodup_nil, List.nodup_nil, trivial, rfl, fun h => (by cases h), plain_ren _ _ _ hr hk⟩
/-- A call that borrows. -/
theorem callB {f : FuncId} {args A : List AV} {r : AV} {κ : KK} (h : FnC P f A [] r []) (ha : argsOK true [] O args A) (hk : κ r O n) (hr : r.plain = true := by rfl) (hp : r.pf = true := by rfl) : CallP P f args O n κ :=
  ⟨[], true, [], [], A, [], O, r, [], n, h.k, rmsO_nil _ _ rfl, ha, trivial, rfl, List.nodup_nil, List.nodup_nil, Nat.le_refl _, List.nodup_nil, List.nodup_nil, trivial, rfl, fun _ => ⟨hp, fun p hp => by cases hp⟩, plain_ren _ _ _ hr hk⟩
end
attribute [go_sem ↓] End0 EndN
attribute [go_sem] exists_false AV.sl.injEq and_false false_and List.take_zero List.take_succ_cons List.drop_zero List.drop_succ_cons List.take_nil List.drop_nil Int.sub_zero List.length_map List.length_replicate OB.var.injEq exists_eq' forall_eq' Nat.zero_add Nat.add_zero Int.zero_add Int.add_zero Nat.sub_zero Nat.zero_mul Nat.mul_one Nat.one_mul ne_eq reduceCtorEq not_false_eq_true false_imp_iff true_implies implies_true true_or or_true or_false false_or List.contains_nil List.contains_cons Bool.true_or Bool.or_true Bool.false_or Bool.or_false Int.cast_ofNat_Int Bool.false_eq_true Bool.true_eq_false List.set_cons_zero List.set_cons_succ List.getD_cons_zero List.getD_cons_succ List.replicate_zero
end Go.Sy
/- Helpers for loops; numbers that fit. -/
namespace Go.Sy
open Go
set_option linter.unusedVariables false
/-- The round's end: another state of the family. -/
def Nxt {ι : Type} (k m : Nat) (Q : ι → Prop) (I : ι → TT) (J : ι → OO) (μ : ι → Nat) (i : ι) (T : TT) (O : OO) : Prop :=
  ∃ i' σ Z F, Q i' ∧ μ i' < μ i ∧ okσ k m σ Z F = true ∧ idsOK σ k ∧ tmpsOK σ Z (frzO O F) T (I i') ∧ holdsN O σ Z (frzO O F) (J i')
/-- A loop: the states' family, by what is so of its index; the measure; where it begins. -/
theorem loop {k : Nat} {F : CK → CK} {T : TT} {O : OO} {n : Nat} {ι : Type} (m : Nat) (Q : ι → Prop) (I : ι → TT) (J : ι → OO) (μ : ι → Nat) (i0 : ι) (σ0 : List (Nat × Nat)) (Z0 : List Nat) (h0 : Q i0) (hσ : okσ k m σ0 Z0 [] = true)
    (hid : idsOK σ0 k) (hT : tmpsOK σ0 Z0 [] T (I i0)) (hO : holdsN O σ0 Z0 [] (J i0)) (h : ∀ i, Q i → F (fun T O _ => Nxt k m Q I J μ i T O) (I i) (J i) m) : VLoop k F T O n := by
  refine ⟨{ i // Q i }, fun i => I i.1, fun i => J i.1, fun _ => m, fun i => μ i.1, ⟨i0, h0⟩, ⟨σ0, Z0, [], hσ, hid, by rw [frzO_nil]; exact hT, by rw [frzO_nil]; exact hO⟩, fun i => ?_⟩
  have := h i.1 i.2
  have e : (fun (T : TT) (O : OO) (_ : Nat) => Nxt k m Q I J μ i.1 T O) = fun (T' : TT) (O' : OO) (_ : Nat) => ∃ i' : { i // Q i }, μ i'.1 < μ i.1 ∧ Sub k T' O' (I i'.1) (J i'.1) m := by
    funext T O n
    exact propext ⟨fun ⟨i', σ, Z, F, hq, hμ, a, b, c, d⟩ => ⟨⟨i', hq⟩, hμ, σ, Z, F, a, b, c, d⟩, fun ⟨⟨i', hq⟩, hμ, σ, Z, F, a, b, c, d⟩ => ⟨i', σ, Z, F, hq, hμ, a, b, c, d⟩⟩
  rwa [e] at this
theorem subC_len (kk : IntKind) (m : Nat) (xs : List Int) (lo len : Nat) (κ : AV → Prop) (h : xs.length = m) : subC (.ints kk m xs) lo len κ = (lo + len ≤ m ∧ κ (.ints kk len ((xs.drop lo).take len))) := by
  rw [subC_ints]
  by_cases e : lo = 0 ∧ len = m
  · obtain ⟨rfl, rfl⟩ := e
    subst h
    rw [decide_eq_true ⟨rfl, rfl⟩, brC_true]; simp
  · rw [decide_eq_false e, brC_false]
/-- The state in other words: m names, these temporaries and objects; `σ`: names; `Z`: nil slices as empty rows; `F`: what is frozen. -/
theorem cut {k : Nat} {G : CK} {T : TT} {O : OO} {n : Nat} (m : Nat) (I : TT) (J : OO) (σ : List (Nat × Nat)) (Z F : List Nat) (hσ : okσ k m σ Z F = true) (hid : idsOK σ k) (hT : tmpsOK σ Z (frzO O F) T I) (hO : holdsN O σ Z (frzO O F) J) (h : G I J m) : Cut k G T O n :=
  ⟨I, J, m, ⟨σ, Z, F, hσ, hid, hT, hO⟩, h⟩
/-- Fresh names for what a call hands back. -/
def fresh (n : Nat) : Nat → List (Nat × Nat)
  | 0 => []
  | m + 1 => fresh n m ++ [(m, n + m)]
theorem rmsO_run {l : List Nat} : ∀ {O : OO} {κ : OO → Prop}, rmsO O l κ → ∃ O2, (rmsO O l fun O' => O' = O2) ∧ κ O2 := by
  have one : ∀ {O : OO} {o : Nat} {κ : OO → Prop}, rmO O o κ → ∃ O2, κ O2 ∧ ∀ κ', κ' O2 → rmO O o κ' := by
    intro O
    induction O with
    | nil => intro o κ h; exact ⟨[], h, fun _ h => h⟩
    | cons p O ih =>
      obtain ⟨i, ob⟩ := p
      intro o κ h
      simp only [rmO] at h ⊢
      split at h
      · rename_i e
        obtain ⟨O2, h1, h2⟩ := ih h
        exact ⟨O2, h1, fun κ' hk => by rw [if_pos e]; exact h2 _ hk⟩
      · rename_i e
        obtain ⟨O2, h1, h2⟩ := ih h
        exact ⟨_, h1, fun κ' hk => by rw [if_neg e]; exact h2 _ hk⟩
  induction l with
  | nil =>
    intro O κ h
    refine ⟨O, ?_, ?_⟩
    · cases O <;> rfl
    · cases O <;> exact h
  | cons o l ih =>
    intro O κ h
    have h' : rmO O o fun O' => rmsO O' l κ := by cases O <;> exact h
    obtain ⟨O1, h1, h2⟩ := one h'
    obtain ⟨O2, h3, h4⟩ := ih h1
    refine ⟨O2, ?_, h4⟩
    have : rmO O o fun O' => rmsO O' l fun O' => O' = O2 := h2 _ h3
    cases O <;> exact this
section
variable {P : Program} {O O' O1 : OO} {n : Nat}
/-- A call in general: `bor` lends own memory; `σ` are the objects that are handed over (by the contract's names), `τ` what the objects are called that are handed back. -/
theorem callG {f : FuncId} {args A : List AV} {r : AV} {κ : KK} (bor : Bool) (σ τ : List (Nat × Nat)) (n' : Nat) (h : FnC P f A O1 r O') (h1 : (σ.map (·.1) = keys O1) ∧ (keys O1).Nodup ∧ (σ.map (·.2)).Nodup ∧ n ≤ n' ∧ (τ.map (·.1)).Nodup ∧ (τ.map (·.2)).Nodup ∧ τ.map (·.1) = keys O')
    (hk : ev (σ.map (·.2)) fun l => rmsO O l fun O2 => argsOK bor σ O2 args A ∧ holdsO O σ O1 ∧ homesOK σ τ O1 n n' O' ∧ (bor = true → r.pf = true ∧ ∀ p ∈ O', p.2.pf = true) ∧ renC τ r fun r' => renOO τ O' fun L => κ r' (L ++ O2) n') : CallP P f args O n κ := by
  obtain ⟨O2, k0, k1, k2, k3, k4, k5⟩ := rmsO_run hk
  obtain ⟨a1, a2, a3, a4, a5, a6, a7⟩ := h1
  exact ⟨[], bor, σ, τ, A, O1, O2, r, O', n', h.k, k0, k1, k2, a1, a2, a3, a4, a5, a6, k3.k idC_mono, a7, k4, k5⟩
/-- The same, where the objects `ks`, too, keep their names. -/
theorem callK {f : FuncId} {args A : List AV} {r : AV} {κ : KK} {ks : List Nat} (bor : Bool) (σ τ : List (Nat × Nat)) (n' : Nat) (h : FnK P ks f A O1 r O') (h1 : (σ.map (·.1) = keys O1) ∧ (keys O1).Nodup ∧ (σ.map (·.2)).Nodup ∧ n ≤ n' ∧ (τ.map (·.1)).Nodup ∧ (τ.map (·.2)).Nodup ∧ τ.map (·.1) = keys O')
    (hk : ev (σ.map (·.2)) fun l => rmsO O l fun O2 => argsOK bor σ O2 args A ∧ holdsO O σ O1 ∧ homesK ks σ τ O1 n n' O' ∧ (bor = true → r.pf = true ∧ ∀ p ∈ O', p.2.pf = true) ∧ renC τ r fun r' => renOO τ O' fun L => κ r' (L ++ O2) n') : CallP P f args O n κ := by
  obtain ⟨O2, k0, k1, k2, k3, k4, k5⟩ := rmsO_run hk
  obtain ⟨a1, a2, a3, a4, a5, a6, a7⟩ := h1
  exact ⟨ks, bor, σ, τ, A, O1, O2, r, O', n', h, k0, k1, k2, a1, a2, a3, a4, a5, a6, k3, a7, k4, k5⟩
/-- The same, where own memory is lent. -/
theorem callGB {f : FuncId} {args A : List AV} {r : AV} {κ : KK} (σ τ : List (Nat × Nat)) (n' : Nat) (h : FnC P f A O1 r O') (h1 : (σ.map (·.1) = keys O1) ∧ (keys O1).Nodup ∧ (σ.map (·.2)).Nodup ∧ n ≤ n' ∧ (τ.map (·.1)).Nodup ∧ (τ.map (·.2)).Nodup ∧ τ.map (·.1) = keys O')
    (hk : ev (σ.map (·.2)) fun l => rmsO O l fun O2 => argsOK true σ O2 args A ∧ holdsO O σ O1 ∧ homesOK σ τ O1 n n' O' ∧ renC τ r fun r' => renOO τ O' fun L => κ r' (L ++ O2) n') (hp : r.pf = true := by rfl) (hq : (O'.all fun p => p.2.pf) = true := by rfl) : CallP P f args O n κ := by
  obtain ⟨O2, k0, k1, k2, k3, k5⟩ := rmsO_run hk
  obtain ⟨a1, a2, a3, a4, a5, a6, a7⟩ := h1
  exact ⟨[], true, σ, τ, A, O1, O2, r, O', n', h.k, k0, k1, k2, a1, a2, a3, a4, a5, a6, k3.k idC_mono, a7, fun _ => ⟨hp, fun p hp => List.all_eq_true.1 hq p hp⟩, k5⟩
theorem idC_fresh {K : Nat → Prop} {o : Nat} : ∀ {m : Nat}, o < m → K (n + o) → idC (fresh n m) o K := by
  have app : ∀ (l : List (Nat × Nat)) (p : Nat × Nat), (∀ q ∈ l, q.1 ≠ o) → (p.1 = o ∧ K p.2) → idC (l ++ [p]) o K := by
    intro l
    induction l with
    | nil => intro p _ h; simp only [List.nil_append, idC]; rw [if_pos h.1]; exact h.2
    | cons q l ih =>
      intro p h hp
      simp only [List.cons_append, idC]
      rw [if_neg (h q (by simp))]
      exact ih p (fun q hq => h q (by simp [hq])) hp
  have appl : ∀ (l : List (Nat × Nat)) (p : Nat × Nat), idC l o K → idC (l ++ [p]) o K := by
    intro l
    induction l with
    | nil => intro p h; exact h.elim
    | cons q l ih =>
      intro p h
      simp only [List.cons_append, idC] at h ⊢
      split at h
      · rename_i e; rw [if_pos e]; exact h
      · rename_i e; rw [if_neg e]; exact ih p h
  intro m
  induction m with
  | zero => intro h; omega
  | succ m ih =>
    intro h hk
    by_cases e : o = m
    · subst e
      refine app _ _ (fun q hq => ?_) ⟨rfl, hk⟩
      have : ∀ m, ∀ q ∈ fresh n m, q.1 < m := by
        intro m
        induction m with
        | zero => intro q hq; cases hq
        | succ m ih =>
          intro q hq
          simp only [fresh, List.mem_append, List.mem_singleton] at hq
          rcases hq with hq | rfl
          · have := ih q hq; omega
          · exact Nat.lt_succ_self _
      have := this _ q hq
      omega
    · exact appl _ _ (ih (by omega) hk)
theorem fresh_fst : ∀ m, (fresh n m).map (·.1) = List.range m
  | 0 => rfl
  | m + 1 => by simp [fresh, fresh_fst m, List.range_succ]
theorem fresh_snd : ∀ m, (fresh n m).map (·.2) = (List.range m).map (n + ·)
  | 0 => rfl
  | m + 1 => by simp [fresh, fresh_snd m, List.range_succ]
theorem fresh_homes {m : Nat} : ∀ {O' : OO}, (∀ o ∈ keys O', o < m) → homesOK [] (fresh n m) [] n (n + m) O'
  | [], _ => trivial
  | (o, ob) :: O', h => ⟨idC_fresh (h o (by simp [keys])) (.inl ⟨by omega, by have := h o (by simp [keys]); omega⟩), fresh_homes fun o ho => h o (by simp only [keys, List.map_cons, List.mem_cons] at ho ⊢; exact .inr ho)⟩
theorem fresh_ok (m : Nat) {O' : OO} (hO : keys O' = List.range m) : (([] : List (Nat × Nat)).map (·.1) = keys ([] : OO)) ∧ (keys ([] : OO)).Nodup ∧ (([] : List (Nat × Nat)).map (·.2)).Nodup ∧ n ≤ n + m ∧ ((fresh n m).map (·.1)).Nodup ∧ ((fresh n m).map (·.2)).Nodup ∧ (fresh n m).map (·.1) = keys O' := by
  refine ⟨rfl, List.nodup_nil, List.nodup_nil, Nat.le_add_right _ _, ?_, ?_, ?_⟩
  · rw [fresh_fst]; exact List.nodup_range
  · rw [fresh_snd]
    exact List.Pairwise.map _ (fun a b h => by intro e; exact h (by omega)) List.nodup_range
  · rw [fresh_fst, hO]
/-- A call that is handed nothing of the caller's own, and hands back `m` new objects. -/
theorem callF {f : FuncId} {args : List AV} {r : AV} {κ : KK} (m : Nat) (h : FnC P f args [] r O') (hk : renC (fresh n m) r fun r' => renOO (fresh n m) O' fun L => κ r' (L ++ O) (n + m)) (ha : AV.plains args = true := by rfl) (hO : keys O' = List.range m := by rfl) : CallP P f args O n κ :=
  callG false [] (fresh n m) (n + m) h (fresh_ok m hO) (by
    have : rmsO O [] fun O2 => argsOK false [] O2 args args ∧ holdsO O [] [] ∧ homesOK [] (fresh n m) [] n (n + m) O' ∧ (false = true → r.pf = true ∧ ∀ p ∈ O', p.2.pf = true) ∧ renC (fresh n m) r fun r' => renOO (fresh n m) O' fun L => κ r' (L ++ O2) (n + m) :=
      rmsO_nil _ _ ⟨argsOK_plain _ _ _ ha, trivial, fresh_homes (fun o ho => by rw [hO] at ho; simpa using ho), (fun h => by cases h), hk⟩
    exact this)
/-- A call that borrows, and hands back `m` new objects. -/
theorem callBF {f : FuncId} {args A : List AV} {r : AV} {κ : KK} (m : Nat) (h : FnC P f A [] r O') (ha : argsOK true [] O args A) (hk : renC (fresh n m) r fun r' => renOO (fresh n m) O' fun L => κ r' (L ++ O) (n + m)) (hO : keys O' = List.range m := by rfl) (hp : r.pf = true := by rfl) (hq : (O'.all fun p => p.2.pf) = true := by rfl) : CallP P f args O n κ :=
  callG true [] (fresh n m) (n + m) h (fresh_ok m hO) (by
    have : rmsO O [] fun O2 => argsOK true [] O2 args A ∧ holdsO O [] [] ∧ homesOK [] (fresh n m) [] n (n + m) O' ∧ (true = true → r.pf = true ∧ ∀ p ∈ O', p.2.pf = true) ∧ renC (fresh n m) r fun r' => renOO (fresh n m) O' fun L => κ r' (L ++ O2) (n + m) :=
      rmsO_nil _ _ ⟨ha, trivial, fresh_homes (fun o ho => by rw [hO] at ho; simpa using ho), (fun _ => ⟨hp, fun p hp => List.all_eq_true.1 hq p hp⟩), hk⟩
    exact this)
end
theorem wrap_i64 {n : Int} (h : -9223372036854775808 ≤ n) (h' : n < 9223372036854775808) : IntKind.i64.wrap n = n := by
  have e : IntKind.i64.wrap n = if (9223372036854775808 : Int) ≤ n % 18446744073709551616 then n % 18446744073709551616 - 18446744073709551616 else n % 18446744073709551616 := by
    show (if (true && decide ((9223372036854775808 : Int) ≤ n % 18446744073709551616)) = true then _ else _) = _
    by_cases h : (9223372036854775808 : Int) ≤ n % 18446744073709551616 <;> simp [h] <;> rfl
  rw [e]
  split <;> omega
theorem wrap_u64 {n : Int} (h : 0 ≤ n) (h' : n < 18446744073709551616) : IntKind.u64.wrap n = n := by
  simp only [IntKind.wrap, IntKind.bits, IntKind.signed, Bool.false_and]
  simp; omega
theorem wrap_u32 {n : Int} (h : 0 ≤ n) (h' : n < 4294967296) : IntKind.u32.wrap n = n := by
  simp only [IntKind.wrap, IntKind.bits, IntKind.signed, Bool.false_and]
  simp; omega
theorem wrap_u16 {n : Int} (h : 0 ≤ n) (h' : n < 65536) : IntKind.u16.wrap n = n := by
  simp only [IntKind.wrap, IntKind.bits, IntKind.signed, Bool.false_and]
  simp; omega
theorem wrap_u8 {n : Int} (h : 0 ≤ n) (h' : n < 256) : IntKind.u8.wrap n = n := by
  simp only [IntKind.wrap, IntKind.bits, IntKind.signed, Bool.false_and]
  simp; omega
/-- Bounds that are so fall out. -/
theorem wrap_mod (n : Int) : IntKind.i64.wrap n % 18446744073709551616 = n % 18446744073709551616 := by
  have e : IntKind.i64.wrap n = if (9223372036854775808 : Int) ≤ n % 18446744073709551616 then n % 18446744073709551616 - 18446744073709551616 else n % 18446744073709551616 := by
    show (if (true && decide ((9223372036854775808 : Int) ≤ n % 18446744073709551616)) = true then _ else _) = _
    by_cases h : (9223372036854775808 : Int) ≤ n % 18446744073709551616 <;> simp [h] <;> rfl
  rw [e]
  split <;> omega
theorem wrap_congr {a b : Int} (h : a % 18446744073709551616 = b % 18446744073709551616) : IntKind.i64.wrap a = IntKind.i64.wrap b := by
  have e : ∀ n, IntKind.i64.wrap n = if (9223372036854775808 : Int) ≤ n % 18446744073709551616 then n % 18446744073709551616 - 18446744073709551616 else n % 18446744073709551616 := fun n => by
    show (if (true && decide ((9223372036854775808 : Int) ≤ n % 18446744073709551616)) = true then _ else _) = _
    by_cases h : (9223372036854775808 : Int) ≤ n % 18446744073709551616 <;> simp [h] <;> rfl
  rw [e, e, h]
theorem osl_cond (a : Nat) (b : List Stp) (c d e z : Nat) : (∀ (o : Nat) (p : List Stp) (sz lo len : Nat), AV.osl a b c d e = AV.osl o p sz lo len → sz = z) = (c = z) := by
  apply propext
  constructor
  · intro h; exact h _ _ _ _ _ rfl
  · rintro h o p sz lo len e; cases e; exact h
theorem le_and {a b : Int} {K : Prop} (h : a ≤ b) : (a ≤ b ∧ K) = K := by simp [h]
theorem lt_and {a b : Int} {K : Prop} (h : a < b) : (a < b ∧ K) = K := by simp [h]
theorem nle_and {a b : Nat} {K : Prop} (h : a ≤ b) : (a ≤ b ∧ K) = K := by simp [h]
theorem nlt_and {a b : Nat} {K : Prop} (h : a < b) : (a < b ∧ K) = K := by simp [h]
theorem ne_and {a b : Int} {K : Prop} (h : a ≠ b) : (a ≠ b ∧ K) = K := by simp [h]
theorem wf_i64 {t : Int} (h : (Lit.int .i64 t).wf = true) : -9223372036854775808 ≤ t ∧ t < 9223372036854775808 := by
  simp [Lit.wf, IntKind.min, IntKind.max, IntKind.signed, IntKind.bits] at h; omega
theorem wf_u64 {t : Int} (h : (Lit.int .u64 t).wf = true) : 0 ≤ t ∧ t < 18446744073709551616 := by
  simp [Lit.wf, IntKind.min, IntKind.max, IntKind.signed, IntKind.bits] at h; omega
theorem wf_u32 {t : Int} (h : (Lit.int .u32 t).wf = true) : 0 ≤ t ∧ t < 4294967296 := by
  simp [Lit.wf, IntKind.min, IntKind.max, IntKind.signed, IntKind.bits] at h; omega
theorem wf_u16 {t : Int} (h : (Lit.int .u16 t).wf = true) : 0 ≤ t ∧ t < 65536 := by
  simp [Lit.wf, IntKind.min, IntKind.max, IntKind.signed, IntKind.bits] at h; omega
theorem wf_u8 {t : Int} (h : (Lit.int .u8 t).wf = true) : 0 ≤ t ∧ t < 256 := by
  simp [Lit.wf, IntKind.min, IntKind.max, IntKind.signed, IntKind.bits] at h; omega
attribute [go_sem ↓] fresh
attribute [go_sem] Int.toNat_natCast Int.natCast_add Int.natCast_mul Int.natCast_zero Int.natCast_one Int.cast_ofNat_Int
attribute [go_sem] osl_cond Ty.int.injEq
attribute [go_sem] wrap_i64 wrap_u64 wrap_u32 wrap_u16 wrap_u8 le_and lt_and nle_and nlt_and ne_and
end Go.Sy
/- Numbers: shifts, masks. -/
namespace Go.Sy
open Go
set_option linter.unusedVariables false
theorem ishr_div (k : IntKind) (a : Int) (n : Nat) (h : n ≤ k.bits) : ishr k a n = a / 2 ^ n := by
  unfold ishr
  rw [Nat.min_eq_left h]
  exact Int.fdiv_eq_ediv_of_nonneg a (Int.le_of_lt (Int.pow_pos (by decide)))
theorem ofInt_toNat {w : Nat} {a : Int} (h : 0 ≤ a) (h' : a < 2 ^ w) : (BitVec.ofInt w a).toNat = a.toNat := by
  rw [BitVec.toNat_ofInt]
  rw [Int.emod_eq_of_lt h (by exact_mod_cast h')]
theorem iand_nat {k : IntKind} {a b : Int} (ha : 0 ≤ a) (ha' : a < 2 ^ k.bits) (hb : 0 ≤ b) (hb' : b < 2 ^ k.bits) : iand k a b = k.wrap ((a.toNat &&& b.toNat : Nat) : Int) := by
  unfold iand
  rw [BitVec.toNat_and, ofInt_toNat ha ha', ofInt_toNat hb hb']
theorem ior_nat {k : IntKind} {a b : Int} (ha : 0 ≤ a) (ha' : a < 2 ^ k.bits) (hb : 0 ≤ b) (hb' : b < 2 ^ k.bits) : ior k a b = k.wrap ((a.toNat ||| b.toNat : Nat) : Int) := by
  unfold ior
  rw [BitVec.toNat_or, ofInt_toNat ha ha', ofInt_toNat hb hb']
theorem and_mask (n j : Nat) : n &&& (2 ^ j - 1) = n % 2 ^ j := Nat.and_two_pow_sub_one_eq_mod n j
/-- A mask of low ones. -/
theorem iand_mask {k : IntKind} {a b : Int} (j : Nat) (hb : b = 2 ^ j - 1) (hj : j < k.bits) (ha : 0 ≤ a) (ha' : a < 2 ^ k.bits) : iand k a b = a % 2 ^ j := by
  have hp : (1 : Int) ≤ 2 ^ j := Int.pow_pos (by decide)
  have hlt : (2 : Int) ^ j < 2 ^ k.bits := by
    have := Nat.pow_lt_pow_right (show 1 < 2 by decide) hj
    exact_mod_cast this
  rw [iand_nat ha ha' (by omega) (by omega)]
  have e : b.toNat = 2 ^ j - 1 := by
    rw [hb]
    have : ((2 : Int) ^ j - 1) = ((2 ^ j - 1 : Nat) : Int) := by
      rw [Int.natCast_sub (Nat.one_le_two_pow)]
      simp
    rw [this, Int.toNat_natCast]
  rw [e, and_mask]
  have e2 : ((a.toNat % 2 ^ j : Nat) : Int) = a % 2 ^ j := by
    rw [Int.natCast_emod, Int.toNat_of_nonneg ha]
    simp
  rw [e2]
  have h0 : 0 ≤ a % 2 ^ j := Int.emod_nonneg _ (by omega)
  have h1 : a % 2 ^ j < 2 ^ j := Int.emod_lt_of_pos _ (by omega)
  have hh : (2 : Int) ^ j ≤ 2 ^ (k.bits - 1) := by
    have := Nat.pow_le_pow_right (show 0 < 2 by decide) (show j ≤ k.bits - 1 by omega)
    exact_mod_cast this
  unfold IntKind.wrap
  rw [Int.emod_eq_of_lt h0 (by omega)]
  simp only []
  rw [if_neg]
  simp only [Bool.and_eq_true, decide_eq_true_eq, not_and, ge_iff_le]
  intro _
  omega
end Go.Sy
/- Words of 32 bits as whole numbers: turned, chosen, joined. -/
namespace Go.Sy
open Go
set_option linter.unusedVariables false
theorem ixor_nat {k : IntKind} {a b : Int} (ha : 0 ≤ a) (ha' : a < 2 ^ k.bits) (hb : 0 ≤ b) (hb' : b < 2 ^ k.bits) : ixor k a b = k.wrap ((a.toNat ^^^ b.toNat : Nat) : Int) := by
  unfold ixor
  rw [BitVec.toNat_xor, ofInt_toNat ha ha', ofInt_toNat hb hb']
/-- A word. -/
def isW (a : Int) : Prop := 0 ≤ a ∧ a < 4294967296
theorem isW.nat {a : Int} (h : isW a) : a.toNat < 2 ^ 32 := by have := h.1; have := h.2; omega
theorem isW.of {n : Nat} (h : n < 2 ^ 32) : isW (n : Int) := ⟨by omega, by omega⟩
theorem wrapW {n : Nat} (h : n < 2 ^ 32) : IntKind.u32.wrap (n : Int) = n := wrap_u32 (by omega) (by omega)
theorem wrap_isW (n : Int) : isW (IntKind.u32.wrap n) := by
  have : IntKind.u32.wrap n = n % 4294967296 := by simp [IntKind.wrap, IntKind.signed, IntKind.bits]
  rw [this]
  exact ⟨by omega, by omega⟩
theorem andW {a b : Int} (ha : isW a) (hb : isW b) : iand .u32 a b = ((a.toNat &&& b.toNat : Nat) : Int) := by
  rw [iand_nat (k := .u32) ha.1 ha.2 hb.1 hb.2]
  exact wrapW (Nat.and_lt_two_pow _ hb.nat)
theorem orW {a b : Int} (ha : isW a) (hb : isW b) : ior .u32 a b = ((a.toNat ||| b.toNat : Nat) : Int) := by
  rw [ior_nat (k := .u32) ha.1 ha.2 hb.1 hb.2]
  exact wrapW (Nat.or_lt_two_pow ha.nat hb.nat)
theorem xorW {a b : Int} (ha : isW a) (hb : isW b) : ixor .u32 a b = ((a.toNat ^^^ b.toNat : Nat) : Int) := by
  rw [ixor_nat (k := .u32) ha.1 ha.2 hb.1 hb.2]
  exact wrapW (Nat.xor_lt_two_pow ha.nat hb.nat)
theorem and_isW {a b : Int} (ha : isW a) (hb : isW b) : isW (iand .u32 a b) := by rw [andW ha hb]; exact .of (Nat.and_lt_two_pow _ hb.nat)
theorem or_isW {a b : Int} (ha : isW a) (hb : isW b) : isW (ior .u32 a b) := by rw [orW ha hb]; exact .of (Nat.or_lt_two_pow ha.nat hb.nat)
theorem xor_isW {a b : Int} (ha : isW a) (hb : isW b) : isW (ixor .u32 a b) := by rw [xorW ha hb]; exact .of (Nat.xor_lt_two_pow ha.nat hb.nat)
theorem notW {a : Int} (ha : isW a) : inot .u32 a = 4294967295 - a := by
  have h0 := ha.1
  have h1 := ha.2
  have hM : isW 4294967295 := ⟨by decide, by decide⟩
  show ixor .u32 4294967295 a = _
  rw [xorW hM ha]
  have e : (4294967295 : Int).toNat ^^^ a.toNat = 4294967295 - a.toNat := by
    apply Nat.eq_of_testBit_eq
    intro i
    have hs := Nat.testBit_two_pow_sub_succ (x := a.toNat) (n := 32) ha.nat i
    have hm := Nat.testBit_two_pow_sub_one 32 i
    rw [show 4294967295 - a.toNat = 2 ^ 32 - (a.toNat + 1) by omega, hs, Nat.testBit_xor]
    rw [show (4294967295 : Int).toNat = 2 ^ 32 - 1 by decide, hm]
    by_cases hi : i < 32
    · simp [hi]
    · have : a.toNat.testBit i = false := Nat.testBit_lt_two_pow (Nat.lt_of_lt_of_le ha.nat (Nat.pow_le_pow_right (by decide) (by omega)))
      simp [hi, this]
  rw [e]
  omega
theorem not_isW {a : Int} (ha : isW a) : isW (4294967295 - a) := by have := ha.1; have := ha.2; exact ⟨by omega, by omega⟩
/-- The choice. -/
def chI (e f g : Int) : Int := ixor .u32 (iand .u32 e f) (iand .u32 (4294967295 - e) g)
/-- What two have. -/
def maI (a b c : Int) : Int := ixor .u32 (ixor .u32 (iand .u32 a b) (iand .u32 a c)) (iand .u32 b c)
theorem ch_isW {e f g : Int} (he : isW e) (hf : isW f) (hg : isW g) : isW (chI e f g) := xor_isW (and_isW he hf) (and_isW (not_isW he) hg)
theorem ma_isW {e f g : Int} (he : isW e) (hf : isW f) (hg : isW g) : isW (maI e f g) := xor_isW (xor_isW (and_isW he hf) (and_isW he hg)) (and_isW hf hg)
theorem ch_or {e f g : Int} (he : isW e) (hf : isW f) (hg : isW g) : ior .u32 (iand .u32 e f) (iand .u32 (inot .u32 e) g) = chI e f g := by
  have hn := not_isW he
  rw [notW he, chI, orW (and_isW he hf) (and_isW hn hg), xorW (and_isW he hf) (and_isW hn hg), andW he hf, andW hn hg]
  congr 1
  simp only [Int.toNat_natCast]
  apply Nat.eq_of_testBit_eq
  intro i
  have hs := Nat.testBit_two_pow_sub_succ (x := e.toNat) (n := 32) he.nat i
  have e2 : (4294967295 - e).toNat = 2 ^ 32 - (e.toNat + 1) := by have := he.1; have := he.2; omega
  simp only [Nat.testBit_or, Nat.testBit_xor, Nat.testBit_and, e2, hs]
  cases e.toNat.testBit i <;> cases f.toNat.testBit i <;> cases g.toNat.testBit i <;> simp
theorem ma_or {a b c : Int} (ha : isW a) (hb : isW b) (hc : isW c) : ior .u32 (ior .u32 (iand .u32 a b) (iand .u32 a c)) (iand .u32 b c) = maI a b c := by
  rw [maI, orW (or_isW (and_isW ha hb) (and_isW ha hc)) (and_isW hb hc), xorW (xor_isW (and_isW ha hb) (and_isW ha hc)) (and_isW hb hc), orW (and_isW ha hb) (and_isW ha hc), xorW (and_isW ha hb) (and_isW ha hc), andW ha hb, andW ha hc, andW hb hc]
  congr 1
  simp only [Int.toNat_natCast]
  apply Nat.eq_of_testBit_eq
  intro i
  simp only [Nat.testBit_or, Nat.testBit_xor, Nat.testBit_and]
  cases a.toNat.testBit i <;> cases b.toNat.testBit i <;> cases c.toNat.testBit i <;> simp
/-- A word turned right by the places that p has noughts, q the others. -/
def rot (p q x : Int) : Int := x / p + x % p * q
theorem rot_bound {p q x : Int} (h : p * q = 4294967296) (hp : 0 < p) (hq : 0 < q) (hx : isW x) : 0 ≤ x / p ∧ x / p < q ∧ 0 ≤ x % p * q ∧ x % p * q ≤ 4294967296 - q := by
  have h1 : x / p < q := Int.ediv_lt_of_lt_mul hp (by rw [Int.mul_comm, h]; exact hx.2)
  have h2 : x % p < p := Int.emod_lt_of_pos _ hp
  have h3 : 0 ≤ x % p := Int.emod_nonneg _ (by omega)
  have h4 : x % p * q ≤ (p - 1) * q := Int.mul_le_mul_of_nonneg_right (by omega) (by omega)
  have h5 : (p - 1) * q = 4294967296 - q := by rw [Int.sub_mul, h, Int.one_mul]
  exact ⟨Int.ediv_nonneg hx.1 (by omega), h1, Int.mul_nonneg h3 (by omega), by omega⟩
theorem rot_isW {p q x : Int} (h : p * q = 4294967296) (hp : 0 < p) (hq : 0 < q) (hx : isW x) : isW (rot p q x) := by
  obtain ⟨h1, h2, h3, h4⟩ := rot_bound h hp hq hx
  exact ⟨by unfold rot; omega, by unfold rot; omega⟩
theorem rot_right {p q x : Int} (h : p * q = 4294967296) (hp : 0 < p) (hq : 0 < q) (hx : isW x) : IntKind.u32.wrap (x.tdiv p + IntKind.u32.wrap (x.tmod p * q)) = rot p q x := by
  obtain ⟨h1, h2, h3, h4⟩ := rot_bound h hp hq hx
  rw [Int.tdiv_eq_ediv_of_nonneg hx.1, Int.tmod_eq_emod_of_nonneg hx.1, wrap_u32 (n := x % p * q) h3 (by omega), wrap_u32 (by omega) (by omega)]
  rfl
theorem rot_left {x : Int} (n m : Nat) (h : n + m = 32) (hx : isW x) : ior .u32 (ishl .u32 x m) (ishr .u32 x n) = rot (2 ^ n) (2 ^ m) x := by
  have hp : (0 : Int) < 2 ^ n := Int.pow_pos (by decide)
  have hq : (0 : Int) < 2 ^ m := Int.pow_pos (by decide)
  have hpq : (2 : Int) ^ n * 2 ^ m = 4294967296 := by rw [← Int.pow_add, h]; decide
  obtain ⟨h1, h2, h3, h4⟩ := rot_bound hpq hp hq hx
  have e1 : ishr .u32 x n = x / 2 ^ n := ishr_div _ _ n (by show n ≤ 32; omega)
  have e2 : ishl .u32 x m = x % 2 ^ n * 2 ^ m := by
    unfold ishl
    rw [Nat.min_eq_left (show m ≤ IntKind.u32.bits by show m ≤ 32; omega)]
    have : ∀ n, IntKind.u32.wrap n = n % 4294967296 := fun n => by simp [IntKind.wrap, IntKind.signed, IntKind.bits]
    rw [this, ← hpq, Int.mul_comm x, Int.mul_comm (2 ^ n), Int.mul_emod_mul_of_pos _ _ hq, Int.mul_comm]
  have w1 : isW (x % 2 ^ n * 2 ^ m) := ⟨h3, by omega⟩
  have w2 : isW (x / 2 ^ n) := ⟨h1, Int.lt_of_le_of_lt (Int.ediv_le_self _ hx.1) hx.2⟩
  rw [e1, e2, orW w1 w2]
  have hn : (x % 2 ^ n * 2 ^ m).toNat = (x % 2 ^ n).toNat <<< m := by
    rw [Nat.shiftLeft_eq]
    have : x % 2 ^ n * 2 ^ m = (((x % 2 ^ n).toNat * 2 ^ m : Nat) : Int) := by
      rw [Int.natCast_mul, Int.toNat_of_nonneg (Int.emod_nonneg _ (by omega))]
      simp
    rw [this, Int.toNat_natCast]
  have hb : (x / 2 ^ n).toNat < 2 ^ m := by
    have : ((2 ^ m : Nat) : Int) = 2 ^ m := by simp
    omega
  rw [hn, ← Nat.shiftLeft_add_eq_or_of_lt hb, Int.natCast_add, ← hn, Int.toNat_of_nonneg w1.1, Int.toNat_of_nonneg w2.1]
  unfold rot
  omega
end Go.Sy
/- What a row's arguments are in memory: of a value that reads (trod) as a type says there is a tree that it is. -/
namespace Go.Sy
open Go Go.ChangeShapes Go.WideShapes Go.ChangeAt Go.RowKit
set_option linter.unusedSimpArgs false
set_option linter.unusedVariables false
inductive TD where
  | int (k : IntKind)
  | bool
  | str
  | arr (n : Nat) (e : TD)
  | st (fs : List TD)
  | sl (bs : Nat) (e : TD)
mutual
def TD.cs : TD → Nat
  | .int _ | .bool | .str | .sl .. => 1
  | .arr n e => n * e.cs
  | .st fs => TD.css fs
def TD.css : List TD → Nat
  | [] => 0
  | f :: fs => f.cs + TD.css fs
end
def TD.ik : TD → Option IntKind
  | .int k => some k
  | _ => none
mutual
def TD.has : TD → AV → Prop
  | .int k, v => ∃ n, v = .int k n ∧ (Lit.int k n).wf = true
  | .bool, v => ∃ b, v = .bool b
  | .str, v => ∃ s, v = .str s ∧ s.length ≤ reachBytes
  | .arr n e, v => match e.ik with
    | some k => ∃ xs, v = .ints k n xs ∧ xs.length = n ∧ ∀ x ∈ xs, (Lit.int k x).wf = true
    | none => ∃ es, v = .lst e.cs n es ∧ es.length = n ∧ ∀ x ∈ es, e.has x
  | .st fs, v => ∃ ps, v = .agg ps ∧ TD.hass fs ps
  | .sl bs e, v => match e.ik with
    | some k => ∃ xs, v = .sl (.ints k xs.length xs) ∧ xs.length * bs ≤ reachBytes ∧ xs.length ≤ maxLen ∧ ∀ x ∈ xs, (Lit.int k x).wf = true
    | none => ∃ es, v = .sl (.lst e.cs es.length es) ∧ es.length * bs ≤ reachBytes ∧ es.length ≤ maxLen ∧ ∀ x ∈ es, e.has x
def TD.hass : List TD → List AV → Prop
  | [], ps => ps = []
  | f :: fs, ps => ∃ p q, ps = p :: q ∧ f.has p ∧ TD.hass fs q
end
mutual
def TD.ok (P : Program) : TD → TypeId → Bool
  | .int k, t => P.cellsOf t == 1 && match P.underlying t with | some (.int k') => k' == k | _ => false
  | .bool, t => P.cellsOf t == 1 && match P.underlying t with | some .bool => true | _ => false
  | .str, t => P.cellsOf t == 1 && match P.underlying t with | some .string => true | _ => false
  | .arr n e, t => P.cellsOf t == n * e.cs && match P.underlying t with | some (.array m u) => m == n && e.ok P u | _ => false
  | .st fs, t => P.cellsOf t == TD.css fs && match P.underlying t with | some (.struct gs) => TD.oks P fs gs.toList 0 | _ => false
  | .sl bs e, t => P.cellsOf t == 1 && Nat.ble 1 e.cs && match P.underlying t with | some (.slice u) => P.bytesOf u == bs && e.ok P u | _ => false
def TD.oks (P : Program) : List TD → List Field → Nat → Bool
  | [], [], _ => true
  | d :: ds, f :: fs, off => f.offset == off && d.ok P f.type && TD.oks P ds fs (off + d.cs)
  | _, _, _ => false
end
def allPool (w : World) : Pool := fun b i => w.cell? ⟨b, i, none⟩
theorem TD.ok_cs {P : Program} : ∀ {d : TD} {t : TypeId}, d.ok P t = true → P.cellsOf t = d.cs := by
  intro d t h
  cases d <;> simp only [TD.ok, Bool.and_eq_true, beq_iff_eq] at h <;> simp only [TD.cs]
  all_goals first | exact h.1.1 | exact h.1
theorem rv_int {M : Pool} {β : Bmap} {k : IntKind} {cs : List Value} {v : AV} (h : RV M β v cs) (hv : ∃ n, v = .int k n ∧ (Lit.int k n).wf = true) : ∃ n, cs = [.int k n] ∧ (Lit.int k n).wf = true := by
  obtain ⟨n, rfl, hw⟩ := hv
  cases h
  exact ⟨n, rfl, hw⟩
theorem ik_has {d : TD} {k : IntKind} (h : d.ik = some k) : d = .int k := by cases d <;> simp [TD.ik] at h; subst h; rfl
/-- Elements, one behind the other: each is a tree; so the row is one. -/
theorem rows_of {M : Pool} {d : TD} : ∀ (n : Nat) (cs : List Value), cs.length = n * d.cs → (∀ i, i < n → ∃ v, RV M nob v ((cs.drop (i * d.cs)).take d.cs) ∧ d.has v ∧ v.csz = d.cs) →
    ∃ es, RVs M nob es cs ∧ es.length = n ∧ (∀ x ∈ es, d.has x) ∧ ∀ x ∈ es, x.csz = d.cs
  | 0, cs, hl, _ => by
    have : cs = [] := by simpa using hl
    subst this
    exact ⟨[], .nil, rfl, by simp, by simp⟩
  | n + 1, cs, hl, h => by
    obtain ⟨v, h1, h2, h3⟩ := h 0 (by omega)
    rw [Nat.add_mul, Nat.one_mul] at hl
    obtain ⟨es, k1, k2, k3, k4⟩ := rows_of (M := M) (d := d) n (cs.drop d.cs) (by rw [List.length_drop]; omega) (fun i hi => by
      have := h (i + 1) (by omega)
      rw [List.drop_drop, show d.cs + i * d.cs = (i + 1) * d.cs by rw [Nat.add_mul]; omega]
      exact this)
    refine ⟨v :: es, ?_, by simp [k2], ?_, ?_⟩
    · have := RVs.cons h1 k1
      simpa using this
    · intro x hx; rcases List.mem_cons.1 hx with rfl | hx
      · exact h2
      · exact k3 x hx
    · intro x hx; rcases List.mem_cons.1 hx with rfl | hx
      · exact h3
      · exact k4 x hx
theorem ints_of {M : Pool} {k : IntKind} : ∀ {es : List AV} {cs : List Value}, RVs M nob es cs → (∀ x ∈ es, (TD.int k).has x) → ∃ xs : List Int, cs = xs.map (.int k) ∧ xs.length = es.length ∧ ∀ x ∈ xs, (Lit.int k x).wf = true
  | [], _, h, _ => by cases h; exact ⟨[], rfl, rfl, by simp⟩
  | e :: es, _, h, hd => by
    cases h with
    | cons h hs =>
      obtain ⟨n, rfl, hw⟩ := rv_int (k := k) h (by have := hd e (by simp); simpa only [TD.has] using this)
      obtain ⟨xs, rfl, hl, hx⟩ := ints_of hs (fun x hx => hd x (by simp [hx]))
      exact ⟨n :: xs, by simp, by simp [hl], by
        intro x hx'
        rcases List.mem_cons.1 hx' with rfl | hx'
        · exact hw
        · exact hx x hx'⟩
section
variable {H : Type} {enc : TypeId × Value → H} {P : Program} {W : World}
theorem weights_all {e : TypeId} : ∀ {ds : List (DataW H)}, (DataW.weightsAll P e ds).all (· ≤ reachBytes) = true → ∀ d ∈ ds, (d.weights P e).all (· ≤ reachBytes) = true
  | [], _, _, h => by cases h
  | d :: ds, hz, x, hx => by
    simp only [DataW.weightsAll, List.all_append, Bool.and_eq_true] at hz
    rcases List.mem_cons.1 hx with rfl | hx
    · exact hz.1
    · exact weights_all hz.2 x hx
theorem weights_each : ∀ {ts : List TypeId} {ds : List (DataW H)}, (DataW.weightsEach P ts ds).all (· ≤ reachBytes) = true → ∀ (i : Nat) t d, ts[i]? = some t → ds[i]? = some d → (d.weights P t).all (· ≤ reachBytes) = true
  | [], _, _, i, t, d, h, _ => by simp at h
  | _ :: _, [], _, i, t, d, _, h => by simp at h
  | t :: ts, d :: ds, hz, 0, _, _, h1, h2 => by
    simp only [DataW.weightsEach, List.all_append, Bool.and_eq_true] at hz
    simp at h1 h2
    subst h1; subst h2
    exact hz.1
  | t :: ts, d :: ds, hz, i + 1, _, _, h1, h2 => by
    simp only [DataW.weightsEach, List.all_append, Bool.and_eq_true] at hz
    exact weights_each hz.2 i _ _ (by simpa using h1) (by simpa using h2)
theorem ints_row {M : Pool} {β : Bmap} {n : Nat} {k : IntKind} {xs : List Int} (h : xs.length = n) : RV M β (.ints k n xs) (xs.map (.int k)) := RV.ints k h
/-- The cells of a slice's places, one behind the other. -/
theorem slice_cells {b off c : Nat} {e : TypeId} {elems : List (DataW H × List MemPlace)} (hc : P.cellsOf e = c) {m : Nat} : ∀ (len : Nat),
    (∀ i, i < len → (W.cells? 0 ((⟨b, off, none⟩ : Addr).add (i * P.cellsOf e)) (P.cellsOf e)).bind (DataW.trod enc P W 0 (fun _ => true) true m e) = elems[i]?) → len ≤ elems.length →
    ∃ cc : List Value, cc.length = len * c ∧ (∀ i, i < len * c → W.cell? ⟨b, off + i, none⟩ = cc[i]?) ∧ ∀ i, i < len → DataW.trod enc P W 0 (fun _ => true) true m e ((cc.drop (i * c)).take c) = elems[i]?
  | 0, _, _ => ⟨[], by simp, by simp, by simp⟩
  | len + 1, h, hl => by
    obtain ⟨cc, h1, h2, h3⟩ := slice_cells hc len (fun i hi => h i (by omega)) (by omega)
    have hx := h len (by omega)
    rw [List.getElem?_eq_getElem (show len < elems.length by omega), Option.bind_eq_some_iff] at hx
    obtain ⟨cs, h4, h5⟩ := hx
    obtain ⟨_, h6, h7⟩ := World.cells?_some h4
    rw [hc] at h6 h7
    rw [add_plain] at h7
    refine ⟨cc ++ cs, by simp [h1, h6, Nat.add_mul], fun i hi => ?_, fun i hi => ?_⟩
    · rw [Nat.add_mul, Nat.one_mul] at hi
      by_cases hi2 : i < len * c
      · rw [List.getElem?_append_left (by omega)]; exact h2 i hi2
      · rw [List.getElem?_append_right (by omega), h1]
        have := h7 (i - len * c) (by omega)
        rw [add_plain] at this
        rw [show off + i = off + len * c + (i - len * c) by omega]
        exact this
    · by_cases hi2 : i < len
      · rw [← h3 i hi2, List.drop_append_of_le_length, List.take_append_of_le_length]
        · have : (i + 1) * c ≤ len * c := Nat.mul_le_mul_right _ hi2
          simp [h1]; rw [Nat.add_mul] at this; omega
        · have : i * c ≤ len * c := Nat.mul_le_mul_right _ (by omega)
          omega
      · obtain rfl : i = len := by omega
        rw [← h1, List.drop_left, List.take_of_length_le (by omega), h5, List.getElem?_eq_getElem]
theorem has_row {d : TD} {es : List AV} {cc : List Value} {M : Pool} (hv : RVs M nob es cc) (h : ∀ x ∈ es, d.has x) (hz : ∀ x ∈ es, x.csz = d.cs) : match d.ik with
    | some k => ∃ xs : List Int, RV M nob (.ints k es.length xs) cc ∧ xs.length = es.length ∧ ∀ x ∈ xs, (Lit.int k x).wf = true
    | none => RV M nob (.lst d.cs es.length es) cc := by
  split
  · rename_i k hk
    rw [ik_has hk] at h
    obtain ⟨xs, rfl, hl, hx⟩ := ints_of hv h
    exact ⟨xs, RV.ints k hl, hl, hx⟩
  · exact RV.lst hv hz rfl
mutual
/-- Of a value that reads as its type says there is a tree that it is. -/
theorem of_trod : ∀ (d : TD) (fuel : Nat) (t : TypeId) (cs : List Value) (x : DataW H × List MemPlace), DataW.trod enc P W 0 (fun _ => true) true fuel t cs = some x → d.ok P t = true → (x.1.weights P t).all (· ≤ reachBytes) = true →
    ∃ v, RV (allPool W) nob v cs ∧ d.has v ∧ v.csz = d.cs
  | .int k, fuel, t, cs, x, h, ht, _ => by
    simp only [TD.ok, Bool.and_eq_true] at ht
    have hu : P.underlying t = some (.int k) := by
      have := ht.2; split at this
      · rename_i k' hk; rw [hk]; simp at this; rw [this]
      · cases this
    obtain ⟨n, rfl, rfl, hw⟩ := DataW.trod_int hu h
    exact ⟨.int k n, .int k n, ⟨n, rfl, hw⟩, rfl⟩
  | .bool, fuel, t, cs, x, h, ht, _ => by
    simp only [TD.ok, Bool.and_eq_true] at ht
    have hu : P.underlying t = some .bool := by
      have := ht.2; split at this
      · assumption
      · cases this
    obtain ⟨b, rfl, rfl⟩ := DataW.trod_bool hu h
    exact ⟨.bool b, .bool b, ⟨b, rfl⟩, rfl⟩
  | .str, fuel, t, cs, x, h, ht, hz => by
    simp only [TD.ok, Bool.and_eq_true] at ht
    have hu : P.underlying t = some .string := by
      have := ht.2; split at this
      · assumption
      · cases this
    obtain ⟨s, rfl, rfl, hs⟩ := DataW.trod_string hu h
    refine ⟨.str s.data.toList, ?_, ⟨s.data.toList, rfl, ?_⟩, rfl⟩
    · have := RV.str (M := allPool W) (β := nob) s.data.toList
      simpa using this
    · simpa [DataW.weights] using hz
  | .arr n e, fuel, t, cs, x, h, ht, hz => by
    simp only [TD.ok, Bool.and_eq_true] at ht
    obtain ⟨u, hu, he⟩ : ∃ u, P.underlying t = some (.array n u) ∧ e.ok P u = true := by
      have := ht.2; split at this
      · rename_i m u hk
        simp only [Bool.and_eq_true, beq_iff_eq] at this
        exact ⟨u, by rw [hk, this.1], this.2⟩
      · cases this
    have hc := TD.ok_cs he
    obtain ⟨xs, m, _, rfl, hl, hn, hx⟩ := DataW.trod_array hu h
    simp only [DataW.weights, hu] at hz
    have hw := weights_all hz
    rw [hc] at hx
    have hcs : cs.length = n * e.cs := by rw [hl]; simpa using ht.1
    obtain ⟨es, h1, h2, h3, h4⟩ := rows_of (M := allPool W) (d := e) n cs hcs (fun i hi => by
      have hy := hx i hi
      rw [List.getElem?_eq_getElem (by omega)] at hy
      exact of_trod e m u _ _ hy he (hw _ (List.mem_map.2 ⟨_, List.getElem_mem _, rfl⟩)))
    have := has_row h1 h3 h4
    simp only [TD.has, TD.cs]
    split at this
    · rename_i k hk
      obtain ⟨zs, h5, h6, h7⟩ := this
      rw [h2] at h5 h6
      exact ⟨_, h5, ⟨zs, rfl, h6, h7⟩, by rw [ik_has hk]; simp [AV.csz, TD.cs]⟩
    · rename_i hk
      rw [h2] at this
      exact ⟨_, this, ⟨es, rfl, h2, h3⟩, by simp [AV.csz]⟩
  | .st fs, fuel, t, cs, x, h, ht, hz => by
    simp only [TD.ok, Bool.and_eq_true] at ht
    obtain ⟨gs, hu, he⟩ : ∃ gs, P.underlying t = some (.struct gs) ∧ TD.oks P fs gs.toList 0 = true := by
      have := ht.2; split at this
      · rename_i gs hk
        exact ⟨gs, hk, this⟩
      · cases this
    obtain ⟨xs, m, _, rfl, hl, hn, hx⟩ := DataW.trod_struct hu h
    simp only [DataW.weights, hu] at hz
    have hw := weights_each hz
    obtain ⟨ps, h1, h2, h3⟩ := of_trods fs gs.toList m cs 0 xs (by rw [hl]; simpa using ht.1) (fun i f hf => by simpa using hx i f (by simpa using hf)) he (fun i f y hf hy => hw i _ _ (by simp at hf; simp [hf]) (by simp [hy])) (by simpa using hn)
    exact ⟨.agg ps, .agg h1, ⟨ps, rfl, h2⟩, h3⟩
  | .sl bs e, fuel, t, cs, x, h, ht, hz => by
    simp only [TD.ok, Bool.and_eq_true] at ht
    obtain ⟨u, hu, hb, he⟩ : ∃ u, P.underlying t = some (.slice u) ∧ P.bytesOf u = bs ∧ e.ok P u = true := by
      have := ht.2; split at this
      · rename_i u hk
        simp only [Bool.and_eq_true, beq_iff_eq] at this
        exact ⟨u, hk, this.1, this.2⟩
      · cases this
    have hc := TD.ok_cs he
    have hpos : 1 ≤ e.cs := Nat.le_of_ble_eq_true ht.1.2
    rcases DataW.trod_slice hu h with ⟨rfl, rfl⟩ | ⟨a, len, cap, elems, rest, m, _, rfl, rfl, _, hl, hm, hlen, hel, _, _⟩
    · simp only [TD.has, TD.cs]
      split
      · rename_i k hk
        exact ⟨.sl (.ints k 0 []), .sl (cc := []) (RV.ints (xs := []) k rfl) rfl rfl (Nat.le_refl _) (.inl rfl), ⟨[], rfl, by simp, by simp, by simp⟩, rfl⟩
      · exact ⟨.sl (.lst e.cs 0 []), .sl (cc := []) (.lst .nil (by simp) rfl) rfl rfl (Nat.le_refl _) (.inl rfl), ⟨[], rfl, by simp, by simp, by simp⟩, rfl⟩
    · simp only [DataW.weights, hu, List.all_cons, List.all_append, Bool.and_eq_true, decide_eq_true_eq] at hz
      have hw := weights_all hz.2.1
      have hsp : len = 0 ∨ ∃ b off, a = ⟨b, off, none⟩ := by
        cases len with
        | zero => exact .inl rfl
        | succ l =>
          right
          have h0 := hel 0 (by omega)
          rw [List.getElem?_eq_getElem (by omega), Option.bind_eq_some_iff] at h0
          obtain ⟨c0, hc0, _⟩ := h0
          obtain ⟨_, hlen0, hcell⟩ := World.cells?_some hc0
          have h1 := hcell 0 (by omega)
          rw [List.getElem?_eq_getElem (by omega)] at h1
          obtain ⟨b, off, spot⟩ := a
          have hs : spot = none := by simpa [Addr.add] using World.cell?_spot h1
          exact ⟨b, off, by rw [hs]⟩
      have key : ∃ cc : List Value, cc.length = len * e.cs ∧ (len = 0 ∨ ∃ b off, some a = some ⟨b, off, none⟩ ∧ ∀ i v, cc[i]? = some v → allPool W b (off + i) = some v) ∧ ∀ i, i < len → DataW.trod enc P W 0 (fun _ => true) true m u ((cc.drop (i * e.cs)).take e.cs) = elems[i]? := by
        rcases hsp with rfl | ⟨b, off, rfl⟩
        · exact ⟨[], by simp, .inl rfl, by simp⟩
        · obtain ⟨cc, h1, h2, h3⟩ := slice_cells hc len hel (by omega)
          refine ⟨cc, h1, .inr ⟨b, off, rfl, fun i v hv => ?_⟩, h3⟩
          have : i < cc.length := (List.getElem?_eq_some_iff.1 hv).1
          show W.cell? _ = _
          rw [h2 i (by omega), hv]
      obtain ⟨cc, h1, h2, h3⟩ := key
      obtain ⟨es, k1, k2, k3, k4⟩ := rows_of (M := allPool W) (d := e) len cc h1 (fun i hi => by
        have hy := h3 i hi
        rw [List.getElem?_eq_getElem (by omega)] at hy
        exact of_trod e m u _ _ hy he (hw _ (List.mem_map.2 ⟨_, List.getElem_mem _, rfl⟩)))
      have hbl : es.length * bs ≤ reachBytes := by
        refine Nat.le_trans ?_ hz.1
        rw [hb, k2, List.length_map, hlen]
        exact Nat.mul_le_mul_right _ (Nat.le_add_right _ _)
      have hrow := has_row k1 k3 k4
      simp only [TD.has, TD.cs]
      split at hrow
      · rename_i k hk
        obtain ⟨zs, h5, h6, h7⟩ := hrow
        refine ⟨.sl (.ints k zs.length zs), .sl (cc := cc) (by rw [h6]; exact h5) rfl (by simp [AV.cnt]; omega) hl h2, ⟨zs, rfl, by rw [h6]; exact hbl, by omega, h7⟩, rfl⟩
      · rename_i hk
        exact ⟨.sl (.lst e.cs es.length es), .sl (cc := cc) hrow rfl (by simp [AV.cnt]; omega) hl h2, ⟨es, rfl, hbl, by omega, k3⟩, rfl⟩
theorem of_trods : ∀ (ds : List TD) (gs : List Field) (fuel : Nat) (cs : List Value) (off : Nat) (xs : List (DataW H × List MemPlace)), cs.length = off + TD.css ds →
    (∀ (i : Nat) (f : Field), gs[i]? = some f → DataW.trod enc P W 0 (fun _ => true) true fuel f.type ((cs.drop f.offset).take (P.cellsOf f.type)) = xs[i]?) → TD.oks P ds gs off = true →
    (∀ (i : Nat) (f : Field) (y : DataW H × List MemPlace), gs[i]? = some f → xs[i]? = some y → (y.1.weights P f.type).all (· ≤ reachBytes) = true) → xs.length = gs.length →
    ∃ ps, RVs (allPool W) nob ps (cs.drop off) ∧ TD.hass ds ps ∧ AV.cszs ps = TD.css ds
  | [], [], fuel, cs, off, xs, hl, h, ht, hw, hx => by
    rw [List.drop_eq_nil_of_le (by simp [TD.css] at hl; omega)]
    exact ⟨[], .nil, rfl, rfl⟩
  | [], _ :: _, _, _, _, _, _, _, ht, _, _ => by simp [TD.oks] at ht
  | _ :: _, [], _, _, _, _, _, _, ht, _, _ => by simp [TD.oks] at ht
  | d :: ds, g :: gs, fuel, cs, off, xs, hl, h, ht, hw, hx => by
    simp only [TD.oks, Bool.and_eq_true, beq_iff_eq] at ht
    have hc := TD.ok_cs ht.1.2
    match xs, hx with
    | y :: ys, hx =>
      have h0 := h 0 g rfl
      rw [ht.1.1, hc] at h0
      obtain ⟨v, k1, k2, k3⟩ := of_trod d fuel _ _ y (by simpa using h0) ht.1.2 (hw 0 g y rfl rfl)
      obtain ⟨ps, j1, j2, j3⟩ := of_trods ds gs fuel cs (off + d.cs) ys (by simp [TD.css] at hl; omega) (fun i f hf => by simpa using h (i + 1) f (by simpa using hf)) ht.2 (fun i f z hf hz => hw (i + 1) f z (by simpa using hf) (by simpa using hz)) (by simpa using hx)
      refine ⟨v :: ps, ?_, ⟨v, ps, rfl, k2, j2⟩, by simp [AV.cszs, TD.css, k3, j3]⟩
      have := RVs.cons k1 j1
      rw [← List.drop_drop, List.take_append_drop] at this
      exact this
end
end
end Go.Sy
/- A row of a law: out of the contract of the law's function for all trees of the arguments' types. -/
namespace Go.Sy
open Go Go.ChangeShapes Go.WideShapes Go.ChangeAt Go.RowKit
set_option linter.unusedSimpArgs false
set_option linter.unusedVariables false
def TD.okl (P : Program) : List TD → List TypeId → Bool
  | [], [] => true
  | d :: ds, t :: ts => d.ok P t && TD.okl P ds ts
  | _, _ => false
def TD.many : TD → Bool
  | .arr .. | .st _ => true
  | _ => false
theorem has_multi : ∀ {d : TD} {v : AV}, d.has v → v.multi = d.many := by
  intro d v h
  cases d with
  | int k => simp only [TD.has] at h; obtain ⟨n, rfl, _⟩ := h; rfl
  | bool => simp only [TD.has] at h; obtain ⟨n, rfl⟩ := h; rfl
  | str => simp only [TD.has] at h; obtain ⟨n, rfl, _⟩ := h; rfl
  | arr n e =>
    simp only [TD.has] at h
    split at h <;> obtain ⟨n, rfl, _⟩ := h <;> rfl
  | st fs => simp only [TD.has] at h; obtain ⟨n, rfl, _⟩ := h; rfl
  | sl b e =>
    simp only [TD.has] at h
    split at h <;> obtain ⟨n, rfl, _⟩ := h <;> rfl
section
variable {H : Type} {enc : TypeId × Value → H} {P : Program} {W : World}
theorem arg_of {d : TD} {t : TypeId} {v : Value} {x : DataW H} {ps : List MemPlace} (ht : d.ok P t = true) {b0 : Nat} (hval : Value.okWide P W .any b0 t v) (h : DataW.Trod enc P W 0 (fun _ => true) true t v x ps)
    (hz : (x.weights P t).all (· ≤ reachBytes) = true) : ∃ a, VR (allPool W) nob a v ∧ d.has a := by
  obtain ⟨fuel, h⟩ := h
  obtain ⟨a, h1, h2, h3⟩ := of_trod d fuel t _ _ h ht hz
  refine ⟨a, ?_, h2⟩
  have hm := has_multi h2
  cases d with
  | int k =>
    obtain ⟨n, hc, _⟩ := rv_int (k := k) h1 (by simpa only [TD.has] using h2)
    simp only [TD.ok, Bool.and_eq_true] at ht
    have hu : P.underlying t = some (.int k) := by
      have := ht.2; split at this
      · rename_i k' hk; rw [hk]; simp at this; rw [this]
      · cases this
    unfold Value.okWide at hval
    rw [hu] at hval
    simp only [Cell.okWide, hu] at hval
    cases v <;> simp [Cell.ok, hu] at hval
    simp [Value.cells] at h1
    exact .one hm h1
  | bool =>
    simp only [TD.ok, Bool.and_eq_true] at ht
    have hu : P.underlying t = some .bool := by
      have := ht.2; split at this
      · assumption
      · cases this
    unfold Value.okWide at hval
    rw [hu] at hval
    simp only [Cell.okWide, hu] at hval
    cases v <;> simp [Cell.ok, hu] at hval
    simp [Value.cells] at h1
    exact .one hm h1
  | str =>
    simp only [TD.ok, Bool.and_eq_true] at ht
    have hu : P.underlying t = some .string := by
      have := ht.2; split at this
      · assumption
      · cases this
    unfold Value.okWide at hval
    rw [hu] at hval
    simp only [Cell.okWide, hu] at hval
    cases v <;> simp [Cell.ok, hu] at hval
    simp [Value.cells] at h1
    exact .one hm h1
  | sl b e =>
    simp only [TD.ok, Bool.and_eq_true] at ht
    obtain ⟨u, hu⟩ : ∃ u, P.underlying t = some (.slice u) := by
      have := ht.2; split at this
      · rename_i u hk; exact ⟨u, hk⟩
      · cases this
    obtain ⟨a0, l, c, rfl⟩ := okWide_slice hu hval
    simp [Value.cells] at h1
    exact .one hm h1
  | arr n e =>
    simp only [TD.ok, Bool.and_eq_true] at ht
    obtain ⟨m, u, hu⟩ : ∃ m u, P.underlying t = some (.array m u) := by
      have := ht.2; split at this
      · rename_i m u hk; exact ⟨m, u, hk⟩
      · cases this
    unfold Value.okWide at hval
    rw [hu] at hval
    obtain ⟨cs, rfl, _, _⟩ := hval
    simp only [Value.cells] at h1
    have := VR.agg hm h1
    simpa using this
  | st fs =>
    simp only [TD.ok, Bool.and_eq_true] at ht
    obtain ⟨u, hu⟩ : ∃ u, P.underlying t = some (.struct u) := by
      have := ht.2; split at this
      · rename_i u hk; exact ⟨u, hk⟩
      · cases this
    unfold Value.okWide at hval
    rw [hu] at hval
    obtain ⟨cs, rfl, _, _⟩ := hval
    simp only [Value.cells] at h1
    have := VR.agg hm h1
    simpa using this
theorem args_of : ∀ (tds : List TD) (ts : List TypeId) (vs : List Value) (ds : List (DataW H)) (ps : List MemPlace), DataW.TrodAll enc P W 0 (fun _ => true) true ts vs ds ps → TD.okl P tds ts = true →
    (∀ (j : Nat) t v, ts[j]? = some t → vs[j]? = some v → ∃ b0, Value.okWide P W .any b0 t v) → (DataW.weightsEach P ts ds).all (· ≤ reachBytes) = true →
    (∃ as, VRs (allPool W) nob as vs ∧ TD.hass tds as) ∧ ds.length = ts.length
  | [], [], vs, ds, ps, h, _, _, _ => by
    obtain ⟨rfl, rfl, _⟩ : vs = [] ∧ ds = [] ∧ ps = [] := by
      cases vs <;> cases ds <;> simp_all [DataW.TrodAll]
    exact ⟨⟨[], .nil, rfl⟩, rfl⟩
  | [], _ :: _, _, _, _, _, ht, _, _ => by simp [TD.okl] at ht
  | _ :: _, [], _, _, _, _, ht, _, _ => by simp [TD.okl] at ht
  | d :: tds, t :: ts, vs, ds, ps, h, ht, hv, hz => by
    match vs, ds with
    | [], [] => simp [DataW.TrodAll] at h
    | [], _ :: _ => simp [DataW.TrodAll] at h
    | _ :: _, [] => simp [DataW.TrodAll] at h
    | v :: vs, x :: ds =>
      obtain ⟨p, q, h1, h2, _⟩ := h
      simp only [TD.okl, Bool.and_eq_true] at ht
      simp only [DataW.weightsEach, List.all_append, Bool.and_eq_true] at hz
      obtain ⟨b0, hb⟩ := hv 0 t v rfl rfl
      obtain ⟨a, k1, k2⟩ := arg_of ht.1 hb h1 hz.1
      obtain ⟨⟨as, k3, k4⟩, hl⟩ := args_of tds ts vs ds q h2 ht.2 (fun j t v h h' => hv (j + 1) t v (by simpa using h) (by simpa using h')) hz.2
      exact ⟨⟨a :: as, .cons k1 k3, ⟨a, as, rfl, k2, k4⟩⟩, by simp [hl]⟩
theorem below_all (hl : laidOutB P = true) {W' : World} (bel : Below W.heap.size W W') : ∀ (ts : List TypeId) (vs : List Value) (ds : List (DataW H)) (ps : List MemPlace), ts.all (fun t => P.readableRec t && decide (t < P.types.size)) = true →
    DataW.TrodAll enc P W 0 (fun _ => true) true ts vs ds ps → DataW.TrodAll enc P W' 0 (fun b => decide (b < W.heap.size)) true ts vs ds ps
  | [], [], [], ps, _, h => h
  | [], [], _ :: _, _, _, h => h.elim
  | [], _ :: _, _, _, _, h => by cases h
  | _ :: _, [], _, _, _, h => by cases h
  | _ :: _, _ :: _, [], _, _, h => by cases h
  | t :: ts, v :: vs, d :: ds, ps, hr, ⟨p, q, h1, h2, e⟩ => by
    simp only [List.all_cons, Bool.and_eq_true, decide_eq_true_eq] at hr
    exact ⟨p, q, Below.trod hl hr.1.1 hr.1.2 h1 bel (fun x hx => by obtain ⟨m, hm⟩ := h1; exact DataW.trod_lt m _ _ _ hm x hx), below_all hl bel ts vs ds q hr.2 h2, e⟩
/-- Out of the contract for all trees of the arguments' types: what the row says of a call. -/
theorem law_calls {f : FuncId} {fn : Func} {s : ChangeSpec} {tds : List TD} (hl : laidOutB P = true) (hro : fn.params.toList.all (fun t => P.readableRec t && decide (t < P.types.size)) = true) (hok : TD.okl P tds fn.params.toList = true) (hs : s.vars = [])
    (hfn : ∀ (ds : List (DataW H)), ds.length = fn.params.toList.length → s.fn H ds = { results := [.lit (.bool true)], args := ds }) {tb : TypeId} (hres : fn.resultTypes = #[tb]) (htb : P.underlying tb = some .bool)
    (hX : ∀ as, TD.hass tds as → FnC P f as [] (.bool true) []) {base : Nat} {args : Array Value} {ds gs : List (DataW H)} {before : List MemPlace}
    (hval : ∀ (j : Nat) t v, fn.params[j]? = some t → args[j]? = some v → Value.okWide P W .any base t v)
    (hW : DataW.Whole enc P fn.params.toList s.vars false W args.toList ds gs before)
    (hsz : (DataW.weightsEach P (fn.params.toList ++ s.plain.varTypes P) (ds ++ gs)).all (· ≤ reachBytes) = true) :
    Calls P f args W fun e W' => ∃ v, e = .returned v ∧ s.post enc P fn false true false false W args v W' := by
  have hW' := hW
  obtain ⟨p, q, hA, hV, rfl, hfz, hnd⟩ := hW
  rw [hs] at hV
  obtain ⟨rfl, rfl⟩ := trodVars_none hV
  have hvt : s.plain.varTypes P = [] := by simp [ChangeSpec.plain, DataSpec.varTypes, hs]
  rw [hvt, List.append_nil, List.append_nil] at hsz
  obtain ⟨⟨as, h1, h2⟩, hlen⟩ := args_of tds _ _ _ _ hA hok (fun j t v h h' => ⟨base, hval j t v (by simpa using h) (by simpa using h')⟩) hsz
  have hst : St ⟨W, ownOf [] nob, allPool W, nob, 0, fun _ => True⟩ (allPool W) nob [] W :=
    ⟨fun _ _ _ h => h, fun _ _ _ h => h, fun _ _ _ h => .inl h, fun _ _ h => by simp [lk] at h, fun _ _ _ _ h => by simp [lk] at h, fun _ _ _ _ _ _ _ h => by simp [lk] at h, Nat.le_refl _, fun _ _ _ => rfl, rfl, rfl, rfl⟩
  have hc := (hX as h2).2 W (allPool W) nob args.toList (fun _ _ => rfl) hst h1
  rw [Array.toArray_toList] at hc
  refine hc.mono fun e W' ⟨x, M', β', he, hr, st, _⟩ => ?_
  have hx : x = .bool true := by
    cases hr with
    | one _ h => cases h; rfl
    | agg hm _ => cases hm
  subst hx
  have bel : Below W.heap.size W W' := ⟨st.os, st.tape, st.output, st.size, fun k hk => st.keep k hk (fun ⟨o, ob, κ, h, _⟩ => by simp [lk] at h)⟩
  refine ⟨_, he, ds, [], _, [], p, [], hW', ?_, ?_, ?_, bel.frame _, fun h => by cases h⟩
  · rw [List.append_nil, hfn ds hlen, hres]
    exact trodAll_mk1 (shut_bool htb _)
  · rw [List.append_nil, hfn ds hlen]
    exact below_all hl bel _ _ _ _ hro hA
  · rw [hs, List.append_nil, hfn ds hlen]
    rfl
end
theorem ex_map' {α : Type} {f : α → AV} {Q : α → Prop} : ∀ {es : List AV}, (∀ x ∈ es, ∃ a, x = f a ∧ Q a) → ∃ l : List α, es = l.map f ∧ ∀ a ∈ l, Q a
  | [], _ => ⟨[], rfl, by simp⟩
  | e :: es, h => by
    obtain ⟨a, rfl, ha⟩ := h e (by simp)
    obtain ⟨l, rfl, hl⟩ := ex_map' (es := es) (fun x hx => h x (by simp [hx]))
    refine ⟨a :: l, rfl, fun b hb => ?_⟩
    rcases List.mem_cons.1 hb with rfl | hb
    · exact ha
    · exact hl b hb
/-! A nil slice where a contract speaks of an empty one. -/
mutual
def nz : AV → AV → Prop
  | .agg ps, v' => (match v' with | .agg qs => nzs ps qs | _ => False)
  | .sl c, v' => AV.sl c = v' ∨ (c.void = true ∧ v' = .nils)
  | v, v' => v = v'
def nzs : List AV → List AV → Prop
  | [], qs => qs = []
  | p :: ps, qs => (match qs with | q :: qs => nz p q ∧ nzs ps qs | [] => False)
end
mutual
theorem nz_rv {M : Pool} {β : Bmap} : ∀ (v v' : AV) (cs : List Value), nz v v' → RV M β v' cs → RV M β v cs
  | .agg ps, v', cs, h, hr => by
    simp only [nz] at h
    split at h
    · cases hr with | agg hs => exact .agg (nzs_rv ps _ cs h hs)
    · exact h.elim
  | .sl c, v', cs, h, hr => by
    simp only [nz] at h
    rcases h with rfl | ⟨hv, rfl⟩
    · exact hr
    · cases hr
      exact .sl (cc := []) (rv_void hv) (void_row hv).1 (void_row hv).2 (Nat.le_refl _) (.inl rfl)
  | .int .., _, _, h, hr => by simp only [nz] at h; subst h; exact hr
  | .bool _, _, _, h, hr => by simp only [nz] at h; subst h; exact hr
  | .str _, _, _, h, hr => by simp only [nz] at h; subst h; exact hr
  | .nilp, _, _, h, hr => by simp only [nz] at h; subst h; exact hr
  | .ref .., _, _, h, hr => by simp only [nz] at h; subst h; exact hr
  | .ints .., _, _, h, hr => by simp only [nz] at h; subst h; exact hr
  | .arr .., _, _, h, hr => by simp only [nz] at h; subst h; exact hr
  | .lst .., _, _, h, hr => by simp only [nz] at h; subst h; exact hr
  | .nils, _, _, h, hr => by simp only [nz] at h; subst h; exact hr
  | .osl .., _, _, h, hr => by simp only [nz] at h; subst h; exact hr
  | .pp .., _, _, h, hr => by simp only [nz] at h; subst h; exact hr
  | .fn .., _, _, h, hr => by simp only [nz] at h; subst h; exact hr
  | .nilf, _, _, h, hr => by simp only [nz] at h; subst h; exact hr
  | .nilm, _, _, h, hr => by simp only [nz] at h; subst h; exact hr
  | .mp _, _, _, h, hr => by simp only [nz] at h; subst h; exact hr
  | .tup _, _, _, h, hr => by simp only [nz] at h; subst h; exact hr
  | .junk, _, _, h, hr => by simp only [nz] at h; subst h; exact hr
theorem nzs_rv {M : Pool} {β : Bmap} : ∀ (ps qs : List AV) (cs : List Value), nzs ps qs → RVs M β qs cs → RVs M β ps cs
  | [], qs, cs, h, hr => by simp only [nzs] at h; subst h; exact hr
  | p :: ps, qs, cs, h, hr => by
    simp only [nzs] at h
    split at h
    · cases hr with | cons h1 h2 => exact .cons (nz_rv p _ _ h.1 h1) (nzs_rv ps _ _ h.2 h2)
    · exact h.elim
end
theorem nz_multi : ∀ {v v' : AV}, nz v v' → v.multi = v'.multi
  | .agg ps, v', h => by
    simp only [nz] at h
    split at h
    · rfl
    · exact h.elim
  | .sl c, v', h => by
    simp only [nz] at h
    rcases h with rfl | ⟨_, rfl⟩ <;> rfl
  | .int .., _, h | .bool _, _, h | .str _, _, h | .nilp, _, h | .ref .., _, h | .ints .., _, h | .arr .., _, h | .lst .., _, h | .nils, _, h | .osl .., _, h | .pp .., _, h | .fn .., _, h | .nilf, _, h | .nilm, _, h | .mp _, _, h | .tup _, _, h | .junk, _, h => by
    simp only [nz] at h; subst h; rfl
theorem nz_vr {M : Pool} {β : Bmap} {v v' : AV} {x : Value} (h : nz v v') (hx : VR M β v' x) : VR M β v x := by
  cases hx with
  | one hm hr => exact .one (by rw [nz_multi h]; exact hm) (nz_rv _ _ _ h hr)
  | agg hm hr => exact .agg (by rw [nz_multi h]; exact hm) (nz_rv _ _ _ h hr)
  | tup hs => cases v <;> simp only [nz] at h <;> first | (cases h; exact .tup hs) | (rcases h with h | ⟨_, h⟩ <;> cases h) | cases h
  | junk x => cases v <;> simp only [nz] at h <;> first | (cases h; exact .junk x) | (rcases h with h | ⟨_, h⟩ <;> cases h) | cases h
theorem nzs_vr {M : Pool} {β : Bmap} : ∀ {vs vs' : List AV} {xs : List Value}, nzs vs vs' → VRs M β vs' xs → VRs M β vs xs
  | [], qs, cs, h, hr => by simp only [nzs] at h; subst h; exact hr
  | p :: ps, qs, cs, h, hr => by
    simp only [nzs] at h
    split at h
    · cases hr with | cons h1 h2 => exact .cons (nz_vr h.1 h1) (nzs_vr h.2 h2)
    · exact h.elim
theorem FnC.nz {P : Program} {f : FuncId} {args args' : List AV} {r : AV} {O O' : OO} (h : FnC P f args O r O') (hn : nzs args args') : FnC P f args' O r O' :=
  ⟨h.1, fun w M β xs hids hst hxs => h.2 w M β xs hids hst (nzs_vr hn hxs)⟩
end Go.Sy
/- A contract told at other objects: rows that are handed over to be read alone, nil slices. -/
namespace Go.Sy
open Go
set_option linter.unusedSimpArgs false
set_option linter.unusedVariables false
/-- The names by which a contract's objects are found; the variables keep theirs. -/
def subOK (σ : List (Nat × Nat)) (Z F : List Nat) (O2 O1 : OO) : Bool :=
  F.all (fun f => !(σ.map (·.2)).contains f) && decide ((σ.map (·.2)).Nodup) && σ.all (fun p => !Z.contains p.1 && (keys O1).contains p.1) && Z.all (fun z => (keys O1).contains z) &&
    O2.all fun p => match p.2 with | .var _ => (match lk σ p.1 with | some o => Nat.beq o p.1 && (match lk O1 p.1 with | some (.var _) => true | _ => false) | none => false) | _ => true
theorem lk_keys {O : OO} {o : Nat} (h : (keys O).contains o = true) : lk O o ≠ none := by
  induction O with
  | nil => simp [keys] at h
  | cons p O ih =>
    obtain ⟨i, v⟩ := p
    simp only [lk]
    split
    · simp
    · rename_i e
      refine ih ?_
      simp only [keys, List.map_cons, List.contains_cons, Bool.or_eq_true, beq_iff_eq] at h ⊢
      rcases h with h | h
      · exact absurd h.symm e
      · exact h
theorem FnC.sub {P : Program} {f : FuncId} {A args : List AV} {r : AV} {O1 O2 O' : OO} (h : FnC P f A O1 r O') (σ : List (Nat × Nat)) (Z F : List Nat) (hok : subOK σ Z F O2 O1 = true)
    (hA : matsC σ Z (frzO O2 F) A args) (hO : holdsN O2 σ Z (frzO O2 F) O1) : FnC P f args O2 r O' := by
  refine ⟨h.1, fun w M β xs hids hst hxs => ?_⟩
  simp only [subOK, Bool.and_eq_true, List.all_eq_true, decide_eq_true_eq, Bool.not_eq_true'] at hok
  obtain ⟨⟨⟨⟨hF, hnd⟩, hσ⟩, hZ⟩, hvar⟩ := hok
  let b1 : Bmap := fun o => match lk σ o with | some o' => β o' | none => if Z.contains o = true then some (0, 0) else none
  have ha : Agr σ b1 β := fun o o' h => by show (match lk σ o with | some o' => β o' | none => _) = _; rw [h]
  have hz : NilOK Z b1 := fun o ho => by
    have : lk σ o = none := by
      rw [lk_none]
      intro hm
      obtain ⟨p, hp, rfl⟩ := List.mem_map.1 hm
      have := (hσ p hp).1
      rw [ho] at this
      cases this
    show (match lk σ o with | some o' => β o' | none => if Z.contains o = true then some (0, 0) else none) = _
    rw [this]
    simp only [ho, if_true]
  have hF' : ∀ f ∈ F, ∀ o, lk σ o ≠ some f := fun f hf o e => by
    have := hF f hf
    have hm : f ∈ σ.map (·.2) := List.mem_map.2 ⟨_, lk_mem e, rfl⟩
    simp only [Bool.eq_false_iff] at this
    exact this (by simpa using hm)
  obtain ⟨M1, hM, hV, hs1⟩ := hst.ren hF' hnd ha hz hO
  have hH := holdsN_spec hO
  have own1 : ∀ b, ownOf O1 b1 b → ownOf O2 β b := fun b ⟨o, ob, κ, g1, g2, g3⟩ => by
    rcases hH _ (lk_mem g1) with ⟨o', ob', k1, k2, _⟩ | ⟨_, k2⟩
    · have : b1 o = β o' := ha _ _ k1
      rw [this] at g2
      exact ⟨o', ob', κ, k2, g2, g3⟩
    · rw [hz _ k2] at g2
      cases g2
      exact absurd rfl g3
  have hids1 : ∀ o, lk O1 o = none → b1 o = none := fun o ho => by
    show (match lk σ o with | some o' => β o' | none => if Z.contains o = true then some (0, 0) else none) = none
    cases hl : lk σ o with
    | some o' => exact absurd ho (lk_keys (hσ _ (lk_mem hl)).2)
    | none =>
      simp only []
      by_cases hc : Z.contains o = true
      · exact absurd ho (lk_keys (hZ o (by simpa using hc)))
      · simp only [hc, if_false, Bool.false_eq_true]
  have hs2 : St ⟨w, ownOf O1 b1, M1, nob, 0, fun _ => True⟩ M1 b1 O1 w :=
    ⟨hs1.pool, fun _ _ _ h => h, fun _ _ _ h => .inl h, hs1.objs, fun o ob b κ hl hb hk => ⟨(hs1.mine o ob b κ hl hb hk).1, .inl ⟨o, ob, κ, hl, hb, hk⟩⟩, hs1.inj, Nat.le_refl _, fun _ _ _ => rfl, rfl, rfl, rfl⟩
  have hxs1 : VRs M1 b1 A xs := (matsC_spec σ Z (frzO O2 F) A args hA).vr hM hV ha hz hxs
  refine (h.2 w M1 b1 xs hids1 hs2 hxs1).mono fun e w' ⟨x, M', β', he, hr, st, hv⟩ => ⟨x, M', β', he, hr, ?_, fun o c hl => ?_⟩
  · refine ⟨st.pool, fun b i v hm => st.sub _ _ _ (hM _ _ _ hm), fun b i v hm => ?_, st.objs, fun o ob b κ hl hb hk => ?_, st.inj, st.size, fun b hb hn => st.keep b hb fun h => hn (own1 b h), st.os, st.tape, st.output⟩
    · rcases st.only _ _ _ hm with g | g | g
      · exact hs1.only _ _ _ g
      · exact .inr (.inl (own1 b g))
      · exact .inr (.inr g)
    · obtain ⟨g1, g2⟩ := st.mine o ob b κ hl hb hk
      exact ⟨g1, g2.imp (own1 b) id⟩
  · have hp := hvar _ (lk_mem hl)
    simp only [] at hp
    cases hl2 : lk σ o with
    | none => rw [hl2] at hp; cases hp
    | some o' =>
      rw [hl2] at hp
      simp only [Bool.and_eq_true] at hp
      obtain rfl := Nat.eq_of_beq_eq_true hp.1
      have hp2 := hp.2
      split at hp2
      · rename_i c' hc'
        rw [hv _ _ hc']
        exact ha _ _ hl2
      · cases hp2
end Go.Sy
