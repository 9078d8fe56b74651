/- Own objects written, appended to; a value put into its place. -/
import Derived.Test.YtnonjfknpajpaaaS6
namespace Go.Sy
open Go
section
variable {E : Env} {N : Nat} {M : Pool} {β β' : Bmap} {T : TT} {O O' : OO} {n : Nat} {a : Act} {w w' : World} {P : Program}

theorem St.drew (h : St E M β O w) : St E M β O w.drew :=
  ⟨fun b i v hm => h.pool b i v hm, h.sub, h.only, fun o ob hl => by
    obtain ⟨b, κ, hb, hor⟩ := h.objs o ob hl
    exact ⟨b, κ, hb, hor.mono (BLe.refl _) fun _ => rfl⟩, h.mine, h.inj, h.size, h.keep, h.os, h.tape, h.output⟩

/-- An own object is written in its place. -/
theorem St.put (h : St E M β O w) {o b κ : Nat} {ob ob' : OB} {x : Obj} (hl : lk O o = some ob) (hb : β o = some (b, κ)) (hk : κ ≠ 0) (hO : ∀ i, lk O' i = if i = o then some ob' else lk O i)
    (hor : OR M β b κ (w.putBlock b x) ob') : St E M β O' (w.putBlock b x) := by
  have hlt : b < w.heap.size := by obtain ⟨b2, κ2, h2, hor2⟩ := h.objs _ _ hl; rw [hb] at h2; cases h2; exact hor2.lt hk
  refine h.next (BLe.refl _) (by simp [World.putBlock]) (fun c => c = b) (fun c hc => by subst hc; exact h.mine _ _ _ _ hl hb hk) (fun c hc hn => by rw [getElem?_putBlock hlt, if_neg hn]) rfl rfl rfl (fun i obi hi => ?_) ?_
  · rw [hO] at hi
    split at hi
    · rename_i e; subst e; cases hi
      exact .inr ⟨b, κ, hb, hor, fun _ => .inl rfl⟩
    · rename_i e
      refine .inl ⟨hi, fun c κ' hc hk' hcb => e ?_⟩
      subst hcb
      exact h.inj _ _ _ _ _ _ _ hi hl hc hb hk' hk
  · intro i j o1 o2 c κ1 κ2 h1 h2 e1 e2 k1 k2
    have g : ∀ i o1, lk O' i = some o1 → ∃ o2, lk O i = some o2 := fun i o1 hi => by
      rw [hO] at hi
      split at hi
      · rename_i e; subst e; exact ⟨ob, hl⟩
      · exact ⟨o1, hi⟩
    obtain ⟨p1, q1⟩ := g _ _ h1
    obtain ⟨p2, q2⟩ := g _ _ h2
    exact h.inj _ _ _ _ _ _ _ q1 q2 e1 e2 k1 k2

/-- A new object takes an old one's block. -/
theorem St.reuse (h : St E M β O w) (hn : β n = none) {o b κ : Nat} {ob ob' : OB} {x : Obj} (hl : lk O o = some ob) (hb : β o = some (b, κ)) (hk : κ ≠ 0) (hO : ∀ i, lk O' i = if i = o then none else lk O i)
    (hor : OR M (updB β n (b, κ)) b κ (w.putBlock b x) ob') : St E M (updB β n (b, κ)) ((n, ob') :: O') (w.putBlock b x) := by
  have hbl := updB_le hn (b, κ)
  have hlt : b < w.heap.size := by obtain ⟨b2, κ2, h2, hor2⟩ := h.objs _ _ hl; rw [hb] at h2; cases h2; exact hor2.lt hk
  have g : ∀ i o1, lk ((n, ob') :: O') i = some o1 → i ≠ n → lk O i = some o1 ∧ i ≠ o := fun i o1 hi hne => by
    simp only [lk, if_neg (Ne.symm hne), hO] at hi
    split at hi
    · cases hi
    · exact ⟨hi, by assumption⟩
  have u : ∀ i, i ≠ n → updB β n (b, κ) i = β i := fun i hi => by simp [updB, hi]
  refine h.next hbl (by simp [World.putBlock]) (fun c => c = b) (fun c hc => by subst hc; exact h.mine _ _ _ _ hl hb hk) (fun c hc hn => by rw [getElem?_putBlock hlt, if_neg hn]) rfl rfl rfl (fun i obi hi => ?_) ?_
  · by_cases e : i = n
    · subst e
      simp only [lk, if_true, Option.some.injEq] at hi
      subst hi
      exact .inr ⟨b, κ, by simp, hor, fun _ => .inl rfl⟩
    · obtain ⟨h1, h2⟩ := g _ _ hi e
      refine .inl ⟨h1, fun c κ' hc hk' hcb => h2 ?_⟩
      subst hcb
      exact h.inj _ _ _ _ _ _ _ h1 hl hc hb hk' hk
  · intro i j o1 o2 c κ1 κ2 h1 h2 e1 e2 k1 k2
    by_cases c1 : i = n
    · by_cases c2 : j = n
      · omega
      · subst c1
        simp only [updB_same, Option.some.injEq, Prod.mk.injEq] at e1
        obtain ⟨rfl, rfl⟩ := e1
        obtain ⟨q1, q2⟩ := g _ _ h2 c2
        rw [u _ c2] at e2
        exact absurd (h.inj _ _ _ _ _ _ _ q1 hl e2 hb k2 hk) q2
    · obtain ⟨p1, p2⟩ := g _ _ h1 c1
      rw [u _ c1] at e1
      by_cases c2 : j = n
      · subst c2
        simp only [updB_same, Option.some.injEq, Prod.mk.injEq] at e2
        obtain ⟨rfl, rfl⟩ := e2
        exact absurd (h.inj _ _ _ _ _ _ _ p1 hl e1 hb k1 hk) p2
      · obtain ⟨q1, q2⟩ := g _ _ h2 c2
        rw [u _ c2] at e2
        exact h.inj _ _ _ _ _ _ _ p1 q1 e1 e2 k1 k2
/-- An object is forgotten. -/
theorem St.drop (h : St E M β O w) {o : Nat} (hO : ∀ i, lk O' i = if i = o then none else lk O i) : St E M β O' w := by
  have g : ∀ i o1, lk O' i = some o1 → lk O i = some o1 := fun i o1 hi => by
    rw [hO] at hi
    split at hi
    · cases hi
    · exact hi
  exact ⟨h.pool, h.sub, h.only, fun o ob hl => h.objs o ob (g _ _ hl), fun o ob b κ hl => h.mine o ob b κ (g _ _ hl),
    fun o o' ob ob' b κ κ' h1 h2 => h.inj o o' ob ob' b κ κ' (g _ _ h1) (g _ _ h2), h.size, h.keep, h.os, h.tape, h.output⟩

theorem put_tmps {a : Act} {d : Option Tmp} {x : Value} (t : Nat) : (a.put d x).tmps[t]? = if d = some t then (if t < a.tmps.size then some x else none) else a.tmps[t]? := by
  cases d with
  | none => simp [Act.put]
  | some d =>
    simp only [Act.put, Array.getElem?_setIfInBounds, Option.some.injEq]
    split
    · rename_i e; subst e; rfl
    · rfl
theorem RelAt.value (h : RelAt E N M β T O n a w) {d : Option Tmp} (hd : ∀ t, d = some t → t < N) {v : AV} {x : Value} (hv : VR M β v x) : RelAt E N M β (putT d v T) O n (a.put d x) w := by
  refine ⟨h.st, h.ids, fun t u hl => ?_, ?_, ?_, h.base, h.le0⟩
  · rw [put_tmps]
    cases d with
    | none => simpa [putT] using h.tmps t u hl
    | some d =>
      simp only [putT, lk] at hl
      by_cases e : d = t
      · subst e
        simp only [if_true, Option.some.injEq] at hl
        subst hl
        have := hd d rfl
        rw [← h.sz] at this
        simp [this]
        exact hv
      · simp only [if_neg e] at hl
        have : ¬ (some d = some t) := by simpa using e
        rw [if_neg this]
        exact h.tmps t u hl
  · cases d <;> exact h.nd
  · cases d <;> simp [Act.put, h.sz]
/-- The state with other memory. -/
theorem RelAt.next (h : RelAt E N M β T O n a w) {n' : Nat} (hst : St E M β' O' w') (hbl : BLe β β') (hids : ∀ o, n' ≤ o → E.ok o → β' o = none) (hlow : ∀ o, (o < n ∨ ¬ E.ok o) → β' o = β o) (hn : n ≤ n') : RelAt E N M β' T O' n' a w' :=
  ⟨hst, hids, fun t v hl => by obtain ⟨x, hx, hv⟩ := h.tmps t v hl; exact ⟨x, hx, hv.mono (PLe.refl _) hbl⟩, h.nd, h.sz, fun o ho => by rw [← h.base o ho]; exact hlow o (ho.imp (fun ho => Nat.lt_of_lt_of_le ho h.le0) id), Nat.le_trans h.le0 hn⟩
theorem updB_low (hok : E.ok n) (β : Bmap) (x : Nat × Nat) : ∀ o, (o < n ∨ ¬ E.ok o) → updB β n x o = β o := fun o ho => by
  unfold updB
  rw [if_neg]
  rintro rfl
  rcases ho with h | h
  · omega
  · exact h hok
theorem RelAt.fresh (h : RelAt E N M β T O n a w) (x : Nat × Nat) : ∀ o, n + 1 ≤ o → E.ok o → updB β n x o = none := fun o ho hk => by
  unfold updB
  rw [if_neg (by omega)]
  exact h.ids o (by omega) hk

theorem cstC_spec {v : Value} {K : AV → Prop} (h : cstC v K) : ∃ u, K u ∧ VR M β u v := by
  unfold cstC at h
  split at h
  · exact ⟨_, h, .one rfl (.int _ _)⟩
  · exact ⟨_, h, .one rfl (.bool _)⟩
  · rename_i s; exact ⟨_, h, .one rfl (.str _)⟩
  · exact ⟨_, h, .one rfl .nilp⟩
  · exact ⟨_, h, .one rfl .nils⟩
  · exact ⟨_, h, .one rfl .nilm⟩
  · exact ⟨_, h, .one rfl .nilf⟩
  · exact h.elim
theorem evC_spec (hr : RelAt E N M β T O n a w) {x : Operand} {K : AV → Prop} (h : evC T x K) : ∃ u, K u ∧ VR M β u (a.eval x) := by
  cases x with
  | tmp t =>
    obtain ⟨v, hv, hk⟩ := lkC_spec h
    obtain ⟨y, hy, hvr⟩ := hr.tmps t v hv
    refine ⟨v, hk, ?_⟩
    simp only [Act.eval, Array.getD_eq_getD_getElem?, hy, Option.getD_some]
    exact hvr
  | const v => exact cstC_spec h
  | global g => exact h.elim
  | func f => exact ⟨_, h, .one rfl (.fn .nil)⟩
theorem evsC_spec (hr : RelAt E N M β T O n a w) : ∀ {xs : List Operand} {K : List AV → Prop}, evsC T xs K → ∃ us, K us ∧ VRs M β us (xs.map a.eval) := by
  intro xs
  induction xs with
  | nil => intro K h; exact ⟨[], h, .nil⟩
  | cons x xs ih =>
    intro K h
    obtain ⟨u, h, hv⟩ := evC_spec hr h
    obtain ⟨us, h, hvs⟩ := ih h
    exact ⟨u :: us, h, .cons hv hvs⟩

/-- What is to be shown of an operation: the temporaries stay, but for the result. -/
def OpS (P : Program) (o : Oper) (E : Env) (N : Nat) (T : TT) (K : KK) (a : Act) (w : World) : Prop :=
  ∀ (next : Act → World → Prop) (Q : Exit → Act → World → Prop), (∀ v O' n' x w' M' β', K v O' n' → RelAt E N M' β' T O' n' a w' → VR M' β' v x → next (a.put o.dst x) w') → o.wp P a w next Q
theorem OpS.val {o : Oper} {K : KK} {r : AV} {x : Value} (hrun : (execOp a.eval o).run P w = .ok (.value x) w') (hr : RelAt E N M β T O n a w') (hv : VR M β r x)
    (hk : K r O n) : OpS P o E N T K a w := by
  intro next Q hn
  unfold Oper.wp
  rw [hrun]
  exact hn _ _ _ _ _ _ _ hk hr hv
theorem OpS.skip {o : Oper} {K : KK} (hrun : (execOp a.eval o).run P w = .ok .skip w') (hr : RelAt E N M β T O n a w')
    (hk : K .junk O n) : OpS P o E N T K a w := by
  intro next Q hn
  unfold Oper.wp
  rw [hrun]
  exact hn _ _ _ _ _ _ _ hk hr (.junk _)
end

/-! Inversions. -/
section
variable {M : Pool} {β : Bmap} {x : Value}
theorem VR.int_inv {k : IntKind} {n : Int} (h : VR M β (.int k n) x) : x = .int k n := by cases h with | one _ h => cases h; rfl | agg hm _ => cases hm
theorem VR.bool_inv {b : Bool} (h : VR M β (.bool b) x) : x = .bool b := by cases h with | one _ h => cases h; rfl | agg hm _ => cases hm
theorem VR.str_inv {s : List UInt8} (h : VR M β (.str s) x) : x = .string ⟨s.toArray⟩ := by cases h with | one _ h => cases h; rfl | agg hm _ => cases hm
theorem VR.nilp_inv (h : VR M β .nilp x) : x = .pointer none := by cases h with | one _ h => cases h; rfl | agg hm _ => cases hm
theorem VR.nils_inv (h : VR M β .nils x) : x = .slice none 0 0 := by cases h with | one _ h => cases h; rfl | agg hm _ => cases hm
theorem VR.nilm_inv (h : VR M β .nilm x) : x = .map none := by cases h with | one _ h => cases h; rfl | agg hm _ => cases hm
theorem VR.ref_inv {o : Nat} {p : List Stp} (h : VR M β (.ref o p) x) : ∃ b κ, β o = some (b, κ) ∧ x = .pointer (some ⟨b, poff p, none⟩) := by cases h with | one _ h => cases h; exact ⟨_, _, by assumption, rfl⟩ | agg hm _ => cases hm
theorem VR.osl_inv {o sz lo len : Nat} {p : List Stp} (h : VR M β (.osl o p sz lo len) x) : ∃ b κ base cap, β o = some (b, κ) ∧ x = .slice base len cap ∧ len ≤ cap ∧ (p = [] → lo + cap ≤ κ) ∧ (cap = 0 ∨ base = some ⟨b, poff p + lo * sz, none⟩) := by
  cases h with | one _ h => cases h; exact ⟨_, _, _, _, by assumption, rfl, by assumption, by assumption, by assumption⟩ | agg hm _ => cases hm
theorem VR.sl_inv {c : AV} (h : VR M β (.sl c) x) : ∃ cc base cap, x = .slice base c.cnt cap ∧ RV M nob c cc ∧ c.isRow = true ∧ c.cnt ≤ cap ∧ (c.cnt = 0 ∨ ∃ b off, base = some ⟨b, off, none⟩ ∧ ∀ i v, cc[i]? = some v → M b (off + i) = some v) := by
  cases h with
  | one _ h =>
    cases h with
    | sl h hr hl hc hm => subst hl; exact ⟨_, _, _, rfl, h, hr, hc, hm⟩
  | agg hm _ => cases hm
theorem VR.pp_inv {c : AV} {p : List Stp} (h : VR M β (.pp c p) x) : ∃ cc b off, x = .pointer (some ⟨b, off + poff p, none⟩) ∧ RV M nob c cc ∧ ∀ i v, cc[i]? = some v → M b (off + i) = some v := by
  cases h with
  | one _ h => cases h with | pp h hm => exact ⟨_, _, _, rfl, h, hm⟩
  | agg hm _ => cases hm
theorem VR.fn_inv {f : Fn} {ps : List AV} (h : VR M β (.fn f ps) x) : ∃ xs, x = .func f #[] xs.toArray ∧ VRs M β ps xs := by
  cases h with
  | one _ h => cases h with | fn h => exact ⟨_, rfl, h⟩
  | agg hm _ => cases hm
theorem VR.tup_inv {vs : List AV} (h : VR M β (.tup vs) x) : ∃ xs, x = .tuple xs.toArray ∧ VRs M β vs xs := by
  cases h with
  | one _ h => cases h
  | agg _ h => cases h
  | tup h => exact ⟨_, rfl, h⟩
theorem VR.agg_inv {v : AV} (hm : v.multi = true) (ht : v.mem = true) (h : VR M β v x) : ∃ cs, x = .agg cs.toArray ∧ RV M β v cs := by
  cases h with
  | one h1 _ => rw [hm] at h1; cases h1
  | agg _ h => exact ⟨_, rfl, h⟩
  | tup _ => cases ht
  | junk => cases ht
theorem VR.one_inv {v : AV} (hm : v.multi = false) (ht : v.mem = true) (h : VR M β v x) : RV M β v [x] := by
  cases h with
  | one _ h => exact h
  | agg h1 _ => rw [hm] at h1; cases h1
  | tup _ => cases ht
  | junk => cases ht
end
end Go.Sy
