/- Calls: the callee's view of the caller's state, and back (the rule). -/
import Derived.Test.YtnonjfknpajpaaaS19
namespace Go.Sy
open Go
set_option linter.unusedSimpArgs false
set_option linter.unusedVariables false
section
variable {E : Env} {N : Nat} {M M' M1 : Pool} {β β' β1 : Bmap} {T : TT} {O O' O1 O2 : OO} {n : Nat} {a : Act} {w w' : World} {P : Program} {o : Oper} {K : KK}

theorem OR.mono2 {b κ : Nat} {ob : OB} (h : OR M β b κ w ob) (hM : PLe M M') (hb : BLe β β') (hw : κ ≠ 0 → w'.heap[b]? = w.heap[b]?) : OR M' β' b κ w' ob := by
  cases ob with
  | var c =>
    obtain ⟨hk, hz, cs, e, fz, h1, h2, h3⟩ := h
    exact ⟨hk, hz, cs, e, fz, by rw [hw hk]; exact h1, h2, h3.mono hM hb⟩
  | row c =>
    obtain ⟨hr, hz, h⟩ := h
    refine ⟨hr, hz, ?_⟩
    rcases h with ⟨hk, hc, h⟩ | ⟨hk, cc, sp, e, fz, h1, h2, h3, h4⟩
    · exact .inl ⟨hk, hc, h.mono hM hb⟩
    · exact .inr ⟨hk, cc, sp, e, fz, by rw [hw hk]; exact h1, h2, h3.mono hM hb, h4⟩
  | map ks =>
    obtain ⟨hk, es, cl, h1, h2, h3, h4⟩ := h
    exact ⟨hk, es, cl, by rw [hw hk]; exact h1, h2, h3.mono hM hb, h4.mono hM hb⟩
theorem OR.pf {b κ : Nat} {ob : OB} (h : OR M β b κ w ob) (hp : ob.pf = true) (M' : Pool) : OR M' β b κ w ob := by
  cases ob with
  | var c =>
    obtain ⟨hk, hz, cs, e, fz, h1, h2, h3⟩ := h
    exact ⟨hk, hz, cs, e, fz, h1, h2, pf_aux.1 h3 hp _⟩
  | row c =>
    obtain ⟨hr, hz, h⟩ := h
    refine ⟨hr, hz, ?_⟩
    rcases h with ⟨hk, hc, h⟩ | ⟨hk, cc, sp, e, fz, h1, h2, h3, h4⟩
    · exact .inl ⟨hk, hc, pf_aux.1 h hp _⟩
    · exact .inr ⟨hk, cc, sp, e, fz, h1, h2, pf_aux.1 h3 hp _, h4⟩
  | map ks =>
    obtain ⟨hk, es, cl, h1, h2, h3, h4⟩ := h
    simp only [OB.pf, Bool.and_eq_true] at hp
    exact ⟨hk, es, cl, h1, h2, pf_aux.2.2.2 h3 hp.1 _, pf_aux.2.2.2 h4 hp.2 _⟩

/-- An object, renamed. -/
def RenB (σ : List (Nat × Nat)) (ob ob' : OB) : Prop := ∀ {M : Pool} {β1 β : Bmap} {b κ : Nat} {w : World}, Agr σ β1 β → (OR M β1 b κ w ob ↔ OR M β b κ w ob')
theorem renOB_spec {σ : List (Nat × Nat)} {ob : OB} {κ : OB → Prop} (h : renOB σ ob κ) : ∃ ob', κ ob' ∧ RenB σ ob ob' := by
  cases ob with
  | var c =>
    obtain ⟨c', hk, hr⟩ := renC_spec σ c _ h
    refine ⟨_, hk, fun ha => ?_⟩
    simp only [OR, hr.csz]
    exact ⟨fun ⟨h1, h2, cs, e, fz, h3, h4, h5⟩ => ⟨h1, h2, cs, e, fz, h3, h4, (hr.rv ha).1 h5⟩, fun ⟨h1, h2, cs, e, fz, h3, h4, h5⟩ => ⟨h1, h2, cs, e, fz, h3, h4, (hr.rv ha).2 h5⟩⟩
  | row c =>
    obtain ⟨c', hk, hr⟩ := renC_spec σ c _ h
    refine ⟨_, hk, fun ha => ?_⟩
    simp only [OR, hr.row, hr.esz, hr.cnt]
    constructor
    · rintro ⟨h1, h2, h⟩
      refine ⟨h1, h2, ?_⟩
      rcases h with ⟨hk, hc, h⟩ | ⟨hk, cc, sp, e, fz, h1, h2, h3, h4⟩
      · exact .inl ⟨hk, hc, (hr.rv ha).1 h⟩
      · exact .inr ⟨hk, cc, sp, e, fz, h1, h2, (hr.rv ha).1 h3, h4⟩
    · rintro ⟨h1, h2, h⟩
      refine ⟨h1, h2, ?_⟩
      rcases h with ⟨hk, hc, h⟩ | ⟨hk, cc, sp, e, fz, h1, h2, h3, h4⟩
      · exact .inl ⟨hk, hc, (hr.rv ha).2 h⟩
      · exact .inr ⟨hk, cc, sp, e, fz, h1, h2, (hr.rv ha).2 h3, h4⟩
  | map ks =>
    obtain ⟨as, h, ha1⟩ := rensC_spec σ _ _ h
    obtain ⟨bs, hk, hb1⟩ := rensC_spec σ _ _ h
    have l1 : as.length = ks.length := by rw [ha1.len]; simp
    have l2 : bs.length = ks.length := by rw [hb1.len]; simp
    have e1 : (as.zip bs).map (·.1) = as := by rw [List.map_fst_zip (by omega)]
    have e2 : (as.zip bs).map (·.2) = bs := by rw [List.map_snd_zip (by omega)]
    refine ⟨_, hk, fun ha => ?_⟩
    have e3 : (as.zip bs).length = ks.length := by simp; omega
    simp only [OR, e1, e2, e3]
    exact ⟨fun ⟨h1, es, cl, h2, h3, h4, h5⟩ => ⟨h1, es, cl, h2, h3, (ha1.vr ha).1 h4, (hb1.vr ha).1 h5⟩, fun ⟨h1, es, cl, h2, h3, h4, h5⟩ => ⟨h1, es, cl, h2, h3, (ha1.vr ha).2 h4, (hb1.vr ha).2 h5⟩⟩
theorem renOO_spec {σ : List (Nat × Nat)} : ∀ {O : OO} {κ : OO → Prop}, renOO σ O κ → ∃ L, κ L ∧ ∀ q ∈ L, ∃ p ∈ O, lk σ p.1 = some q.1 ∧ RenB σ p.2 q.2 := by
  intro O
  induction O with
  | nil => intro κ h; exact ⟨[], h, by simp⟩
  | cons p O ih =>
    intro κ h
    obtain ⟨o, ob⟩ := p
    obtain ⟨o', hl, h⟩ := idC_spec h
    obtain ⟨ob', h, hr⟩ := renOB_spec h
    obtain ⟨L, hk, hL⟩ := ih h
    refine ⟨_, hk, fun q hq => ?_⟩
    rcases List.mem_cons.1 hq with rfl | hq
    · exact ⟨(o, ob), by simp, hl, hr⟩
    · obtain ⟨p, hp, g⟩ := hL q hq
      exact ⟨p, by simp [hp], g⟩
theorem lk_mem {α : Type} {O : List (Nat × α)} {o : Nat} {ob : α} (h : lk O o = some ob) : (o, ob) ∈ O := by
  induction O with
  | nil => cases h
  | cons p O ih =>
    obtain ⟨i, v⟩ := p
    simp only [lk] at h
    split at h
    · rename_i e; subst e; cases h; simp
    · simp [ih h]
theorem lk_of_mem {α : Type} {O : List (Nat × α)} {o : Nat} {ob : α} (hn : (O.map (·.1)).Nodup) (h : (o, ob) ∈ O) : lk O o = some ob := by
  induction O with
  | nil => cases h
  | cons p O ih =>
    obtain ⟨i, v⟩ := p
    simp only [List.map_cons, List.nodup_cons] at hn
    simp only [lk]
    rcases List.mem_cons.1 h with e | h
    · cases e; simp
    · have : i ≠ o := by
        rintro rfl
        exact hn.1 (List.mem_map.2 ⟨_, h, rfl⟩)
      rw [if_neg this]
      exact ih hn.2 h
theorem lk_none {α : Type} {O : List (Nat × α)} {o : Nat} : lk O o = none ↔ o ∉ O.map (·.1) := by
  induction O with
  | nil => simp [lk]
  | cons p O ih =>
    obtain ⟨i, v⟩ := p
    simp only [lk, List.map_cons, List.mem_cons, not_or]
    split
    · rename_i e; subst e; simp
    · rename_i e; rw [ih]; simp [Ne.symm e]
theorem lk_append {α : Type} {O O' : List (Nat × α)} {o : Nat} : lk (O ++ O') o = match lk O o with | some x => some x | none => lk O' o := by
  induction O with
  | nil => rfl
  | cons p O ih =>
    obtain ⟨i, v⟩ := p
    simp only [List.cons_append, lk]
    split
    · rfl
    · exact ih
theorem rmsO_spec : ∀ {os : List Nat} {O : OO} {κ : OO → Prop}, rmsO O os κ → ∃ O', κ O' ∧ ∀ i, lk O' i = if i ∈ os then none else lk O i := by
  intro os
  induction os with
  | nil => intro O κ h; cases O <;> exact ⟨_, h, by simp⟩
  | cons x os ih =>
    intro O κ h
    have h' : rmO O x fun O' => rmsO O' os κ := by cases O <;> exact h
    obtain ⟨O1, h, h1⟩ := rmO_spec h'
    obtain ⟨O2, hk, h2⟩ := ih h
    refine ⟨O2, hk, fun i => ?_⟩
    rw [h2, h1]
    by_cases e1 : i ∈ os
    · simp [e1]
    · by_cases e2 : i = x <;> simp [e1, e2]
theorem holdsO_spec {σ : List (Nat × Nat)} : ∀ {O1 : OO}, holdsO O σ O1 → ∀ p ∈ O1, ∃ o' ob', lk σ p.1 = some o' ∧ lk O o' = some ob' ∧ RenB σ p.2 ob' := by
  intro O1
  induction O1 with
  | nil => intro _ p hp; cases hp
  | cons q O1 ih =>
    intro h p hp
    obtain ⟨o, ob⟩ := q
    obtain ⟨h1, h2⟩ := h
    rcases List.mem_cons.1 hp with rfl | hp
    · obtain ⟨o', hl, h1⟩ := idC_spec h1
      obtain ⟨ob', hl', h1⟩ := objC_spec h1
      obtain ⟨ob'', e, hr⟩ := renOB_spec h1
      subst e
      exact ⟨o', _, hl, hl', hr⟩
    · exact ih h2 p hp
theorem homesOK_spec {σ τ : List (Nat × Nat)} {n n' : Nat} : ∀ {O' : OO}, homesOK σ τ O1 n n' O' → ∀ p ∈ O', ∃ o', lk τ p.1 = some o' ∧ ((n ≤ o' ∧ o' < n') ∨ ∃ c, lk O1 p.1 = some (.var c) ∧ lk σ p.1 = some o') := by
  intro O'
  induction O' with
  | nil => intro _ p hp; cases hp
  | cons q O' ih =>
    intro h p hp
    obtain ⟨o, ob⟩ := q
    obtain ⟨h1, h2⟩ := h
    rcases List.mem_cons.1 hp with rfl | hp
    · obtain ⟨o', hl, h1⟩ := idC_spec h1
      refine ⟨o', hl, h1.imp id ?_⟩
      rintro ⟨h3, h4⟩
      obtain ⟨ob', h5, c, rfl⟩ := objC_spec h3
      obtain ⟨o'', h6, rfl⟩ := idC_spec h4
      exact ⟨c, h5, h6⟩
    · exact ih h2 p hp

/-! The callee may read own memory that the caller keeps. -/
structure Vw (M M1 : Pool) (β : Bmap) (v c : AV) : Prop where
  csz : c.csz = v.csz
  multi : c.multi = v.multi
  row : c.isRow = v.isRow
  cnt : c.cnt = v.cnt
  esz : c.esz = v.esz
  rv : ∀ {cs : List Value}, RV M β v cs → RV M1 nob c cs
  vr : ∀ {x : Value}, VR M β v x → VR M1 nob c x
theorem Vw.of_nid {v : AV} (h : v.nid = true) (hM : PLe M M1) : Vw M M1 β v v := ⟨rfl, rfl, rfl, rfl, rfl, fun g => (g.nid h nob).mono hM (BLe.refl _), fun g => (g.nid h nob).mono hM (BLe.refl _)⟩
theorem viewC_spec (hst : St E M β O w) (hM : PLe M M1) (hO2 : ∀ o ob, lk O2 o = some ob → lk O o = some ob) (hcell : ∀ o ob b κ, lk O2 o = some ob → β o = some (b, κ) → κ ≠ 0 → ∀ i v, w.cell? ⟨b, i, none⟩ = some v → M1 b i = some v) :
    ∀ (f : Nat) (v : AV) (κ : AV → Prop), viewC O2 f v κ → ∃ c, κ c ∧ Vw M M1 β v c := by
  intro f
  induction f with
  | zero =>
    intro v κ h
    cases v <;> first | exact h.elim | exact ⟨_, h, .of_nid rfl hM⟩
  | succ f ih =>
    have vs : ∀ (ps : List AV) (κ : List AV → Prop), viewC.views (viewC O2 f) ps κ → ∃ qs, κ qs ∧ qs.length = ps.length ∧ AV.cszs qs = AV.cszs ps ∧ (∀ sz, (∀ p ∈ ps, p.csz = sz) → ∀ p ∈ qs, p.csz = sz) ∧ ∀ {cs : List Value}, RVs M β ps cs → RVs M1 nob qs cs := by
      intro ps
      induction ps with
      | nil => intro κ h; exact ⟨[], h, rfl, rfl, fun _ h => h, fun g => by cases g; exact .nil⟩
      | cons p ps ih2 =>
        intro κ h
        obtain ⟨q, h, hq⟩ := ih _ _ h
        obtain ⟨qs, h, l, z, al, g⟩ := ih2 _ h
        refine ⟨_, h, by simp [l], by simp only [AV.cszs, z, hq.csz], fun sz hs => ?_, fun g' => ?_⟩
        · simp only [List.mem_cons, forall_eq_or_imp] at hs ⊢
          exact ⟨by rw [hq.csz]; exact hs.1, al sz hs.2⟩
        · cases g' with | cons g1 g2 => exact .cons (hq.rv g1) (g g2)
    intro v κ h
    cases v with
    | osl o p sz lo len =>
      obtain ⟨ob, hl, h⟩ := objC_spec h
      obtain ⟨c, hc, h⟩ := obC_spec h
      obtain ⟨q, h, hq⟩ := nav_spec _ _ _ h
      obtain ⟨hsz, h⟩ := h
      obtain ⟨r, h, r1, r2, r3, r4, _, r5⟩ := subC_spec h
      obtain ⟨r', ⟨k1, k2, hk⟩, hr'⟩ := ih _ _ h
      have key : ∀ {cs : List Value}, RV M β (.osl o p sz lo len) cs → RV M1 nob (.sl r') cs := fun g => by
        cases g with
        | @osl _ _ b κ0 _ _ _ _ cap base hb hcap hkk ha =>
          obtain ⟨cc, hcc, hca⟩ := hst.cells (hO2 _ _ hl) hb hc
          obtain ⟨_, g1⟩ := hq hcc
          obtain ⟨_, g2⟩ := r5 g1
          have g3 := hr'.rv g2
          refine .sl g3 k1 k2 hcap ?_
          rcases ha with ha | ha
          · exact .inl (by omega)
          · refine .inr ⟨b, _, ha, fun i v hv => ?_⟩
            have hv2 : cc[poff p + lo * sz + i]? = some v := by
              simp only [piece, List.getElem?_take, List.getElem?_drop] at hv
              split at hv
              · split at hv
                · rw [hsz, Nat.add_assoc]; exact hv
                · cases hv
              · cases hv
            have hk0 : κ0 ≠ 0 := by
              rintro rfl
              obtain ⟨b', κ', hb', hor⟩ := hst.objs _ _ (hO2 _ _ hl)
              rw [hb] at hb'; cases hb'
              cases ob with
              | var c' => exact hor.1 rfl
              | map ks => exact hor.1 rfl
              | row c' =>
                obtain rfl : c' = c := hc
                obtain ⟨_, _, hor⟩ := hor
                rcases hor with ⟨_, _, h3⟩ | ⟨hk0, _⟩
                · have e0 := h3.length
                  have e1 := hcc.length
                  simp only [List.length_nil] at e0
                  rw [List.getElem?_eq_none (by omega)] at hv2
                  cases hv2
                · exact hk0 rfl
            refine hcell _ _ _ _ hl hb hk0 _ _ ?_
            have := hca _ _ hv2
            rwa [Nat.zero_add] at this
      exact ⟨_, hk, rfl, rfl, rfl, rfl, rfl, key, fun g => .one rfl (key (g.one_inv rfl rfl))⟩
    | agg ps =>
      obtain ⟨qs, hk, l, z, al, g⟩ := vs _ _ h
      have key : ∀ {cs : List Value}, RV M β (.agg ps) cs → RV M1 nob (.agg qs) cs := fun g' => by cases g' with | agg g' => exact .agg (g g')
      exact ⟨_, hk, by simp only [AV.csz, z], rfl, rfl, rfl, rfl, key, fun g' => by obtain ⟨cs, rfl, g2⟩ := g'.agg_inv rfl rfl; exact .agg rfl (key g2)⟩
    | arr sz ps =>
      obtain ⟨qs, hk, l, z, al, g⟩ := vs _ _ h
      have key : ∀ {cs : List Value}, RV M β (.arr sz ps) cs → RV M1 nob (.lst sz qs.length qs) cs := fun g' => by cases g' with | arr g' hs => exact .lst (g g') (al _ hs) rfl
      exact ⟨_, hk, by simp only [AV.csz, l], rfl, rfl, by simp only [AV.cnt, l], rfl, key, fun g' => by obtain ⟨cs, rfl, g2⟩ := g'.agg_inv rfl rfl; exact .agg rfl (key g2)⟩
    | _ => first | exact h.elim | exact ⟨_, h, .of_nid rfl hM⟩
end
end Go.Sy
