/- The state through the operations: what stays, what is new. -/
import Derived.Test.YtnonjfknpajpaaaS5
namespace Go.Sy
open Go

section
variable {α : Type}
theorem lk_cons (i : Nat) (v : α) (T : List (Nat × α)) (t : Nat) : lk ((i, v) :: T) t = if i = t then some v else lk T t := rfl
end
theorem lkC_spec {T : TT} {t : Nat} {K : AV → Prop} (h : lkC T t K) : ∃ v, lk T t = some v ∧ K v := by
  induction T with
  | nil => exact h.elim
  | cons p T ih =>
    obtain ⟨i, v⟩ := p
    simp only [lkC] at h
    simp only [lk]
    split at h
    · rename_i e; exact ⟨v, by simp [e], h⟩
    · rename_i e; obtain ⟨u, hu, hk⟩ := ih h; exact ⟨u, by simp [e, hu], hk⟩
theorem objC_spec {O : OO} {o : Nat} {K : OB → Prop} (h : objC O o K) : ∃ v, lk O o = some v ∧ K v := by
  induction O with
  | nil => exact h.elim
  | cons p T ih =>
    obtain ⟨i, v⟩ := p
    simp only [objC] at h
    simp only [lk]
    split at h
    · rename_i e; exact ⟨v, by simp [e], h⟩
    · rename_i e; obtain ⟨u, hu, hk⟩ := ih h; exact ⟨u, by simp [e, hu], hk⟩
theorem rmO_spec : ∀ {O : OO} {o : Nat} {K : OO → Prop}, rmO O o K → ∃ O', K O' ∧ ∀ i, lk O' i = if i = o then none else lk O i := by
  intro O
  induction O with
  | nil => intro o K h; exact ⟨[], h, fun i => by simp [lk]⟩
  | cons p O ih =>
    intro o K h
    obtain ⟨j, ob⟩ := p
    simp only [rmO] at h
    split at h
    · rename_i e
      obtain ⟨O', hk, hl⟩ := ih h
      refine ⟨O', hk, fun i => ?_⟩
      rw [hl]
      simp only [lk]
      by_cases hi : i = o
      · simp [hi]
      · have : j ≠ i := by omega
        simp [hi, this]
    · rename_i e
      obtain ⟨O', hk, hl⟩ := ih h
      refine ⟨_, hk, fun i => ?_⟩
      simp only [lk, hl]
      by_cases hj : j = i
      · have : i ≠ o := by omega
        simp [hj, this]
      · simp [hj]
theorem updO_spec : ∀ {O : OO} {o : Nat} {p : List Stp} {v : AV} {K : OO → Prop}, updO O o p v K → ∃ ob K', lk O o = some ob ∧ updOB ob p v K' ∧
    ∀ ob', K' ob' → ∃ O', K O' ∧ ∀ i, lk O' i = if i = o then some ob' else lk O i := by
  intro O
  induction O with
  | nil => intro o p v K h; exact h.elim
  | cons q O ih =>
    intro o p v K h
    obtain ⟨j, ob⟩ := q
    simp only [updO] at h
    split at h
    · rename_i e
      subst e
      refine ⟨ob, _, by simp [lk], h, fun ob' hk => ⟨_, hk, fun i => ?_⟩⟩
      simp only [lk]
      by_cases hj : j = i
      · simp [hj]
      · simp [hj, Ne.symm hj]
    · rename_i e
      obtain ⟨ob0, K', h0, hu, hr⟩ := ih h
      refine ⟨ob0, K', by simp [lk, e, h0], hu, fun ob' hk => ?_⟩
      obtain ⟨O', hk', hl⟩ := hr ob' hk
      refine ⟨_, hk', fun i => ?_⟩
      simp only [lk, hl]
      by_cases hj : j = i
      · have : i ≠ o := by omega
        simp [hj, this]
      · simp [hj]

section
variable {E : Env} {N : Nat} {M : Pool} {β β' : Bmap} {T : TT} {O O' : OO} {n : Nat} {a : Act} {w w' : World} {P : Program}

theorem cell_of {b i : Nat} {v : Value} (h : w.cell? ⟨b, i, none⟩ = some v) : ∃ cs e fz, w.heap[b]? = some (.cells cs e fz) ∧ cs[i]? = some v := by
  simp only [World.cell?] at h
  split at h
  · rename_i c e f hc; exact ⟨c, e, f, hc, by simpa using h⟩
  · cases h
theorem cell_same {b i : Nat} (h : w'.heap[b]? = w.heap[b]?) : w'.cell? ⟨b, i, none⟩ = w.cell? ⟨b, i, none⟩ := by simp only [World.cell?, h]
theorem St.pool_lt (h : St E M β O w) {b i : Nat} {v : Value} (hm : M b i = some v) : b < w.heap.size := by
  obtain ⟨cs, e, fz, hb, _⟩ := cell_of (h.pool _ _ _ hm)
  exact (Array.getElem?_eq_some_iff.1 hb).1

theorem OR.mono {b κ : Nat} {ob : OB} (h : OR M β b κ w ob) (hb : BLe β β') (hw : κ ≠ 0 → w'.heap[b]? = w.heap[b]?) : OR M β' b κ w' ob := by
  cases ob with
  | var c =>
    obtain ⟨hk, hz, cs, e, fz, h1, h2, h3⟩ := h
    exact ⟨hk, hz, cs, e, fz, by rw [hw hk]; exact h1, h2, h3.mono (PLe.refl _) hb⟩
  | row c =>
    obtain ⟨hr, hz, h⟩ := h
    refine ⟨hr, hz, ?_⟩
    rcases h with ⟨hk, hc, h⟩ | ⟨hk, cc, sp, e, fz, h1, h2, h3, h4⟩
    · exact .inl ⟨hk, hc, h.mono (PLe.refl _) hb⟩
    · exact .inr ⟨hk, cc, sp, e, fz, by rw [hw hk]; exact h1, h2, h3.mono (PLe.refl _) hb, h4⟩
  | map ks =>
    obtain ⟨hk, es, cl, h1, h2, h3, h4⟩ := h
    exact ⟨hk, es, cl, by rw [hw hk]; exact h1, h2, h3.mono (PLe.refl _) hb, h4.mono (PLe.refl _) hb⟩
theorem OR.lt {b κ : Nat} {ob : OB} (h : OR M β b κ w ob) (hk : κ ≠ 0) : b < w.heap.size := by
  cases ob with
  | var c => obtain ⟨_, _, cs, e, fz, h1, _⟩ := h; exact (Array.getElem?_eq_some_iff.1 h1).1
  | row c =>
    obtain ⟨_, _, h⟩ := h
    rcases h with ⟨h0, _⟩ | ⟨_, cc, sp, e, fz, h1, _⟩
    · exact absurd h0 hk
    · exact (Array.getElem?_eq_some_iff.1 h1).1
  | map ks => obtain ⟨_, es, cl, h1, _⟩ := h; exact (Array.getElem?_eq_some_iff.1 h1).1

/-- The state a step later: blocks in `X` may have turned, blocks may be new. -/
theorem St.next (h : St E M β O w) (hbl : BLe β β') (hsz : w.heap.size ≤ w'.heap.size) (X : Nat → Prop) (hX : ∀ b, X b → (∀ i, M b i = none) ∧ (E.own b ∨ E.w0.heap.size ≤ b))
    (hheap : ∀ b, b < w.heap.size → ¬ X b → w'.heap[b]? = w.heap[b]?) (hos : w'.os = w.os) (ht : w'.tape = w.tape) (ho : w'.output = w.output)
    (hO : ∀ o ob, lk O' o = some ob → (lk O o = some ob ∧ ∀ b κ, β o = some (b, κ) → κ ≠ 0 → ¬ X b) ∨ (∃ b κ, β' o = some (b, κ) ∧ OR M β' b κ w' ob ∧ (κ ≠ 0 → X b ∨ w.heap.size ≤ b)))
    (hinj : ∀ o o' ob ob' b κ κ', lk O' o = some ob → lk O' o' = some ob' → β' o = some (b, κ) → β' o' = some (b, κ') → κ ≠ 0 → κ' ≠ 0 → o = o') : St E M β' O' w' := by
  have nX : ∀ b i v, M b i = some v → ¬ X b := fun b i v hm hx => by rw [(hX b hx).1 i] at hm; cases hm
  refine ⟨fun b i v hm => ?_, h.sub, h.only, fun o ob hl => ?_, fun o ob b κ hl hb hk => ?_, hinj, Nat.le_trans h.size hsz, fun b hb hn => ?_, by rw [hos, h.os], by rw [ht, h.tape], by rw [ho, h.output]⟩
  · rw [cell_same (hheap b (h.pool_lt hm) (nX _ _ _ hm))]; exact h.pool _ _ _ hm
  · rcases hO o ob hl with ⟨h1, h2⟩ | ⟨b, κ, h1, h2, _⟩
    · obtain ⟨b, κ, hb, hor⟩ := h.objs o ob h1
      exact ⟨b, κ, hbl _ _ hb, hor.mono hbl fun hk => hheap b (hor.lt hk) (h2 b κ hb hk)⟩
    · exact ⟨b, κ, h1, h2⟩
  · rcases hO o ob hl with ⟨h1, h2⟩ | ⟨b', κ', h1, h2, h3⟩
    · obtain ⟨b', κ', hb', _⟩ := h.objs o ob h1
      have := hbl _ _ hb'
      rw [this] at hb; cases hb
      exact h.mine o ob b κ h1 hb' hk
    · rw [h1] at hb; cases hb
      rcases h3 hk with hx | hx
      · exact hX _ hx
      · refine ⟨fun i => ?_, .inr (Nat.le_trans h.size hx)⟩
        cases hm : M b i with
        | none => rfl
        | some v => exact absurd (h.pool_lt hm) (by omega)
  · have hx : ¬ X b := fun hx => by
      rcases (hX b hx).2 with h1 | h1
      · exact hn h1
      · omega
    rw [hheap b (Nat.lt_of_lt_of_le hb h.size) hx]
    exact h.keep b hb hn

def updB (β : Bmap) (n : Nat) (x : Nat × Nat) : Bmap := fun o => if o = n then some x else β o
theorem updB_le (hn : β n = none) (x : Nat × Nat) : BLe β (updB β n x) := fun o y h => by
  unfold updB
  split
  · rename_i e; subst e; rw [hn] at h; cases h
  · exact h
@[simp] theorem updB_same (β : Bmap) (n : Nat) (x : Nat × Nat) : updB β n x n = some x := by simp [updB]

/-- A new block. -/
theorem St.alloc (h : St E M β O w) (hn : β n = none) (b κ : Nat) (x : Obj) (ob : OB) (hb : κ ≠ 0 → b = w.heap.size) (hor : OR M (updB β n (b, κ)) b κ (w.alloc x) ob) :
    St E M (updB β n (b, κ)) ((n, ob) :: O) (w.alloc x) := by
  have hbl := updB_le hn (b, κ)
  have key : ∀ o' ob' b' κ', lk ((n, ob) :: O) o' = some ob' → o' ≠ n → updB β n (b, κ) o' = some (b', κ') → κ' ≠ 0 → b' < w.heap.size := by
    intro o' ob' b' κ' hl hne hb' hk
    simp only [lk, if_neg (Ne.symm hne)] at hl
    obtain ⟨b2, κ2, h2, hor2⟩ := h.objs _ _ hl
    rw [hbl _ _ h2] at hb'; cases hb'
    exact hor2.lt hk
  refine h.next hbl (by simp) (fun _ => False) (fun _ hx => hx.elim) (fun c hc _ => ?_) rfl rfl rfl (fun o ob' hl => ?_) ?_
  · show (w.heap.push x)[c]? = _
    rw [Array.getElem?_push, if_neg (by omega)]
  · simp only [lk] at hl
    split at hl
    · rename_i e; subst e; cases hl
      exact .inr ⟨b, κ, by simp, hor, fun hk => .inr (by rw [hb hk]; exact Nat.le_refl _)⟩
    · exact .inl ⟨hl, fun _ _ _ _ hx => hx⟩
  · intro o o' ob1 ob2 b' κ1 κ2 h1 h2 e1 e2 k1 k2
    by_cases c1 : o = n
    · by_cases c2 : o' = n
      · omega
      · subst c1
        simp only [updB_same, Option.some.injEq, Prod.mk.injEq] at e1
        obtain ⟨rfl, rfl⟩ := e1
        have := key o' ob2 b κ2 h2 c2 e2 k2
        rw [hb k1] at this; omega
    · by_cases c2 : o' = n
      · subst c2
        simp only [updB_same, Option.some.injEq, Prod.mk.injEq] at e2
        obtain ⟨rfl, rfl⟩ := e2
        have := key o ob1 b κ1 h1 c1 e1 k1
        rw [hb k2] at this; omega
      · have u1 : updB β n (b, κ) o = β o := by simp [updB, c1]
        have u2 : updB β n (b, κ) o' = β o' := by simp [updB, c2]
        rw [u1] at e1; rw [u2] at e2
        simp only [lk, if_neg (Ne.symm c1)] at h1
        simp only [lk, if_neg (Ne.symm c2)] at h2
        exact h.inj _ _ _ _ _ _ _ h1 h2 e1 e2 k1 k2
end
end Go.Sy
