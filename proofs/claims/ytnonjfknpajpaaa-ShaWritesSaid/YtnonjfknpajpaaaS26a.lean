/- An operation looks at its operands alone; the frame of an operation. -/
import Derived.Test.YtnonjfknpajpaaaS25
namespace Go.Sy
open Go
set_option linter.unusedSimpArgs false
set_option linter.unusedVariables false
section
variable {E : Env} {N : Nat} {M M' M1 : Pool} {β β' β1 β2 : Bmap} {T T' : TT} {O O' O1 O2 J V V' : OO} {n : Nat} {a : Act} {w w' : World} {P : Program} {o : Oper}

theorem lkC_eq (T : TT) (t : Nat) (K : AV → Prop) : lkC T t K = match lk T t with | some v => K v | none => False := by
  induction T with
  | nil => rfl
  | cons p T ih =>
    obtain ⟨i, v⟩ := p
    simp only [lkC, lk]
    split
    · rfl
    · exact ih
theorem evC_congr {x : Operand} (h : ∀ t, x = .tmp t → lk T' t = lk T t) : evC T' x = evC T x := by
  funext K
  cases x with
  | tmp t => simp only [evC, lkC_eq, h t rfl]
  | _ => rfl
theorem evsC_congr {xs : List Operand} (h : ∀ x ∈ xs, evC T' x = evC T x) : evsC T' xs = evsC T xs := by
  induction xs with
  | nil => rfl
  | cons x xs ih =>
    funext K
    simp only [evsC, h x (by simp), ih fun y hy => h y (by simp [hy])]
theorem partsC_congr {ps : List (Nat × Operand)} (h : ∀ x ∈ ps.map (·.2), evC T' x = evC T x) : partsC T' ps = partsC T ps := by
  induction ps with
  | nil => rfl
  | cons p ps ih =>
    obtain ⟨j, x⟩ := p
    funext K
    simp only [partsC, h x (by simp), ih fun y hy => h y (by simp only [List.map_cons, List.mem_cons]; exact .inr hy)]
theorem optC_congr {x : Option Operand} (h : ∀ y, x = some y → evC T' y = evC T y) : optC T' x = optC T x := by
  funext K
  cases x with
  | none => rfl
  | some x => simp only [optC, h x rfl]
theorem vcOp_congr {op : Op} {κ : KK} (h : ∀ x ∈ op.operands.toList, evC T' x = evC T x) : vcOp P op T' O n κ = vcOp P op T O n κ := by
  cases op with
  | build t ps => simp only [vcOp, partsC_congr (T' := T') (T := T) (ps := ps.toList) (fun x hx => h x (by simpa [Op.operands] using hx))]
  | buildSlice t m ps => simp only [vcOp, partsC_congr (T' := T') (T := T) (ps := ps.toList) (fun x hx => h x (by simpa [Op.operands] using hx))]
  | makeFunc f fs cs => simp only [vcOp, evsC_congr (T' := T') (T := T) (xs := cs.toList) (fun x hx => h x (by simp [Op.operands] at hx ⊢; exact .inr hx))]
  | slice t x lo hi mx =>
    cases mx with
    | some _ => rfl
    | none =>
      simp only [vcOp, h x (by simp [Op.operands]), optC_congr (T' := T') (T := T) (x := lo) (fun y hy => h y (by simp [Op.operands, hy])), optC_congr (T' := T') (T := T) (x := hi) (fun y hy => h y (by simp [Op.operands, hy]))]
  | call c =>
    obtain ⟨callee, args, ats⟩ := c
    have ha := evsC_congr (T' := T') (T := T) (xs := args.toList) (fun x hx => h x (by simp [Op.operands, Call.operands] at hx ⊢; exact .inr hx))
    cases callee with
    | value f => simp only [vcOp, h f (by simp [Op.operands, Call.operands]), ha]
    | builtin b => simp only [vcOp, ha]
    | invoke x m => rfl
  | move x => simp only [vcOp, h x (by simp [Op.operands])]
  | assign x => simp only [vcOp, h x (by simp [Op.operands])]
  | pick c x y => simp only [vcOp, h c (by simp [Op.operands]), h x (by simp [Op.operands]), h y (by simp [Op.operands])]
  | alloc t => rfl
  | box t x => simp only [vcOp, h x (by simp [Op.operands])]
  | load t x => simp only [vcOp, h x (by simp [Op.operands])]
  | store t x y => simp only [vcOp, h x (by simp [Op.operands]), h y (by simp [Op.operands])]
  | nilCheck x => simp only [vcOp, h x (by simp [Op.operands])]
  | binOp op t x y t' => simp only [vcOp, h x (by simp [Op.operands]), h y (by simp [Op.operands])]
  | unOp op t x => simp only [vcOp, h x (by simp [Op.operands])]
  | convert q t x => simp only [vcOp, h x (by simp [Op.operands])]
  | makeSlice t x y => simp only [vcOp, h x (by simp [Op.operands]), h y (by simp [Op.operands])]
  | sliceToArrayPointer t x => simp only [vcOp, h x (by simp [Op.operands])]
  | fieldAddr s x f => simp only [vcOp, h x (by simp [Op.operands])]
  | field s x f => simp only [vcOp, h x (by simp [Op.operands])]
  | indexAddr t x i => simp only [vcOp, h x (by simp [Op.operands]), h i (by simp [Op.operands])]
  | index t x i => simp only [vcOp, h x (by simp [Op.operands]), h i (by simp [Op.operands])]
  | extract x i => simp only [vcOp, h x (by simp [Op.operands])]
  | _ => rfl

/-- A part of the objects, looked at alone. -/
theorem St.view (h : St E M β O w) (hV : ∀ o ob, lk V o = some ob → lk O o = some ob) (B0 : Bmap) (n0 : Nat) (ok : Nat → Prop) : St ⟨w, ownOf V β, M, B0, n0, ok⟩ M β V w :=
  ⟨h.pool, fun _ _ _ h => h, fun _ _ _ h => .inl h, fun o ob hl => h.objs _ _ (hV _ _ hl), fun o ob b κ hl hb hk => ⟨(h.mine _ _ _ _ (hV _ _ hl) hb hk).1, .inl ⟨o, ob, κ, hl, hb, hk⟩⟩,
    fun o o' ob ob' b κ κ' hl hl' => h.inj _ _ _ _ _ _ _ (hV _ _ hl) (hV _ _ hl'), Nat.le_refl _, fun _ _ _ => rfl, rfl, rfl, rfl⟩
/-- What was done to a part was done to the whole. -/
theorem St.frame (h : St E M β O w) (hV : ∀ o ob, lk V o = some ob → lk O o = some ob) {B0 : Bmap} {n0 : Nat} {ok : Nat → Prop} (h' : St ⟨w, ownOf V β, M, B0, n0, ok⟩ M' β' V' w') (hb : BLe β β')
    {O2 : OO} (hO2 : ∀ o ob, lk O2 o = some ob → lk V' o = some ob ∨ (lk O o = some ob ∧ lk V o = none)) : St E M' β' O2 w' := by
  have hMM : PLe M M' := h'.sub
  have mineO : ∀ b, ownOf V β b → (∀ i, M b i = none) ∧ (E.own b ∨ E.w0.heap.size ≤ b) := fun b ⟨o, ob, κ, h1, h2, h3⟩ => h.mine _ _ _ _ (hV _ _ h1) h2 h3
  have far : ∀ o ob b κ, lk O o = some ob → lk V o = none → β o = some (b, κ) → κ ≠ 0 → b < w.heap.size ∧ ¬ ownOf V β b := fun o ob b κ h1 h2 h3 h4 => by
    refine ⟨?_, ?_⟩
    · obtain ⟨b', κ', g1, g2⟩ := h.objs _ _ h1
      rw [h3] at g1; cases g1
      exact g2.lt h4
    · rintro ⟨o', ob', κ', g1, g2, g3⟩
      have := h.inj _ _ _ _ _ _ _ h1 (hV _ _ g1) h3 g2 h4 g3
      subst this
      rw [h2] at g1; cases g1
  have back : ∀ o ob b κ, lk O o = some ob → β' o = some (b, κ) → β o = some (b, κ) := fun o ob b κ h1 h2 => by
    obtain ⟨b', κ', g1, _⟩ := h.objs _ _ h1
    have := hb _ _ g1
    rw [h2] at this; cases this
    exact g1
  have cross : ∀ o ob o' ob' b κ κ', lk V' o = some ob → β' o = some (b, κ) → κ ≠ 0 → lk O o' = some ob' → lk V o' = none → β' o' = some (b, κ') → κ' ≠ 0 → False := fun o ob o' ob' b κ κ' h1 h2 h3 h4 h5 h6 h7 => by
    obtain ⟨g1, g2⟩ := far _ _ _ _ h4 h5 (back _ _ _ _ h4 h6) h7
    rcases (h'.mine _ _ _ _ h1 h2 h3).2 with g | g
    · exact g2 g
    · have g : w.heap.size ≤ b := g
      omega
  refine ⟨h'.pool, fun b i v hm => hMM _ _ _ (h.sub _ _ _ hm), fun b i v hm => ?_, fun o ob hl => ?_, fun o ob b κ hl hbo hk => ?_, fun o o' ob ob' b κ κ' hl hl' hbo hbo' hk hk' => ?_,
    Nat.le_trans h.size h'.size, fun b hb' hn => ?_, by rw [h'.os]; exact h.os, by rw [h'.tape]; exact h.tape, by rw [h'.output]; exact h.output⟩
  · rcases h'.only _ _ _ hm with g | g | g
    · exact h.only _ _ _ g
    · exact .inr (mineO b g).2
    · exact .inr (.inr (Nat.le_trans h.size g))
  · rcases hO2 _ _ hl with g | ⟨g1, g2⟩
    · exact h'.objs _ _ g
    · obtain ⟨b, κ, g3, g4⟩ := h.objs _ _ g1
      refine ⟨b, κ, hb _ _ g3, g4.mono2 hMM hb fun hk => ?_⟩
      obtain ⟨g5, g6⟩ := far _ _ _ _ g1 g2 g3 hk
      exact h'.keep b g5 g6
  · rcases hO2 _ _ hl with g | ⟨g1, g2⟩
    · obtain ⟨g3, g4⟩ := h'.mine _ _ _ _ g hbo hk
      refine ⟨g3, ?_⟩
      rcases g4 with g4 | g4
      · exact (mineO b g4).2
      · exact .inr (Nat.le_trans h.size g4)
    · have hbo := back _ _ _ _ g1 hbo
      obtain ⟨g3, g4⟩ := h.mine _ _ _ _ g1 hbo hk
      refine ⟨fun i => ?_, g4⟩
      cases hm : M' b i with
      | none => rfl
      | some v =>
        exfalso
        obtain ⟨g5, g6⟩ := far _ _ _ _ g1 g2 hbo hk
        rcases h'.only _ _ _ hm with g | g | g
        · have g : M b i = some v := g
          rw [g3] at g; cases g
        · exact g6 g
        · have g : w.heap.size ≤ b := g
          omega
  · rcases hO2 _ _ hl with g | ⟨g1, g2⟩
    · rcases hO2 _ _ hl' with g' | ⟨g1', g2'⟩
      · exact h'.inj _ _ _ _ _ _ _ g g' hbo hbo' hk hk'
      · exact (cross _ _ _ _ _ _ _ g hbo hk g1' g2' hbo' hk').elim
    · rcases hO2 _ _ hl' with g' | ⟨g1', g2'⟩
      · exact (cross _ _ _ _ _ _ _ g' hbo' hk' g1 g2 hbo hk).elim
      · exact h.inj _ _ _ _ _ _ _ g1 g1' (back _ _ _ _ g1 hbo) (back _ _ _ _ g1' hbo') hk hk'
  · rw [← h.keep b hb' hn]
    refine h'.keep b (Nat.lt_of_lt_of_le hb' h.size) fun hown => ?_
    rcases (mineO b hown).2 with g | g
    · exact hn g
    · omega
theorem lk_filter {α : Type} {O : List (Nat × α)} {q : Nat → Bool} {o : Nat} : lk (O.filter fun p => q p.1) o = if q o = true then lk O o else none := by
  induction O with
  | nil => simp [lk]
  | cons p O ih =>
    obtain ⟨i, v⟩ := p
    by_cases hq : q i = true
    · by_cases e : i = o
      · subst e; simp [List.filter_cons, lk, hq]
      · simp [List.filter_cons, lk, hq, e, ih]
    · by_cases e : i = o
      · subst e; simp [List.filter_cons, hq, ih]
      · simp [List.filter_cons, lk, hq, e, ih]
end
end Go.Sy
