/- Regions whose order is open: the records. -/
import Derived.Test.YtnonjfknpajpaaaS26b
namespace Go.Sy
open Go
set_option linter.unusedSimpArgs false
set_option linter.unusedVariables false
section
variable {P : Program} {ops : Array Oper} {T0 : TT} {O0 : OO} {K : CK}

abbrev tt : Nat → Bool := fun _ => true
theorem contains_iff {l : List Nat} {o : Nat} : l.contains o = true ↔ o ∈ l := by simp
/-- One record more. -/
structure Here (ops : Array Oper) (T0 : TT) (O0 : OO) (pre : List Rec) (acc accB : List (Nat × List Nat)) (T : TT) (O : OO) (n : Nat) : Prop where
  acc : ∀ us o, o ∈ hidX acc us ↔ ∃ p ∈ pre, p.i ∈ us ∧ o ∈ p.W
  accB : ∀ q, q ∈ accB ↔ ∃ p ∈ pre, q = (p.i, p.B)
  eT : ∀ t, lk T t = lk (TS tt pre T0) t
  eO : ∀ o, lk O o = lk (OS tt pre O0) o
  lt : ∀ o ob, lk O o = some ob → o < n
  n' : ∀ p ∈ pre, p.n' ≤ n
  W : ∀ p ∈ pre, ∀ o ∈ p.W, o < n
theorem OS_tt_cons (r : Rec) (O : OO) : OS tt [r] O = updR r O := by simp [OS]
theorem Here.next {pre : List Rec} {acc accB : List (Nat × List Nat)} {T T' : TT} {O O' : OO} {n : Nat} (h : Here ops T0 O0 pre acc accB T O n) (r : Rec)
    (hT : ∀ t, lk T' t = lk (putT r.o.dst r.v T) t) (hO : ∀ o, lk O' o = if r.W.contains o = true then lk r.V' o else lk O o) (hlt : ∀ o ob, lk O' o = some ob → o < r.n') (hn : n ≤ r.n') (hW : ∀ o ∈ r.W, o < r.n') :
    Here ops T0 O0 (pre ++ [r]) ((r.i, r.W) :: acc) ((r.i, r.B) :: accB) T' O' r.n' := by
  refine ⟨fun us o => ?_, fun q => ?_, fun t => ?_, fun o => ?_, hlt, fun p hp => ?_, fun p hp o ho => ?_⟩
  · simp only [hidX]
    constructor
    · intro hm
      split at hm
      · rename_i e
        rcases List.mem_append.1 hm with hm | hm
        · exact ⟨r, by simp, by simpa using e, hm⟩
        · obtain ⟨p, hp, g⟩ := (h.acc us o).1 hm
          exact ⟨p, by simp [hp], g⟩
      · obtain ⟨p, hp, g⟩ := (h.acc us o).1 hm
        exact ⟨p, by simp [hp], g⟩
    · rintro ⟨p, hp, g1, g2⟩
      rcases List.mem_append.1 hp with hp | hp
      · have := (h.acc us o).2 ⟨p, hp, g1, g2⟩
        split
        · exact List.mem_append.2 (.inr this)
        · exact this
      · simp only [List.mem_singleton] at hp
        subst hp
        rw [if_pos (by simpa using g1)]
        exact List.mem_append.2 (.inl g2)
  · simp only [List.mem_cons, h.accB, List.mem_append, List.mem_nil_iff, or_false]
    constructor
    · rintro (rfl | ⟨p, hp, rfl⟩)
      · exact ⟨r, .inr rfl, rfl⟩
      · exact ⟨p, .inl hp, rfl⟩
    · rintro ⟨p, hp | rfl, rfl⟩
      · exact .inr ⟨p, hp, rfl⟩
      · exact .inl rfl
  · rw [hT, TS_append]
    simp only [TS, if_true]
    rw [lk_putT, lk_putT, h.eT]
  · rw [hO, OS_append, OS_tt_cons, lk_updR, h.eO]
  · rcases List.mem_append.1 hp with hp | hp
    · exact Nat.le_trans (h.n' p hp) hn
    · simp only [List.mem_singleton] at hp; subst hp; exact Nat.le_refl _
  · rcases List.mem_append.1 hp with hp | hp
    · exact Nat.lt_of_lt_of_le (h.W p hp o ho) hn
    · simp only [List.mem_singleton] at hp; subst hp; exact hW o ho
theorem okPlan_spec {accB : List (Nat × List Nat)} {i : Nat} {us : List Nat} {ld : Option (List Nat)} {pl : Plan} (h : okPlan ops accB ((i, us, ld) :: pl) = true) :
    ∃ o, ops[i]? = some o ∧ (∀ p ∈ accB, p.1 ≠ i) ∧ (∀ b, b ∈ accB.map (·.1) → b ∉ us → waits o b = true ∨ ∃ c ∈ accB, waits o c.1 = true ∧ b ∈ c.2) ∧
      (∀ e ∈ o.after, Region.binds .any e = true → e.on ∈ accB.map (·.1) ∧ e.on ∉ us) ∧ (∀ u, u ∈ accB.map (·.1) → u ∈ us → ∃ x, ops[u]? = some x ∧ x.apart ops o = true) ∧ (ld = none ∨ us = []) ∧
      okPlan ops ((i, (accB.map (·.1)).filter fun b => !us.contains b) :: accB) pl = true := by
  simp only [okPlan] at h
  split at h
  · cases h
  · rename_i o ho
    simp only [Bool.and_eq_true, Bool.not_eq_true', List.all_eq_true, Bool.or_eq_true, List.any_eq_true] at h
    obtain ⟨⟨⟨⟨⟨h1, h2⟩, h3⟩, h4⟩, h5⟩, h6⟩ := h
    refine ⟨o, ho, fun p hp e => ?_, fun b hb hu => ?_, fun e he hbd => ?_, fun u hu hus => ?_, ?_, h6⟩
    · have : (accB.map (·.1)).contains i = true := by simp only [contains_iff, List.mem_map]; exact ⟨p, hp, e⟩
      rw [h1] at this; cases this
    · rcases h2 b (List.mem_filter.2 ⟨hb, by simpa using hu⟩) with g | ⟨c, hc, g⟩
      · exact .inl g
      · exact .inr ⟨c, hc, g.1, by simpa using g.2⟩
    · have := (h3 e (by simpa using he)).resolve_left (by simp [hbd])
      simp only [contains_iff, List.mem_filter] at this
      exact ⟨this.1, by simpa using this.2⟩
    · have := (h4 u hu).resolve_left (by simpa using hus)
      split at this
      · rename_i x hx; exact ⟨x, hx, this⟩
      · cases this
    · rcases h5 with h5 | h5
      · exact .inl (by simpa using h5)
      · exact .inr (by simpa using h5)
theorem chain : ∀ (pl : Plan) (pre : List Rec) (acc accB : List (Nat × List Nat)) (T : TT) (O : OO) (n : Nat), Here ops T0 O0 pre acc accB T O n → (∀ p ∈ pre, ops[p.i]? = some p.o) → okPlan ops accB pl = true → vcWalk P ops.toList pl acc K T O n →
    ∃ rs Tf Of nf, K Tf Of nf ∧ (∀ l r post, rs = l ++ r :: post → RecOK P ops T0 O0 (pre ++ l) r ∧ n ≤ r.n ∧ r.n' ≤ nf) ∧ (∀ t, lk Tf t = lk (TS tt (pre ++ rs) T0) t) ∧ (∀ o, lk Of o = lk (OS tt (pre ++ rs) O0) o) ∧ n ≤ nf ∧
      ∀ j, j < ops.size → ∃ r ∈ pre ++ rs, r.i = j := by
  intro pl
  induction pl with
  | nil =>
    intro pre acc accB T O n hh _ hp h
    refine ⟨[], T, O, n, h, fun l r post e => by simp at e, by simpa using hh.eT, by simpa using hh.eO, Nat.le_refl _, fun j hj => ?_⟩
    simp only [okPlan, List.all_eq_true, List.mem_range, contains_iff] at hp
    obtain ⟨q, hq, rfl⟩ := List.mem_map.1 (hp j hj)
    obtain ⟨p, hp', rfl⟩ := (hh.accB q).1 hq
    exact ⟨p, by simpa using hp', rfl⟩
  | cons q pl ih =>
    obtain ⟨i, us, ld⟩ := q
    intro pre acc accB T O n hh hpo hp h
    obtain ⟨o, hio, hfr, hbef, hedge, hap, hld, hp'⟩ := okPlan_spec hp
    have hiol : ops.toList[i]? = some o := by simpa using hio
    simp only [vcWalk, hiol] at h
    have memA : ∀ b, b ∈ accB.map (·.1) ↔ ∃ p ∈ pre, p.i = b := fun b => by
      simp only [List.mem_map]
      constructor
      · rintro ⟨q, hq, rfl⟩
        obtain ⟨p, hp, rfl⟩ := (hh.accB q).1 hq
        exact ⟨p, hp, rfl⟩
      · rintro ⟨p, hp, rfl⟩
        exact ⟨_, (hh.accB _).2 ⟨p, hp, rfl⟩, rfl⟩
    -- the rest, behind a record
    have fin : ∀ (r : Rec) (T' : TT) (O' : OO), r.i = i → r.o = o → r.B = (accB.map (·.1)).filter (fun b => !us.contains b) → RecOK P ops T0 O0 pre r → n ≤ r.n → Here ops T0 O0 (pre ++ [r]) ((r.i, r.W) :: acc) ((r.i, r.B) :: accB) T' O' r.n' →
        vcWalk P ops.toList pl ((r.i, r.W) :: acc) K T' O' r.n' →
        ∃ rs Tf Of nf, K Tf Of nf ∧ (∀ l r post, rs = l ++ r :: post → RecOK P ops T0 O0 (pre ++ l) r ∧ n ≤ r.n ∧ r.n' ≤ nf) ∧ (∀ t, lk Tf t = lk (TS tt (pre ++ rs) T0) t) ∧ (∀ o, lk Of o = lk (OS tt (pre ++ rs) O0) o) ∧ n ≤ nf ∧
          ∀ j, j < ops.size → ∃ r ∈ pre ++ rs, r.i = j := by
      intro r T' O' e1 e2 e3 hr hn hh' hw
      obtain ⟨rs, Tf, Of, nf, k1, k2, k3, k4, k5, k6⟩ := ih (pre ++ [r]) _ _ T' O' r.n' hh' (fun p hp => by
        rcases List.mem_append.1 hp with hp | hp
        · exact hpo p hp
        · simp only [List.mem_singleton] at hp; subst hp; exact hr.op) (by rw [e3, e1]; exact hp') hw
      refine ⟨r :: rs, Tf, Of, nf, k1, fun l q post e => ?_, by simpa using k3, by simpa using k4, Nat.le_trans (Nat.le_trans hn hr.nle) k5, by simpa using k6⟩
      cases l with
      | nil =>
        simp only [List.nil_append, List.cons.injEq] at e
        obtain ⟨rfl, _⟩ := e
        exact ⟨by simpa using hr, hn, k5⟩
      | cons q' l =>
        simp only [List.cons_append, List.cons.injEq] at e
        obtain ⟨rfl, e⟩ := e
        obtain ⟨g1, g2, g3⟩ := k2 l q post e
        exact ⟨by simpa using g1, Nat.le_trans (Nat.le_trans hn hr.nle) g2, g3⟩
    -- what each record has
    have base : ∀ (r : Rec), r.i = i → r.us = us → r.o = o → r.B = (accB.map (·.1)).filter (fun b => !us.contains b) → r.n = n → r.loud = ld.isSome → r.n ≤ r.n' → (r.loud = false → ∀ o ∈ r.W, r.n ≤ o) → (∀ o ∈ r.W, o < r.n') →
        (∀ o, lk r.V o = if o ∈ hidX acc us then none else lk O o) → (∀ t, lk r.T t = lk T t) → (∀ o, o ∉ r.W → lk r.V' o = lk r.V o) →
        ((vcOp P r.o.op r.T r.V r.n (fun v V' n' => v = r.v ∧ V' = r.V' ∧ n' = r.n') ∧ (r.o.guard = none ∨ ∃ j want g, r.o.guard = some (j, want) ∧ (ops[j]?).bind (·.dst) = some g ∧ lk r.T g = some (.bool want))) ∨
          (r.v = .tup [] ∧ r.W = [] ∧ ∃ j want g u, r.o.guard = some (j, want) ∧ (ops[j]?).bind (·.dst) = some g ∧ lk r.T g = some u ∧ (u = .bool (!want) ∨ u = .tup []))) → RecOK P ops T0 O0 pre r := by
      intro r e1 e2 e3 e4 e5 e6 g1 g2 g3 g4 g5 g6 g7
      have inB : ∀ b, b ∈ r.B ↔ (∃ p ∈ pre, p.i = b) ∧ b ∉ us := fun b => by rw [e4, List.mem_filter, memA]; simp
      refine ⟨by rw [e1, e3]; exact hio, fun p hp => ?_, fun p hp => ?_, fun b hb => ?_, fun b hb => ((inB b).1 hb).1, fun e he hbd => ?_, fun p hp hu => ?_, fun hl p hp => ?_, g2, g3, g1, fun o' ob hl => ?_, fun t => by rw [g5]; exact hh.eT t, g6, fun p hp => by rw [e5]; exact hh.n' p hp, g7⟩
      · rw [e1]; exact hfr _ ((hh.accB _).2 ⟨p, hp, rfl⟩)
      · by_cases hu : p.i ∈ us
        · exact .inr (by rw [e2]; exact hu)
        · exact .inl ((inB _).2 ⟨⟨p, hp, rfl⟩, hu⟩)
      · obtain ⟨⟨p, hp, rfl⟩, hu⟩ := (inB b).1 hb
        rw [e3]
        rcases hbef _ ((memA _).2 ⟨p, hp, rfl⟩) hu with g | ⟨c, hc, g⟩
        · exact .inl g
        · obtain ⟨p', hp', rfl⟩ := (hh.accB c).1 hc
          exact .inr ⟨p', hp', g⟩
      · rw [e3] at he
        obtain ⟨h1, h2⟩ := hedge e he hbd
        exact (inB _).2 ⟨(memA _).1 h1, h2⟩
      · rw [e2] at hu
        obtain ⟨x, hx, ha⟩ := hap _ ((memA _).2 ⟨p, hp, rfl⟩) hu
        rw [hpo p hp] at hx; cases hx
        rw [e3]; exact ha
      · rw [e6] at hl
        rcases hld with h | h
        · rw [h] at hl; cases hl
        · exact (inB _).2 ⟨⟨p, hp, rfl⟩, by rw [h]; simp⟩
      · rw [g4] at hl
        split at hl
        · cases hl
        · rename_i hx
          refine ⟨by rw [← hh.eO]; exact hl, fun p hp hu hw => hx ?_, by rw [e5]; exact hh.lt _ _ hl⟩
          exact (hh.acc us o').2 ⟨p, hp, by rw [e2] at hu; exact hu, hw⟩
    -- an operation that is carried out
    have run : ∀ Tg : TT, (∀ t, lk Tg t = lk T t) → (o.guard = none ∨ ∃ j want g, o.guard = some (j, want) ∧ (ops[j]?).bind (·.dst) = some g ∧ lk Tg g = some (.bool want)) →
        wOp P o.op (hidX acc us) ld Tg O n (fun v O' n' W => vcWalk P ops.toList pl ((i, W) :: acc) K (putT o.dst v Tg) O' n') →
        ∃ rs Tf Of nf, K Tf Of nf ∧ (∀ l r post, rs = l ++ r :: post → RecOK P ops T0 O0 (pre ++ l) r ∧ n ≤ r.n ∧ r.n' ≤ nf) ∧ (∀ t, lk Tf t = lk (TS tt (pre ++ rs) T0) t) ∧ (∀ o, lk Of o = lk (OS tt (pre ++ rs) O0) o) ∧ n ≤ nf ∧
          ∀ j, j < ops.size → ∃ r ∈ pre ++ rs, r.i = j := by
      intro Tg hTg hgd h
      obtain ⟨V, h, hV⟩ := rmsO_spec h
      obtain ⟨R, h, hR⟩ := keepC_spec h
      obtain ⟨⟨v, V', n'⟩, ⟨⟨c1, c2, c3, c4⟩, hk⟩, hpt⟩ := vcOp_pt (P := P) (T := Tg) (O := V) (n := n) o.op (fun q => (sameC (touch V Tg ld) q.2.1 V ∧ newC (keys V) n q.2.2 q.2.1 ∧ ltC (touch V Tg ld) n ∧ n ≤ q.2.2) ∧
        vcWalk P ops.toList pl ((i, touch V Tg ld ++ rng n (q.2.2 - n)) :: acc) K (putT o.dst q.1 Tg) (q.2.1 ++ R) q.2.2) h
      have hrun := hpt (fun q => q.1 = v ∧ q.2.1 = V' ∧ q.2.2 = n') ⟨rfl, rfl, rfl⟩
      simp only at c1 c2 c3 c4 hk
      have hWlt : ∀ x ∈ touch V Tg ld ++ rng n (n' - n), x < n' := fun x hx => by
        rcases List.mem_append.1 hx with hx | hx
        · exact Nat.lt_of_lt_of_le (ltC_spec c3 x hx) c4
        · rw [mem_rng] at hx; omega
      have hsame : ∀ x, x ∉ touch V Tg ld ++ rng n (n' - n) → lk V' x = lk V x := fun x hx => by
        simp only [List.mem_append, not_or] at hx
        cases hl : lk V x with
        | some ob => exact sameC_spec c1 x ob hl hx.1
        | none =>
          cases hl' : lk V' x with
          | none => rfl
          | some ob =>
            exfalso
            rcases newC_spec c2 x ob hl' with g | g
            · rw [lk_none] at hl; exact hl g
            · exact hx.2 (mem_rng.2 (by omega))
      let r : Rec := ⟨i, us, o, Tg, n, V, v, V', n', touch V Tg ld ++ rng n (n' - n), (accB.map (·.1)).filter (fun b => !us.contains b), ld.isSome⟩
      have hrec : RecOK P ops T0 O0 pre r := base r rfl rfl rfl rfl rfl rfl c4 (fun hl x hx => by
          have hl : ld.isSome = false := hl
          have : ld = none := by cases ld <;> first | rfl | cases hl
          have hx : x ∈ touch V Tg ld ++ rng n (n' - n) := hx
          rw [this] at hx
          simp only [touch, List.nil_append, mem_rng] at hx
          exact hx.1) hWlt hV hTg hsame (.inl ⟨hrun, hgd⟩)
      refine fin r (putT o.dst v Tg) (V' ++ R) rfl rfl rfl hrec (Nat.le_refl _) (hh.next r (fun t => by rw [lk_putT, lk_putT, hTg]) (fun x => ?_) (fun x ob hl => ?_) c4 hWlt) hk
      · show lk (V' ++ R) x = if (touch V Tg ld ++ rng n (n' - n)).contains x = true then lk V' x else lk O x
        rw [lk_append]
        by_cases hx : x ∈ touch V Tg ld ++ rng n (n' - n)
        · rw [if_pos (by simpa using hx)]
          have hxX : lk R x = none := by
            rw [hR]
            by_cases hX : (hidX acc us).contains x = true
            · have hX2 : x ∈ hidX acc us := by simpa using hX
              obtain ⟨p, hp, hu, hw⟩ := (hh.acc us x).1 hX2
              rcases List.mem_append.1 hx with hx | hx
              · rcases hld with h | h
                · rw [h] at hx; simp [touch] at hx
                · rw [h] at hu; cases hu
              · rw [mem_rng] at hx
                have := hh.W p hp x hw
                omega
            · rw [if_neg hX]
          rw [hxX]
          cases lk V' x <;> rfl
        · rw [if_neg (by simpa using hx), hsame x hx, hV, hR]
          by_cases hX : x ∈ hidX acc us
          · rw [if_pos hX, if_pos (by simpa using hX)]
          · rw [if_neg hX, if_neg (by simpa using hX)]
            cases lk O x <;> rfl
      · rw [lk_append] at hl
        split at hl
        · rename_i y e
          rcases newC_spec c2 x y e with g | g
          · have : lk V x ≠ none := by rw [Ne, lk_none]; exact fun h => h g
            rw [hV] at this
            split at this
            · exact absurd rfl this
            · cases h0 : lk O x with
              | none => exact absurd h0 this
              | some ob0 => exact Nat.lt_of_lt_of_le (hh.lt _ _ h0) c4
          · exact g.2
        · rw [hR] at hl
          split at hl
          · exact Nat.lt_of_lt_of_le (hh.lt _ _ hl) c4
          · cases hl
    split at h
    · rename_i hg
      exact run T (fun _ => rfl) (.inl hg) h
    · rename_i j want hg
      have hgd : ∃ g u, (ops[j]?).bind (·.dst) = some g ∧ lk T g = some u ∧ ((u = .bool want ∧ wOp P o.op (hidX acc us) ld ((g, .bool want) :: T) O n fun v O' n' W => vcWalk P ops.toList pl ((i, W) :: acc) K (putT o.dst v ((g, .bool want) :: T)) O' n') ∨
          ∃ Tg : TT, (∀ t, lk Tg t = lk T t) ∧ (u = .bool (!want) ∨ u = .tup []) ∧ vcWalk P ops.toList pl ((i, []) :: acc) K (putT o.dst (.tup []) Tg) O n) := by
        unfold gdC at h
        split at h
        · exact h.elim
        · rename_i g hgg
          obtain ⟨v, hl, h⟩ := lkC_spec h
          refine ⟨g, v, by simpa using hgg, hl, ?_⟩
          split at h
          · rename_i b
            by_cases eb : b = want
            · subst eb; exact .inl ⟨rfl, h.1 rfl⟩
            · have e2 : b = !want := (by decide : ∀ x y : Bool, ¬ x = y → x = !y) b want eb
              refine .inr ⟨_, fun t => ?_, .inl (by rw [e2]), h.2 e2⟩
              simp only [lk]
              split
              · rename_i e3; subst e3; rw [hl, e2]
              · rfl
          · exact .inr ⟨T, fun _ => rfl, .inr rfl, h⟩
          · exact h.elim
      obtain ⟨g, u, hgj, hlb, ⟨rfl, h1⟩ | ⟨Tg, hTg, hu, h2⟩⟩ := hgd
      · refine run _ (fun t => ?_) (.inr ⟨j, want, g, hg, hgj, by simp [lk]⟩) h1
        simp only [lk]
        split
        · rename_i e2; subst e2; rw [hlb]
        · rfl
      · -- not carried out
        obtain ⟨V, _, hV⟩ := rmsO_spec (κ := fun _ => True) (os := hidX acc us) (O := O) (by
          have : ∀ (os : List Nat) (O : OO), rmsO O os fun _ => True := by
            intro os
            induction os with
            | nil => intro O; cases O <;> trivial
            | cons x os ih =>
              intro O
              have h0 : ∀ (O : OO) (κ : OO → Prop), (∀ O', κ O') → rmO O x κ := by
                intro O
                induction O with
                | nil => intro κ h; exact h _
                | cons p O ih2 =>
                  intro κ h
                  obtain ⟨y, ob⟩ := p
                  simp only [rmO]
                  split
                  · exact ih2 _ h
                  · exact ih2 _ fun O' => h _
              have := h0 O (fun O' => rmsO O' os fun _ => True) ih
              cases O <;> exact this
          exact this _ _)
        let r : Rec := ⟨i, us, o, Tg, n, V, .tup [], V, n, [], (accB.map (·.1)).filter (fun b => !us.contains b), ld.isSome⟩
        have hrec : RecOK P ops T0 O0 pre r := base r rfl rfl rfl rfl rfl rfl (Nat.le_refl _) (fun _ x hx => by cases hx) (fun x hx => by cases hx) hV hTg (fun _ _ => rfl) (.inr ⟨rfl, rfl, j, want, g, u, hg, hgj, by show lk Tg g = _; rw [hTg, hlb], hu⟩)
        exact fin r (putT o.dst (.tup []) Tg) O rfl rfl rfl hrec (Nat.le_refl _) (hh.next r (fun t => by rw [lk_putT, lk_putT, hTg]) (fun x => by
          show lk O x = if ([] : List Nat).contains x = true then lk V x else lk O x
          rw [if_neg (by simp)]) (fun x ob hl => hh.lt _ _ hl) (Nat.le_refl _) (fun x hx => by cases hx)) h2
end
end Go.Sy
