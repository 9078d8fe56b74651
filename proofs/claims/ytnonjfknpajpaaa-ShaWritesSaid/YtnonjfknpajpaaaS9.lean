/- Equality, conversions, fields, elements: operations that leave memory alone. -/
import Derived.Test.YtnonjfknpajpaaaS8
namespace Go.Sy
open Go
set_option linter.unusedSimpArgs false
set_option linter.unusedVariables false
section
variable {E : Env} {N : Nat} {M : Pool} {β β' : Bmap} {T : TT} {O O' : OO} {n : Nat} {a : Act} {w w' : World} {P : Program} {o : Oper} {K : KK}

theorem eqEs_ints (d : Nat) (e : TypeId) (k : IntKind) (hk : (Ty.int k).ok P e) : ∀ (m i : Nat) (xs ys : List Int), i + m = xs.length → xs.length = ys.length →
    (eqEs (d + 1) e 1 (xs.map (Value.int k)).toArray (ys.map (Value.int k)).toArray (List.range' i m)).run P w = .ok (decide (xs.drop i = ys.drop i)) w := by
  have hp : ∀ (zs : List Int) (i : Nat) (h : i < zs.length), (part e (zs.map (Value.int k)).toArray (i * 1)).run P w = .ok (.int k zs[i]) w := fun zs i h => by
    have e2 : (zs.map (Value.int k)).toArray[i]? = some (.int k zs[i]) := by simp [h]
    simp only [part, Sem.run_bind, r_isAgg hk, Result.andThen_ok, Nat.mul_one, Ty.multi, e2, Bool.false_eq_true, if_false]
    rfl
  intro m
  induction m with
  | zero =>
    intro i xs ys h1 h2
    simp only [List.range'_zero, eqEs]
    rw [List.drop_of_length_le (by omega), List.drop_of_length_le (by omega)]
    simp
  | succ m ih =>
    intro i xs ys h1 h2
    have i1 : i < xs.length := by omega
    have i2 : i < ys.length := by omega
    simp only [List.range'_succ, eqEs, Sem.run_bind, hp xs i i1, hp ys i i2, Result.andThen_ok]
    simp only [Op.equalIn, Sem.run_bind, r_under hk.2, Result.andThen_ok, if_true, Sem.run_pure, Sem.run_ite]
    rw [List.drop_eq_getElem_cons i1, List.drop_eq_getElem_cons i2, beq_dec]
    by_cases he : xs[i] = ys[i]
    · simp only [he, decide_true, Bool.not_true, Bool.false_eq_true, if_false, List.cons.injEq, true_and]
      exact ih (i + 1) xs ys (by omega) h2
    · simp only [he, decide_false, Bool.not_false, if_true, List.cons.injEq, false_and, Sem.run_pure]
theorem RVs.uncons {v : AV} {vs : List AV} {cs : List Value} (h : RVs M β (v :: vs) cs) : RV M β v (piece cs 0 v.csz) ∧ RVs M β vs (cs.drop v.csz) ∧ v.csz ≤ cs.length := by
  cases h with
  | cons hv hvs =>
    have := hv.length
    refine ⟨by simpa [piece, ← this] using hv, by simpa [← this] using hvs, by simp [← this]⟩
theorem multi_mem {v : AV} {cs : List Value} (h : RV M β v cs) : v.mem = true := by cases h <;> rfl

theorem eqC_spec : ∀ ty : Ty, ∀ (t : TypeId) (x y : AV) (K : Bool → Prop) (d : Nat) (xv yv : Value), ty.ok P t → ty.dep < d → eqC ty x y K → VR M β x xv → VR M β y yv →
    ∃ b, K b ∧ (Op.equalIn d t xv yv).run P w = .ok b w := by
  intro ty
  refine Ty.rec (motive_1 := fun ty => ∀ (t : TypeId) (x y : AV) (K : Bool → Prop) (d : Nat) (xv yv : Value), ty.ok P t → ty.dep < d → eqC ty x y K → VR M β x xv → VR M β y yv →
      ∃ b, K b ∧ (Op.equalIn d t xv yv).run P w = .ok b w)
    (motive_2 := fun ts => ∀ (fs : List Field) (off : Nat) (ps qs : List AV) (xs ys : List Value) (K : Bool → Prop) (d : Nat), Ty.oks P off fs ts → Ty.dep.deps ts < d → eqsC ts ps qs K → off ≤ xs.length → off ≤ ys.length →
      RVs M β ps (xs.drop off) → RVs M β qs (ys.drop off) → ∃ b, K b ∧ (eqFs d xs.toArray ys.toArray fs).run P w = .ok b w) ?_ ?_ ?_ ?_ ?_ ?_ ?_ ?_ ?_ ?_ ?_ ty
  · intro k t x y K d xv yv hok hd h hx hy
    obtain ⟨d, rfl⟩ : ∃ e, d = e + 1 := ⟨d - 1, by omega⟩
    cases x <;> cases y <;> first | exact h.elim | skip
    obtain ⟨rfl, h⟩ := h
    exact ⟨_, h, by rw [hx.int_inv, hy.int_inv]; simp [Op.equalIn, r_under hok.2, beq_dec]⟩
  · intro t x y K d xv yv hok hd h hx hy
    obtain ⟨d, rfl⟩ : ∃ e, d = e + 1 := ⟨d - 1, by omega⟩
    cases x <;> cases y <;> first | exact h.elim | skip
    exact ⟨_, h, by rw [hx.bool_inv, hy.bool_inv]; simp [Op.equalIn, r_under hok.2]⟩
  · intro t x y K d xv yv hok hd h hx hy
    obtain ⟨d, rfl⟩ : ∃ e, d = e + 1 := ⟨d - 1, by omega⟩
    cases x <;> cases y <;> first | exact h.elim | skip
    rename_i s s'
    refine ⟨_, h, ?_⟩
    rw [hx.str_inv, hy.str_inv]
    have : ((⟨s.toArray⟩ : ByteArray) == ⟨s'.toArray⟩) = decide (s = s') := by
      have e : ((⟨s.toArray⟩ : ByteArray) == ⟨s'.toArray⟩) = (s.toArray == s'.toArray) := rfl
      rw [e]
      simp [beq_dec]
    simp [Op.equalIn, r_under hok.2, this]
  · intro e t x y K d xv yv hok hd h hx hy
    obtain ⟨d, rfl⟩ : ∃ e, d = e + 1 := ⟨d - 1, by omega⟩
    cases x <;> cases y <;> first | exact h.elim | skip
    · exact ⟨_, h, by rw [hx.nilp_inv, hy.nilp_inv]; simp [Op.equalIn, r_under hok.2]⟩
    · obtain ⟨b, κ, _, e⟩ := hy.ref_inv
      exact ⟨_, h, by rw [hx.nilp_inv, e]; simp [Op.equalIn, r_under hok.2]⟩
    · obtain ⟨_, b, off, e, _⟩ := hy.pp_inv
      exact ⟨_, h, by rw [hx.nilp_inv, e]; simp [Op.equalIn, r_under hok.2]⟩
    · obtain ⟨b, κ, _, e⟩ := hx.ref_inv
      exact ⟨_, h, by rw [hy.nilp_inv, e]; simp [Op.equalIn, r_under hok.2]⟩
    · obtain ⟨_, b, off, e, _⟩ := hx.pp_inv
      exact ⟨_, h, by rw [hy.nilp_inv, e]; simp [Op.equalIn, r_under hok.2]⟩
  · intro e t x y K d xv yv hok hd h hx hy
    cases x <;> cases y <;> exact h.elim
  · intro m e te ih t x y K d xv yv hok hd h hx hy
    obtain ⟨d, rfl⟩ : ∃ e, d = e + 2 := ⟨d - 2, by simp only [Ty.dep] at hd; omega⟩
    cases te <;> cases x <;> cases y <;> first | exact h.elim | skip
    obtain ⟨rfl, rfl, rfl, rfl, h⟩ := h
    obtain ⟨cs, rfl, hx1⟩ := hx.agg_inv rfl rfl
    obtain ⟨ds, rfl, hy1⟩ := hy.agg_inv rfl rfl
    cases hx1 with
    | ints _ h1 =>
      cases hy1 with
      | ints _ h2 =>
        refine ⟨_, h, ?_⟩
        rw [run_eq_array (d + 1) t e _ hok.2.2.2 _ _ _ hok.2.1, List.range_eq_range']
        have := eqEs_ints (w := w) d e _ hok.2.2.2 _ 0 _ _ ((Nat.zero_add _).trans h1.symm) (h1.trans h2.symm)
        simpa [Ty.size] using this
  · intro ts ih t x y K d xv yv hok hd h hx hy
    obtain ⟨d, rfl⟩ : ∃ e, d = e + 1 := ⟨d - 1, by omega⟩
    cases x <;> cases y <;> first | exact h.elim | skip
    obtain ⟨cs, rfl, hx1⟩ := hx.agg_inv rfl rfl
    obtain ⟨ds, rfl, hy1⟩ := hy.agg_inv rfl rfl
    cases hx1 with
    | agg hx2 =>
      cases hy1 with
      | agg hy2 =>
        obtain ⟨_, fs, hu, hst, hoks⟩ := hok
        rw [run_eq_struct d t _ _ fs hu hst]
        exact ih _ 0 _ _ _ _ _ d hoks (by simp only [Ty.dep] at hd; omega) h (by simp) (by simp) (by simpa using hx2) (by simpa using hy2)
  · intro k v t x y K d xv yv hok hd h hx hy
    cases x <;> cases y <;> exact h.elim
  · intro t x y K d xv yv hok hd h hx hy
    cases x <;> cases y <;> exact h.elim
  · intro fs off ps qs xs ys K d hoks hd h _ _ hx hy
    cases fs with
    | cons f fs => exact hoks.elim
    | nil =>
      cases ps <;> cases qs <;> first | exact h.elim | skip
      exact ⟨_, h, rfl⟩
  · intro ty ts i1 i2 fs off ps qs xs ys K d hoks hd h hlx hly hx hy
    cases fs with
    | nil => exact hoks.elim
    | cons f fs =>
      cases ps with
      | nil => cases qs <;> exact h.elim
      | cons p ps =>
        cases qs with
        | nil => exact h.elim
        | cons q qs =>
          obtain ⟨hoff, hname, hpos, hfok, hrest⟩ := hoks
          obtain ⟨hp1, hq1, hp2, hq2, h⟩ := h
          simp only [Ty.dep.deps] at hd
          obtain ⟨x1, x2, x3⟩ := hx.uncons
          obtain ⟨y1, y2, y3⟩ := hy.uncons
          rw [hp1] at x1 x2 x3
          rw [hq1] at y1 y2 y3
          simp only [List.length_drop] at x3 y3
          have px : piece (xs.drop off) 0 ty.size = piece xs off ty.size := by simp [piece]
          have py : piece (ys.drop off) 0 ty.size = piece ys off ty.size := by simp [piece]
          rw [px] at x1
          rw [py] at y1
          obtain ⟨u, hu1, hu2⟩ := run_part (w := w) hfok hpos x1 hp1 hp2 (multi_mem x1) (by omega)
          obtain ⟨v, hv1, hv2⟩ := run_part (w := w) hfok hpos y1 hq1 hq2 (multi_mem y1) (by omega)
          obtain ⟨b, hb, hrun⟩ := i1 f.type p q _ d u v hfok (by omega) h hu2 hv2
          rw [List.drop_drop] at x2 y2
          obtain ⟨c, hc, hrun2⟩ := i2 fs (off + ty.size) ps qs xs ys _ d hrest (by omega) hb (by omega) (by omega) x2 y2
          refine ⟨_, hc, ?_⟩
          simp only [eqFs, hname, ne_eq, not_false_eq_true, if_true, Sem.run_bind, hoff, hu1, hv1, Result.andThen_ok, hrun, Sem.run_ite]
          cases b
          · simp
          · simpa using hrun2
end
end Go.Sy
