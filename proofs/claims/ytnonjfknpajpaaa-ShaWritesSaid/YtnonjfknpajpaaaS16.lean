/- The builtins' runs. -/
import Derived.Test.YtnonjfknpajpaaaS15
namespace Go.Sy
open Go
set_option linter.unusedSimpArgs false
set_option linter.unusedVariables false
section
variable {E : Env} {N : Nat} {M : Pool} {β β' : Bmap} {T : TT} {O O' : OO} {n : Nat} {a : Act} {w w' : World} {P : Program} {o : Oper} {K : KK}

/-- What an operation with memory of its own comes to. -/
def BltS (P : Program) (E : Env) (N : Nat) (T : TT) (a : Act) (w : World) (s : Sem Value) (κ : AV → OO → Nat → Prop) : Prop :=
  ∃ r O' n' y w' M' β', κ r O' n' ∧ s.run P w = .ok y w' ∧ RelAt E N M' β' T O' n' a w' ∧ VR M' β' r y
theorem zeroCells_list (z : Value) (te : Ty) (hz : z = te.zv) (k : Nat) (hpos : 0 < te.size) : (Builtin.zeroCells z.cells k).toList = (List.replicate k te.zc).flatten := by
  have hzl : te.zc.length = te.size := by rw [(zero_rv (M := fun _ _ => none) te nob).length, zero_csz.1]
  have hzc : te.zv.cells = te.zc.toArray := by cases te <;> rfl
  have := zerosFill k te.zc (by omega)
  unfold Builtin.zeroCells
  rw [hz, hzc]
  simpa using this
theorem app_run (h0 : RelAt E N M β T O n a w) {st xt e tt : TypeId} {te : Ty} {inf : TypeInfo} {c d : AV} {s x : Value} {O' : OO} {κ : AV → OO → Nat → Prop} (hst : P.underlying st = some (.slice e)) (hte : te.ok P e) (hinf : P.info? e = some inf)
    (hpos : 0 < te.size) (hb0 : 0 < inf.bytes) (hown : Own β O te c s O') (hcr : c.isRow = true) (hc0 : c.cnt = 0 → RV M β c []) (hx : (∃ xty, P.underlying xt = some xty ∧ (∀ k, xty ≠ .int k) ∧ Cont M β w P te x d) ∨
      (∃ k kk, P.underlying xt = some (.int k) ∧ x = .int kk d.cnt ∧ (d.cnt : Int) ≤ 9223372036854775807 ∧ d.isRow = true ∧ d.esz = te.size ∧ ∀ {M : Pool} {β : Bmap}, RV M β d (List.replicate d.cnt te.zc).flatten))
    (hK : ∀ v O' n', κ v O' n' → ∀ o, n ≤ o → o < n' → E.ok o) (h : appC te inf.bytes c d n O' κ) : BltS P E N T a w (Builtin.append_ #[st, xt] tt #[s, x]) κ := by
  obtain ⟨hsz, hce, h⟩ := h
  have hsl : ∃ b l c', s = .slice b l c' := by cases hown <;> exact ⟨_, _, _, rfl⟩
  obtain ⟨sb, sl0, sc0, rfl⟩ := hsl
  obtain ⟨r, hk, hr, hrc, hre, hrv⟩ := catC_spec h
  have hzl : te.zc.length = te.size := by rw [(zero_rv (M := M) te β).length, zero_csz.1]
  have hdd : ∃ dd, RV M β d dd ∧ dd.length = d.cnt * te.size := by
    rcases hx with ⟨_, _, _, hc⟩ | ⟨k, kk, _, rfl, _, hdr, hde, hrv⟩
    · obtain ⟨dd, h1, _⟩ := hc.cells
      exact ⟨dd, h1, by rw [row_len h1 hc.row, hc.ez]⟩
    · exact ⟨_, hrv, by simp [hzl]⟩
  have hm : IntKind.i64.max = 9223372036854775807 := by decide
  have hnb : ∀ z : Prop, ¬ (((c.cnt + d.cnt : Nat) : Int) > IntKind.i64.max ∧ (z ∨ inf.bytes = 0)) := by
    intro z
    rw [hm]
    intro hh
    have : (c.cnt + d.cnt) * 1 ≤ (c.cnt + d.cnt) * inf.bytes := Nat.mul_le_mul_left _ hb0
    omega
  have pick : ∀ dd : List Value, RV M β d dd → dd.length = d.cnt * te.size →
      (∀ cap w', sl0 = c.cnt → sc0 = cap → c.cnt + d.cnt ≤ cap → (match sb with | some aa => storeCells (aa.add (c.cnt * te.size)) dd | none => pure ()).run P w = .ok () w' →
        (Builtin.append_ #[st, xt] tt #[.slice sb sl0 sc0, x]).run P w = .ok (.slice sb (c.cnt + d.cnt) cap) w') →
      (∀ cap (cc : List Value), sl0 = c.cnt → sc0 = cap → ¬ c.cnt + d.cnt ≤ cap → Builtin.nextslicecap (c.cnt + d.cnt) cap * inf.bytes ≤ 281474976710656 → (∀ w' : World, w'.heap = w.heap → (Builtin.firstCells te.size c.cnt (.slice sb sl0 sc0)).run P w' = .ok cc.toArray w') →
        ∃ nc, c.cnt + d.cnt ≤ nc ∧ (Builtin.append_ #[st, xt] tt #[.slice sb sl0 sc0, x]).run P w =
          .ok (.slice (some ⟨w.heap.size, 0, none⟩) (c.cnt + d.cnt) nc) (w.drew.alloc (.cells (cc.toArray ++ dd.toArray ++ Builtin.zeroCells te.zv.cells (nc - (c.cnt + d.cnt))) e))) →
      BltS P E N T a w (Builtin.append_ #[st, xt] tt #[.slice sb sl0 sc0, x]) κ := by
    intro dd hd hdl g1 g2
    obtain ⟨base, len, cap, e0, e1, hcase⟩ := h0.app (hK _ _ _ hk n (Nat.le_refl _) (Nat.lt_succ_self _)) hte hinf hpos hb0 hown hcr hce hc0 hd hdl hr hrc (by rw [hre, hce]) hrv hsz
    cases e0
    rcases hcase with ⟨hle, w', κ', b', hst', hrel, hv⟩ | ⟨hgt, hcapn, cc, hcc, hold, hgrow⟩
    · exact ⟨_, _, _, _, w', M, _, hk, g1 _ w' e1 rfl hle hst', hrel, hv⟩
    · obtain ⟨nc, hle, hrun⟩ := g2 _ cc e1 rfl hgt hcapn hold
      obtain ⟨hrel, hv⟩ := hgrow nc hle w.drew rfl rfl rfl rfl (cc.toArray ++ dd.toArray ++ Builtin.zeroCells te.zv.cells (nc - (c.cnt + d.cnt))) (by
        simp only [Array.toList_append, List.append_assoc]
        rw [zeroCells_list _ te rfl _ hpos])
      exact ⟨_, _, _, _, _, M, _, hk, hrun, hrel, hv⟩
  rcases hx with ⟨xty, hu, hni, hc⟩ | ⟨k, kk, hu, rfl, hle, hdr, hde, hrv2⟩
  · obtain ⟨dd, hd, hcells⟩ := hc.cells
    have hdl : dd.length = d.cnt * te.size := by rw [row_len hd hc.row, hc.ez]
    have hz : ∀ d : TypeDesc, (∀ k, d ≠ .int k) → (match d with | .int _ => true | _ => false) = false := by
      intro d h
      cases d <;> first | rfl | exact absurd rfl (h _)
    refine pick dd hd hdl (fun cap w' e1 e2 hle hst' => ?_) fun cap cc e1 e2 hgt hcapn hold => ?_
    · subst e1; subst e2
      simp only [Builtin.append_, List.getElem?_toArray, List.getElem?_cons_zero, List.getElem?_cons_succ, Sem.run_bind, r_under hst, Result.andThen_ok, r_size hte, r_under hu, Sem.run_pure, hz xty hni]
      simp only [Bool.false_eq_true, if_false, hc.len w, Result.andThen_ok, Bool.not_false, if_true, hle, Sem.run_bind, hcells w rfl]
      cases sb with
      | none =>
        have : w' = w := by simpa using hst'.symm
        subst this
        rfl
      | some aa =>
        simp only at hst'
        simp only [Sem.run_bind, hst', Result.andThen_ok]
        rfl
    · subst e1; subst e2
      refine ⟨c.cnt + d.cnt + w.tape w.drawn (.appendCap (c.cnt + d.cnt) sc0 e) % (2 ^ 63 - (c.cnt + d.cnt)), Nat.le_add_right _ _, ?_⟩
      simp only [Builtin.append_, List.getElem?_toArray, List.getElem?_cons_zero, List.getElem?_cons_succ, Sem.run_bind, r_under hst, Result.andThen_ok, r_size hte, r_under hu, Sem.run_pure, hz xty hni]
      simp only [Bool.false_eq_true, if_false, hc.len w, Result.andThen_ok, Bool.not_false, if_true, hgt, Sem.run_bind, r_info hinf, hnb]
      rw [if_neg (by omega)]
      simp only [Sem.run_bind, run_choose, Question.forced, Bool.false_eq_true, if_false, Result.andThen_ok, Question.cut, run_askRoom, drewFold, r_info hinf]
      rw [hold w.drew rfl]
      simp only [Result.andThen_ok, hcells w.drew rfl, newRow, Sem.run_bind, run_newObj, Sem.run_pure, r_zero hte]
      rfl
  · have hwr : IntKind.i64.wrap (d.cnt : Int) = d.cnt := by simp [IntKind.wrap, IntKind.bits, IntKind.signed]; omega
    have hbl : ¬ ((d.cnt : Int) * inf.bytes > 2 ^ 48) := by
      have h1 : d.cnt * inf.bytes ≤ (c.cnt + d.cnt) * inf.bytes := Nat.mul_le_mul_right _ (by omega)
      have h2 : ((d.cnt * inf.bytes : Nat) : Int) = (d.cnt : Int) * inf.bytes := by simp
      omega
    have hn0 : ¬ ((d.cnt : Int) < 0) := by omega
    have hcells : ∀ w' : World, ((if d.cnt * te.size = 0 then pure #[] else do pure (Builtin.zeroCells (← zeroValue e).cells d.cnt)) : Sem (Array Value)).run P w' = .ok (List.replicate d.cnt te.zc).flatten.toArray w' := by
      intro w'
      by_cases h0 : d.cnt * te.size = 0
      · have : d.cnt = 0 := by rcases Nat.mul_eq_zero.1 h0 with h | h <;> omega
        rw [if_pos h0, this]
        rfl
      · rw [if_neg h0]
        simp only [Sem.run_bind, r_zero hte, Result.andThen_ok, Sem.run_pure]
        congr 1
        apply Array.ext'
        rw [zeroCells_list _ te rfl _ hpos]
    refine pick _ hrv2 (by simp [hzl]) (fun cap w' e1 e2 hle hst' => ?_) fun cap cc e1 e2 hgt hcapn hold => ?_
    · subst e1; subst e2
      simp only [Builtin.append_, List.getElem?_toArray, List.getElem?_cons_zero, List.getElem?_cons_succ, Sem.run_bind, r_under hst, Result.andThen_ok, r_size hte, r_under hu, Sem.run_pure]
      simp only [if_true, asInt, asIntOf, Sem.run_bind, Sem.run_pure, Result.andThen_ok, hwr, hn0, if_false, r_info hinf, hbl, Int.toNat_natCast, hle, Bool.not_true, Bool.false_eq_true, hcells]
      cases sb with
      | none =>
        have : w' = w := by simpa using hst'.symm
        subst this
        rfl
      | some aa =>
        simp only at hst'
        simp only [Sem.run_bind, hst', Result.andThen_ok]
        rfl
    · subst e1; subst e2
      refine ⟨c.cnt + d.cnt + w.tape w.drawn (.appendCap (c.cnt + d.cnt) sc0 e) % (2 ^ 63 - (c.cnt + d.cnt)), Nat.le_add_right _ _, ?_⟩
      simp only [Builtin.append_, List.getElem?_toArray, List.getElem?_cons_zero, List.getElem?_cons_succ, Sem.run_bind, r_under hst, Result.andThen_ok, r_size hte, r_under hu, Sem.run_pure]
      simp only [if_true, asInt, asIntOf, Sem.run_bind, Sem.run_pure, Result.andThen_ok, hwr, hn0, if_false, r_info hinf, hbl, Int.toNat_natCast, hgt, Bool.not_true, Bool.false_eq_true, hnb]
      rw [if_neg (by omega)]
      simp only [Sem.run_bind, run_choose, Question.forced, Bool.false_eq_true, if_false, Result.andThen_ok, Question.cut, run_askRoom, drewFold, r_info hinf]
      rw [hold w.drew rfl]
      simp only [Result.andThen_ok, hcells, newRow, Sem.run_bind, run_newObj, Sem.run_pure, r_zero hte]
      rfl
end
end Go.Sy
