/- Functions. -/
import Derived.Test.YtnonjfknpajpaaaS27
namespace Go.Sy
open Go
set_option linter.unusedSimpArgs false
set_option linter.unusedVariables false
section
variable {E : Env} {N : Nat} {M M' M1 : Pool} {β β' β1 : Bmap} {T : TT} {O O' O1 O2 J : OO} {n : Nat} {a : Act} {w w' : World} {P : Program} {o : Oper} {K : KK}

def resV (a : Act) : ResultVar → Sem Value
  | .tmp t => pure (a.tmps.getD t undef)
  | .cell x t => do loadVar t (← asAddr (a.tmps.getD x undef))
theorem resC_spec (hr : RelAt E N M β T O n a w) : ∀ {rs : List ResultVar} {κ : List AV → Prop}, resC P T O rs κ → ∃ vs xs, κ vs ∧ (rs.mapM (resV a)).run P w = .ok xs w ∧ VRs M β vs xs := by
  intro rs
  induction rs with
  | nil => intro κ h; exact ⟨[], [], h, by simp, .nil⟩
  | cons r rs ih =>
    intro κ h
    cases r with
    | tmp t =>
      obtain ⟨v, hl, h⟩ := lkC_spec h
      obtain ⟨x, hx, hv⟩ := hr.tmps t v hl
      obtain ⟨vs, xs, hk, hrun, hvs⟩ := ih h
      refine ⟨v :: vs, x :: xs, hk, ?_, .cons hv hvs⟩
      simp only [List.mapM_cons, resV, Sem.run_bind, Sem.run_pure, Result.andThen_ok, hrun, Array.getD_eq_getD_getElem?, hx, Option.getD_some]
    | cell p ty =>
      obtain ⟨v, hl, h⟩ := lkC_spec h
      obtain ⟨x, hx, hv⟩ := hr.tmps p v hl
      obtain ⟨y, hok, _, h⟩ := tyC_spec h
      have fin : ∀ (b off : Nat) (q : AV) (cs : List Value), x = .pointer (some ⟨b, off, none⟩) → RV M β q cs → CellsAt w b off cs → fitC y q (resC P T O rs fun vs => κ (q :: vs)) →
          ∃ vs xs, κ vs ∧ ((ResultVar.cell p ty :: rs).mapM (resV a)).run P w = .ok xs w ∧ VRs M β vs xs := fun b off q cs ex hq hc hf => by
        obtain ⟨f1, f2, hk⟩ := hf
        obtain ⟨z, hrun, hz⟩ := run_loadVar (w := w) hok hc hq f1 f2
        obtain ⟨vs, xs, hk, hrun2, hvs⟩ := ih hk
        refine ⟨q :: vs, z :: xs, hk, ?_, .cons hz hvs⟩
        simp only [List.mapM_cons, resV, Sem.run_bind, Sem.run_pure, Result.andThen_ok, Array.getD_eq_getD_getElem?, hx, Option.getD_some, ex, asAddr, hrun, hrun2]
      cases v with
      | ref i p' =>
        obtain ⟨ob, hl, h3⟩ := objC_spec h
        obtain ⟨c, hc, h4⟩ := obC_spec h3
        obtain ⟨b, κ0, hb, ex⟩ := hv.ref_inv
        obtain ⟨cc, hcc, hca⟩ := hr.st.cells hl hb hc
        obtain ⟨q, hf, hq⟩ := nav_spec _ _ _ h4
        obtain ⟨_, hq2⟩ := hq hcc
        exact fin b (poff p') q _ ex hq2 (by have := hca.piece (m := poff p') (k := q.csz); rwa [Nat.zero_add] at this) hf
      | pp c p' =>
        obtain ⟨q, hf, hq⟩ := nav_spec _ _ _ h
        obtain ⟨cc, b, off, ex, hcc, hm⟩ := hv.pp_inv
        obtain ⟨_, hq2⟩ := hq hcc
        exact fin b (off + poff p') q _ ex (hq2.mono (PLe.refl _) (BLe.nob _)) (CellsAt.piece fun i v hi => hr.st.pool _ _ _ (hm i v hi)) hf
      | _ => exact h.elim
theorem results_run (hr : RelAt E N M β T O n a w) {fn : Func} {κ : List AV → Prop} (h : resC P T O fn.results.toList κ) : ∃ vs x, κ vs ∧ (results fn a.tmps).run P w = .ok x w ∧ VR M β (packC vs) x := by
  obtain ⟨vs, xs, hk, hrun, hv⟩ := resC_spec hr h
  have hm : (fn.results.mapM (resV a)).run P w = .ok xs.toArray w := by
    rw [Array.mapM_eq_mapM_toList]
    simp only [Sem.run_map, hrun, Result.andThen_ok]
  have e : results fn a.tmps = (do let vs ← fn.results.mapM (resV a); pure (if h : vs.size = 1 then vs[0] else .tuple vs)) := by
    unfold results
    congr 1
  refine ⟨vs, if h : xs.toArray.size = 1 then xs.toArray[0] else .tuple xs.toArray, hk, by rw [e]; simp only [Sem.run_bind, hm, Result.andThen_ok, Sem.run_pure], ?_⟩
  cases hv with
  | nil => exact .tup .nil
  | cons h1 h2 =>
    cases h2 with
    | nil => simpa [packC] using h1
    | cons h2 h3 => simpa [packC] using VR.tup (.cons h1 (.cons h2 h3))
theorem numT_spec : ∀ {vs : List AV} {xs : List Value} (pre : List Value), VRs M β vs xs → ∀ t v, lk (numT pre.length vs) t = some v → ∃ x, (pre ++ xs)[t]? = some x ∧ VR M β v x := by
  intro vs
  induction vs with
  | nil => intro xs pre h t v hl; cases hl
  | cons u vs ih =>
    intro xs pre h t v hl
    cases h with
    | @cons _ _ _ x xs h1 h2 =>
      simp only [numT, lk] at hl
      split at hl
      · rename_i e; subst e; cases hl; exact ⟨x, by simp, h1⟩
      · have := ih (pre ++ [x]) h2 t v (by simpa using hl)
        simpa using this
theorem fn_of_vc (hm : P.follows .mixedOrders = true) (tb : List (Nat × Plan)) {f : FuncId} {fn : Func} {c : Code} {args : List AV} {r : AV} (k : Nat) (hf : P.funcs[f]? = some fn) (hb : fn.body = some c) (hnm : (fn.name == "runtime.NumGoroutine") = false) (hN : args.length ≤ fn.ntmps) (hd : dstOK tb fn.ntmps c = true) (hk : ∀ p ∈ O, p.1 < k)
    (F : CK) (hF : ∀ T O1 n, F T O1 n → EndC P fn.results.toList O r O' T O1 n) (h : vcC P tb k c F (fun _ _ _ _ => False) F (numT 0 args) O k) : FnC P f args O r O' := by
  refine ⟨⟨fn, hf, hnm, by simp [hb]⟩, fun w M β xs hids hst hxs => calls_of_wp hf hb ?_⟩
  have hxl : xs.length = args.length := by
    clear h hN
    revert hxs
    generalize args = args
    intro hxs
    induction xs generalizing args with
    | nil => cases hxs; rfl
    | cons x xs ih => cases hxs with | cons _ h2 => simp [ih _ h2]
  have ends : ∀ T O1 n a w', EndC P fn.results.toList O r O' T O1 n → Rel ⟨w, ownOf O β, M, β, k, fun _ => True⟩ fn.ntmps T O1 n a w' → a.defers = [] ∧ ∃ v, (results fn a.tmps).run P w' = .ok v w' ∧
      ∃ x M' β', Ending.returned v = .returned x ∧ VR M' β' r x ∧ St ⟨w, ownOf O β, M, nob, 0, fun _ => True⟩ M' β' O' w' ∧ (∀ o c, lk O o = some (.var c) → β' o = β o) := by
    rintro T O1 n a w' he ⟨M', β', hr⟩
    obtain ⟨vs, x, ⟨σ, Z, F, h1, h2, h3, h4⟩, hrun, hv⟩ := results_run hr he
    simp only [okE, Bool.and_eq_true, List.all_eq_true, decide_eq_true_eq, Bool.not_eq_true'] at h1
    obtain ⟨⟨⟨hF, h1⟩, hσZ⟩, hZ⟩ := h1
    have hF' : ∀ f ∈ F, ∀ o, lk σ o ≠ some f := fun f hf o e => by
      have := hF f hf
      have hm : f ∈ σ.map (·.2) := List.mem_map.2 ⟨_, lk_mem e, rfl⟩
      simp only [Bool.eq_false_iff] at this
      exact this (by simpa using hm)
    let b1 : Bmap := fun o => match lk σ o with | some o' => β' o' | none => if Z.contains o = true then some (0, 0) else β o
    have ha : Agr σ b1 β' := fun o o' h => by show (match lk σ o with | some o' => β' o' | none => _) = _; rw [h]
    have hz : NilOK Z b1 := fun o ho => by
      have : lk σ o = none := by
        rw [lk_none]
        intro hm
        obtain ⟨p, hp, rfl⟩ := List.mem_map.1 hm
        have := hσZ p hp
        rw [ho] at this
        cases this
      show (match lk σ o with | some o' => β' o' | none => if Z.contains o = true then some (0, 0) else β o) = _
      rw [this]
      simp only [ho, if_true]
    obtain ⟨M1, hM, hV, this⟩ := hr.st.ren hF' h1 ha hz h3
    refine ⟨hr.nd, x, hrun, x, M1, b1, rfl, (matC_spec σ Z _ _ _ h2).vr hM hV ha hz hv, ?_, fun o c hl => ?_⟩
    · exact ⟨this.pool, this.sub, this.only, this.objs, this.mine, this.inj, this.size, this.keep, this.os, this.tape, this.output⟩
    · show (match lk σ o with | some o' => β' o' | none => if Z.contains o = true then some (0, 0) else β o) = β o
      split
      · rename_i o' e'
        have : ∀ {O : OO}, varsOK σ O → (o, OB.var c) ∈ O → o' = o := by
          intro O
          induction O with
          | nil => intro _ h; cases h
          | cons q O ih =>
            obtain ⟨i, ob⟩ := q
            intro hv hm
            rcases List.mem_cons.1 hm with e2 | hm
            · cases e2; exact hv.1 ⟨c, rfl⟩ _ e'
            · exact ih hv.2 hm
        rw [this h4 (lk_mem hl)]
        exact hr.base o (.inl (hk _ (lk_mem hl)))
      · rw [if_neg]
        intro hc
        have := hZ o (by simpa using hc)
        have hm : o ∈ keys O := List.mem_map.2 ⟨_, lk_mem hl, rfl⟩
        simp [hm] at this
  refine vcC_sound hm (fun _ => trivial) tb (E := ⟨w, ownOf O β, M, β, k, fun _ => True⟩) (N := fn.ntmps) c ⟨fun T O1 n a w' he hr => ends T O1 n a w' (hF _ _ _ he) hr, fun _ _ _ _ _ _ h _ => h.elim, fun T O1 n a w' he hr => ends T O1 n a w' (hF _ _ _ he) hr⟩ hd h ⟨M, β, ⟨hst.pool, hst.sub, hst.only, hst.objs, hst.mine, hst.inj, hst.size, hst.keep, hst.os, hst.tape, hst.output⟩, fun o ho _ => hids o ?_, fun t v hl => ?_, rfl, ?_, fun _ _ => rfl, Nat.le_refl _⟩
  · rw [lk_none]
    intro hm
    obtain ⟨p, hp, rfl⟩ := List.mem_map.1 hm
    have := hk p hp
    omega
  · obtain ⟨x, hx, hv⟩ := numT_spec [] hxs t v hl
    refine ⟨x, ?_, hv⟩
    have ht : t < xs.length := by
      have := (List.getElem?_eq_some_iff.1 hx).1
      simpa using this
    simp only [List.nil_append] at hx
    rw [Array.getElem?_append_left (by simpa using ht)]
    simpa using hx
  · simp; omega
end
end Go.Sy
