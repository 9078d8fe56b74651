/- A row of a law: out of the contract of the law's function for all trees of the arguments' types. -/
import Derived.Test.YtnonjfknpajpaaaR0
namespace Go.Sy
open Go Go.ChangeShapes Go.WideShapes Go.ChangeAt Go.RowKit
set_option linter.unusedSimpArgs false
set_option linter.unusedVariables false
def TD.okl (P : Program) : List TD → List TypeId → Bool
  | [], [] => true
  | d :: ds, t :: ts => d.ok P t && TD.okl P ds ts
  | _, _ => false
def TD.many : TD → Bool
  | .arr .. | .st _ => true
  | _ => false
theorem has_multi : ∀ {d : TD} {v : AV}, d.has v → v.multi = d.many := by
  intro d v h
  cases d with
  | int k => simp only [TD.has] at h; obtain ⟨n, rfl, _⟩ := h; rfl
  | bool => simp only [TD.has] at h; obtain ⟨n, rfl⟩ := h; rfl
  | str => simp only [TD.has] at h; obtain ⟨n, rfl, _⟩ := h; rfl
  | arr n e =>
    simp only [TD.has] at h
    split at h <;> obtain ⟨n, rfl, _⟩ := h <;> rfl
  | st fs => simp only [TD.has] at h; obtain ⟨n, rfl, _⟩ := h; rfl
  | sl b e =>
    simp only [TD.has] at h
    split at h <;> obtain ⟨n, rfl, _⟩ := h <;> rfl
section
variable {H : Type} {enc : TypeId × Value → H} {P : Program} {W : World}
theorem arg_of {d : TD} {t : TypeId} {v : Value} {x : DataW H} {ps : List MemPlace} (ht : d.ok P t = true) {b0 : Nat} (hval : Value.okWide P W .any b0 t v) (h : DataW.Trod enc P W 0 (fun _ => true) true t v x ps)
    (hz : (x.weights P t).all (· ≤ reachBytes) = true) : ∃ a, VR (allPool W) nob a v ∧ d.has a := by
  obtain ⟨fuel, h⟩ := h
  obtain ⟨a, h1, h2, h3⟩ := of_trod d fuel t _ _ h ht hz
  refine ⟨a, ?_, h2⟩
  have hm := has_multi h2
  cases d with
  | int k =>
    obtain ⟨n, hc, _⟩ := rv_int (k := k) h1 (by simpa only [TD.has] using h2)
    simp only [TD.ok, Bool.and_eq_true] at ht
    have hu : P.underlying t = some (.int k) := by
      have := ht.2; split at this
      · rename_i k' hk; rw [hk]; simp at this; rw [this]
      · cases this
    unfold Value.okWide at hval
    rw [hu] at hval
    simp only [Cell.okWide, hu] at hval
    cases v <;> simp [Cell.ok, hu] at hval
    simp [Value.cells] at h1
    exact .one hm h1
  | bool =>
    simp only [TD.ok, Bool.and_eq_true] at ht
    have hu : P.underlying t = some .bool := by
      have := ht.2; split at this
      · assumption
      · cases this
    unfold Value.okWide at hval
    rw [hu] at hval
    simp only [Cell.okWide, hu] at hval
    cases v <;> simp [Cell.ok, hu] at hval
    simp [Value.cells] at h1
    exact .one hm h1
  | str =>
    simp only [TD.ok, Bool.and_eq_true] at ht
    have hu : P.underlying t = some .string := by
      have := ht.2; split at this
      · assumption
      · cases this
    unfold Value.okWide at hval
    rw [hu] at hval
    simp only [Cell.okWide, hu] at hval
    cases v <;> simp [Cell.ok, hu] at hval
    simp [Value.cells] at h1
    exact .one hm h1
  | sl b e =>
    simp only [TD.ok, Bool.and_eq_true] at ht
    obtain ⟨u, hu⟩ : ∃ u, P.underlying t = some (.slice u) := by
      have := ht.2; split at this
      · rename_i u hk; exact ⟨u, hk⟩
      · cases this
    obtain ⟨a0, l, c, rfl⟩ := okWide_slice hu hval
    simp [Value.cells] at h1
    exact .one hm h1
  | arr n e =>
    simp only [TD.ok, Bool.and_eq_true] at ht
    obtain ⟨m, u, hu⟩ : ∃ m u, P.underlying t = some (.array m u) := by
      have := ht.2; split at this
      · rename_i m u hk; exact ⟨m, u, hk⟩
      · cases this
    unfold Value.okWide at hval
    rw [hu] at hval
    obtain ⟨cs, rfl, _, _⟩ := hval
    simp only [Value.cells] at h1
    have := VR.agg hm h1
    simpa using this
  | st fs =>
    simp only [TD.ok, Bool.and_eq_true] at ht
    obtain ⟨u, hu⟩ : ∃ u, P.underlying t = some (.struct u) := by
      have := ht.2; split at this
      · rename_i u hk; exact ⟨u, hk⟩
      · cases this
    unfold Value.okWide at hval
    rw [hu] at hval
    obtain ⟨cs, rfl, _, _⟩ := hval
    simp only [Value.cells] at h1
    have := VR.agg hm h1
    simpa using this
theorem args_of : ∀ (tds : List TD) (ts : List TypeId) (vs : List Value) (ds : List (DataW H)) (ps : List MemPlace), DataW.TrodAll enc P W 0 (fun _ => true) true ts vs ds ps → TD.okl P tds ts = true →
    (∀ (j : Nat) t v, ts[j]? = some t → vs[j]? = some v → ∃ b0, Value.okWide P W .any b0 t v) → (DataW.weightsEach P ts ds).all (· ≤ reachBytes) = true →
    (∃ as, VRs (allPool W) nob as vs ∧ TD.hass tds as) ∧ ds.length = ts.length
  | [], [], vs, ds, ps, h, _, _, _ => by
    obtain ⟨rfl, rfl, _⟩ : vs = [] ∧ ds = [] ∧ ps = [] := by
      cases vs <;> cases ds <;> simp_all [DataW.TrodAll]
    exact ⟨⟨[], .nil, rfl⟩, rfl⟩
  | [], _ :: _, _, _, _, _, ht, _, _ => by simp [TD.okl] at ht
  | _ :: _, [], _, _, _, _, ht, _, _ => by simp [TD.okl] at ht
  | d :: tds, t :: ts, vs, ds, ps, h, ht, hv, hz => by
    match vs, ds with
    | [], [] => simp [DataW.TrodAll] at h
    | [], _ :: _ => simp [DataW.TrodAll] at h
    | _ :: _, [] => simp [DataW.TrodAll] at h
    | v :: vs, x :: ds =>
      obtain ⟨p, q, h1, h2, _⟩ := h
      simp only [TD.okl, Bool.and_eq_true] at ht
      simp only [DataW.weightsEach, List.all_append, Bool.and_eq_true] at hz
      obtain ⟨b0, hb⟩ := hv 0 t v rfl rfl
      obtain ⟨a, k1, k2⟩ := arg_of ht.1 hb h1 hz.1
      obtain ⟨⟨as, k3, k4⟩, hl⟩ := args_of tds ts vs ds q h2 ht.2 (fun j t v h h' => hv (j + 1) t v (by simpa using h) (by simpa using h')) hz.2
      exact ⟨⟨a :: as, .cons k1 k3, ⟨a, as, rfl, k2, k4⟩⟩, by simp [hl]⟩
theorem below_all (hl : laidOutB P = true) {W' : World} (bel : Below W.heap.size W W') : ∀ (ts : List TypeId) (vs : List Value) (ds : List (DataW H)) (ps : List MemPlace), ts.all (fun t => P.readableRec t && decide (t < P.types.size)) = true →
    DataW.TrodAll enc P W 0 (fun _ => true) true ts vs ds ps → DataW.TrodAll enc P W' 0 (fun b => decide (b < W.heap.size)) true ts vs ds ps
  | [], [], [], ps, _, h => h
  | [], [], _ :: _, _, _, h => h.elim
  | [], _ :: _, _, _, _, h => by cases h
  | _ :: _, [], _, _, _, h => by cases h
  | _ :: _, _ :: _, [], _, _, h => by cases h
  | t :: ts, v :: vs, d :: ds, ps, hr, ⟨p, q, h1, h2, e⟩ => by
    simp only [List.all_cons, Bool.and_eq_true, decide_eq_true_eq] at hr
    exact ⟨p, q, Below.trod hl hr.1.1 hr.1.2 h1 bel (fun x hx => by obtain ⟨m, hm⟩ := h1; exact DataW.trod_lt m _ _ _ hm x hx), below_all hl bel ts vs ds q hr.2 h2, e⟩
/-- Out of the contract for all trees of the arguments' types: what the row says of a call. -/
theorem law_calls {f : FuncId} {fn : Func} {s : ChangeSpec} {tds : List TD} (hl : laidOutB P = true) (hro : fn.params.toList.all (fun t => P.readableRec t && decide (t < P.types.size)) = true) (hok : TD.okl P tds fn.params.toList = true) (hs : s.vars = [])
    (hfn : ∀ (ds : List (DataW H)), ds.length = fn.params.toList.length → s.fn H ds = { results := [.lit (.bool true)], args := ds }) {tb : TypeId} (hres : fn.resultTypes = #[tb]) (htb : P.underlying tb = some .bool)
    (hX : ∀ as, TD.hass tds as → FnC P f as [] (.bool true) []) {base : Nat} {args : Array Value} {ds gs : List (DataW H)} {before : List MemPlace}
    (hval : ∀ (j : Nat) t v, fn.params[j]? = some t → args[j]? = some v → Value.okWide P W .any base t v)
    (hW : DataW.Whole enc P fn.params.toList s.vars false W args.toList ds gs before)
    (hsz : (DataW.weightsEach P (fn.params.toList ++ s.plain.varTypes P) (ds ++ gs)).all (· ≤ reachBytes) = true) :
    Calls P f args W fun e W' => ∃ v, e = .returned v ∧ s.post enc P fn false true false false W args v W' := by
  have hW' := hW
  obtain ⟨p, q, hA, hV, rfl, hfz, hnd⟩ := hW
  rw [hs] at hV
  obtain ⟨rfl, rfl⟩ := trodVars_none hV
  have hvt : s.plain.varTypes P = [] := by simp [ChangeSpec.plain, DataSpec.varTypes, hs]
  rw [hvt, List.append_nil, List.append_nil] at hsz
  obtain ⟨⟨as, h1, h2⟩, hlen⟩ := args_of tds _ _ _ _ hA hok (fun j t v h h' => ⟨base, hval j t v (by simpa using h) (by simpa using h')⟩) hsz
  have hst : St ⟨W, ownOf [] nob, allPool W, nob, 0, fun _ => True⟩ (allPool W) nob [] W :=
    ⟨fun _ _ _ h => h, fun _ _ _ h => h, fun _ _ _ h => .inl h, fun _ _ h => by simp [lk] at h, fun _ _ _ _ h => by simp [lk] at h, fun _ _ _ _ _ _ _ h => by simp [lk] at h, Nat.le_refl _, fun _ _ _ => rfl, rfl, rfl, rfl⟩
  have hc := (hX as h2).2 W (allPool W) nob args.toList (fun _ _ => rfl) hst h1
  rw [Array.toArray_toList] at hc
  refine hc.mono fun e W' ⟨x, M', β', he, hr, st, _⟩ => ?_
  have hx : x = .bool true := by
    cases hr with
    | one _ h => cases h; rfl
    | agg hm _ => cases hm
  subst hx
  have bel : Below W.heap.size W W' := ⟨st.os, st.tape, st.output, st.size, fun k hk => st.keep k hk (fun ⟨o, ob, κ, h, _⟩ => by simp [lk] at h)⟩
  refine ⟨_, he, ds, [], _, [], p, [], hW', ?_, ?_, ?_, bel.frame _, fun h => by cases h⟩
  · rw [List.append_nil, hfn ds hlen, hres]
    exact trodAll_mk1 (shut_bool htb _)
  · rw [List.append_nil, hfn ds hlen]
    exact below_all hl bel _ _ _ _ hro hA
  · rw [hs, List.append_nil, hfn ds hlen]
    rfl
end
end Go.Sy
