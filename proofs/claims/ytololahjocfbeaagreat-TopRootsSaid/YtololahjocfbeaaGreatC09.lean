/- Texts, joined. -/
import Derived.WalkKit
import Derived.ProofKit
import Derived.OpenShut
import Derived.ShutString
import Derived.ChangeOld
import Derived.Below
import Derived.Carry
import Derived.SizedLaws
import Derived.ChangeSlices
import Derived.Test.YtololahjocfbeaaGreatC08
namespace Go.Sy
open Go Go.ChangeShapes Go.WideShapes Go.ChangeAt Go.RowKit
set_option linter.unusedSimpArgs false
set_option linter.unusedVariables false
inductive TD where
  | int (k : IntKind)
  | bool
  | str
  | arr (n : Nat) (e : TD)
  | st (fs : List TD)
  | sl (bs : Nat) (e : TD)
mutual
def TD.cs : TD → Nat
  | .int _ | .bool | .str | .sl .. => 1
  | .arr n e => n * e.cs
  | .st fs => TD.css fs
def TD.css : List TD → Nat
  | [] => 0
  | f :: fs => f.cs + TD.css fs
end
def TD.ik : TD → Option IntKind
  | .int k => some k
  | _ => none
mutual
def TD.has : TD → AV → Prop
  | .int k, v => ∃ n, v = .int k n ∧ (Lit.int k n).wf = true
  | .bool, v => ∃ b, v = .bool b
  | .str, v => ∃ s, v = .str s ∧ s.length ≤ reachBytes
  | .arr n e, v => match e.ik with
    | some k => ∃ xs, v = .ints k n xs ∧ xs.length = n ∧ ∀ x ∈ xs, (Lit.int k x).wf = true
    | none => ∃ es, v = .lst e.cs n es ∧ es.length = n ∧ ∀ x ∈ es, e.has x
  | .st fs, v => ∃ ps, v = .agg ps ∧ TD.hass fs ps
  | .sl bs e, v => match e.ik with
    | some k => ∃ xs, v = .sl (.ints k xs.length xs) ∧ xs.length * bs ≤ reachBytes ∧ xs.length ≤ maxLen ∧ ∀ x ∈ xs, (Lit.int k x).wf = true
    | none => ∃ es, v = .sl (.lst e.cs es.length es) ∧ es.length * bs ≤ reachBytes ∧ es.length ≤ maxLen ∧ ∀ x ∈ es, e.has x
def TD.hass : List TD → List AV → Prop
  | [], ps => ps = []
  | f :: fs, ps => ∃ p q, ps = p :: q ∧ f.has p ∧ TD.hass fs q
end
mutual
def TD.ok (P : Program) : TD → TypeId → Bool
  | .int k, t => P.cellsOf t == 1 && match P.underlying t with | some (.int k') => k' == k | _ => false
  | .bool, t => P.cellsOf t == 1 && match P.underlying t with | some .bool => true | _ => false
  | .str, t => P.cellsOf t == 1 && match P.underlying t with | some .string => true | _ => false
  | .arr n e, t => P.cellsOf t == n * e.cs && match P.underlying t with | some (.array m u) => m == n && e.ok P u | _ => false
  | .st fs, t => P.cellsOf t == TD.css fs && match P.underlying t with | some (.struct gs) => TD.oks P fs gs.toList 0 | _ => false
  | .sl bs e, t => P.cellsOf t == 1 && Nat.ble 1 e.cs && match P.underlying t with | some (.slice u) => P.bytesOf u == bs && e.ok P u | _ => false
def TD.oks (P : Program) : List TD → List Field → Nat → Bool
  | [], [], _ => true
  | d :: ds, f :: fs, off => f.offset == off && d.ok P f.type && TD.oks P ds fs (off + d.cs)
  | _, _, _ => false
end
def allPool (w : World) : Pool := fun b i => w.cell? ⟨b, i, none⟩
theorem TD.ok_cs {P : Program} : ∀ {d : TD} {t : TypeId}, d.ok P t = true → P.cellsOf t = d.cs := by
  intro d t h
  cases d <;> simp only [TD.ok, Bool.and_eq_true, beq_iff_eq] at h <;> simp only [TD.cs]
  all_goals first | exact h.1.1 | exact h.1
theorem rv_int {M : Pool} {β : Bmap} {k : IntKind} {cs : List Value} {v : AV} (h : RV M β v cs) (hv : ∃ n, v = .int k n ∧ (Lit.int k n).wf = true) : ∃ n, cs = [.int k n] ∧ (Lit.int k n).wf = true := by
  obtain ⟨n, rfl, hw⟩ := hv
  cases h
  exact ⟨n, rfl, hw⟩
theorem ik_has {d : TD} {k : IntKind} (h : d.ik = some k) : d = .int k := by cases d <;> simp [TD.ik] at h; subst h; rfl
theorem rows_of {M : Pool} {d : TD} : ∀ (n : Nat) (cs : List Value), cs.length = n * d.cs → (∀ i, i < n → ∃ v, RV M nob v ((cs.drop (i * d.cs)).take d.cs) ∧ d.has v ∧ v.csz = d.cs) →
    ∃ es, RVs M nob es cs ∧ es.length = n ∧ (∀ x ∈ es, d.has x) ∧ ∀ x ∈ es, x.csz = d.cs
  | 0, cs, hl, _ => by
    have : cs = [] := by simpa using hl
    subst this
    exact ⟨[], .nil, rfl, by simp, by simp⟩
  | n + 1, cs, hl, h => by
    obtain ⟨v, h1, h2, h3⟩ := h 0 (by omega)
    rw [Nat.add_mul, Nat.one_mul] at hl
    obtain ⟨es, k1, k2, k3, k4⟩ := rows_of (M := M) (d := d) n (cs.drop d.cs) (by rw [List.length_drop]; omega) (fun i hi => by
      have := h (i + 1) (by omega)
      rw [List.drop_drop, show d.cs + i * d.cs = (i + 1) * d.cs by rw [Nat.add_mul]; omega]
      exact this)
    refine ⟨v :: es, ?_, by simp [k2], ?_, ?_⟩
    · have := RVs.cons h1 k1
      simpa using this
    · intro x hx; rcases List.mem_cons.1 hx with rfl | hx
      · exact h2
      · exact k3 x hx
    · intro x hx; rcases List.mem_cons.1 hx with rfl | hx
      · exact h3
      · exact k4 x hx
theorem ints_of {M : Pool} {k : IntKind} : ∀ {es : List AV} {cs : List Value}, RVs M nob es cs → (∀ x ∈ es, (TD.int k).has x) → ∃ xs : List Int, cs = xs.map (.int k) ∧ xs.length = es.length ∧ ∀ x ∈ xs, (Lit.int k x).wf = true
  | [], _, h, _ => by cases h; exact ⟨[], rfl, rfl, by simp⟩
  | e :: es, _, h, hd => by
    cases h with
    | cons h hs =>
      obtain ⟨n, rfl, hw⟩ := rv_int (k := k) h (by have := hd e (by simp); simpa only [TD.has] using this)
      obtain ⟨xs, rfl, hl, hx⟩ := ints_of hs (fun x hx => hd x (by simp [hx]))
      exact ⟨n :: xs, by simp, by simp [hl], by
        intro x hx'
        rcases List.mem_cons.1 hx' with rfl | hx'
        · exact hw
        · exact hx x hx'⟩
section
variable {H : Type} {enc : TypeId × Value → H} {P : Program} {W : World}
theorem weights_all {e : TypeId} : ∀ {ds : List (DataW H)}, (DataW.weightsAll P e ds).all (· ≤ reachBytes) = true → ∀ d ∈ ds, (d.weights P e).all (· ≤ reachBytes) = true
  | [], _, _, h => by cases h
  | d :: ds, hz, x, hx => by
    simp only [DataW.weightsAll, List.all_append, Bool.and_eq_true] at hz
    rcases List.mem_cons.1 hx with rfl | hx
    · exact hz.1
    · exact weights_all hz.2 x hx
theorem weights_each : ∀ {ts : List TypeId} {ds : List (DataW H)}, (DataW.weightsEach P ts ds).all (· ≤ reachBytes) = true → ∀ (i : Nat) t d, ts[i]? = some t → ds[i]? = some d → (d.weights P t).all (· ≤ reachBytes) = true
  | [], _, _, i, t, d, h, _ => by simp at h
  | _ :: _, [], _, i, t, d, _, h => by simp at h
  | t :: ts, d :: ds, hz, 0, _, _, h1, h2 => by
    simp only [DataW.weightsEach, List.all_append, Bool.and_eq_true] at hz
    simp at h1 h2
    subst h1; subst h2
    exact hz.1
  | t :: ts, d :: ds, hz, i + 1, _, _, h1, h2 => by
    simp only [DataW.weightsEach, List.all_append, Bool.and_eq_true] at hz
    exact weights_each hz.2 i _ _ (by simpa using h1) (by simpa using h2)
theorem slice_cells {b off c : Nat} {e : TypeId} {elems : List (DataW H × List MemPlace)} (hc : P.cellsOf e = c) {m : Nat} : ∀ (len : Nat),
    (∀ i, i < len → (W.cells? 0 ((⟨b, off, none⟩ : Addr).add (i * P.cellsOf e)) (P.cellsOf e)).bind (DataW.trod enc P W 0 (fun _ => true) true m e) = elems[i]?) → len ≤ elems.length →
    ∃ cc : List Value, cc.length = len * c ∧ (∀ i, i < len * c → W.cell? ⟨b, off + i, none⟩ = cc[i]?) ∧ ∀ i, i < len → DataW.trod enc P W 0 (fun _ => true) true m e ((cc.drop (i * c)).take c) = elems[i]?
  | 0, _, _ => ⟨[], by simp, by simp, by simp⟩
  | len + 1, h, hl => by
    obtain ⟨cc, h1, h2, h3⟩ := slice_cells hc len (fun i hi => h i (by omega)) (by omega)
    have hx := h len (by omega)
    rw [List.getElem?_eq_getElem (show len < elems.length by omega), Option.bind_eq_some_iff] at hx
    obtain ⟨cs, h4, h5⟩ := hx
    obtain ⟨_, h6, h7⟩ := World.cells?_some h4
    rw [hc] at h6 h7
    rw [add_plain] at h7
    refine ⟨cc ++ cs, by simp [h1, h6, Nat.add_mul], fun i hi => ?_, fun i hi => ?_⟩
    · rw [Nat.add_mul, Nat.one_mul] at hi
      by_cases hi2 : i < len * c
      · rw [List.getElem?_append_left (by omega)]; exact h2 i hi2
      · rw [List.getElem?_append_right (by omega), h1]
        have := h7 (i - len * c) (by omega)
        rw [add_plain] at this
        rw [show off + i = off + len * c + (i - len * c) by omega]
        exact this
    · by_cases hi2 : i < len
      · rw [← h3 i hi2, List.drop_append_of_le_length, List.take_append_of_le_length]
        · have : (i + 1) * c ≤ len * c := Nat.mul_le_mul_right _ hi2
          simp [h1]; rw [Nat.add_mul] at this; omega
        · have : i * c ≤ len * c := Nat.mul_le_mul_right _ (by omega)
          omega
      · obtain rfl : i = len := by omega
        rw [← h1, List.drop_left, List.take_of_length_le (by omega), h5, List.getElem?_eq_getElem]
theorem has_row {d : TD} {es : List AV} {cc : List Value} {M : Pool} (hv : RVs M nob es cc) (h : ∀ x ∈ es, d.has x) (hz : ∀ x ∈ es, x.csz = d.cs) : match d.ik with
    | some k => ∃ xs : List Int, RV M nob (.ints k es.length xs) cc ∧ xs.length = es.length ∧ ∀ x ∈ xs, (Lit.int k x).wf = true
    | none => RV M nob (.lst d.cs es.length es) cc := by
  split
  · rename_i k hk
    rw [ik_has hk] at h
    obtain ⟨xs, rfl, hl, hx⟩ := ints_of hv h
    exact ⟨xs, RV.ints k hl, hl, hx⟩
  · exact RV.lst hv hz rfl
mutual
theorem of_trod : ∀ (d : TD) (fuel : Nat) (t : TypeId) (cs : List Value) (x : DataW H × List MemPlace), DataW.trod enc P W 0 (fun _ => true) true fuel t cs = some x → d.ok P t = true → (x.1.weights P t).all (· ≤ reachBytes) = true →
    ∃ v, RV (allPool W) nob v cs ∧ d.has v ∧ v.csz = d.cs
  | .int k, fuel, t, cs, x, h, ht, _ => by
    simp only [TD.ok, Bool.and_eq_true] at ht
    have hu : P.underlying t = some (.int k) := by
      have := ht.2; split at this
      · rename_i k' hk; rw [hk]; simp at this; rw [this]
      · cases this
    obtain ⟨n, rfl, rfl, hw⟩ := DataW.trod_int hu h
    exact ⟨.int k n, .int k n, ⟨n, rfl, hw⟩, rfl⟩
  | .bool, fuel, t, cs, x, h, ht, _ => by
    simp only [TD.ok, Bool.and_eq_true] at ht
    have hu : P.underlying t = some .bool := by
      have := ht.2; split at this
      · assumption
      · cases this
    obtain ⟨b, rfl, rfl⟩ := DataW.trod_bool hu h
    exact ⟨.bool b, .bool b, ⟨b, rfl⟩, rfl⟩
  | .str, fuel, t, cs, x, h, ht, hz => by
    simp only [TD.ok, Bool.and_eq_true] at ht
    have hu : P.underlying t = some .string := by
      have := ht.2; split at this
      · assumption
      · cases this
    obtain ⟨s, rfl, rfl, hs⟩ := DataW.trod_string hu h
    refine ⟨.str s.data.toList, ?_, ⟨s.data.toList, rfl, ?_⟩, rfl⟩
    · have := RV.str (M := allPool W) (β := nob) s.data.toList
      simpa using this
    · simpa [DataW.weights] using hz
  | .arr n e, fuel, t, cs, x, h, ht, hz => by
    simp only [TD.ok, Bool.and_eq_true] at ht
    obtain ⟨u, hu, he⟩ : ∃ u, P.underlying t = some (.array n u) ∧ e.ok P u = true := by
      have := ht.2; split at this
      · rename_i m u hk
        simp only [Bool.and_eq_true, beq_iff_eq] at this
        exact ⟨u, by rw [hk, this.1], this.2⟩
      · cases this
    have hc := TD.ok_cs he
    obtain ⟨xs, m, _, rfl, hl, hn, hx⟩ := DataW.trod_array hu h
    simp only [DataW.weights, hu] at hz
    have hw := weights_all hz
    rw [hc] at hx
    have hcs : cs.length = n * e.cs := by rw [hl]; simpa using ht.1
    obtain ⟨es, h1, h2, h3, h4⟩ := rows_of (M := allPool W) (d := e) n cs hcs (fun i hi => by
      have hy := hx i hi
      rw [List.getElem?_eq_getElem (by omega)] at hy
      exact of_trod e m u _ _ hy he (hw _ (List.mem_map.2 ⟨_, List.getElem_mem _, rfl⟩)))
    have := has_row h1 h3 h4
    simp only [TD.has, TD.cs]
    split at this
    · rename_i k hk
      obtain ⟨zs, h5, h6, h7⟩ := this
      rw [h2] at h5 h6
      exact ⟨_, h5, ⟨zs, rfl, h6, h7⟩, by rw [ik_has hk]; simp [AV.csz, TD.cs]⟩
    · rename_i hk
      rw [h2] at this
      exact ⟨_, this, ⟨es, rfl, h2, h3⟩, by simp [AV.csz]⟩
  | .st fs, fuel, t, cs, x, h, ht, hz => by
    simp only [TD.ok, Bool.and_eq_true] at ht
    obtain ⟨gs, hu, he⟩ : ∃ gs, P.underlying t = some (.struct gs) ∧ TD.oks P fs gs.toList 0 = true := by
      have := ht.2; split at this
      · rename_i gs hk
        exact ⟨gs, hk, this⟩
      · cases this
    obtain ⟨xs, m, _, rfl, hl, hn, hx⟩ := DataW.trod_struct hu h
    simp only [DataW.weights, hu] at hz
    have hw := weights_each hz
    obtain ⟨ps, h1, h2, h3⟩ := of_trods fs gs.toList m cs 0 xs (by rw [hl]; simpa using ht.1) (fun i f hf => by simpa using hx i f (by simpa using hf)) he (fun i f y hf hy => hw i _ _ (by simp at hf; simp [hf]) (by simp [hy])) (by simpa using hn)
    exact ⟨.agg ps, .agg h1, ⟨ps, rfl, h2⟩, h3⟩
  | .sl bs e, fuel, t, cs, x, h, ht, hz => by
    simp only [TD.ok, Bool.and_eq_true] at ht
    obtain ⟨u, hu, hb, he⟩ : ∃ u, P.underlying t = some (.slice u) ∧ P.bytesOf u = bs ∧ e.ok P u = true := by
      have := ht.2; split at this
      · rename_i u hk
        simp only [Bool.and_eq_true, beq_iff_eq] at this
        exact ⟨u, hk, this.1, this.2⟩
      · cases this
    have hc := TD.ok_cs he
    have hpos : 1 ≤ e.cs := Nat.le_of_ble_eq_true ht.1.2
    rcases DataW.trod_slice hu h with ⟨rfl, rfl⟩ | ⟨a, len, cap, elems, rest, m, _, rfl, rfl, _, hl, hm, hlen, hel, _, _⟩
    · simp only [TD.has, TD.cs]
      split
      · rename_i k hk
        exact ⟨.sl (.ints k 0 []), .sl (cc := []) (RV.ints (xs := []) k rfl) rfl rfl (Nat.le_refl _) (.inl rfl), ⟨[], rfl, by simp, by simp, by simp⟩, rfl⟩
      · exact ⟨.sl (.lst e.cs 0 []), .sl (cc := []) (.lst .nil (by simp) rfl) rfl rfl (Nat.le_refl _) (.inl rfl), ⟨[], rfl, by simp, by simp, by simp⟩, rfl⟩
    · simp only [DataW.weights, hu, List.all_cons, List.all_append, Bool.and_eq_true, decide_eq_true_eq] at hz
      have hw := weights_all hz.2.1
      have hsp : len = 0 ∨ ∃ b off, a = ⟨b, off, none⟩ := by
        cases len with
        | zero => exact .inl rfl
        | succ l =>
          right
          have h0 := hel 0 (by omega)
          rw [List.getElem?_eq_getElem (by omega), Option.bind_eq_some_iff] at h0
          obtain ⟨c0, hc0, _⟩ := h0
          obtain ⟨_, hlen0, hcell⟩ := World.cells?_some hc0
          have h1 := hcell 0 (by omega)
          rw [List.getElem?_eq_getElem (by omega)] at h1
          obtain ⟨b, off, spot⟩ := a
          have hs : spot = none := by simpa [Addr.add] using World.cell?_spot h1
          exact ⟨b, off, by rw [hs]⟩
      have key : ∃ cc : List Value, cc.length = len * e.cs ∧ (len = 0 ∨ ∃ b off, some a = some ⟨b, off, none⟩ ∧ ∀ i v, cc[i]? = some v → allPool W b (off + i) = some v) ∧ ∀ i, i < len → DataW.trod enc P W 0 (fun _ => true) true m u ((cc.drop (i * e.cs)).take e.cs) = elems[i]? := by
        rcases hsp with rfl | ⟨b, off, rfl⟩
        · exact ⟨[], by simp, .inl rfl, by simp⟩
        · obtain ⟨cc, h1, h2, h3⟩ := slice_cells hc len hel (by omega)
          refine ⟨cc, h1, .inr ⟨b, off, rfl, fun i v hv => ?_⟩, h3⟩
          have : i < cc.length := (List.getElem?_eq_some_iff.1 hv).1
          show W.cell? _ = _
          rw [h2 i (by omega), hv]
      obtain ⟨cc, h1, h2, h3⟩ := key
      obtain ⟨es, k1, k2, k3, k4⟩ := rows_of (M := allPool W) (d := e) len cc h1 (fun i hi => by
        have hy := h3 i hi
        rw [List.getElem?_eq_getElem (by omega)] at hy
        exact of_trod e m u _ _ hy he (hw _ (List.mem_map.2 ⟨_, List.getElem_mem _, rfl⟩)))
      have hbl : es.length * bs ≤ reachBytes := by
        refine Nat.le_trans ?_ hz.1
        rw [hb, k2, List.length_map, hlen]
        exact Nat.mul_le_mul_right _ (Nat.le_add_right _ _)
      have hrow := has_row k1 k3 k4
      simp only [TD.has, TD.cs]
      split at hrow
      · rename_i k hk
        obtain ⟨zs, h5, h6, h7⟩ := hrow
        refine ⟨.sl (.ints k zs.length zs), .sl (cc := cc) (by rw [h6]; exact h5) rfl (by simp [AV.cnt]; omega) hl h2, ⟨zs, rfl, by rw [h6]; exact hbl, by omega, h7⟩, rfl⟩
      · rename_i hk
        exact ⟨.sl (.lst e.cs es.length es), .sl (cc := cc) hrow rfl (by simp [AV.cnt]; omega) hl h2, ⟨es, rfl, hbl, by omega, k3⟩, rfl⟩
theorem of_trods : ∀ (ds : List TD) (gs : List Field) (fuel : Nat) (cs : List Value) (off : Nat) (xs : List (DataW H × List MemPlace)), cs.length = off + TD.css ds →
    (∀ (i : Nat) (f : Field), gs[i]? = some f → DataW.trod enc P W 0 (fun _ => true) true fuel f.type ((cs.drop f.offset).take (P.cellsOf f.type)) = xs[i]?) → TD.oks P ds gs off = true →
    (∀ (i : Nat) (f : Field) (y : DataW H × List MemPlace), gs[i]? = some f → xs[i]? = some y → (y.1.weights P f.type).all (· ≤ reachBytes) = true) → xs.length = gs.length →
    ∃ ps, RVs (allPool W) nob ps (cs.drop off) ∧ TD.hass ds ps ∧ AV.cszs ps = TD.css ds
  | [], [], fuel, cs, off, xs, hl, h, ht, hw, hx => by
    rw [List.drop_eq_nil_of_le (by simp [TD.css] at hl; omega)]
    exact ⟨[], .nil, rfl, rfl⟩
  | [], _ :: _, _, _, _, _, _, _, ht, _, _ => by simp [TD.oks] at ht
  | _ :: _, [], _, _, _, _, _, _, ht, _, _ => by simp [TD.oks] at ht
  | d :: ds, g :: gs, fuel, cs, off, xs, hl, h, ht, hw, hx => by
    simp only [TD.oks, Bool.and_eq_true, beq_iff_eq] at ht
    have hc := TD.ok_cs ht.1.2
    match xs, hx with
    | y :: ys, hx =>
      have h0 := h 0 g rfl
      rw [ht.1.1, hc] at h0
      obtain ⟨v, k1, k2, k3⟩ := of_trod d fuel _ _ y (by simpa using h0) ht.1.2 (hw 0 g y rfl rfl)
      obtain ⟨ps, j1, j2, j3⟩ := of_trods ds gs fuel cs (off + d.cs) ys (by simp [TD.css] at hl; omega) (fun i f hf => by simpa using h (i + 1) f (by simpa using hf)) ht.2 (fun i f z hf hz => hw (i + 1) f z (by simpa using hf) (by simpa using hz)) (by simpa using hx)
      refine ⟨v :: ps, ?_, ⟨v, ps, rfl, k2, j2⟩, by simp [AV.cszs, TD.css, k3, j3]⟩
      have := RVs.cons k1 j1
      rw [← List.drop_drop, List.take_append_drop] at this
      exact this
end
end
end Go.Sy
namespace Go.Sy
open Go Go.ChangeShapes Go.WideShapes Go.ChangeAt Go.RowKit
set_option linter.unusedSimpArgs false
set_option linter.unusedVariables false
def TD.okl (P : Program) : List TD → List TypeId → Bool
  | [], [] => true
  | d :: ds, t :: ts => d.ok P t && TD.okl P ds ts
  | _, _ => false
def TD.many : TD → Bool
  | .arr .. | .st _ => true
  | _ => false
theorem has_multi : ∀ {d : TD} {v : AV}, d.has v → v.multi = d.many := by
  intro d v h
  cases d with
  | int k => simp only [TD.has] at h; obtain ⟨n, rfl, _⟩ := h; rfl
  | bool => simp only [TD.has] at h; obtain ⟨n, rfl⟩ := h; rfl
  | str => simp only [TD.has] at h; obtain ⟨n, rfl, _⟩ := h; rfl
  | arr n e =>
    simp only [TD.has] at h
    split at h <;> obtain ⟨n, rfl, _⟩ := h <;> rfl
  | st fs => simp only [TD.has] at h; obtain ⟨n, rfl, _⟩ := h; rfl
  | sl b e =>
    simp only [TD.has] at h
    split at h <;> obtain ⟨n, rfl, _⟩ := h <;> rfl
section
variable {H : Type} {enc : TypeId × Value → H} {P : Program} {W : World}
theorem arg_of {d : TD} {t : TypeId} {v : Value} {x : DataW H} {ps : List MemPlace} (ht : d.ok P t = true) {b0 : Nat} (hval : Value.okWide P W .any b0 t v) (h : DataW.Trod enc P W 0 (fun _ => true) true t v x ps)
    (hz : (x.weights P t).all (· ≤ reachBytes) = true) : ∃ a, VR (allPool W) nob a v ∧ d.has a := by
  obtain ⟨fuel, h⟩ := h
  obtain ⟨a, h1, h2, h3⟩ := of_trod d fuel t _ _ h ht hz
  refine ⟨a, ?_, h2⟩
  have hm := has_multi h2
  cases d with
  | int k =>
    obtain ⟨n, hc, _⟩ := rv_int (k := k) h1 (by simpa only [TD.has] using h2)
    simp only [TD.ok, Bool.and_eq_true] at ht
    have hu : P.underlying t = some (.int k) := by
      have := ht.2; split at this
      · rename_i k' hk; rw [hk]; simp at this; rw [this]
      · cases this
    unfold Value.okWide at hval
    rw [hu] at hval
    simp only [Cell.okWide, hu] at hval
    cases v <;> simp [Cell.ok, hu] at hval
    simp [Value.cells] at h1
    exact .one hm h1
  | bool =>
    simp only [TD.ok, Bool.and_eq_true] at ht
    have hu : P.underlying t = some .bool := by
      have := ht.2; split at this
      · assumption
      · cases this
    unfold Value.okWide at hval
    rw [hu] at hval
    simp only [Cell.okWide, hu] at hval
    cases v <;> simp [Cell.ok, hu] at hval
    simp [Value.cells] at h1
    exact .one hm h1
  | str =>
    simp only [TD.ok, Bool.and_eq_true] at ht
    have hu : P.underlying t = some .string := by
      have := ht.2; split at this
      · assumption
      · cases this
    unfold Value.okWide at hval
    rw [hu] at hval
    simp only [Cell.okWide, hu] at hval
    cases v <;> simp [Cell.ok, hu] at hval
    simp [Value.cells] at h1
    exact .one hm h1
  | sl b e =>
    simp only [TD.ok, Bool.and_eq_true] at ht
    obtain ⟨u, hu⟩ : ∃ u, P.underlying t = some (.slice u) := by
      have := ht.2; split at this
      · rename_i u hk; exact ⟨u, hk⟩
      · cases this
    obtain ⟨a0, l, c, rfl⟩ := okWide_slice hu hval
    simp [Value.cells] at h1
    exact .one hm h1
  | arr n e =>
    simp only [TD.ok, Bool.and_eq_true] at ht
    obtain ⟨m, u, hu⟩ : ∃ m u, P.underlying t = some (.array m u) := by
      have := ht.2; split at this
      · rename_i m u hk; exact ⟨m, u, hk⟩
      · cases this
    unfold Value.okWide at hval
    rw [hu] at hval
    obtain ⟨cs, rfl, _, _⟩ := hval
    simp only [Value.cells] at h1
    have := VR.agg hm h1
    simpa using this
  | st fs =>
    simp only [TD.ok, Bool.and_eq_true] at ht
    obtain ⟨u, hu⟩ : ∃ u, P.underlying t = some (.struct u) := by
      have := ht.2; split at this
      · rename_i u hk; exact ⟨u, hk⟩
      · cases this
    unfold Value.okWide at hval
    rw [hu] at hval
    obtain ⟨cs, rfl, _, _⟩ := hval
    simp only [Value.cells] at h1
    have := VR.agg hm h1
    simpa using this
theorem args_of : ∀ (tds : List TD) (ts : List TypeId) (vs : List Value) (ds : List (DataW H)) (ps : List MemPlace), DataW.TrodAll enc P W 0 (fun _ => true) true ts vs ds ps → TD.okl P tds ts = true →
    (∀ (j : Nat) t v, ts[j]? = some t → vs[j]? = some v → ∃ b0, Value.okWide P W .any b0 t v) → (DataW.weightsEach P ts ds).all (· ≤ reachBytes) = true →
    (∃ as, VRs (allPool W) nob as vs ∧ TD.hass tds as) ∧ ds.length = ts.length
  | [], [], vs, ds, ps, h, _, _, _ => by
    obtain ⟨rfl, rfl, _⟩ : vs = [] ∧ ds = [] ∧ ps = [] := by
      cases vs <;> cases ds <;> simp_all [DataW.TrodAll]
    exact ⟨⟨[], .nil, rfl⟩, rfl⟩
  | [], _ :: _, _, _, _, _, ht, _, _ => by simp [TD.okl] at ht
  | _ :: _, [], _, _, _, _, ht, _, _ => by simp [TD.okl] at ht
  | d :: tds, t :: ts, vs, ds, ps, h, ht, hv, hz => by
    match vs, ds with
    | [], [] => simp [DataW.TrodAll] at h
    | [], _ :: _ => simp [DataW.TrodAll] at h
    | _ :: _, [] => simp [DataW.TrodAll] at h
    | v :: vs, x :: ds =>
      obtain ⟨p, q, h1, h2, _⟩ := h
      simp only [TD.okl, Bool.and_eq_true] at ht
      simp only [DataW.weightsEach, List.all_append, Bool.and_eq_true] at hz
      obtain ⟨b0, hb⟩ := hv 0 t v rfl rfl
      obtain ⟨a, k1, k2⟩ := arg_of ht.1 hb h1 hz.1
      obtain ⟨⟨as, k3, k4⟩, hl⟩ := args_of tds ts vs ds q h2 ht.2 (fun j t v h h' => hv (j + 1) t v (by simpa using h) (by simpa using h')) hz.2
      exact ⟨⟨a :: as, .cons k1 k3, ⟨a, as, rfl, k2, k4⟩⟩, by simp [hl]⟩
theorem below_all (hl : laidOutB P = true) {W' : World} (bel : Below W.heap.size W W') : ∀ (ts : List TypeId) (vs : List Value) (ds : List (DataW H)) (ps : List MemPlace), ts.all (fun t => P.readableRec t && decide (t < P.types.size)) = true →
    DataW.TrodAll enc P W 0 (fun _ => true) true ts vs ds ps → DataW.TrodAll enc P W' 0 (fun b => decide (b < W.heap.size)) true ts vs ds ps
  | [], [], [], ps, _, h => h
  | [], [], _ :: _, _, _, h => h.elim
  | [], _ :: _, _, _, _, h => by cases h
  | _ :: _, [], _, _, _, h => by cases h
  | _ :: _, _ :: _, [], _, _, h => by cases h
  | t :: ts, v :: vs, d :: ds, ps, hr, ⟨p, q, h1, h2, e⟩ => by
    simp only [List.all_cons, Bool.and_eq_true, decide_eq_true_eq] at hr
    exact ⟨p, q, Below.trod hl hr.1.1 hr.1.2 h1 bel (fun x hx => by obtain ⟨m, hm⟩ := h1; exact DataW.trod_lt m _ _ _ hm x hx), below_all hl bel ts vs ds q hr.2 h2, e⟩
theorem law_calls {f : FuncId} {fn : Func} {s : ChangeSpec} {tds : List TD} (hl : laidOutB P = true) (hro : fn.params.toList.all (fun t => P.readableRec t && decide (t < P.types.size)) = true) (hok : TD.okl P tds fn.params.toList = true) (hs : s.vars = [])
    (hfn : ∀ (ds : List (DataW H)), ds.length = fn.params.toList.length → s.fn H ds = { results := [.lit (.bool true)], args := ds }) {tb : TypeId} (hres : fn.resultTypes = #[tb]) (htb : P.underlying tb = some .bool)
    (hX : ∀ as, TD.hass tds as → FnC P f as [] (.bool true) []) {base : Nat} {args : Array Value} {ds gs : List (DataW H)} {before : List MemPlace}
    (hval : ∀ (j : Nat) t v, fn.params[j]? = some t → args[j]? = some v → Value.okWide P W .any base t v)
    (hW : DataW.Whole enc P fn.params.toList s.vars false W args.toList ds gs before)
    (hsz : (DataW.weightsEach P (fn.params.toList ++ s.plain.varTypes P) (ds ++ gs)).all (· ≤ reachBytes) = true) :
    Calls P f args W fun e W' => ∃ v, e = .returned v ∧ s.post enc P fn false true false false W args v W' := by
  have hW' := hW
  obtain ⟨p, q, hA, hV, rfl, hfz, hnd⟩ := hW
  rw [hs] at hV
  obtain ⟨rfl, rfl⟩ := trodVars_none hV
  have hvt : s.plain.varTypes P = [] := by simp [ChangeSpec.plain, DataSpec.varTypes, hs]
  rw [hvt, List.append_nil, List.append_nil] at hsz
  obtain ⟨⟨as, h1, h2⟩, hlen⟩ := args_of tds _ _ _ _ hA hok (fun j t v h h' => ⟨base, hval j t v (by simpa using h) (by simpa using h')⟩) hsz
  have hst : St ⟨W, ownOf [] nob, allPool W, nob, 0, fun _ => True⟩ (allPool W) nob [] W :=
    ⟨fun _ _ _ h => h, fun _ _ _ h => h, fun _ _ _ h => .inl h, fun _ _ h => by simp [lk] at h, fun _ _ _ _ h => by simp [lk] at h, fun _ _ _ _ _ _ _ h => by simp [lk] at h, Nat.le_refl _, fun _ _ _ => rfl, rfl, rfl, rfl⟩
  have hc := (hX as h2).2 W (allPool W) nob args.toList (fun _ _ => rfl) hst h1
  rw [Array.toArray_toList] at hc
  refine hc.mono fun e W' ⟨x, M', β', he, hr, st, _⟩ => ?_
  have hx : x = .bool true := by
    cases hr with
    | one _ h => cases h; rfl
    | agg hm _ => cases hm
  subst hx
  have bel : Below W.heap.size W W' := ⟨st.os, st.tape, st.output, st.size, fun k hk => st.keep k hk (fun ⟨o, ob, κ, h, _⟩ => by simp [lk] at h)⟩
  refine ⟨_, he, ds, [], _, [], p, [], hW', ?_, ?_, ?_, bel.frame _, fun h => by cases h⟩
  · rw [List.append_nil, hfn ds hlen, hres]
    exact trodAll_mk1 (shut_bool htb _)
  · rw [List.append_nil, hfn ds hlen]
    exact below_all hl bel _ _ _ _ hro hA
  · rw [hs, List.append_nil, hfn ds hlen]
    rfl
end
theorem ex_map' {α : Type} {f : α → AV} {Q : α → Prop} : ∀ {es : List AV}, (∀ x ∈ es, ∃ a, x = f a ∧ Q a) → ∃ l : List α, es = l.map f ∧ ∀ a ∈ l, Q a
  | [], _ => ⟨[], rfl, by simp⟩
  | e :: es, h => by
    obtain ⟨a, rfl, ha⟩ := h e (by simp)
    obtain ⟨l, rfl, hl⟩ := ex_map' (es := es) (fun x hx => h x (by simp [hx]))
    refine ⟨a :: l, rfl, fun b hb => ?_⟩
    rcases List.mem_cons.1 hb with rfl | hb
    · exact ha
    · exact hl b hb
end Go.Sy
