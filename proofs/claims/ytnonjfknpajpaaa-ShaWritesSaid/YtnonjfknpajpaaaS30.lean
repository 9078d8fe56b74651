/- Helpers: contracts and calls without objects. -/
import Derived.Test.YtnonjfknpajpaaaS29
import Derived.KernelRfl
namespace Go.Sy
open Go
set_option linter.unusedSimpArgs false
set_option linter.unusedVariables false
/-! No own object is named, and all is told. -/
mutual
def AV.plain : AV → Bool
  | .agg ps => AV.plains ps
  | .arr _ ps => AV.plains ps
  | .tup ps => AV.plains ps
  | .fn _ ps => AV.plains ps
  | .ref .. | .osl .. | .mp _ | .junk => false
  | .int .. | .bool _ | .str _ | .nilp | .ints .. | .lst .. | .sl _ | .nils | .pp .. | .nilf | .nilm => true
def AV.plains : List AV → Bool
  | [] => true
  | v :: vs => v.plain && AV.plains vs
end
mutual
theorem plain_ren (σ : List (Nat × Nat)) : ∀ (v : AV) (K : AV → Prop), v.plain = true → K v → renC σ v K
  | .agg ps, K, h, hk => by simp only [renC]; exact plains_ren σ ps _ (by simpa [AV.plain] using h) hk
  | .arr sz ps, K, h, hk => by simp only [renC]; exact plains_ren σ ps _ (by simpa [AV.plain] using h) hk
  | .tup ps, K, h, hk => by simp only [renC]; exact plains_ren σ ps _ (by simpa [AV.plain] using h) hk
  | .fn f ps, K, h, hk => by simp only [renC]; exact plains_ren σ ps _ (by simpa [AV.plain] using h) hk
  | .ref .., _, h, _ => by simp [AV.plain] at h
  | .osl .., _, h, _ => by simp [AV.plain] at h
  | .mp _, _, h, _ => by simp [AV.plain] at h
  | .junk, _, h, _ => by simp [AV.plain] at h
  | .int .., _, _, hk => by simpa only [renC] using hk
  | .bool _, _, _, hk => by simpa only [renC] using hk
  | .str _, _, _, hk => by simpa only [renC] using hk
  | .nilp, _, _, hk => by simpa only [renC] using hk
  | .ints .., _, _, hk => by simpa only [renC] using hk
  | .lst .., _, _, hk => by simpa only [renC] using hk
  | .sl _, _, _, hk => by simpa only [renC] using hk
  | .nils, _, _, hk => by simpa only [renC] using hk
  | .pp .., _, _, hk => by simpa only [renC] using hk
  | .nilf, _, _, hk => by simpa only [renC] using hk
  | .nilm, _, _, hk => by simpa only [renC] using hk
theorem plains_ren (σ : List (Nat × Nat)) : ∀ (vs : List AV) (K : List AV → Prop), AV.plains vs = true → K vs → rensC σ vs K
  | [], _, _, hk => by simpa only [rensC] using hk
  | v :: vs, K, h, hk => by
    simp only [AV.plains, Bool.and_eq_true] at h
    simp only [rensC]
    exact plain_ren σ v _ h.1 (plains_ren σ vs _ h.2 hk)
end
def End0 (P : Program) (rs : List ResultVar) (r : AV) : CK := fun T O _ => resC P T O rs fun vs => matC [] [] [] r (packC vs)
/-- What is to be shown where a function ends that hands back objects: they by their names, of the contract and of the code (`σ`), and the nil slices (`Z`). -/
def EndX (O0 : OO) (r : AV) (O' : OO) (v : AV) (O : OO) : Prop := ∃ (σ : List (Nat × Nat)) (Z F : List Nat), okE σ Z F O0 = true ∧ matC σ Z (frzO O F) r v ∧ holdsN O σ Z (frzO O F) O' ∧ varsOK σ O0
def EndN (P : Program) (rs : List ResultVar) (O0 : OO) (r : AV) (O' : OO) : CK := fun T O _ => resC P T O rs fun vs => ev (packC vs) fun v => EndX O0 r O' v O
section
variable {P : Program} {O O' : OO} {n : Nat}
theorem resC_mono {T : TT} : ∀ {rs : List ResultVar} {κ κ' : List AV → Prop}, (∀ vs, κ vs → κ' vs) → resC P T O rs κ → resC P T O rs κ' := by
  intro rs
  induction rs with
  | nil => intro κ κ' h hk; exact h _ hk
  | cons r rs ih =>
    intro κ κ' h hk
    cases r with
    | tmp t =>
      simp only [resC, lkC_eq] at hk ⊢
      cases hl : lk T t with
      | none => rw [hl] at hk; exact hk
      | some v => rw [hl] at hk; exact ih (fun vs => h (v :: vs)) hk
    | cell t ty =>
      simp only [resC, lkC_eq] at hk ⊢
      cases hl : lk T t with
      | none => rw [hl] at hk; exact hk
      | some p =>
        rw [hl] at hk
        obtain ⟨y, h1, h2⟩ := hk
        obtain ⟨q, h3, h4⟩ := loadC_pt p _ h2
        exact ⟨y, h1, h4 _ ⟨h3.1, h3.2.1, ih (fun vs => h (q :: vs)) h3.2.2⟩⟩
theorem varsOK_nil : ∀ (O : OO), varsOK [] O
  | [] => trivial
  | (o, ob) :: O => ⟨fun _ o' h => (by cases h), varsOK_nil O⟩
theorem frzO_nil : ∀ O : OO, frzO O [] = []
  | [] => rfl
  | (o, ob) :: O => by simp [frzO, frzO_nil O]
theorem End0_EndC {rs : List ResultVar} {O0 : OO} {r : AV} (T : TT) (O : OO) (n : Nat) (h : End0 P rs r T O n) : EndC P rs O0 r [] T O n :=
  resC_mono (fun vs e => ⟨[], [], [], rfl, by rw [frzO_nil]; exact e, trivial, varsOK_nil O0⟩) h
/-- A contract of a function that hands back nothing of its own. -/
theorem fn0 (hm : P.follows .mixedOrders = true) (tb : List (Nat × Plan)) {f : FuncId} {fn : Func} {c : Code} {args : List AV} {r : AV} (k na : Nat) (rs : List ResultVar) (hf : P.funcs[f]? = some fn) (hb : fn.body = some c) (hres : fn.results.toList = rs)
    (hnm : (fn.name == "runtime.NumGoroutine") = false) (hna : args.length = na) (hN : Nat.ble na fn.ntmps = true) (hd : dstOK tb fn.ntmps c = true) (hk : ∀ p ∈ O, p.1 < k)
    (h : ev (numT 0 args) fun T => vcC P tb k c (End0 P rs r) (fun _ _ _ _ => False) (End0 P rs r) T O k) : FnC P f args O r [] :=
  fn_of_vc hm tb k hf hb hnm (by rw [hna]; exact Nat.le_of_ble_eq_true hN) hd hk (End0 P rs r) (fun T O1 n he => by rw [hres]; exact End0_EndC T O1 n he) h
/-- A contract of a function that is handed objects, or hands some back. -/
theorem fnN (hm : P.follows .mixedOrders = true) (tb : List (Nat × Plan)) {f : FuncId} {fn : Func} {c : Code} {args : List AV} {r : AV} (k na : Nat) (rs : List ResultVar) (hf : P.funcs[f]? = some fn) (hb : fn.body = some c) (hres : fn.results.toList = rs)
    (hnm : (fn.name == "runtime.NumGoroutine") = false) (hna : args.length = na) (hN : Nat.ble na fn.ntmps = true) (hd : dstOK tb fn.ntmps c = true) (hk : ∀ p ∈ O, p.1 < k)
    (h : ev (numT 0 args) fun T => ev O fun O1 => vcC P tb k c (EndN P rs O r O') (fun _ _ _ _ => False) (EndN P rs O r O') T O1 k) : FnC P f args O r O' :=
  fn_of_vc hm tb k hf hb hnm (by rw [hna]; exact Nat.le_of_ble_eq_true hN) hd hk (EndN P rs O r O') (fun T O1 n he => by rw [hres]; exact he) h
theorem argsOK_plain (bor : Bool) (σ : List (Nat × Nat)) (O : OO) : ∀ {as : List AV}, AV.plains as = true → argsOK bor σ O as as
  | [], _ => trivial
  | a :: as, h => by
    simp only [AV.plains, Bool.and_eq_true] at h
    exact ⟨.inl (plain_ren _ _ _ h.1 rfl), argsOK_plain bor σ O h.2⟩
theorem rmsO_nil (O : OO) (κ : OO → Prop) (h : κ O) : rmsO O [] κ := by cases O <;> exact h
/-- A call that hands over nothing of the caller's own. -/
theorem call0 {f : FuncId} {args : List AV} {r : AV} {κ : KK} (h : FnC P f args [] r []) (hk : κ r O n) (ha : AV.plains args = true := by rfl) (hr : r.plain = true := by rfl) : CallP P f args O n κ :=
  ⟨false, [], [], args, [], O, r, [], n, h, rmsO_nil _ _ rfl, argsOK_plain _ _ _ ha, trivial, rfl, List.nodup_nil, List.nodup_nil, Nat.le_refl _, List.nodup_nil, List.nodup_nil, trivial, rfl, fun h => (by cases h), plain_ren _ _ _ hr hk⟩
/-- A call that borrows. -/
theorem callB {f : FuncId} {args A : List AV} {r : AV} {κ : KK} (h : FnC P f A [] r []) (ha : argsOK true [] O args A) (hk : κ r O n) (hr : r.plain = true := by rfl) (hp : r.pf = true := by rfl) : CallP P f args O n κ :=
  ⟨true, [], [], A, [], O, r, [], n, h, rmsO_nil _ _ rfl, ha, trivial, rfl, List.nodup_nil, List.nodup_nil, Nat.le_refl _, List.nodup_nil, List.nodup_nil, trivial, rfl, fun _ => ⟨hp, fun p hp => by cases hp⟩, plain_ren _ _ _ hr hk⟩
end
attribute [go_sem ↓] End0 EndN
attribute [go_sem] AV.sl.injEq and_false false_and List.take_zero List.take_succ_cons List.drop_zero List.drop_succ_cons List.take_nil List.drop_nil Int.sub_zero List.length_map List.length_replicate OB.var.injEq exists_eq' forall_eq' Nat.zero_add Nat.add_zero Int.zero_add Int.add_zero Nat.sub_zero Nat.zero_mul Nat.mul_one Nat.one_mul ne_eq reduceCtorEq not_false_eq_true false_imp_iff true_implies implies_true true_or or_true or_false false_or List.contains_nil List.contains_cons Bool.true_or Bool.or_true Bool.false_or Bool.or_false Int.cast_ofNat_Int Bool.false_eq_true Bool.true_eq_false List.set_cons_zero List.set_cons_succ List.getD_cons_zero List.getD_cons_succ List.replicate_zero
end Go.Sy
