/- Texts, joined. -/
import Derived.KernelRfl
import Derived.Test.YtololahjocfbeaaGreatC07
namespace Go.Sy
open Go
set_option linter.unusedSimpArgs false
set_option linter.unusedVariables false
mutual
def AV.plain : AV → Bool
  | .agg ps => AV.plains ps
  | .arr _ ps => AV.plains ps
  | .tup ps => AV.plains ps
  | .fn _ ps => AV.plains ps
  | .fb _ ps => AV.plains ps
  | .ref .. | .osl .. | .mp _ | .junk => false
  | .int .. | .bool _ | .str _ | .nilp | .ints .. | .lst .. | .sl _ | .nils | .pp .. | .nilf | .nilm | .opq => true
def AV.plains : List AV → Bool
  | [] => true
  | v :: vs => v.plain && AV.plains vs
end
mutual
theorem plain_ren (σ : List (Nat × Nat)) : ∀ (v : AV) (K : AV → Prop), v.plain = true → K v → renC σ v K
  | .agg ps, K, h, hk => by simp only [renC]; exact plains_ren σ ps _ (by simpa [AV.plain] using h) hk
  | .arr sz ps, K, h, hk => by simp only [renC]; exact plains_ren σ ps _ (by simpa [AV.plain] using h) hk
  | .tup ps, K, h, hk => by simp only [renC]; exact plains_ren σ ps _ (by simpa [AV.plain] using h) hk
  | .fn f ps, K, h, hk => by simp only [renC]; exact plains_ren σ ps _ (by simpa [AV.plain] using h) hk
  | .fb f ps, K, h, hk => by simp only [renC]; exact plains_ren σ ps _ (by simpa [AV.plain] using h) hk
  | .ref .., _, h, _ => by simp [AV.plain] at h
  | .osl .., _, h, _ => by simp [AV.plain] at h
  | .mp _, _, h, _ => by simp [AV.plain] at h
  | .junk, _, h, _ => by simp [AV.plain] at h
  | .int .., _, _, hk => by simpa only [renC] using hk
  | .bool _, _, _, hk => by simpa only [renC] using hk
  | .str _, _, _, hk => by simpa only [renC] using hk
  | .nilp, _, _, hk => by simpa only [renC] using hk
  | .ints .., _, _, hk => by simpa only [renC] using hk
  | .lst .., _, _, hk => by simpa only [renC] using hk
  | .sl _, _, _, hk => by simpa only [renC] using hk
  | .nils, _, _, hk => by simpa only [renC] using hk
  | .pp .., _, _, hk => by simpa only [renC] using hk
  | .nilf, _, _, hk => by simpa only [renC] using hk
  | .nilm, _, _, hk => by simpa only [renC] using hk
  | .opq, _, _, hk => by simpa only [renC] using hk
theorem plains_ren (σ : List (Nat × Nat)) : ∀ (vs : List AV) (K : List AV → Prop), AV.plains vs = true → K vs → rensC σ vs K
  | [], _, _, hk => by simpa only [rensC] using hk
  | v :: vs, K, h, hk => by
    simp only [AV.plains, Bool.and_eq_true] at h
    simp only [rensC]
    exact plain_ren σ v _ h.1 (plains_ren σ vs _ h.2 hk)
end
def End0 (P : Program) (rs : List ResultVar) (r : AV) : CK := fun T O _ => resC P T O rs fun vs => matC [] [] [] r (packC vs)
def EndX (O0 : OO) (r : AV) (O' : OO) (v : AV) (O : OO) : Prop := ∃ (σ : List (Nat × Nat)) (Z F : List Nat), okE σ Z F O0 = true ∧ matC σ Z (frzO O F) r v ∧ holdsN O σ Z (frzO O F) O' ∧ varsOK σ O0
def EndN (P : Program) (rs : List ResultVar) (O0 : OO) (r : AV) (O' : OO) : CK := fun T O _ => resC P T O rs fun vs => ev (packC vs) fun v => EndX O0 r O' v O
section
variable {P : Program} {O O' : OO} {n : Nat}
theorem resC_mono {T : TT} : ∀ {rs : List ResultVar} {κ κ' : List AV → Prop}, (∀ vs, κ vs → κ' vs) → resC P T O rs κ → resC P T O rs κ' := by
  intro rs
  induction rs with
  | nil => intro κ κ' h hk; exact h _ hk
  | cons r rs ih =>
    intro κ κ' h hk
    cases r with
    | tmp t =>
      simp only [resC, lkC_eq] at hk ⊢
      cases hl : lk T t with
      | none => rw [hl] at hk; exact hk
      | some v => rw [hl] at hk; exact ih (fun vs => h (v :: vs)) hk
    | cell t ty =>
      simp only [resC, lkC_eq] at hk ⊢
      cases hl : lk T t with
      | none => rw [hl] at hk; exact hk
      | some p =>
        rw [hl] at hk
        obtain ⟨y, h1, h2⟩ := hk
        obtain ⟨q, h3, h4⟩ := loadC_pt p _ h2
        exact ⟨y, h1, h4 _ ⟨h3.1, h3.2.1, ih (fun vs => h (q :: vs)) h3.2.2⟩⟩
theorem varsOK_nil : ∀ (O : OO), varsOK [] O
  | [] => trivial
  | (o, ob) :: O => ⟨fun _ o' h => (by cases h), varsOK_nil O⟩
theorem frzO_nil : ∀ O : OO, frzO O [] = []
  | [] => rfl
  | (o, ob) :: O => by simp [frzO, frzO_nil O]
theorem End0_EndC {rs : List ResultVar} {O0 : OO} {r : AV} (T : TT) (O : OO) (n : Nat) (h : End0 P rs r T O n) : EndC P rs O0 r [] T O n :=
  resC_mono (fun vs e => ⟨[], [], [], rfl, by rw [frzO_nil]; exact e, trivial, varsOK_nil O0⟩) h
theorem fn0 (hm : P.follows .mixedOrders = true) (tb : List (Nat × Plan)) {f : FuncId} {fn : Func} {c : Code} {args : List AV} {r : AV} (k na : Nat) (rs : List ResultVar) (hf : P.funcs[f]? = some fn) (hb : fn.body = some c) (hres : fn.results.toList = rs)
    (hnm : (fn.name == "runtime.NumGoroutine") = false) (hna : args.length = na) (hN : Nat.ble na fn.ntmps = true) (hd : dstOK tb fn.ntmps c = true) (hk : ∀ p ∈ O, p.1 < k)
    (h : ev (numT 0 args) fun T => vcC P tb k c (End0 P rs r) (fun _ _ _ _ => False) (End0 P rs r) T O k) : FnC P f args O r [] :=
  fn_of_vc hm tb k hf hb hnm (by rw [hna]; exact Nat.le_of_ble_eq_true hN) hd hk k (Nat.le_refl _) (fun o c h => hk _ (lk_mem h)) (End0 P rs r) (fun T O1 n he => by rw [hres]; exact End0_EndC T O1 n he) h
theorem fnN (hm : P.follows .mixedOrders = true) (tb : List (Nat × Plan)) {f : FuncId} {fn : Func} {c : Code} {args : List AV} {r : AV} (k na : Nat) (rs : List ResultVar) (hf : P.funcs[f]? = some fn) (hb : fn.body = some c) (hres : fn.results.toList = rs)
    (hnm : (fn.name == "runtime.NumGoroutine") = false) (hna : args.length = na) (hN : Nat.ble na fn.ntmps = true) (hd : dstOK tb fn.ntmps c = true) (hk : ∀ p ∈ O, p.1 < k)
    (h : ev (numT 0 args) fun T => ev O fun O1 => vcC P tb k c (EndN P rs O r O') (fun _ _ _ _ => False) (EndN P rs O r O') T O1 k) : FnC P f args O r O' :=
  fn_of_vc hm tb k hf hb hnm (by rw [hna]; exact Nat.le_of_ble_eq_true hN) hd hk k (Nat.le_refl _) (fun o c h => hk _ (lk_mem h)) (EndN P rs O r O') (fun T O1 n he => by rw [hres]; exact he) h
theorem fnV (hm : P.follows .mixedOrders = true) (tb : List (Nat × Plan)) {f : FuncId} {fn : Func} {c : Code} {args : List AV} {r : AV} (k0 k na : Nat) (rs : List ResultVar) (hf : P.funcs[f]? = some fn) (hb : fn.body = some c) (hres : fn.results.toList = rs)
    (hnm : (fn.name == "runtime.NumGoroutine") = false) (hna : args.length = na) (hN : Nat.ble na fn.ntmps = true) (hd : dstOK tb fn.ntmps c = true) (hk : ∀ p ∈ O, p.1 < k) (hk0 : Nat.ble k0 k = true) (hv : (O.all fun p => match p.2 with | .var _ => Nat.ble (p.1 + 1) k0 | _ => true) = true)
    (h : ev (numT 0 args) fun T => ev O fun O1 => vcC P tb k0 c (EndN P rs O r O') (fun _ _ _ _ => False) (EndN P rs O r O') T O1 k) : FnC P f args O r O' :=
  fn_of_vc hm tb k hf hb hnm (by rw [hna]; exact Nat.le_of_ble_eq_true hN) hd hk k0 (Nat.le_of_ble_eq_true hk0) (fun o c h => Nat.le_of_ble_eq_true (List.all_eq_true.1 hv _ (lk_mem h))) (EndN P rs O r O') (fun T O1 n he => by rw [hres]; exact he) h
theorem argsOK_plain (bor : Bool) (σ : List (Nat × Nat)) (O : OO) : ∀ {as : List AV}, AV.plains as = true → argsOK bor σ O as as
  | [], _ => trivial
  | a :: as, h => by
    simp only [AV.plains, Bool.and_eq_true] at h
    exact ⟨.inl (plain_ren _ _ _ h.1 rfl), argsOK_plain bor σ O h.2⟩
theorem rmsO_nil (O : OO) (κ : OO → Prop) (h : κ O) : rmsO O [] κ := by cases O <;> exact h
theorem call0 {f : FuncId} {args : List AV} {r : AV} {κ : KK} (h : FnC P f args [] r []) (hk : κ r O n) (ha : AV.plains args = true := by rfl) (hr : r.plain = true := by rfl) : CallP P f args O n κ :=
  ⟨[], false, [], [], args, [], O, r, [], n, h.k, rmsO_nil _ _ rfl, argsOK_plain _ _ _ ha, trivial, rfl, List.nodup_nil, List.nodup_nil, Nat.le_refl _, List.nodup_nil, List.nodup_nil, trivial, rfl, fun h => (by cases h), plain_ren _ _ _ hr hk⟩
theorem callB {f : FuncId} {args A : List AV} {r : AV} {κ : KK} (h : FnC P f A [] r []) (ha : argsOK true [] O args A) (hk : κ r O n) (hr : r.plain = true := by rfl) (hp : r.pf = true := by rfl) : CallP P f args O n κ :=
  ⟨[], true, [], [], A, [], O, r, [], n, h.k, rmsO_nil _ _ rfl, ha, trivial, rfl, List.nodup_nil, List.nodup_nil, Nat.le_refl _, List.nodup_nil, List.nodup_nil, trivial, rfl, fun _ => ⟨hp, fun p hp => by cases hp⟩, plain_ren _ _ _ hr hk⟩
end
attribute [go_sem ↓] End0 EndN
attribute [go_sem] exists_false AV.sl.injEq and_false false_and List.take_zero List.take_succ_cons List.drop_zero List.drop_succ_cons List.take_nil List.drop_nil Int.sub_zero List.length_map List.length_replicate OB.var.injEq exists_eq' forall_eq' Nat.zero_add Nat.add_zero Int.zero_add Int.add_zero Nat.sub_zero Nat.zero_mul Nat.mul_one Nat.one_mul ne_eq reduceCtorEq not_false_eq_true false_imp_iff true_implies implies_true true_or or_true or_false false_or List.contains_nil List.contains_cons Bool.true_or Bool.or_true Bool.false_or Bool.or_false Int.cast_ofNat_Int Bool.false_eq_true Bool.true_eq_false List.set_cons_zero List.set_cons_succ List.getD_cons_zero List.getD_cons_succ List.replicate_zero
end Go.Sy
namespace Go.Sy
open Go
set_option linter.unusedVariables false
def Nxt {ι : Type} (k m : Nat) (Q : ι → Prop) (I : ι → TT) (J : ι → OO) (μ : ι → Nat) (i : ι) (T : TT) (O : OO) : Prop :=
  ∃ i' σ Z F, Q i' ∧ μ i' < μ i ∧ okσ k m σ Z F = true ∧ idsOK σ k ∧ tmpsOK σ Z (frzO O F) T (I i') ∧ holdsN O σ Z (frzO O F) (J i')
theorem loop {k : Nat} {F : CK → CK} {T : TT} {O : OO} {n : Nat} {ι : Type} (m : Nat) (Q : ι → Prop) (I : ι → TT) (J : ι → OO) (μ : ι → Nat) (i0 : ι) (σ0 : List (Nat × Nat)) (Z0 : List Nat) (h0 : Q i0) (hσ : okσ k m σ0 Z0 [] = true)
    (hid : idsOK σ0 k) (hT : tmpsOK σ0 Z0 [] T (I i0)) (hO : holdsN O σ0 Z0 [] (J i0)) (h : ∀ i, Q i → F (fun T O _ => Nxt k m Q I J μ i T O) (I i) (J i) m) : VLoop k F T O n := by
  refine ⟨{ i // Q i }, fun i => I i.1, fun i => J i.1, fun _ => m, fun i => μ i.1, ⟨i0, h0⟩, ⟨σ0, Z0, [], hσ, hid, by rw [frzO_nil]; exact hT, by rw [frzO_nil]; exact hO⟩, fun i => ?_⟩
  have := h i.1 i.2
  have e : (fun (T : TT) (O : OO) (_ : Nat) => Nxt k m Q I J μ i.1 T O) = fun (T' : TT) (O' : OO) (_ : Nat) => ∃ i' : { i // Q i }, μ i'.1 < μ i.1 ∧ Sub k T' O' (I i'.1) (J i'.1) m := by
    funext T O n
    exact propext ⟨fun ⟨i', σ, Z, F, hq, hμ, a, b, c, d⟩ => ⟨⟨i', hq⟩, hμ, σ, Z, F, a, b, c, d⟩, fun ⟨⟨i', hq⟩, hμ, σ, Z, F, a, b, c, d⟩ => ⟨i', σ, Z, F, hq, hμ, a, b, c, d⟩⟩
  rwa [e] at this
theorem subC_len (kk : IntKind) (m : Nat) (xs : List Int) (lo len : Nat) (κ : AV → Prop) (h : xs.length = m) : subC (.ints kk m xs) lo len κ = (lo + len ≤ m ∧ κ (.ints kk len ((xs.drop lo).take len))) := by
  rw [subC_ints]
  by_cases e : lo = 0 ∧ len = m
  · obtain ⟨rfl, rfl⟩ := e
    subst h
    rw [decide_eq_true ⟨rfl, rfl⟩, brC_true]; simp
  · rw [decide_eq_false e, brC_false]
theorem cut {k : Nat} {G : CK} {T : TT} {O : OO} {n : Nat} (m : Nat) (I : TT) (J : OO) (σ : List (Nat × Nat)) (Z F : List Nat) (hσ : okσ k m σ Z F = true) (hid : idsOK σ k) (hT : tmpsOK σ Z (frzO O F) T I) (hO : holdsN O σ Z (frzO O F) J) (h : G I J m) : Cut k G T O n :=
  ⟨I, J, m, ⟨σ, Z, F, hσ, hid, hT, hO⟩, h⟩
def fresh (n : Nat) : Nat → List (Nat × Nat)
  | 0 => []
  | m + 1 => fresh n m ++ [(m, n + m)]
theorem rmsO_run {l : List Nat} : ∀ {O : OO} {κ : OO → Prop}, rmsO O l κ → ∃ O2, (rmsO O l fun O' => O' = O2) ∧ κ O2 := by
  have one : ∀ {O : OO} {o : Nat} {κ : OO → Prop}, rmO O o κ → ∃ O2, κ O2 ∧ ∀ κ', κ' O2 → rmO O o κ' := by
    intro O
    induction O with
    | nil => intro o κ h; exact ⟨[], h, fun _ h => h⟩
    | cons p O ih =>
      obtain ⟨i, ob⟩ := p
      intro o κ h
      simp only [rmO] at h ⊢
      split at h
      · rename_i e
        obtain ⟨O2, h1, h2⟩ := ih h
        exact ⟨O2, h1, fun κ' hk => by rw [if_pos e]; exact h2 _ hk⟩
      · rename_i e
        obtain ⟨O2, h1, h2⟩ := ih h
        exact ⟨_, h1, fun κ' hk => by rw [if_neg e]; exact h2 _ hk⟩
  induction l with
  | nil =>
    intro O κ h
    refine ⟨O, ?_, ?_⟩
    · cases O <;> rfl
    · cases O <;> exact h
  | cons o l ih =>
    intro O κ h
    have h' : rmO O o fun O' => rmsO O' l κ := by cases O <;> exact h
    obtain ⟨O1, h1, h2⟩ := one h'
    obtain ⟨O2, h3, h4⟩ := ih h1
    refine ⟨O2, ?_, h4⟩
    have : rmO O o fun O' => rmsO O' l fun O' => O' = O2 := h2 _ h3
    cases O <;> exact this
section
variable {P : Program} {O O' O1 : OO} {n : Nat}
theorem callG {f : FuncId} {args A : List AV} {r : AV} {κ : KK} (bor : Bool) (σ τ : List (Nat × Nat)) (n' : Nat) (h : FnC P f A O1 r O') (h1 : (σ.map (·.1) = keys O1) ∧ (keys O1).Nodup ∧ (σ.map (·.2)).Nodup ∧ n ≤ n' ∧ (τ.map (·.1)).Nodup ∧ (τ.map (·.2)).Nodup ∧ τ.map (·.1) = keys O')
    (hk : ev (σ.map (·.2)) fun l => rmsO O l fun O2 => argsOK bor σ O2 args A ∧ holdsO O σ O1 ∧ homesOK σ τ O1 n n' O' ∧ (bor = true → r.pf = true ∧ ∀ p ∈ O', p.2.pf = true) ∧ renC τ r fun r' => renOO τ O' fun L => κ r' (L ++ O2) n') : CallP P f args O n κ := by
  obtain ⟨O2, k0, k1, k2, k3, k4, k5⟩ := rmsO_run hk
  obtain ⟨a1, a2, a3, a4, a5, a6, a7⟩ := h1
  exact ⟨[], bor, σ, τ, A, O1, O2, r, O', n', h.k, k0, k1, k2, a1, a2, a3, a4, a5, a6, k3.k idC_mono, a7, k4, k5⟩
theorem callK {f : FuncId} {args A : List AV} {r : AV} {κ : KK} {ks : List Nat} (bor : Bool) (σ τ : List (Nat × Nat)) (n' : Nat) (h : FnK P ks f A O1 r O') (h1 : (σ.map (·.1) = keys O1) ∧ (keys O1).Nodup ∧ (σ.map (·.2)).Nodup ∧ n ≤ n' ∧ (τ.map (·.1)).Nodup ∧ (τ.map (·.2)).Nodup ∧ τ.map (·.1) = keys O')
    (hk : ev (σ.map (·.2)) fun l => rmsO O l fun O2 => argsOK bor σ O2 args A ∧ holdsO O σ O1 ∧ homesK ks σ τ O1 n n' O' ∧ (bor = true → r.pf = true ∧ ∀ p ∈ O', p.2.pf = true) ∧ renC τ r fun r' => renOO τ O' fun L => κ r' (L ++ O2) n') : CallP P f args O n κ := by
  obtain ⟨O2, k0, k1, k2, k3, k4, k5⟩ := rmsO_run hk
  obtain ⟨a1, a2, a3, a4, a5, a6, a7⟩ := h1
  exact ⟨ks, bor, σ, τ, A, O1, O2, r, O', n', h, k0, k1, k2, a1, a2, a3, a4, a5, a6, k3, a7, k4, k5⟩
theorem callGB {f : FuncId} {args A : List AV} {r : AV} {κ : KK} (σ τ : List (Nat × Nat)) (n' : Nat) (h : FnC P f A O1 r O') (h1 : (σ.map (·.1) = keys O1) ∧ (keys O1).Nodup ∧ (σ.map (·.2)).Nodup ∧ n ≤ n' ∧ (τ.map (·.1)).Nodup ∧ (τ.map (·.2)).Nodup ∧ τ.map (·.1) = keys O')
    (hk : ev (σ.map (·.2)) fun l => rmsO O l fun O2 => argsOK true σ O2 args A ∧ holdsO O σ O1 ∧ homesOK σ τ O1 n n' O' ∧ renC τ r fun r' => renOO τ O' fun L => κ r' (L ++ O2) n') (hp : r.pf = true := by rfl) (hq : (O'.all fun p => p.2.pf) = true := by rfl) : CallP P f args O n κ := by
  obtain ⟨O2, k0, k1, k2, k3, k5⟩ := rmsO_run hk
  obtain ⟨a1, a2, a3, a4, a5, a6, a7⟩ := h1
  exact ⟨[], true, σ, τ, A, O1, O2, r, O', n', h.k, k0, k1, k2, a1, a2, a3, a4, a5, a6, k3.k idC_mono, a7, fun _ => ⟨hp, fun p hp => List.all_eq_true.1 hq p hp⟩, k5⟩
theorem idC_fresh {K : Nat → Prop} {o : Nat} : ∀ {m : Nat}, o < m → K (n + o) → idC (fresh n m) o K := by
  have app : ∀ (l : List (Nat × Nat)) (p : Nat × Nat), (∀ q ∈ l, q.1 ≠ o) → (p.1 = o ∧ K p.2) → idC (l ++ [p]) o K := by
    intro l
    induction l with
    | nil => intro p _ h; simp only [List.nil_append, idC]; rw [if_pos h.1]; exact h.2
    | cons q l ih =>
      intro p h hp
      simp only [List.cons_append, idC]
      rw [if_neg (h q (by simp))]
      exact ih p (fun q hq => h q (by simp [hq])) hp
  have appl : ∀ (l : List (Nat × Nat)) (p : Nat × Nat), idC l o K → idC (l ++ [p]) o K := by
    intro l
    induction l with
    | nil => intro p h; exact h.elim
    | cons q l ih =>
      intro p h
      simp only [List.cons_append, idC] at h ⊢
      split at h
      · rename_i e; rw [if_pos e]; exact h
      · rename_i e; rw [if_neg e]; exact ih p h
  intro m
  induction m with
  | zero => intro h; omega
  | succ m ih =>
    intro h hk
    by_cases e : o = m
    · subst e
      refine app _ _ (fun q hq => ?_) ⟨rfl, hk⟩
      have : ∀ m, ∀ q ∈ fresh n m, q.1 < m := by
        intro m
        induction m with
        | zero => intro q hq; cases hq
        | succ m ih =>
          intro q hq
          simp only [fresh, List.mem_append, List.mem_singleton] at hq
          rcases hq with hq | rfl
          · have := ih q hq; omega
          · exact Nat.lt_succ_self _
      have := this _ q hq
      omega
    · exact appl _ _ (ih (by omega) hk)
theorem fresh_fst : ∀ m, (fresh n m).map (·.1) = List.range m
  | 0 => rfl
  | m + 1 => by simp [fresh, fresh_fst m, List.range_succ]
theorem fresh_snd : ∀ m, (fresh n m).map (·.2) = (List.range m).map (n + ·)
  | 0 => rfl
  | m + 1 => by simp [fresh, fresh_snd m, List.range_succ]
theorem fresh_homes {m : Nat} : ∀ {O' : OO}, (∀ o ∈ keys O', o < m) → homesOK [] (fresh n m) [] n (n + m) O'
  | [], _ => trivial
  | (o, ob) :: O', h => ⟨idC_fresh (h o (by simp [keys])) (.inl ⟨by omega, by have := h o (by simp [keys]); omega⟩), fresh_homes fun o ho => h o (by simp only [keys, List.map_cons, List.mem_cons] at ho ⊢; exact .inr ho)⟩
theorem fresh_ok (m : Nat) {O' : OO} (hO : keys O' = List.range m) : (([] : List (Nat × Nat)).map (·.1) = keys ([] : OO)) ∧ (keys ([] : OO)).Nodup ∧ (([] : List (Nat × Nat)).map (·.2)).Nodup ∧ n ≤ n + m ∧ ((fresh n m).map (·.1)).Nodup ∧ ((fresh n m).map (·.2)).Nodup ∧ (fresh n m).map (·.1) = keys O' := by
  refine ⟨rfl, List.nodup_nil, List.nodup_nil, Nat.le_add_right _ _, ?_, ?_, ?_⟩
  · rw [fresh_fst]; exact List.nodup_range
  · rw [fresh_snd]
    exact List.Pairwise.map _ (fun a b h => by intro e; exact h (by omega)) List.nodup_range
  · rw [fresh_fst, hO]
theorem callF {f : FuncId} {args : List AV} {r : AV} {κ : KK} (m : Nat) (h : FnC P f args [] r O') (hk : renC (fresh n m) r fun r' => renOO (fresh n m) O' fun L => κ r' (L ++ O) (n + m)) (ha : AV.plains args = true := by rfl) (hO : keys O' = List.range m := by rfl) : CallP P f args O n κ :=
  callG false [] (fresh n m) (n + m) h (fresh_ok m hO) (by
    have : rmsO O [] fun O2 => argsOK false [] O2 args args ∧ holdsO O [] [] ∧ homesOK [] (fresh n m) [] n (n + m) O' ∧ (false = true → r.pf = true ∧ ∀ p ∈ O', p.2.pf = true) ∧ renC (fresh n m) r fun r' => renOO (fresh n m) O' fun L => κ r' (L ++ O2) (n + m) :=
      rmsO_nil _ _ ⟨argsOK_plain _ _ _ ha, trivial, fresh_homes (fun o ho => by rw [hO] at ho; simpa using ho), (fun h => by cases h), hk⟩
    exact this)
theorem callBF {f : FuncId} {args A : List AV} {r : AV} {κ : KK} (m : Nat) (h : FnC P f A [] r O') (ha : argsOK true [] O args A) (hk : renC (fresh n m) r fun r' => renOO (fresh n m) O' fun L => κ r' (L ++ O) (n + m)) (hO : keys O' = List.range m := by rfl) (hp : r.pf = true := by rfl) (hq : (O'.all fun p => p.2.pf) = true := by rfl) : CallP P f args O n κ :=
  callG true [] (fresh n m) (n + m) h (fresh_ok m hO) (by
    have : rmsO O [] fun O2 => argsOK true [] O2 args A ∧ holdsO O [] [] ∧ homesOK [] (fresh n m) [] n (n + m) O' ∧ (true = true → r.pf = true ∧ ∀ p ∈ O', p.2.pf = true) ∧ renC (fresh n m) r fun r' => renOO (fresh n m) O' fun L => κ r' (L ++ O2) (n + m) :=
      rmsO_nil _ _ ⟨ha, trivial, fresh_homes (fun o ho => by rw [hO] at ho; simpa using ho), (fun _ => ⟨hp, fun p hp => List.all_eq_true.1 hq p hp⟩), hk⟩
    exact this)
end
theorem wrap_i64 {n : Int} (h : -9223372036854775808 ≤ n) (h' : n < 9223372036854775808) : IntKind.i64.wrap n = n := by
  have e : IntKind.i64.wrap n = if (9223372036854775808 : Int) ≤ n % 18446744073709551616 then n % 18446744073709551616 - 18446744073709551616 else n % 18446744073709551616 := by
    show (if (true && decide ((9223372036854775808 : Int) ≤ n % 18446744073709551616)) = true then _ else _) = _
    by_cases h : (9223372036854775808 : Int) ≤ n % 18446744073709551616 <;> simp [h] <;> rfl
  rw [e]
  split <;> omega
theorem wrap_u64 {n : Int} (h : 0 ≤ n) (h' : n < 18446744073709551616) : IntKind.u64.wrap n = n := by
  simp only [IntKind.wrap, IntKind.bits, IntKind.signed, Bool.false_and]
  simp; omega
theorem wrap_u32 {n : Int} (h : 0 ≤ n) (h' : n < 4294967296) : IntKind.u32.wrap n = n := by
  simp only [IntKind.wrap, IntKind.bits, IntKind.signed, Bool.false_and]
  simp; omega
theorem wrap_u16 {n : Int} (h : 0 ≤ n) (h' : n < 65536) : IntKind.u16.wrap n = n := by
  simp only [IntKind.wrap, IntKind.bits, IntKind.signed, Bool.false_and]
  simp; omega
theorem wrap_u8 {n : Int} (h : 0 ≤ n) (h' : n < 256) : IntKind.u8.wrap n = n := by
  simp only [IntKind.wrap, IntKind.bits, IntKind.signed, Bool.false_and]
  simp; omega
theorem osl_cond (a : Nat) (b : List Stp) (c d e z : Nat) : (∀ (o : Nat) (p : List Stp) (sz lo len : Nat), AV.osl a b c d e = AV.osl o p sz lo len → sz = z) = (c = z) := by
  apply propext
  constructor
  · intro h; exact h _ _ _ _ _ rfl
  · rintro h o p sz lo len e; cases e; exact h
theorem le_and {a b : Int} {K : Prop} (h : a ≤ b) : (a ≤ b ∧ K) = K := by simp [h]
theorem lt_and {a b : Int} {K : Prop} (h : a < b) : (a < b ∧ K) = K := by simp [h]
theorem nle_and {a b : Nat} {K : Prop} (h : a ≤ b) : (a ≤ b ∧ K) = K := by simp [h]
theorem nlt_and {a b : Nat} {K : Prop} (h : a < b) : (a < b ∧ K) = K := by simp [h]
theorem ne_and {a b : Int} {K : Prop} (h : a ≠ b) : (a ≠ b ∧ K) = K := by simp [h]
theorem wf_u8 {t : Int} (h : (Lit.int .u8 t).wf = true) : 0 ≤ t ∧ t < 256 := by
  simp [Lit.wf, IntKind.min, IntKind.max, IntKind.signed, IntKind.bits] at h; omega
attribute [go_sem ↓] fresh
attribute [go_sem] Int.toNat_natCast Int.natCast_add Int.natCast_mul Int.natCast_zero Int.natCast_one Int.cast_ofNat_Int
attribute [go_sem] osl_cond Ty.int.injEq
attribute [go_sem] wrap_i64 wrap_u64 wrap_u32 wrap_u16 wrap_u8 le_and lt_and nle_and nlt_and ne_and
end Go.Sy
namespace Go.Sy
open Go
set_option linter.unusedVariables false
theorem ishr_div (k : IntKind) (a : Int) (n : Nat) (h : n ≤ k.bits) : ishr k a n = a / 2 ^ n := by
  unfold ishr
  rw [Nat.min_eq_left h]
  exact Int.fdiv_eq_ediv_of_nonneg a (Int.le_of_lt (Int.pow_pos (by decide)))
theorem ofInt_toNat {w : Nat} {a : Int} (h : 0 ≤ a) (h' : a < 2 ^ w) : (BitVec.ofInt w a).toNat = a.toNat := by
  rw [BitVec.toNat_ofInt]
  rw [Int.emod_eq_of_lt h (by exact_mod_cast h')]
theorem iand_nat {k : IntKind} {a b : Int} (ha : 0 ≤ a) (ha' : a < 2 ^ k.bits) (hb : 0 ≤ b) (hb' : b < 2 ^ k.bits) : iand k a b = k.wrap ((a.toNat &&& b.toNat : Nat) : Int) := by
  unfold iand
  rw [BitVec.toNat_and, ofInt_toNat ha ha', ofInt_toNat hb hb']
theorem ior_nat {k : IntKind} {a b : Int} (ha : 0 ≤ a) (ha' : a < 2 ^ k.bits) (hb : 0 ≤ b) (hb' : b < 2 ^ k.bits) : ior k a b = k.wrap ((a.toNat ||| b.toNat : Nat) : Int) := by
  unfold ior
  rw [BitVec.toNat_or, ofInt_toNat ha ha', ofInt_toNat hb hb']
theorem and_mask (n j : Nat) : n &&& (2 ^ j - 1) = n % 2 ^ j := Nat.and_two_pow_sub_one_eq_mod n j
theorem iand_mask {k : IntKind} {a b : Int} (j : Nat) (hb : b = 2 ^ j - 1) (hj : j < k.bits) (ha : 0 ≤ a) (ha' : a < 2 ^ k.bits) : iand k a b = a % 2 ^ j := by
  have hp : (1 : Int) ≤ 2 ^ j := Int.pow_pos (by decide)
  have hlt : (2 : Int) ^ j < 2 ^ k.bits := by
    have := Nat.pow_lt_pow_right (show 1 < 2 by decide) hj
    exact_mod_cast this
  rw [iand_nat ha ha' (by omega) (by omega)]
  have e : b.toNat = 2 ^ j - 1 := by
    rw [hb]
    have : ((2 : Int) ^ j - 1) = ((2 ^ j - 1 : Nat) : Int) := by
      rw [Int.natCast_sub (Nat.one_le_two_pow)]
      simp
    rw [this, Int.toNat_natCast]
  rw [e, and_mask]
  have e2 : ((a.toNat % 2 ^ j : Nat) : Int) = a % 2 ^ j := by
    rw [Int.natCast_emod, Int.toNat_of_nonneg ha]
    simp
  rw [e2]
  have h0 : 0 ≤ a % 2 ^ j := Int.emod_nonneg _ (by omega)
  have h1 : a % 2 ^ j < 2 ^ j := Int.emod_lt_of_pos _ (by omega)
  have hh : (2 : Int) ^ j ≤ 2 ^ (k.bits - 1) := by
    have := Nat.pow_le_pow_right (show 0 < 2 by decide) (show j ≤ k.bits - 1 by omega)
    exact_mod_cast this
  unfold IntKind.wrap
  rw [Int.emod_eq_of_lt h0 (by omega)]
  simp only []
  rw [if_neg]
  simp only [Bool.and_eq_true, decide_eq_true_eq, not_and, ge_iff_le]
  intro _
  omega
end Go.Sy
namespace Go.Sy
open Go
set_option linter.unusedVariables false
theorem ixor_nat {k : IntKind} {a b : Int} (ha : 0 ≤ a) (ha' : a < 2 ^ k.bits) (hb : 0 ≤ b) (hb' : b < 2 ^ k.bits) : ixor k a b = k.wrap ((a.toNat ^^^ b.toNat : Nat) : Int) := by
  unfold ixor
  rw [BitVec.toNat_xor, ofInt_toNat ha ha', ofInt_toNat hb hb']
def isW (a : Int) : Prop := 0 ≤ a ∧ a < 4294967296
theorem isW.nat {a : Int} (h : isW a) : a.toNat < 2 ^ 32 := by have := h.1; have := h.2; omega
theorem isW.of {n : Nat} (h : n < 2 ^ 32) : isW (n : Int) := ⟨by omega, by omega⟩
theorem wrapW {n : Nat} (h : n < 2 ^ 32) : IntKind.u32.wrap (n : Int) = n := wrap_u32 (by omega) (by omega)
theorem wrap_isW (n : Int) : isW (IntKind.u32.wrap n) := by
  have : IntKind.u32.wrap n = n % 4294967296 := by simp [IntKind.wrap, IntKind.signed, IntKind.bits]
  rw [this]
  exact ⟨by omega, by omega⟩
theorem andW {a b : Int} (ha : isW a) (hb : isW b) : iand .u32 a b = ((a.toNat &&& b.toNat : Nat) : Int) := by
  rw [iand_nat (k := .u32) ha.1 ha.2 hb.1 hb.2]
  exact wrapW (Nat.and_lt_two_pow _ hb.nat)
theorem orW {a b : Int} (ha : isW a) (hb : isW b) : ior .u32 a b = ((a.toNat ||| b.toNat : Nat) : Int) := by
  rw [ior_nat (k := .u32) ha.1 ha.2 hb.1 hb.2]
  exact wrapW (Nat.or_lt_two_pow ha.nat hb.nat)
theorem xorW {a b : Int} (ha : isW a) (hb : isW b) : ixor .u32 a b = ((a.toNat ^^^ b.toNat : Nat) : Int) := by
  rw [ixor_nat (k := .u32) ha.1 ha.2 hb.1 hb.2]
  exact wrapW (Nat.xor_lt_two_pow ha.nat hb.nat)
theorem and_isW {a b : Int} (ha : isW a) (hb : isW b) : isW (iand .u32 a b) := by rw [andW ha hb]; exact .of (Nat.and_lt_two_pow _ hb.nat)
theorem or_isW {a b : Int} (ha : isW a) (hb : isW b) : isW (ior .u32 a b) := by rw [orW ha hb]; exact .of (Nat.or_lt_two_pow ha.nat hb.nat)
theorem xor_isW {a b : Int} (ha : isW a) (hb : isW b) : isW (ixor .u32 a b) := by rw [xorW ha hb]; exact .of (Nat.xor_lt_two_pow ha.nat hb.nat)
theorem notW {a : Int} (ha : isW a) : inot .u32 a = 4294967295 - a := by
  have h0 := ha.1
  have h1 := ha.2
  have hM : isW 4294967295 := ⟨by decide, by decide⟩
  show ixor .u32 4294967295 a = _
  rw [xorW hM ha]
  have e : (4294967295 : Int).toNat ^^^ a.toNat = 4294967295 - a.toNat := by
    apply Nat.eq_of_testBit_eq
    intro i
    have hs := Nat.testBit_two_pow_sub_succ (x := a.toNat) (n := 32) ha.nat i
    have hm := Nat.testBit_two_pow_sub_one 32 i
    rw [show 4294967295 - a.toNat = 2 ^ 32 - (a.toNat + 1) by omega, hs, Nat.testBit_xor]
    rw [show (4294967295 : Int).toNat = 2 ^ 32 - 1 by decide, hm]
    by_cases hi : i < 32
    · simp [hi]
    · have : a.toNat.testBit i = false := Nat.testBit_lt_two_pow (Nat.lt_of_lt_of_le ha.nat (Nat.pow_le_pow_right (by decide) (by omega)))
      simp [hi, this]
  rw [e]
  omega
theorem not_isW {a : Int} (ha : isW a) : isW (4294967295 - a) := by have := ha.1; have := ha.2; exact ⟨by omega, by omega⟩
def chI (e f g : Int) : Int := ixor .u32 (iand .u32 e f) (iand .u32 (4294967295 - e) g)
def maI (a b c : Int) : Int := ixor .u32 (ixor .u32 (iand .u32 a b) (iand .u32 a c)) (iand .u32 b c)
theorem ch_or {e f g : Int} (he : isW e) (hf : isW f) (hg : isW g) : ior .u32 (iand .u32 e f) (iand .u32 (inot .u32 e) g) = chI e f g := by
  have hn := not_isW he
  rw [notW he, chI, orW (and_isW he hf) (and_isW hn hg), xorW (and_isW he hf) (and_isW hn hg), andW he hf, andW hn hg]
  congr 1
  simp only [Int.toNat_natCast]
  apply Nat.eq_of_testBit_eq
  intro i
  have hs := Nat.testBit_two_pow_sub_succ (x := e.toNat) (n := 32) he.nat i
  have e2 : (4294967295 - e).toNat = 2 ^ 32 - (e.toNat + 1) := by have := he.1; have := he.2; omega
  simp only [Nat.testBit_or, Nat.testBit_xor, Nat.testBit_and, e2, hs]
  cases e.toNat.testBit i <;> cases f.toNat.testBit i <;> cases g.toNat.testBit i <;> simp
theorem ma_or {a b c : Int} (ha : isW a) (hb : isW b) (hc : isW c) : ior .u32 (ior .u32 (iand .u32 a b) (iand .u32 a c)) (iand .u32 b c) = maI a b c := by
  rw [maI, orW (or_isW (and_isW ha hb) (and_isW ha hc)) (and_isW hb hc), xorW (xor_isW (and_isW ha hb) (and_isW ha hc)) (and_isW hb hc), orW (and_isW ha hb) (and_isW ha hc), xorW (and_isW ha hb) (and_isW ha hc), andW ha hb, andW ha hc, andW hb hc]
  congr 1
  simp only [Int.toNat_natCast]
  apply Nat.eq_of_testBit_eq
  intro i
  simp only [Nat.testBit_or, Nat.testBit_xor, Nat.testBit_and]
  cases a.toNat.testBit i <;> cases b.toNat.testBit i <;> cases c.toNat.testBit i <;> simp
def rot (p q x : Int) : Int := x / p + x % p * q
theorem rot_bound {p q x : Int} (h : p * q = 4294967296) (hp : 0 < p) (hq : 0 < q) (hx : isW x) : 0 ≤ x / p ∧ x / p < q ∧ 0 ≤ x % p * q ∧ x % p * q ≤ 4294967296 - q := by
  have h1 : x / p < q := Int.ediv_lt_of_lt_mul hp (by rw [Int.mul_comm, h]; exact hx.2)
  have h2 : x % p < p := Int.emod_lt_of_pos _ hp
  have h3 : 0 ≤ x % p := Int.emod_nonneg _ (by omega)
  have h4 : x % p * q ≤ (p - 1) * q := Int.mul_le_mul_of_nonneg_right (by omega) (by omega)
  have h5 : (p - 1) * q = 4294967296 - q := by rw [Int.sub_mul, h, Int.one_mul]
  exact ⟨Int.ediv_nonneg hx.1 (by omega), h1, Int.mul_nonneg h3 (by omega), by omega⟩
theorem rot_right {p q x : Int} (h : p * q = 4294967296) (hp : 0 < p) (hq : 0 < q) (hx : isW x) : IntKind.u32.wrap (x.tdiv p + IntKind.u32.wrap (x.tmod p * q)) = rot p q x := by
  obtain ⟨h1, h2, h3, h4⟩ := rot_bound h hp hq hx
  rw [Int.tdiv_eq_ediv_of_nonneg hx.1, Int.tmod_eq_emod_of_nonneg hx.1, wrap_u32 (n := x % p * q) h3 (by omega), wrap_u32 (by omega) (by omega)]
  rfl
theorem rot_left {x : Int} (n m : Nat) (h : n + m = 32) (hx : isW x) : ior .u32 (ishl .u32 x m) (ishr .u32 x n) = rot (2 ^ n) (2 ^ m) x := by
  have hp : (0 : Int) < 2 ^ n := Int.pow_pos (by decide)
  have hq : (0 : Int) < 2 ^ m := Int.pow_pos (by decide)
  have hpq : (2 : Int) ^ n * 2 ^ m = 4294967296 := by rw [← Int.pow_add, h]; decide
  obtain ⟨h1, h2, h3, h4⟩ := rot_bound hpq hp hq hx
  have e1 : ishr .u32 x n = x / 2 ^ n := ishr_div _ _ n (by show n ≤ 32; omega)
  have e2 : ishl .u32 x m = x % 2 ^ n * 2 ^ m := by
    unfold ishl
    rw [Nat.min_eq_left (show m ≤ IntKind.u32.bits by show m ≤ 32; omega)]
    have : ∀ n, IntKind.u32.wrap n = n % 4294967296 := fun n => by simp [IntKind.wrap, IntKind.signed, IntKind.bits]
    rw [this, ← hpq, Int.mul_comm x, Int.mul_comm (2 ^ n), Int.mul_emod_mul_of_pos _ _ hq, Int.mul_comm]
  have w1 : isW (x % 2 ^ n * 2 ^ m) := ⟨h3, by omega⟩
  have w2 : isW (x / 2 ^ n) := ⟨h1, Int.lt_of_le_of_lt (Int.ediv_le_self _ hx.1) hx.2⟩
  rw [e1, e2, orW w1 w2]
  have hn : (x % 2 ^ n * 2 ^ m).toNat = (x % 2 ^ n).toNat <<< m := by
    rw [Nat.shiftLeft_eq]
    have : x % 2 ^ n * 2 ^ m = (((x % 2 ^ n).toNat * 2 ^ m : Nat) : Int) := by
      rw [Int.natCast_mul, Int.toNat_of_nonneg (Int.emod_nonneg _ (by omega))]
      simp
    rw [this, Int.toNat_natCast]
  have hb : (x / 2 ^ n).toNat < 2 ^ m := by
    have : ((2 ^ m : Nat) : Int) = 2 ^ m := by simp
    omega
  rw [hn, ← Nat.shiftLeft_add_eq_or_of_lt hb, Int.natCast_add, ← hn, Int.toNat_of_nonneg w1.1, Int.toNat_of_nonneg w2.1]
  unfold rot
  omega
end Go.Sy
