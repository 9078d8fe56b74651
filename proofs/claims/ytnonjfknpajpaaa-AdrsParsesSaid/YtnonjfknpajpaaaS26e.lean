/- One value told as another one: names turn; a nil slice is a row of its own that holds nothing. -/
import Derived.Test.YtnonjfknpajpaaaS26d
namespace Go.Sy
open Go
set_option linter.unusedSimpArgs false
set_option linter.unusedVariables false
def AV.void : AV → Bool
  | .ints _ n xs => n == 0 && xs.isEmpty
  | .lst _ n es => n == 0 && es.isEmpty
  | .arr _ ps => ps.isEmpty
  | _ => false
def OB.void : OB → Bool
  | .row c => c.void && decide (1 ≤ c.esz)
  | _ => false
mutual
def matC (σ : List (Nat × Nat)) (Z : List Nat) : AV → AV → Prop
  | .osl o p sz lo len, u => (match u with
    | .nils => p = [] ∧ lo = 0 ∧ len = 0 ∧ Z.contains o = true
    | u => idC σ o fun o' => AV.osl o' p sz lo len = u)
  | .agg ps, u => (match u with | .agg us => matsC σ Z ps us | _ => False)
  | .arr sz ps, u => (match u with | .arr sz' us => sz = sz' ∧ matsC σ Z ps us | _ => False)
  | .tup ps, u => (match u with | .tup us => matsC σ Z ps us | _ => False)
  | .lst sz n es, u => (match u with | .arr sz' us => sz = sz' ∧ AV.nids us = true ∧ n = us.length ∧ es = us | u => AV.lst sz n es = u)
  | .sl c, u => (match u with | .nils => c.void = true | u => AV.sl c = u)
  | .ref o p, u => idC σ o fun o' => AV.ref o' p = u
  | .mp o, u => idC σ o fun o' => AV.mp o' = u
  | .fn f ps, u => renC σ (.fn f ps) fun v' => v' = u
  | .int k n, u => AV.int k n = u
  | .bool b, u => AV.bool b = u
  | .str s, u => AV.str s = u
  | .nilp, u => AV.nilp = u
  | .ints k n xs, u => AV.ints k n xs = u
  | .nils, u => AV.nils = u
  | .pp c p, u => AV.pp c p = u
  | .nilf, u => AV.nilf = u
  | .nilm, u => AV.nilm = u
  | .junk, _ => False
def matsC (σ : List (Nat × Nat)) (Z : List Nat) : List AV → List AV → Prop
  | [], us => us = []
  | v :: vs, us => (match us with | u :: us => matC σ Z v u ∧ matsC σ Z vs us | [] => False)
end
def NilOK (Z : List Nat) (β1 : Bmap) : Prop := ∀ o, Z.contains o = true → β1 o = some (0, 0)
structure Mat (σ : List (Nat × Nat)) (Z : List Nat) (v u : AV) : Prop where
  csz : v.csz = u.csz
  row : v.isRow = u.isRow
  cnt : v.isRow = true → v.cnt = u.cnt
  esz : v.isRow = true → v.esz = u.esz
  rv : ∀ {M : Pool} {β1 β : Bmap} {cs : List Value}, Agr σ β1 β → NilOK Z β1 → RV M β u cs → RV M β1 v cs
  vr : ∀ {M : Pool} {β1 β : Bmap} {x : Value}, Agr σ β1 β → NilOK Z β1 → VR M β u x → VR M β1 v x
structure Mats (σ : List (Nat × Nat)) (Z : List Nat) (vs us : List AV) : Prop where
  len : vs.length = us.length
  cszs : AV.cszs vs = AV.cszs us
  all : ∀ sz, (∀ p ∈ us, p.csz = sz) → (∀ p ∈ vs, p.csz = sz)
  rv : ∀ {M : Pool} {β1 β : Bmap} {cs : List Value}, Agr σ β1 β → NilOK Z β1 → RVs M β us cs → RVs M β1 vs cs
  vr : ∀ {M : Pool} {β1 β : Bmap} {xs : List Value}, Agr σ β1 β → NilOK Z β1 → VRs M β us xs → VRs M β1 vs xs
theorem Mat.of_ren {σ : List (Nat × Nat)} {Z : List Nat} {v u : AV} (h : Ren σ v u) : Mat σ Z v u := ⟨h.csz.symm, h.row.symm, fun _ => h.cnt.symm, fun _ => h.esz.symm, fun ha _ g => (h.rv ha).2 g, fun ha _ g => (h.vr ha).2 g⟩
theorem Mat.of_renC {σ : List (Nat × Nat)} {Z : List Nat} {v u : AV} (h : renC σ v fun v' => v' = u) : Mat σ Z v u := by
  obtain ⟨v', rfl, hr⟩ := renC_spec σ v _ h
  exact .of_ren hr
theorem rv_void {M : Pool} {β : Bmap} {c : AV} (h : c.void = true) : RV M β c [] := by
  cases c with
  | ints k n xs =>
    simp [AV.void] at h
    obtain ⟨rfl, rfl⟩ := h
    exact RV.ints (xs := []) k rfl
  | lst sz n es =>
    simp [AV.void] at h
    obtain ⟨rfl, rfl⟩ := h
    exact .lst .nil (by simp) rfl
  | arr sz ps =>
    simp [AV.void] at h
    subst h
    exact .arr .nil (by simp)
  | _ => cases h
theorem void_row {c : AV} (h : c.void = true) : c.isRow = true ∧ c.cnt = 0 := by
  cases c <;> simp_all [AV.void, AV.isRow, AV.cnt]
mutual
theorem matC_spec (σ : List (Nat × Nat)) (Z : List Nat) : ∀ (v u : AV), matC σ Z v u → Mat σ Z v u
  | .osl o p sz lo len, u, h => by
    have gen : ∀ u, (idC σ o fun o' => AV.osl o' p sz lo len = u) → Mat σ Z (.osl o p sz lo len) u := fun u h => .of_renC (by simpa only [renC] using h)
    cases u with
    | nils =>
      simp only [matC] at h
      obtain ⟨rfl, rfl, rfl, h1⟩ := h
      have key : ∀ {M : Pool} {β1 β : Bmap} {cs : List Value}, Agr σ β1 β → NilOK Z β1 → RV M β .nils cs → RV M β1 (.osl o [] sz 0 0) cs := fun ha hn g => by
        cases g
        exact .osl (hn _ h1) (Nat.le_refl _) (fun _ => by simp) (.inl rfl)
      exact ⟨rfl, rfl, (fun h => by cases h), (fun h => by cases h), key, fun ha hn g => .one rfl (key ha hn (g.one_inv rfl rfl))⟩
    | _ => exact gen _ (by simpa only [matC] using h)
  | .agg ps, u, h => by
    cases u with
    | agg us =>
      have hs := matsC_spec σ Z ps us (by simpa only [matC] using h)
      have key : ∀ {M : Pool} {β1 β : Bmap} {cs : List Value}, Agr σ β1 β → NilOK Z β1 → RV M β (.agg us) cs → RV M β1 (.agg ps) cs := fun ha hn g => by
        cases g with | agg g => exact .agg (hs.rv ha hn g)
      refine ⟨hs.cszs, rfl, (fun h => by cases h), (fun h => by cases h), key, fun ha hn g => ?_⟩
      obtain ⟨cs, rfl, g'⟩ := g.agg_inv rfl rfl
      exact .agg rfl (key ha hn g')
    | _ => simp only [matC] at h
  | .arr sz ps, u, h => by
    cases u with
    | arr sz' us =>
      simp only [matC] at h
      obtain ⟨rfl, h⟩ := h
      have hs := matsC_spec σ Z ps us h
      have key : ∀ {M : Pool} {β1 β : Bmap} {cs : List Value}, Agr σ β1 β → NilOK Z β1 → RV M β (.arr sz us) cs → RV M β1 (.arr sz ps) cs := fun ha hn g => by
        cases g with | arr g hz => exact .arr (hs.rv ha hn g) (hs.all _ hz)
      refine ⟨by simp only [AV.csz, hs.len], rfl, fun _ => hs.len, fun _ => rfl, key, fun ha hn g => ?_⟩
      obtain ⟨cs, rfl, g'⟩ := g.agg_inv rfl rfl
      exact .agg rfl (key ha hn g')
    | _ => simp only [matC] at h
  | .tup ps, u, h => by
    cases u with
    | tup us =>
      have hs := matsC_spec σ Z ps us (by simpa only [matC] using h)
      refine ⟨by simp only [AV.csz], rfl, (fun h => by cases h), (fun h => by cases h), (fun ha hn g => by cases g), fun ha hn g => ?_⟩
      cases g with
      | tup g => exact .tup (hs.vr ha hn g)
      | one hm _ => cases hm
      | agg _ g => cases g
    | _ => simp only [matC] at h
  | .lst sz n es, u, h => by
    cases u with
    | arr sz' us =>
      simp only [matC] at h
      obtain ⟨rfl, hn, rfl, rfl⟩ := h
      have key : ∀ {M : Pool} {β1 β : Bmap} {cs : List Value}, RV M β (.arr sz es) cs → RV M β1 (.lst sz es.length es) cs := fun g => by
        cases g with | arr g hz => exact .lst (nid_aux.2.1 g hn _) hz rfl
      refine ⟨rfl, rfl, fun _ => rfl, fun _ => rfl, fun _ _ g => key g, fun _ _ g => ?_⟩
      obtain ⟨cs, rfl, g'⟩ := g.agg_inv rfl rfl
      exact .agg rfl (key g')
    | _ => exact .of_renC (by simpa only [matC, renC] using h)
  | .sl c, u, h => by
    cases u with
    | nils =>
      simp only [matC] at h
      have key : ∀ {M : Pool} {β1 β : Bmap} {cs : List Value}, RV M β .nils cs → RV M β1 (.sl c) cs := fun g => by
        cases g
        exact .sl (cc := []) (rv_void h) (void_row h).1 (void_row h).2 (Nat.le_refl _) (.inl rfl)
      exact ⟨rfl, rfl, (fun h => by cases h), (fun h => by cases h), fun _ _ g => key g, fun _ _ g => .one rfl (key (g.one_inv rfl rfl))⟩
    | _ => exact .of_renC (by simpa only [matC, renC] using h)
  | .ref o p, u, h => .of_renC (by simpa only [matC, renC] using h)
  | .mp o, u, h => .of_renC (by simpa only [matC, renC] using h)
  | .fn f ps, u, h => .of_renC (by simpa only [matC] using h)
  | .int k n, u, h => .of_renC (by simpa only [matC, renC] using h)
  | .bool b, u, h => .of_renC (by simpa only [matC, renC] using h)
  | .str s, u, h => .of_renC (by simpa only [matC, renC] using h)
  | .nilp, u, h => .of_renC (by simpa only [matC, renC] using h)
  | .ints k n xs, u, h => .of_renC (by simpa only [matC, renC] using h)
  | .nils, u, h => .of_renC (by simpa only [matC, renC] using h)
  | .pp c p, u, h => .of_renC (by simpa only [matC, renC] using h)
  | .nilf, u, h => .of_renC (by simpa only [matC, renC] using h)
  | .nilm, u, h => .of_renC (by simpa only [matC, renC] using h)
  | .junk, u, h => by simp only [matC] at h
theorem matsC_spec (σ : List (Nat × Nat)) (Z : List Nat) : ∀ (vs us : List AV), matsC σ Z vs us → Mats σ Z vs us
  | [], us, h => by
    simp only [matsC] at h
    subst h
    exact ⟨rfl, rfl, fun _ h => h, (fun _ _ g => by cases g; exact .nil), (fun _ _ g => by cases g; exact .nil)⟩
  | v :: vs, us, h => by
    cases us with
    | nil => simp only [matsC] at h
    | cons u us =>
      simp only [matsC] at h
      have h1 := matC_spec σ Z v u h.1
      have h2 := matsC_spec σ Z vs us h.2
      refine ⟨by simp [h2.len], by simp only [AV.cszs, h1.csz, h2.cszs], fun sz hz => ?_, fun ha hn g => ?_, fun ha hn g => ?_⟩
      · simp only [List.mem_cons, forall_eq_or_imp] at hz ⊢
        exact ⟨by rw [h1.csz]; exact hz.1, h2.all _ hz.2⟩
      · cases g with | cons g1 g2 => exact .cons (h1.rv ha hn g1) (h2.rv ha hn g2)
      · cases g with | cons g1 g2 => exact .cons (h1.vr ha hn g1) (h2.vr ha hn g2)
end
def matOB (σ : List (Nat × Nat)) (Z : List Nat) : OB → OB → Prop
  | .var c, ob => (match ob with | .var d => matC σ Z c d | _ => False)
  | .row c, ob => (match ob with | .row d => matC σ Z c d | _ => False)
  | .map ks, ob => renOB σ (.map ks) fun ob' => ob = ob'
theorem matOB_spec {σ : List (Nat × Nat)} {Z : List Nat} {ob ob' : OB} (h : matOB σ Z ob ob') {M : Pool} {β1 β : Bmap} {b κ : Nat} {w : World} (ha : Agr σ β1 β) (hn : NilOK Z β1) (g : OR M β b κ w ob') : OR M β1 b κ w ob := by
  cases ob with
  | var c =>
    cases ob' with
    | var d =>
      have hm := matC_spec σ Z c d h
      obtain ⟨h1, h2, cs, e, fz, h3, h4, h5⟩ := g
      exact ⟨h1, by rw [hm.csz]; exact h2, cs, e, fz, h3, h4, hm.rv ha hn h5⟩
    | _ => exact h.elim
  | row c =>
    cases ob' with
    | row d =>
      have hm := matC_spec σ Z c d h
      obtain ⟨h1, h2, h3⟩ := g
      have hr : c.isRow = true := by rw [hm.row]; exact h1
      refine ⟨hr, by rw [hm.esz hr]; exact h2, ?_⟩
      rw [hm.cnt hr, hm.esz hr]
      rcases h3 with ⟨k1, k2, k3⟩ | ⟨k1, cc, sp, e, fz, k2, k3, k4, k5⟩
      · exact .inl ⟨k1, k2, hm.rv ha hn k3⟩
      · exact .inr ⟨k1, cc, sp, e, fz, k2, k3, hm.rv ha hn k4, k5⟩
    | _ => exact h.elim
  | map ks =>
    obtain ⟨ob'', rfl, hr⟩ := renOB_spec (σ := σ) (ob := .map ks) (κ := fun ob'' => ob' = ob'') h
    exact (hr ha).2 g
def homeC (σ : List (Nat × Nat)) (Z : List Nat) (O : OO) (o : Nat) (ob : OB) : Prop := match lk σ o with
  | some o' => objC O o' fun ob' => matOB σ Z ob ob'
  | none => ob.void = true ∧ Z.contains o = true
/-- The state holds just these objects, by these names; of a nil slice, nothing. -/
def holdsN (O : OO) (σ : List (Nat × Nat)) (Z : List Nat) : OO → Prop
  | [] => True
  | (o, ob) :: O1 => homeC σ Z O o ob ∧ holdsN O σ Z O1
theorem holdsN_spec {O : OO} {σ : List (Nat × Nat)} {Z : List Nat} : ∀ {O1 : OO}, holdsN O σ Z O1 → ∀ p ∈ O1, (∃ o' ob', lk σ p.1 = some o' ∧ lk O o' = some ob' ∧ matOB σ Z p.2 ob') ∨ (p.2.void = true ∧ Z.contains p.1 = true) := by
  intro O1
  induction O1 with
  | nil => intro _ p hp; cases hp
  | cons q O1 ih =>
    intro h p hp
    obtain ⟨o, ob⟩ := q
    obtain ⟨h1, h2⟩ := h
    rcases List.mem_cons.1 hp with rfl | hp
    · unfold homeC at h1
      split at h1
      · rename_i o' e
        obtain ⟨ob', hl', h1⟩ := objC_spec h1
        exact .inl ⟨o', ob', e, hl', h1⟩
      · rename_i e
        exact .inr ⟨h1.1, h1.2⟩
    · exact ih h2 p hp
end Go.Sy
