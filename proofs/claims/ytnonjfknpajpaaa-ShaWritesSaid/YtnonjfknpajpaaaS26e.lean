/- One value told as another one: names turn; a nil slice is a row of its own that holds nothing. -/
import Derived.Test.YtnonjfknpajpaaaS26f
namespace Go.Sy
open Go
set_option linter.unusedSimpArgs false
set_option linter.unusedVariables false
def AV.void : AV → Bool
  | .ints _ n xs => n == 0 && xs.isEmpty
  | .lst _ n es => n == 0 && es.isEmpty
  | .arr _ ps => ps.isEmpty
  | _ => false
def OB.void : OB → Bool
  | .row c => c.void && decide (1 ≤ c.esz)
  | _ => false
mutual
def matC (σ : List (Nat × Nat)) (Z : List Nat) (OF : OO) : AV → AV → Prop
  | .osl o p sz lo len, u => (match u with
    | .nils => p = [] ∧ lo = 0 ∧ len = 0 ∧ Z.contains o = true
    | u => idC σ o fun o' => AV.osl o' p sz lo len = u)
  | .agg ps, u => (match u with | .agg us => matsC σ Z OF ps us | _ => False)
  | .arr sz ps, u => (match u with | .arr sz' us => sz = sz' ∧ matsC σ Z OF ps us | _ => False)
  | .tup ps, u => (match u with | .tup us => matsC σ Z OF ps us | _ => False)
  | .lst sz n es, u => (match u with | .arr sz' us => sz = sz' ∧ viewC.views (viewC OF 4) us fun qs => n = qs.length ∧ es = qs | u => AV.lst sz n es = u)
  | .sl c, u => (match u with | .nils => c.void = true | .osl o p sz lo len => viewC OF 4 (.osl o p sz lo len) fun u' => AV.sl c = u' | u => AV.sl c = u)
  | .ref o p, u => idC σ o fun o' => AV.ref o' p = u
  | .mp o, u => idC σ o fun o' => AV.mp o' = u
  | .fn f ps, u => renC σ (.fn f ps) fun v' => v' = u
  | .int k n, u => AV.int k n = u
  | .bool b, u => AV.bool b = u
  | .str s, u => AV.str s = u
  | .nilp, u => AV.nilp = u
  | .ints k n xs, u => AV.ints k n xs = u
  | .nils, u => AV.nils = u
  | .pp c p, u => AV.pp c p = u
  | .nilf, u => AV.nilf = u
  | .nilm, u => AV.nilm = u
  | .junk, _ => False
def matsC (σ : List (Nat × Nat)) (Z : List Nat) (OF : OO) : List AV → List AV → Prop
  | [], us => us = []
  | v :: vs, us => (match us with | u :: us => matC σ Z OF v u ∧ matsC σ Z OF vs us | [] => False)
end
def NilOK (Z : List Nat) (β1 : Bmap) : Prop := ∀ o, Z.contains o = true → β1 o = some (0, 0)
structure Mat (σ : List (Nat × Nat)) (Z : List Nat) (OF : OO) (v u : AV) : Prop where
  csz : ∀ {M M1 : Pool} {β : Bmap}, Views M M1 β OF → v.csz = u.csz
  row : v.isRow = u.isRow
  cnt : v.isRow = true → ∀ {M M1 : Pool} {β : Bmap}, Views M M1 β OF → v.cnt = u.cnt
  esz : v.isRow = true → v.esz = u.esz
  rv : ∀ {M M1 : Pool} {β1 β : Bmap} {cs : List Value}, PLe M M1 → Views M M1 β OF → Agr σ β1 β → NilOK Z β1 → RV M β u cs → RV M1 β1 v cs
  vr : ∀ {M M1 : Pool} {β1 β : Bmap} {x : Value}, PLe M M1 → Views M M1 β OF → Agr σ β1 β → NilOK Z β1 → VR M β u x → VR M1 β1 v x
structure Mats (σ : List (Nat × Nat)) (Z : List Nat) (OF : OO) (vs us : List AV) : Prop where
  len : vs.length = us.length
  cszs : ∀ {M M1 : Pool} {β : Bmap}, Views M M1 β OF → AV.cszs vs = AV.cszs us
  all : ∀ {M M1 : Pool} {β : Bmap}, Views M M1 β OF → ∀ sz, (∀ p ∈ us, p.csz = sz) → (∀ p ∈ vs, p.csz = sz)
  rv : ∀ {M M1 : Pool} {β1 β : Bmap} {cs : List Value}, PLe M M1 → Views M M1 β OF → Agr σ β1 β → NilOK Z β1 → RVs M β us cs → RVs M1 β1 vs cs
  vr : ∀ {M M1 : Pool} {β1 β : Bmap} {xs : List Value}, PLe M M1 → Views M M1 β OF → Agr σ β1 β → NilOK Z β1 → VRs M β us xs → VRs M1 β1 vs xs
theorem Mat.of_ren {σ : List (Nat × Nat)} {Z : List Nat} {OF : OO} {v u : AV} (h : Ren σ v u) : Mat σ Z OF v u :=
  ⟨fun _ => h.csz.symm, h.row.symm, fun _ {_ _ _} _ => h.cnt.symm, fun _ => h.esz.symm, fun hM _ ha _ g => ((h.rv ha).2 g).mono hM (BLe.refl _), fun hM _ ha _ g => ((h.vr ha).2 g).mono hM (BLe.refl _)⟩
theorem Mat.of_renC {σ : List (Nat × Nat)} {Z : List Nat} {OF : OO} {v u : AV} (h : renC σ v fun v' => v' = u) : Mat σ Z OF v u := by
  obtain ⟨v', rfl, hr⟩ := renC_spec σ v _ h
  exact .of_ren hr
theorem rv_void {M : Pool} {β : Bmap} {c : AV} (h : c.void = true) : RV M β c [] := by
  cases c with
  | ints k n xs =>
    simp [AV.void] at h
    obtain ⟨rfl, rfl⟩ := h
    exact RV.ints (xs := []) k rfl
  | lst sz n es =>
    simp [AV.void] at h
    obtain ⟨rfl, rfl⟩ := h
    exact .lst .nil (by simp) rfl
  | arr sz ps =>
    simp [AV.void] at h
    subst h
    exact .arr .nil (by simp)
  | _ => cases h
theorem void_row {c : AV} (h : c.void = true) : c.isRow = true ∧ c.cnt = 0 := by
  cases c <;> simp_all [AV.void, AV.isRow, AV.cnt]
theorem views_spec {M M1 : Pool} {β : Bmap} {OF : OO} (hV : Views M M1 β OF) : ∀ (ps : List AV) (κ : List AV → Prop), viewC.views (viewC OF 4) ps κ → ∃ qs, κ qs ∧ qs.length = ps.length ∧ (∀ sz, (∀ p ∈ ps, p.csz = sz) → ∀ p ∈ qs, p.csz = sz) ∧ ∀ {cs : List Value}, RVs M β ps cs → RVs M1 nob qs cs
  | [], κ, h => ⟨[], h, rfl, fun _ h => h, fun g => by cases g; exact .nil⟩
  | p :: ps, κ, h => by
    obtain ⟨q, h, hq⟩ := hV _ _ h
    obtain ⟨qs, h, l, al, g⟩ := views_spec hV ps _ h
    refine ⟨_, h, by simp [l], fun sz hs => ?_, fun g' => ?_⟩
    · simp only [List.mem_cons, forall_eq_or_imp] at hs ⊢
      exact ⟨by rw [hq.csz]; exact hs.1, al sz hs.2⟩
    · cases g' with | cons g1 g2 => exact .cons (hq.rv g1) (g g2)
mutual
theorem matC_spec (σ : List (Nat × Nat)) (Z : List Nat) (OF : OO) : ∀ (v u : AV), matC σ Z OF v u → Mat σ Z OF v u
  | .osl o p sz lo len, u, h => by
    have gen : ∀ u, (idC σ o fun o' => AV.osl o' p sz lo len = u) → Mat σ Z OF (.osl o p sz lo len) u := fun u h => .of_renC (by simpa only [renC] using h)
    cases u with
    | nils =>
      simp only [matC] at h
      obtain ⟨rfl, rfl, rfl, h1⟩ := h
      have key : ∀ {M M1 : Pool} {β1 β : Bmap} {cs : List Value}, Agr σ β1 β → NilOK Z β1 → RV M β .nils cs → RV M1 β1 (.osl o [] sz 0 0) cs := fun ha hn g => by
        cases g
        exact .osl (hn _ h1) (Nat.le_refl _) (fun _ => by simp) (.inl rfl)
      exact ⟨fun _ => rfl, rfl, (fun h => by cases h), (fun h => by cases h), fun _ _ ha hn g => key ha hn g, fun _ _ ha hn g => .one rfl (key ha hn (g.one_inv rfl rfl))⟩
    | _ => exact gen _ (by simpa only [matC] using h)
  | .agg ps, u, h => by
    cases u with
    | agg us =>
      have hs := matsC_spec σ Z OF ps us (by simpa only [matC] using h)
      have key : ∀ {M M1 : Pool} {β1 β : Bmap} {cs : List Value}, PLe M M1 → Views M M1 β OF → Agr σ β1 β → NilOK Z β1 → RV M β (.agg us) cs → RV M1 β1 (.agg ps) cs := fun hM hV ha hn g => by
        cases g with | agg g => exact .agg (hs.rv hM hV ha hn g)
      refine ⟨fun hV => hs.cszs hV, rfl, (fun h => by cases h), (fun h => by cases h), key, fun hM hV ha hn g => ?_⟩
      obtain ⟨cs, rfl, g'⟩ := g.agg_inv rfl rfl
      exact .agg rfl (key hM hV ha hn g')
    | _ => simp only [matC] at h
  | .arr sz ps, u, h => by
    cases u with
    | arr sz' us =>
      simp only [matC] at h
      obtain ⟨rfl, h⟩ := h
      have hs := matsC_spec σ Z OF ps us h
      have key : ∀ {M M1 : Pool} {β1 β : Bmap} {cs : List Value}, PLe M M1 → Views M M1 β OF → Agr σ β1 β → NilOK Z β1 → RV M β (.arr sz us) cs → RV M1 β1 (.arr sz ps) cs := fun hM hV ha hn g => by
        cases g with | arr g hz => exact .arr (hs.rv hM hV ha hn g) (hs.all hV _ hz)
      refine ⟨fun _ => by simp only [AV.csz, hs.len], rfl, fun _ {_ _ _} _ => hs.len, fun _ => rfl, key, fun hM hV ha hn g => ?_⟩
      obtain ⟨cs, rfl, g'⟩ := g.agg_inv rfl rfl
      exact .agg rfl (key hM hV ha hn g')
    | _ => simp only [matC] at h
  | .tup ps, u, h => by
    cases u with
    | tup us =>
      have hs := matsC_spec σ Z OF ps us (by simpa only [matC] using h)
      refine ⟨fun _ => by simp only [AV.csz], rfl, (fun h => by cases h), (fun h => by cases h), (fun _ _ ha hn g => by cases g), fun hM hV ha hn g => ?_⟩
      cases g with
      | tup g => exact .tup (hs.vr hM hV ha hn g)
      | one hm _ => cases hm
      | agg _ g => cases g
    | _ => simp only [matC] at h
  | .lst sz n es, u, h => by
    cases u with
    | arr sz' us =>
      simp only [matC] at h
      obtain ⟨rfl, h⟩ := h
      have key : ∀ {M M1 : Pool} {β1 β : Bmap} {cs : List Value}, Views M M1 β OF → RV M β (.arr sz us) cs → RV M1 β1 (.lst sz n es) cs := fun hV g => by
        obtain ⟨qs, ⟨rfl, rfl⟩, hl, hz, hr⟩ := views_spec hV us _ h
        cases g with | arr g hz' => exact .lst (hr g) (hz _ hz') rfl
      have cnt : ∀ {M M1 : Pool} {β : Bmap}, Views M M1 β OF → n = us.length := fun hV => by
        obtain ⟨qs, ⟨rfl, rfl⟩, hl, hz, hr⟩ := views_spec hV us _ h
        exact hl
      refine ⟨fun hV => by simp only [AV.csz, cnt hV], rfl, fun _ {_ _ _} hV => cnt hV, fun _ => rfl, fun _ hV _ _ g => key hV g, fun _ hV _ _ g => ?_⟩
      obtain ⟨cs, rfl, g'⟩ := g.agg_inv rfl rfl
      exact .agg rfl (key hV g')
    | _ => exact .of_renC (by simpa only [matC, renC] using h)
  | .sl c, u, h => by
    cases u with
    | nils =>
      simp only [matC] at h
      have key : ∀ {M M1 : Pool} {β1 β : Bmap} {cs : List Value}, RV M β .nils cs → RV M1 β1 (.sl c) cs := fun g => by
        cases g
        exact .sl (cc := []) (rv_void h) (void_row h).1 (void_row h).2 (Nat.le_refl _) (.inl rfl)
      exact ⟨fun _ => rfl, rfl, (fun h => by cases h), (fun h => by cases h), fun _ _ _ _ g => key g, fun _ _ _ _ g => .one rfl (key (g.one_inv rfl rfl))⟩
    | osl o p sz lo len =>
      simp only [matC] at h
      have key : ∀ {M M1 : Pool} {β1 β : Bmap} {cs : List Value}, Views M M1 β OF → RV M β (.osl o p sz lo len) cs → RV M1 β1 (.sl c) cs := fun hV g => by
        obtain ⟨u', rfl, hv⟩ := hV _ _ h
        exact (hv.rv g).nid rfl _
      exact ⟨fun _ => rfl, rfl, (fun h => by cases h), (fun h => by cases h), fun _ hV _ _ g => key hV g, fun _ hV _ _ g => .one rfl (key hV (g.one_inv rfl rfl))⟩
    | _ => exact .of_renC (by simpa only [matC, renC] using h)
  | .ref o p, u, h => .of_renC (by simpa only [matC, renC] using h)
  | .mp o, u, h => .of_renC (by simpa only [matC, renC] using h)
  | .fn f ps, u, h => .of_renC (by simpa only [matC] using h)
  | .int k n, u, h => .of_renC (by simpa only [matC, renC] using h)
  | .bool b, u, h => .of_renC (by simpa only [matC, renC] using h)
  | .str s, u, h => .of_renC (by simpa only [matC, renC] using h)
  | .nilp, u, h => .of_renC (by simpa only [matC, renC] using h)
  | .ints k n xs, u, h => .of_renC (by simpa only [matC, renC] using h)
  | .nils, u, h => .of_renC (by simpa only [matC, renC] using h)
  | .pp c p, u, h => .of_renC (by simpa only [matC, renC] using h)
  | .nilf, u, h => .of_renC (by simpa only [matC, renC] using h)
  | .nilm, u, h => .of_renC (by simpa only [matC, renC] using h)
  | .junk, u, h => by simp only [matC] at h
theorem matsC_spec (σ : List (Nat × Nat)) (Z : List Nat) (OF : OO) : ∀ (vs us : List AV), matsC σ Z OF vs us → Mats σ Z OF vs us
  | [], us, h => by
    simp only [matsC] at h
    subst h
    exact ⟨rfl, fun _ => rfl, fun _ _ h => h, (fun _ _ _ _ g => by cases g; exact .nil), (fun _ _ _ _ g => by cases g; exact .nil)⟩
  | v :: vs, us, h => by
    cases us with
    | nil => simp only [matsC] at h
    | cons u us =>
      simp only [matsC] at h
      have h1 := matC_spec σ Z OF v u h.1
      have h2 := matsC_spec σ Z OF vs us h.2
      refine ⟨by simp [h2.len], fun hV => by simp only [AV.cszs, h1.csz hV, h2.cszs hV], fun hV sz hz => ?_, fun hM hV ha hn g => ?_, fun hM hV ha hn g => ?_⟩
      · simp only [List.mem_cons, forall_eq_or_imp] at hz ⊢
        exact ⟨by rw [h1.csz hV]; exact hz.1, h2.all hV _ hz.2⟩
      · cases g with | cons g1 g2 => exact .cons (h1.rv hM hV ha hn g1) (h2.rv hM hV ha hn g2)
      · cases g with | cons g1 g2 => exact .cons (h1.vr hM hV ha hn g1) (h2.vr hM hV ha hn g2)
end
def matOB (σ : List (Nat × Nat)) (Z : List Nat) (OF : OO) : OB → OB → Prop
  | .var c, ob => (match ob with | .var d => matC σ Z OF c d | _ => False)
  | .row c, ob => (match ob with | .row d => matC σ Z OF c d | _ => False)
  | .map ks, ob => renOB σ (.map ks) fun ob' => ob = ob'
theorem matOB_spec {σ : List (Nat × Nat)} {Z : List Nat} {OF : OO} {ob ob' : OB} (h : matOB σ Z OF ob ob') {M M1 : Pool} {β1 β : Bmap} {b κ : Nat} {w : World} (hM : PLe M M1) (hV : Views M M1 β OF) (ha : Agr σ β1 β) (hn : NilOK Z β1) (g : OR M β b κ w ob') : OR M1 β1 b κ w ob := by
  cases ob with
  | var c =>
    cases ob' with
    | var d =>
      have hm := matC_spec σ Z OF c d h
      obtain ⟨h1, h2, cs, e, fz, h3, h4, h5⟩ := g
      exact ⟨h1, by rw [hm.csz hV]; exact h2, cs, e, fz, h3, h4, hm.rv hM hV ha hn h5⟩
    | _ => exact h.elim
  | row c =>
    cases ob' with
    | row d =>
      have hm := matC_spec σ Z OF c d h
      obtain ⟨h1, h2, h3⟩ := g
      have hr : c.isRow = true := by rw [hm.row]; exact h1
      refine ⟨hr, by rw [hm.esz hr]; exact h2, ?_⟩
      rw [hm.cnt hr hV, hm.esz hr]
      rcases h3 with ⟨k1, k2, k3⟩ | ⟨k1, cc, sp, e, fz, k2, k3, k4, k5⟩
      · exact .inl ⟨k1, k2, hm.rv hM hV ha hn k3⟩
      · exact .inr ⟨k1, cc, sp, e, fz, k2, k3, hm.rv hM hV ha hn k4, k5⟩
    | _ => exact h.elim
  | map ks =>
    obtain ⟨ob'', rfl, hr⟩ := renOB_spec (σ := σ) (ob := .map ks) (κ := fun ob'' => ob' = ob'') h
    exact ((hr ha).2 g).mono2 hM (BLe.refl _) fun _ => rfl
def homeC (σ : List (Nat × Nat)) (Z : List Nat) (OF : OO) (O : OO) (o : Nat) (ob : OB) : Prop := match lk σ o with
  | some o' => objC O o' fun ob' => matOB σ Z OF ob ob'
  | none => ob.void = true ∧ Z.contains o = true
/-- The state holds just these objects, by these names; of a nil slice, nothing. -/
def holdsN (O : OO) (σ : List (Nat × Nat)) (Z : List Nat) (OF : OO) : OO → Prop
  | [] => True
  | (o, ob) :: O1 => homeC σ Z OF O o ob ∧ holdsN O σ Z OF O1
theorem holdsN_spec {O : OO} {σ : List (Nat × Nat)} {Z : List Nat} {OF : OO} : ∀ {O1 : OO}, holdsN O σ Z OF O1 → ∀ p ∈ O1, (∃ o' ob', lk σ p.1 = some o' ∧ lk O o' = some ob' ∧ matOB σ Z OF p.2 ob') ∨ (p.2.void = true ∧ Z.contains p.1 = true) := by
  intro O1
  induction O1 with
  | nil => intro _ p hp; cases hp
  | cons q O1 ih =>
    intro h p hp
    obtain ⟨o, ob⟩ := q
    obtain ⟨h1, h2⟩ := h
    rcases List.mem_cons.1 hp with rfl | hp
    · unfold homeC at h1
      split at h1
      · rename_i o' e
        obtain ⟨ob', hl', h1⟩ := objC_spec h1
        exact .inl ⟨o', ob', e, hl', h1⟩
      · exact .inr ⟨h1.1, h1.2⟩
    · exact ih h2 p hp
end Go.Sy
