/- Calls: the callee's view of the caller's state, and back. -/
import Derived.Test.YtnonjfknpajpaaaS18
namespace Go.Sy
open Go
set_option linter.unusedSimpArgs false
set_option linter.unusedVariables false

/-- Names agree. -/
def Agr (σ : List (Nat × Nat)) (β1 β : Bmap) : Prop := ∀ o o', lk σ o = some o' → β1 o = β o'
theorem idC_spec {K : Nat → Prop} : ∀ {σ : List (Nat × Nat)} {o : Nat}, idC σ o K → ∃ o', lk σ o = some o' ∧ K o' := by
  intro σ
  induction σ with
  | nil => intro o h; exact h.elim
  | cons p σ ih =>
    intro o h
    obtain ⟨i, j⟩ := p
    simp only [idC] at h
    simp only [lk]
    split at h
    · rename_i e; exact ⟨j, by simp [e], h⟩
    · rename_i e; obtain ⟨o', h1, h2⟩ := ih h; exact ⟨o', by simp [e, h1], h2⟩
structure Ren (σ : List (Nat × Nat)) (v v' : AV) : Prop where
  csz : v'.csz = v.csz
  multi : v'.multi = v.multi
  row : v'.isRow = v.isRow
  cnt : v'.cnt = v.cnt
  esz : v'.esz = v.esz
  rv : ∀ {M : Pool} {β1 β : Bmap} {cs : List Value}, Agr σ β1 β → (RV M β1 v cs ↔ RV M β v' cs)
  vr : ∀ {M : Pool} {β1 β : Bmap} {x : Value}, Agr σ β1 β → (VR M β1 v x ↔ VR M β v' x)
structure Rens (σ : List (Nat × Nat)) (vs vs' : List AV) : Prop where
  len : vs'.length = vs.length
  cszs : AV.cszs vs' = AV.cszs vs
  all : ∀ sz, (∀ p ∈ vs, p.csz = sz) ↔ (∀ p ∈ vs', p.csz = sz)
  rv : ∀ {M : Pool} {β1 β : Bmap} {cs : List Value}, Agr σ β1 β → (RVs M β1 vs cs ↔ RVs M β vs' cs)
  vr : ∀ {M : Pool} {β1 β : Bmap} {xs : List Value}, Agr σ β1 β → (VRs M β1 vs xs ↔ VRs M β vs' xs)
theorem Ren.of_nid (σ : List (Nat × Nat)) (v : AV) (h : v.nid = true) : Ren σ v v :=
  ⟨rfl, rfl, rfl, rfl, rfl, fun _ => ⟨fun g => g.nid h _, fun g => g.nid h _⟩, fun _ => ⟨fun g => g.nid h _, fun g => g.nid h _⟩⟩
theorem VR.iff_one {M : Pool} {β1 β : Bmap} {v v' : AV} {x : Value} (hm : v.multi = false) (hm' : v'.multi = false) (ht : v.mem = true) (ht' : v'.mem = true) (h : RV M β1 v [x] ↔ RV M β v' [x]) : VR M β1 v x ↔ VR M β v' x :=
  ⟨fun g => .one hm' (h.1 (g.one_inv hm ht)), fun g => .one hm (h.2 (g.one_inv hm' ht'))⟩
theorem VR.iff_agg {M : Pool} {β1 β : Bmap} {v v' : AV} {x : Value} (hm : v.multi = true) (hm' : v'.multi = true) (ht : v.mem = true) (ht' : v'.mem = true) (h : ∀ cs, RV M β1 v cs ↔ RV M β v' cs) : VR M β1 v x ↔ VR M β v' x :=
  ⟨fun g => by obtain ⟨cs, rfl, h1⟩ := g.agg_inv hm ht; exact .agg hm' ((h cs).1 h1), fun g => by obtain ⟨cs, rfl, h1⟩ := g.agg_inv hm' ht'; exact .agg hm ((h cs).2 h1)⟩
mutual
theorem renC_spec (σ : List (Nat × Nat)) : ∀ (v : AV) (K : AV → Prop), renC σ v K → ∃ v', K v' ∧ Ren σ v v'
  | .ref o p, K, h => by
    simp only [renC] at h
    obtain ⟨o', hl, hk⟩ := idC_spec h
    have key : ∀ {M : Pool} {β1 β : Bmap} {cs : List Value}, Agr σ β1 β → (RV M β1 (.ref o p) cs ↔ RV M β (.ref o' p) cs) := fun ha =>
      ⟨fun g => by cases g with | ref hb => exact .ref (by rw [← ha _ _ hl]; exact hb), fun g => by cases g with | ref hb => exact .ref (by rw [ha _ _ hl]; exact hb)⟩
    exact ⟨_, hk, rfl, rfl, rfl, rfl, rfl, key, fun ha => VR.iff_one rfl rfl rfl rfl (key ha)⟩
  | .osl o p sz lo len, K, h => by
    simp only [renC] at h
    obtain ⟨o', hl, hk⟩ := idC_spec h
    have key : ∀ {M : Pool} {β1 β : Bmap} {cs : List Value}, Agr σ β1 β → (RV M β1 (.osl o p sz lo len) cs ↔ RV M β (.osl o' p sz lo len) cs) := fun ha =>
      ⟨fun g => by cases g with | osl hb h1 h2 h3 => exact .osl (by rw [← ha _ _ hl]; exact hb) h1 h2 h3, fun g => by cases g with | osl hb h1 h2 h3 => exact .osl (by rw [ha _ _ hl]; exact hb) h1 h2 h3⟩
    exact ⟨_, hk, rfl, rfl, rfl, rfl, rfl, key, fun ha => VR.iff_one rfl rfl rfl rfl (key ha)⟩
  | .mp o, K, h => by
    simp only [renC] at h
    obtain ⟨o', hl, hk⟩ := idC_spec h
    have key : ∀ {M : Pool} {β1 β : Bmap} {cs : List Value}, Agr σ β1 β → (RV M β1 (.mp o) cs ↔ RV M β (.mp o') cs) := fun ha =>
      ⟨fun g => by cases g with | mp hb => exact .mp (by rw [← ha _ _ hl]; exact hb), fun g => by cases g with | mp hb => exact .mp (by rw [ha _ _ hl]; exact hb)⟩
    exact ⟨_, hk, rfl, rfl, rfl, rfl, rfl, key, fun ha => VR.iff_one rfl rfl rfl rfl (key ha)⟩
  | .agg ps, K, h => by
    simp only [renC] at h
    obtain ⟨qs, hk, hr⟩ := rensC_spec σ ps _ h
    have key : ∀ {M : Pool} {β1 β : Bmap} {cs : List Value}, Agr σ β1 β → (RV M β1 (.agg ps) cs ↔ RV M β (.agg qs) cs) := fun ha =>
      ⟨fun g => by cases g with | agg g => exact .agg ((hr.rv ha).1 g), fun g => by cases g with | agg g => exact .agg ((hr.rv ha).2 g)⟩
    exact ⟨_, hk, by simp only [AV.csz]; exact hr.cszs, rfl, rfl, rfl, rfl, key, fun ha => VR.iff_agg rfl rfl rfl rfl fun _ => key ha⟩
  | .arr sz ps, K, h => by
    simp only [renC] at h
    obtain ⟨qs, hk, hr⟩ := rensC_spec σ ps _ h
    have key : ∀ {M : Pool} {β1 β : Bmap} {cs : List Value}, Agr σ β1 β → (RV M β1 (.arr sz ps) cs ↔ RV M β (.arr sz qs) cs) := fun ha =>
      ⟨fun g => by cases g with | arr g hs => exact .arr ((hr.rv ha).1 g) ((hr.all _).1 hs), fun g => by cases g with | arr g hs => exact .arr ((hr.rv ha).2 g) ((hr.all _).2 hs)⟩
    exact ⟨_, hk, by simp only [AV.csz, hr.len], rfl, rfl, by simp only [AV.cnt, hr.len], rfl, key, fun ha => VR.iff_agg rfl rfl rfl rfl fun _ => key ha⟩
  | .tup ps, K, h => by
    simp only [renC] at h
    obtain ⟨qs, hk, hr⟩ := rensC_spec σ ps _ h
    exact ⟨_, hk, rfl, rfl, rfl, rfl, rfl, fun ha => ⟨fun g => (by cases g), fun g => (by cases g)⟩,
      fun ha => ⟨fun g => by obtain ⟨xs, rfl, g2⟩ := g.tup_inv; exact .tup ((hr.vr ha).1 g2), fun g => by obtain ⟨xs, rfl, g2⟩ := g.tup_inv; exact .tup ((hr.vr ha).2 g2)⟩⟩
  | .fn f ps, K, h => by
    simp only [renC] at h
    obtain ⟨qs, hk, hr⟩ := rensC_spec σ ps _ h
    have key : ∀ {M : Pool} {β1 β : Bmap} {cs : List Value}, Agr σ β1 β → (RV M β1 (.fn f ps) cs ↔ RV M β (.fn f qs) cs) := fun ha =>
      ⟨fun g => by cases g with | fn g => exact .fn ((hr.vr ha).1 g), fun g => by cases g with | fn g => exact .fn ((hr.vr ha).2 g)⟩
    exact ⟨_, hk, rfl, rfl, rfl, rfl, rfl, key, fun ha => VR.iff_one rfl rfl rfl rfl (key ha)⟩
  | .int k n, K, h => ⟨_, by simpa only [renC] using h, .of_nid _ _ rfl⟩
  | .bool b, K, h => ⟨_, by simpa only [renC] using h, .of_nid _ _ rfl⟩
  | .str s, K, h => ⟨_, by simpa only [renC] using h, .of_nid _ _ rfl⟩
  | .nilp, K, h => ⟨_, by simpa only [renC] using h, .of_nid _ _ rfl⟩
  | .ints k n xs, K, h => ⟨_, by simpa only [renC] using h, .of_nid _ _ rfl⟩
  | .lst sz n es, K, h => ⟨_, by simpa only [renC] using h, .of_nid _ _ rfl⟩
  | .sl c, K, h => ⟨_, by simpa only [renC] using h, .of_nid _ _ rfl⟩
  | .nils, K, h => ⟨_, by simpa only [renC] using h, .of_nid _ _ rfl⟩
  | .pp c p, K, h => ⟨_, by simpa only [renC] using h, .of_nid _ _ rfl⟩
  | .nilf, K, h => ⟨_, by simpa only [renC] using h, .of_nid _ _ rfl⟩
  | .nilm, K, h => ⟨_, by simpa only [renC] using h, .of_nid _ _ rfl⟩
  | .junk, K, h => by simp only [renC] at h
theorem rensC_spec (σ : List (Nat × Nat)) : ∀ (vs : List AV) (K : List AV → Prop), rensC σ vs K → ∃ vs', K vs' ∧ Rens σ vs vs'
  | [], K, h => ⟨[], by simpa only [rensC] using h, rfl, rfl, fun _ => Iff.rfl, fun _ => ⟨fun g => by cases g; exact .nil, fun g => by cases g; exact .nil⟩, fun _ => ⟨fun g => by cases g; exact .nil, fun g => by cases g; exact .nil⟩⟩
  | v :: vs, K, h => by
    simp only [rensC] at h
    obtain ⟨v', h, hv⟩ := renC_spec σ v _ h
    obtain ⟨vs', h, hvs⟩ := rensC_spec σ vs _ h
    refine ⟨_, h, by simp [hvs.len], by simp only [AV.cszs, hv.csz, hvs.cszs], fun sz => ?_, fun ha => ⟨fun g => ?_, fun g => ?_⟩, fun ha => ⟨fun g => ?_, fun g => ?_⟩⟩
    · simp only [List.mem_cons, forall_eq_or_imp, hv.csz, hvs.all sz]
    · cases g with | cons g1 g2 => exact .cons ((hv.rv ha).1 g1) ((hvs.rv ha).1 g2)
    · cases g with | cons g1 g2 => exact .cons ((hv.rv ha).2 g1) ((hvs.rv ha).2 g2)
    · cases g with | cons g1 g2 => exact .cons ((hv.vr ha).1 g1) ((hvs.vr ha).1 g2)
    · cases g with | cons g1 g2 => exact .cons ((hv.vr ha).2 g1) ((hvs.vr ha).2 g2)
end

section
variable {E : Env} {N : Nat} {M M' M1 : Pool} {β β' β1 : Bmap} {T : TT} {O O' : OO} {n : Nat} {a : Act} {w w' : World} {P : Program} {o : Oper} {K : KK}

/-- No pool is reached: any will do. -/
theorem pf_aux : (∀ {β v cs}, RV M β v cs → v.pf = true → ∀ M', RV M' β v cs) ∧ (∀ {β vs cs}, RVs M β vs cs → AV.pf.pfs vs = true → ∀ M', RVs M' β vs cs) ∧
    (∀ {β v x}, VR M β v x → v.pf = true → ∀ M', VR M' β v x) ∧ (∀ {β vs xs}, VRs M β vs xs → AV.pf.pfs vs = true → ∀ M', VRs M' β vs xs) :=
  @ind4 M (fun β v cs => v.pf = true → ∀ M', RV M' β v cs) (fun β vs cs => AV.pf.pfs vs = true → ∀ M', RVs M' β vs cs) (fun β v x => v.pf = true → ∀ M', VR M' β v x) (fun β vs xs => AV.pf.pfs vs = true → ∀ M', VRs M' β vs xs)
  (fun k n _ _ => .int k n) (fun b _ _ => .bool b) (fun s _ _ => .str s) (fun _ _ => .nilp) (fun h _ _ => .ref h) (fun k _ _ h _ _ => .ints k h)
  (fun _ ih h M' => .agg (ih (by simpa [AV.pf] using h) M')) (fun _ hs ih h M' => .arr (ih (by simpa [AV.pf] using h) M') hs) (fun _ hs hn ih h M' => .lst (ih (by simpa [AV.pf] using h) M') hs hn)
  (fun _ _ _ _ _ _ h => by simp [AV.pf] at h) (fun _ _ => .nils) (fun h h1 h2 h3 _ _ => .osl h h1 h2 h3) (fun _ _ _ h => by simp [AV.pf] at h)
  (fun _ _ h => by simp [AV.pf] at h) (fun _ _ => .nilf) (fun _ _ => .nilm) (fun h _ _ => .mp h) (fun _ _ => .nil)
  (fun _ _ i1 i2 h M' => by simp only [AV.pf.pfs, Bool.and_eq_true] at h; exact .cons (i1 h.1 M') (i2 h.2 M'))
  (fun hm _ ih h M' => .one hm (ih h M')) (fun hm _ ih h M' => .agg hm (ih h M')) (fun _ ih h M' => .tup (ih (by simpa [AV.pf] using h) M')) (fun x h => by simp [AV.pf] at h) (fun _ _ => .nil)
  (fun _ _ i1 i2 h M' => by simp only [AV.pf.pfs, Bool.and_eq_true] at h; exact .cons (i1 h.1 M') (i2 h.2 M'))
end
end Go.Sy
