/- Each of the propositions above speaks of one outcome. -/
import Derived.Test.YtnonjfknpajpaaaS22
namespace Go.Sy
open Go
set_option linter.unusedSimpArgs false
set_option linter.unusedVariables false

def Pt {α : Type} (F : (α → Prop) → Prop) : Prop := ∀ κ, F κ → ∃ x, κ x ∧ ∀ κ', κ' x → F κ'
section
variable {α β γ δ : Type} {p c : Prop}
theorem pt_pure (x : α) : Pt fun κ => κ x := fun κ h => ⟨x, h, fun _ h => h⟩
theorem pt_false : Pt fun (_ : α → Prop) => False := fun _ h => h.elim
theorem pt_and {F : (α → Prop) → Prop} (h : p → Pt F) : Pt fun κ => p ∧ F κ := fun κ ⟨hp, hf⟩ => by
  obtain ⟨x, h1, h2⟩ := h hp κ hf
  exact ⟨x, h1, fun κ' h' => ⟨hp, h2 κ' h'⟩⟩
theorem pt_bind {f : (β → Prop) → Prop} {g : β → (α → Prop) → Prop} (hf : Pt f) (hg : ∀ x, Pt (g x)) : Pt fun κ => f fun x => g x κ := fun κ h => by
  obtain ⟨x, h1, h2⟩ := hf _ h
  obtain ⟨y, h3, h4⟩ := hg x _ h1
  exact ⟨y, h3, fun κ' h' => h2 _ (h4 κ' h')⟩
theorem pt_bind2 {f : (β → γ → Prop) → Prop} {g : β → γ → (α → Prop) → Prop} (hf : Pt fun κ : β × γ → Prop => f fun a b => κ (a, b)) (hg : ∀ a b, Pt (g a b)) : Pt fun κ => f fun a b => g a b κ := fun κ h => by
  obtain ⟨⟨a, b⟩, h1, h2⟩ := hf (fun q => g q.1 q.2 κ) h
  obtain ⟨y, h3, h4⟩ := hg a b _ h1
  exact ⟨y, h3, fun κ' h' => h2 (fun q => g q.1 q.2 κ') (h4 κ' h')⟩
theorem pt_bind3 {f : (β → γ → δ → Prop) → Prop} {g : β → γ → δ → (α → Prop) → Prop} (hf : Pt fun κ : β × γ × δ → Prop => f fun a b c => κ (a, b, c)) (hg : ∀ a b c, Pt (g a b c)) :
    Pt fun κ => f fun a b c => g a b c κ := fun κ h => by
  obtain ⟨⟨a, b, c⟩, h1, h2⟩ := hf (fun q => g q.1 q.2.1 q.2.2 κ) h
  obtain ⟨y, h3, h4⟩ := hg a b c _ h1
  exact ⟨y, h3, fun κ' h' => h2 (fun q => g q.1 q.2.1 q.2.2 κ') (h4 κ' h')⟩
theorem pt_ite [Decidable c] {F G : (α → Prop) → Prop} (h1 : c → Pt F) (h2 : ¬ c → Pt G) : Pt fun κ => if c then F κ else G κ := fun κ h => by
  by_cases hc : c
  · simp only [hc, if_true] at h ⊢; exact h1 hc κ h
  · simp only [hc, if_false] at h ⊢; exact h2 hc κ h
theorem pt_split {F G : (α → Prop) → Prop} (h1 : c → Pt F) (h2 : ¬ c → Pt G) : Pt fun κ => (c → F κ) ∧ (¬ c → G κ) := fun κ h => by
  by_cases hc : c
  · obtain ⟨x, g1, g2⟩ := h1 hc κ (h.1 hc)
    exact ⟨x, g1, fun κ' h' => ⟨fun _ => g2 κ' h', fun h => absurd hc h⟩⟩
  · obtain ⟨x, g1, g2⟩ := h2 hc κ (h.2 hc)
    exact ⟨x, g1, fun κ' h' => ⟨fun h => absurd h hc, fun _ => g2 κ' h'⟩⟩
theorem pt_all {l : List β} {i : Nat} {F : β → (α → Prop) → Prop} (h : ∀ q, Pt (F q)) : Pt fun κ => i < l.length ∧ ∀ q, l[i]? = some q → F q κ := fun κ ⟨hi, hf⟩ => by
  have e : l[i]? = some l[i] := by simp [hi]
  obtain ⟨x, g1, g2⟩ := h _ κ (hf _ e)
  exact ⟨x, g1, fun κ' h' => ⟨hi, fun q hq => by rw [e] at hq; cases hq; exact g2 κ' h'⟩⟩
theorem pt_case {F : (α → Prop) → Prop} (h : (∃ κ, F κ) → Pt F) : Pt F := fun κ hk => h ⟨κ, hk⟩ κ hk
end
section
variable {P : Program} {T : TT} {O : OO} {n : Nat}
theorem lkC_pt (t : Nat) : Pt fun κ => lkC T t κ := by
  induction T with
  | nil => exact pt_false
  | cons p T ih =>
    obtain ⟨i, v⟩ := p
    exact pt_ite (fun _ => pt_pure v) fun _ => ih
theorem objC_pt (o : Nat) : Pt fun κ => objC O o κ := by
  induction O with
  | nil => exact pt_false
  | cons p T ih =>
    obtain ⟨i, v⟩ := p
    exact pt_ite (fun _ => pt_pure v) fun _ => ih
theorem obC_pt (ob : OB) : Pt fun κ => obC ob κ := by cases ob <;> first | exact pt_pure _ | exact pt_false
theorem rowC_pt (ob : OB) : Pt fun κ => rowC ob κ := by cases ob <;> first | exact pt_pure _ | exact pt_false
theorem varC_pt (ob : OB) : Pt fun κ => varC ob κ := by cases ob <;> first | exact pt_pure _ | exact pt_false
theorem cstC_pt (v : Value) : Pt fun κ => cstC v κ := fun κ h => by
  replace h : cstC v κ := h
  unfold cstC at h
  split at h
  all_goals first | exact h.elim | exact ⟨_, h, fun _ h => by simpa only [cstC] using h⟩
theorem evC_pt (x : Operand) : Pt fun κ => evC T x κ := by
  cases x with
  | tmp t => exact lkC_pt t
  | const v => exact cstC_pt v
  | func f => exact pt_pure _
  | global g => exact pt_false
theorem evsC_pt (xs : List Operand) : Pt fun κ => evsC T xs κ := by
  induction xs with
  | nil => exact pt_pure _
  | cons x xs ih => simp only [evsC]; exact pt_bind (evC_pt x) fun v => pt_bind ih fun vs => pt_pure _
theorem boolC_pt (v : AV) : Pt fun κ => boolC v κ := by cases v <;> first | exact pt_pure _ | exact pt_false
theorem intC_pt (v : AV) : Pt fun κ => intC v κ := by cases v <;> first | exact pt_pure _ | exact pt_false
theorem iteC_pt (b : Bool) : Pt fun κ => iteC b κ := fun κ h => ⟨b, iteC_spec h, fun κ' h' => ⟨fun e => e ▸ h', fun e => e ▸ h'⟩⟩
theorem fitC_pt {α : Type} {F : (α → Prop) → Prop} (ty : Ty) (q : AV) (h : Pt F) : Pt fun κ => fitC ty q (F κ) := pt_and fun _ => pt_and fun _ => h
theorem nthC_pt (vs : List AV) (i : Nat) : Pt fun κ => nthC vs i κ := by
  induction vs generalizing i with
  | nil => exact pt_false
  | cons v vs ih => cases i with | zero => exact pt_pure _ | succ i => exact ih i
theorem nthTC_pt (ts : List Ty) (i off : Nat) : Pt fun κ : Ty × Nat → Prop => nthTC ts i off fun a b => κ (a, b) := by
  induction ts generalizing i off with
  | nil => exact pt_false
  | cons v vs ih => cases i with | zero => exact pt_pure (v, off) | succ i => exact ih i _
theorem setC_pt (ps : List AV) (j : Nat) (v : AV) : Pt fun κ => setC ps j v κ := by
  induction ps generalizing j with
  | nil => exact pt_false
  | cons q qs ih => cases j with | zero => exact pt_and fun _ => pt_pure _ | succ j => simp only [setC]; exact pt_bind (ih j) fun _ => pt_pure _
theorem intB_pt (op : BinOp) (k : IntKind) (a : Int) (k' : IntKind) (b : Int) : Pt fun κ => intB op k a k' b κ := by
  cases op <;> first | exact pt_and fun _ => pt_pure _ | exact pt_and fun _ => pt_and fun _ => pt_pure _
theorem strB_pt (op : BinOp) (a b : List UInt8) : Pt fun κ => strB op a b κ := by
  cases op <;> first | exact pt_false | exact pt_pure _ | exact pt_and fun _ => pt_pure _
mutual
theorem eqC_pt : ∀ (ty : Ty) (x y : AV), Pt fun κ => eqC ty x y κ
  | .st ts, .agg ps, .agg qs => by simp only [eqC]; exact eqsC_pt ts ps qs
  | .st _, x, y => by cases x <;> cases y <;> first | (simp only [eqC]; exact pt_false) | (simp only [eqC]; exact eqsC_pt _ _ _)
  | .int _, x, y => by cases x <;> cases y <;> simp only [eqC] <;> first | exact pt_false | exact pt_and fun _ => pt_pure _
  | .bool, x, y => by cases x <;> cases y <;> simp only [eqC] <;> first | exact pt_false | exact pt_pure _
  | .str, x, y => by cases x <;> cases y <;> simp only [eqC] <;> first | exact pt_false | exact pt_pure _
  | .ptr _, x, y => by cases x <;> cases y <;> simp only [eqC] <;> first | exact pt_false | exact pt_pure _
  | .arr n e (.int k), x, y => by cases x <;> cases y <;> simp only [eqC] <;> first | exact pt_false | exact pt_and fun _ => pt_and fun _ => pt_and fun _ => pt_and fun _ => pt_pure _
  | .arr n e .bool, x, y => by cases x <;> cases y <;> simp only [eqC] <;> exact pt_false
  | .arr n e .str, x, y => by cases x <;> cases y <;> simp only [eqC] <;> exact pt_false
  | .arr n e (.ptr _), x, y => by cases x <;> cases y <;> simp only [eqC] <;> exact pt_false
  | .arr n e (.slice _), x, y => by cases x <;> cases y <;> simp only [eqC] <;> exact pt_false
  | .arr n e (.arr _ _ _), x, y => by cases x <;> cases y <;> simp only [eqC] <;> exact pt_false
  | .arr n e (.st _), x, y => by cases x <;> cases y <;> simp only [eqC] <;> exact pt_false
  | .arr n e (.map _ _), x, y => by cases x <;> cases y <;> simp only [eqC] <;> exact pt_false
  | .arr n e .func, x, y => by cases x <;> cases y <;> simp only [eqC] <;> exact pt_false
  | .slice _, x, y => by cases x <;> cases y <;> simp only [eqC] <;> exact pt_false
  | .map _ _, x, y => by cases x <;> cases y <;> simp only [eqC] <;> exact pt_false
  | .func, x, y => by cases x <;> cases y <;> simp only [eqC] <;> exact pt_false
theorem eqsC_pt : ∀ (ts : List Ty) (xs ys : List AV), Pt fun κ => eqsC ts xs ys κ
  | [], xs, ys => by cases xs <;> cases ys <;> simp only [eqsC] <;> first | exact pt_false | exact pt_pure _
  | t :: ts, xs, ys => by
    cases xs <;> cases ys <;> simp only [eqsC] <;> first | exact pt_false | exact pt_and fun _ => pt_and fun _ => pt_and fun _ => pt_and fun _ => pt_bind (eqC_pt t _ _) fun b => pt_bind (eqsC_pt ts _ _) fun c => pt_pure _
end
theorem eq_pt : (∀ ty : Ty, ∀ x y : AV, Pt fun κ => eqC ty x y κ) ∧ (∀ ts : List Ty, ∀ xs ys : List AV, Pt fun κ => eqsC ts xs ys κ) := ⟨eqC_pt, eqsC_pt⟩
theorem tyC_pt (t : TypeId) : Pt fun κ => tyC P t κ := fun κ ⟨ty, h1, h2⟩ => ⟨ty, h2, fun κ' h' => ⟨ty, h1, h'⟩⟩
theorem byC_pt (t : TypeId) : Pt fun κ => byC P t κ := fun κ ⟨ty, h1, h2⟩ => ⟨ty.bytes, h2, fun κ' h' => ⟨ty, h1, h'⟩⟩
theorem binC_gen (op : BinOp) {t : TypeId} {x y : AV} (h1 : ∀ k a k' b, x = .int k a → y = .int k' b → False) (h2 : ∀ a b, x = .str a → y = .str b → False) (κ : AV → Prop) :
    binC P op t x y κ = match op with
    | .eql => tyC P t fun ty => eqC ty x y fun b => κ (AV.bool b)
    | .neq => tyC P t fun ty => eqC ty x y fun b => κ (AV.bool (!b))
    | _ => False := by
  unfold binC
  split
  · exact (h1 _ _ _ _ rfl rfl).elim
  · exact (h2 _ _ rfl rfl).elim
  · rfl
theorem binC_pt (op : BinOp) (t : TypeId) (x y : AV) : Pt fun κ => binC P op t x y κ := by
  by_cases h1 : ∃ k a k' b, x = .int k a ∧ y = .int k' b
  · obtain ⟨k, a, k', b, rfl, rfl⟩ := h1
    exact intB_pt _ _ _ _ _
  · by_cases h2 : ∃ a b, x = .str a ∧ y = .str b
    · obtain ⟨a, b, rfl, rfl⟩ := h2
      exact strB_pt _ _ _
    · simp only [binC_gen op (P := P) (t := t) (fun k a k' b e1 e2 => h1 ⟨k, a, k', b, e1, e2⟩) (fun a b e1 e2 => h2 ⟨a, b, e1, e2⟩)]
      cases op <;> first | exact pt_false | exact pt_bind (f := tyC P t) (tyC_pt t) fun ty => pt_bind (f := eqC ty x y) (eq_pt.1 ty x y) fun b => pt_pure _
theorem unC_pt (op : UnOp) (x : AV) : Pt fun κ => unC op x κ := by cases op <;> cases x <;> first | exact pt_pure _ | exact pt_false
theorem fldC_pt (ps : List AV) (j off : Nat) : Pt fun κ => fldC ps j off κ := by
  induction ps generalizing j off with
  | nil => exact pt_false
  | cons q qs ih => cases j with | zero => exact pt_and fun _ => pt_pure _ | succ j => exact pt_and fun _ => ih j _
theorem navC_pt (p : List Stp) (v : AV) : Pt fun κ => navC p v κ := by
  induction p generalizing v with
  | nil => exact pt_pure _
  | cons s p ih =>
    cases s with
    | fld j off => cases v <;> first | exact pt_false | (simp only [navC]; exact pt_bind (fldC_pt _ _ _) fun q => ih q)
    | «at» i sz => cases v <;> first | exact pt_false | exact pt_and fun _ => pt_and fun _ => ih _ | exact pt_and fun _ => pt_all fun q => ih q
theorem fldU_pt {U : AV → (AV → Prop) → Prop} (hU : ∀ q, Pt (U q)) (ps : List AV) (j off : Nat) : Pt fun κ => fldU ps j off U κ := by
  induction ps generalizing j off with
  | nil => exact pt_false
  | cons q qs ih => cases j with | zero => exact pt_and fun _ => pt_bind (hU q) fun _ => pt_pure _ | succ j => exact pt_and fun _ => pt_bind (ih j _) fun _ => pt_pure _
theorem intU_pt (k : IntKind) (v : AV) : Pt fun κ => intU k v κ := by cases v <;> first | exact pt_false | exact pt_and fun _ => pt_pure _
theorem updC_pt (p : List Stp) (v x : AV) : Pt fun κ => updC p v x κ := by
  induction p generalizing v with
  | nil => exact pt_and fun _ => pt_pure _
  | cons s p ih =>
    cases s with
    | fld j off => cases v <;> first | exact pt_false | (simp only [updC]; exact pt_bind (fldU_pt (fun q => ih q) _ _ _) fun _ => pt_pure _)
    | «at» i sz =>
      cases v <;> first | exact pt_false | exact pt_and fun _ => pt_and fun _ => pt_and fun _ => pt_bind (intU_pt _ _) fun _ => pt_pure _ |
        exact pt_and fun _ => pt_all fun q => pt_bind (ih q) fun _ => pt_pure _ | skip
      rename_i s' n' es
      have h : Pt fun κ => (s' = sz ∧ x.nid = true) ∧ (i < es.length ∧ ∀ q, es[i]? = some q → updC p q x fun q' => κ (AV.lst s' n' (es.set i q'))) := pt_and fun _ => pt_all fun q => pt_bind (ih q) fun _ => pt_pure _
      intro κ hk
      obtain ⟨y, h1, h2⟩ := h κ ⟨⟨hk.1, hk.2.2.1⟩, hk.2.1, hk.2.2.2⟩
      exact ⟨y, h1, fun κ' h' => by obtain ⟨⟨g1, g2⟩, g3, g4⟩ := h2 κ' h'; exact ⟨g1, g3, g2, g4⟩⟩
theorem loadC_pt (v : AV) : Pt fun κ => loadC O v κ := by
  cases v <;> first | exact pt_false | exact navC_pt _ _ | (simp only [loadC]; exact pt_bind (objC_pt _) fun ob => pt_bind (obC_pt ob) fun c => navC_pt _ c)
theorem updOB_pt (ob : OB) (p : List Stp) (v : AV) : Pt fun κ => updOB ob p v κ := by
  cases ob <;> first | exact pt_false | (simp only [updOB]; exact pt_bind (updC_pt _ _ _) fun _ => pt_pure _) | (simp only [updOB]; exact pt_and fun _ => pt_bind (updC_pt _ _ _) fun _ => pt_pure _)
theorem updO_pt (o : Nat) (p : List Stp) (v : AV) : Pt fun κ => updO O o p v κ := by
  induction O with
  | nil => exact pt_false
  | cons q O ih =>
    obtain ⟨i, ob⟩ := q
    exact pt_ite (fun _ => pt_bind (updOB_pt ob p v) fun _ => pt_pure _) fun _ => pt_bind ih fun _ => pt_pure _
theorem rmO_pt (o : Nat) : Pt fun κ => rmO O o κ := by
  induction O with
  | nil => exact pt_pure _
  | cons q O ih =>
    obtain ⟨i, ob⟩ := q
    exact pt_ite (fun _ => ih) fun _ => pt_bind ih fun _ => pt_pure _
theorem rmsO_pt (os : List Nat) (O : OO) : Pt fun κ => rmsO O os κ := by
  induction os generalizing O with
  | nil => cases O <;> exact pt_pure _
  | cons o os ih =>
    have : Pt fun κ => rmO O o fun O' => rmsO O' os κ := pt_bind (rmO_pt o) fun O' => ih O'
    cases O <;> exact this
theorem subC_pt (c : AV) (lo len : Nat) : Pt fun κ => subC c lo len κ := by
  cases c <;> first | exact pt_false | exact pt_and fun _ => pt_split (fun _ => pt_pure _) (fun _ => pt_pure _) | exact pt_and fun _ => pt_pure _
theorem idC_pt (σ : List (Nat × Nat)) (o : Nat) : Pt fun κ => idC σ o κ := by
  induction σ with
  | nil => exact pt_false
  | cons p σ ih =>
    obtain ⟨i, j⟩ := p
    exact pt_ite (fun _ => pt_pure _) fun _ => ih
mutual
theorem renC_pt (σ : List (Nat × Nat)) : ∀ v : AV, Pt fun κ => renC σ v κ
  | .ref o p => by simp only [renC]; exact pt_bind (idC_pt σ o) fun _ => pt_pure _
  | .osl o p sz lo len => by simp only [renC]; exact pt_bind (idC_pt σ o) fun _ => pt_pure _
  | .mp o => by simp only [renC]; exact pt_bind (idC_pt σ o) fun _ => pt_pure _
  | .agg ps => by simp only [renC]; exact pt_bind (rensC_pt σ ps) fun _ => pt_pure _
  | .arr sz ps => by simp only [renC]; exact pt_bind (rensC_pt σ ps) fun _ => pt_pure _
  | .tup ps => by simp only [renC]; exact pt_bind (rensC_pt σ ps) fun _ => pt_pure _
  | .fn f ps => by simp only [renC]; exact pt_bind (rensC_pt σ ps) fun _ => pt_pure _
  | .int k n => by simp only [renC]; exact pt_pure _
  | .bool b => by simp only [renC]; exact pt_pure _
  | .str s => by simp only [renC]; exact pt_pure _
  | .nilp => by simp only [renC]; exact pt_pure _
  | .ints k n xs => by simp only [renC]; exact pt_pure _
  | .lst sz n es => by simp only [renC]; exact pt_pure _
  | .sl c => by simp only [renC]; exact pt_pure _
  | .nils => by simp only [renC]; exact pt_pure _
  | .pp c p => by simp only [renC]; exact pt_pure _
  | .nilf => by simp only [renC]; exact pt_pure _
  | .nilm => by simp only [renC]; exact pt_pure _
  | .junk => by simp only [renC]; exact pt_false
theorem rensC_pt (σ : List (Nat × Nat)) : ∀ vs : List AV, Pt fun κ => rensC σ vs κ
  | [] => by simp only [rensC]; exact pt_pure _
  | v :: vs => by simp only [rensC]; exact pt_bind (renC_pt σ v) fun _ => pt_bind (rensC_pt σ vs) fun _ => pt_pure _
end
theorem renOB_pt (σ : List (Nat × Nat)) (ob : OB) : Pt fun κ => renOB σ ob κ := by
  cases ob <;> simp only [renOB] <;> first | exact pt_bind (renC_pt σ _) fun _ => pt_pure _ | exact pt_bind (rensC_pt σ _) fun _ => pt_bind (rensC_pt σ _) fun _ => pt_pure _
theorem renOO_pt (σ : List (Nat × Nat)) (O : OO) : Pt fun κ => renOO σ O κ := by
  induction O with
  | nil => exact pt_pure _
  | cons p O ih =>
    obtain ⟨o, ob⟩ := p
    simp only [renOO]; exact pt_bind (idC_pt σ o) fun _ => pt_bind (renOB_pt σ ob) fun _ => pt_bind ih fun _ => pt_pure _
theorem partsC_pt (ps : List (Nat × Operand)) : Pt fun κ => partsC T ps κ := by
  induction ps with
  | nil => exact pt_pure _
  | cons p ps ih =>
    obtain ⟨j, x⟩ := p
    simp only [partsC]; exact pt_bind (evC_pt x) fun v => pt_and fun _ => pt_bind ih fun _ => pt_pure _
theorem bldS_pt (l : List (Nat × AV)) (ps : List AV) : Pt fun κ => bldS ps l κ := by
  induction l generalizing ps with
  | nil => cases ps <;> exact pt_pure _
  | cons p l ih =>
    obtain ⟨j, v⟩ := p
    have : Pt fun κ => setC ps j v fun ps' => bldS ps' l κ := pt_bind (setC_pt ps j v) fun ps' => ih ps'
    cases ps <;> exact this
theorem seqI_pt (k : IntKind) (l : List (Nat × AV)) (i : Nat) : Pt fun κ : Nat × List Int → Prop => seqI k i l fun a b => κ (a, b) := by
  induction l generalizing i with
  | nil => exact pt_pure (i, [])
  | cons p l ih =>
    obtain ⟨j, v⟩ := p
    exact pt_and fun _ => pt_bind (intU_pt k v) fun x => pt_bind2 (f := fun κ => seqI k (i + 1) l κ) (ih (i + 1)) fun m xs => pt_pure (m, x :: xs)
theorem seqV_pt (sz : Nat) (l : List (Nat × AV)) (i : Nat) : Pt fun κ : Nat × List AV → Prop => seqV sz i l fun a b => κ (a, b) := by
  induction l generalizing i with
  | nil => exact pt_pure (i, [])
  | cons p l ih =>
    obtain ⟨j, v⟩ := p
    exact pt_and fun _ => pt_and fun _ => pt_bind2 (f := fun κ => seqV sz (i + 1) l κ) (ih (i + 1)) fun m xs => pt_pure (m, v :: xs)
theorem elemsC_pt (m : Nat) (te : Ty) (l : List (Nat × AV)) : Pt fun κ => elemsC m te l κ := by
  have gen : Pt fun κ : AV → Prop => (l = [] ∧ m = 0 → κ (.lst te.size 0 [])) ∧ (¬ (l = [] ∧ m = 0) → seqV te.size 0 l fun i vs => i ≤ m ∧ κ (.arr te.size (vs ++ List.replicate (m - i) te.zero))) :=
    pt_split (fun _ => pt_pure _) fun _ => pt_bind2 (f := fun κ => seqV te.size 0 l κ) (seqV_pt _ _ _) fun i vs => pt_and fun _ => pt_pure _
  cases te <;> first | exact gen | exact pt_bind2 (f := fun κ => seqI _ 0 l κ) (seqI_pt _ _ _) fun i xs => pt_and fun _ => pt_pure _
theorem zerosC_pt (m : Nat) (te : Ty) : Pt fun κ => zerosC m te κ := by cases te <;> exact pt_pure _
theorem catC_pt (c d : AV) : Pt fun κ => catC c d κ := by
  cases c <;> cases d <;> first | exact pt_false | exact pt_and fun _ => pt_pure _ | exact pt_and fun _ => pt_and fun _ => pt_pure _
theorem contC_pt (te : Ty) (v : AV) : Pt fun κ => contC O te v κ := by
  cases v <;> simp only [contC] <;> first | exact pt_false | exact pt_and fun _ => pt_pure _ | exact zerosC_pt _ _ |
    exact pt_and fun _ => pt_bind (objC_pt _) fun ob => pt_bind (obC_pt ob) fun c => pt_bind (navC_pt _ c) fun q => pt_and fun _ => subC_pt _ _ _
theorem lenC_pt (v : AV) : Pt fun κ => lenC v κ := by cases v <;> first | exact pt_false | exact pt_pure _
theorem strL_pt (v : AV) : Pt fun κ => strL v κ := by cases v <;> first | exact pt_false | exact pt_pure _
theorem bytesOf_pt (v : AV) : Pt fun κ => bytesOf v κ := fun κ h => by
  obtain ⟨m, xs, rfl, hk⟩ := bytesOf_spec h
  exact ⟨_, hk, fun κ' h' => h'⟩
theorem cutC_pt (v : AV) (l : Nat) (h : Option Nat) : Pt fun κ => cutC v l h κ := by
  cases v <;> cases h <;> simp only [cutC] <;> first | exact pt_false | exact pt_and fun _ => pt_pure _ | exact pt_and fun _ => pt_and fun _ => pt_pure _ | exact pt_and fun _ => pt_bind (subC_pt _ _ _) fun _ => pt_pure _ |
    exact pt_and fun _ => pt_and fun _ => pt_bind (subC_pt _ _ _) fun _ => pt_pure _
theorem cutS_pt (v : AV) (l : Nat) (h : Option Nat) : Pt fun κ => cutS v l h κ := by
  cases v <;> cases h <;> first | exact pt_false | exact pt_and fun _ => pt_pure _ | exact pt_and fun _ => pt_and fun _ => pt_pure _
theorem cutA_pt (sz m : Nat) (v : AV) (l : Nat) (h : Option Nat) : Pt fun κ => cutA O sz m v l h κ := by
  cases v <;> cases h <;> first | exact pt_false | exact pt_and fun _ => pt_and fun _ => pt_pure _ | exact pt_and fun _ => pt_and fun _ => pt_and fun _ => pt_pure _
theorem optC_pt (x : Option Operand) : Pt fun κ => optC T x κ := by
  cases x with
  | none => exact pt_pure _
  | some x => simp only [optC]; exact pt_bind (evC_pt x) fun v => pt_bind (intC_pt v) fun i => pt_and fun _ => pt_pure _
end
end Go.Sy
