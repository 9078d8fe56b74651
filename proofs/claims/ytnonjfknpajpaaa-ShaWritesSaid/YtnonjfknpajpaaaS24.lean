/- Each of the propositions above speaks of one outcome (the operations). -/
import Derived.Test.YtnonjfknpajpaaaS23
namespace Go.Sy
open Go
set_option linter.unusedSimpArgs false
set_option linter.unusedVariables false
section
variable {P : Program} {T : TT} {O : OO} {n : Nat}
abbrev AON := AV × OO × Nat
theorem ownC_pt (te : Ty) (v : AV) : Pt fun κ : AV × OO → Prop => ownC te O v fun a b => κ (a, b) := by
  cases v <;> first | exact pt_false | exact pt_bind (zerosC_pt 0 te) fun c => pt_pure (c, O) |
    exact pt_and fun _ => pt_and fun _ => pt_and fun _ => pt_bind (objC_pt _) fun ob => pt_bind (rowC_pt ob) fun c => pt_and fun _ => pt_bind (rmO_pt _) fun O' => pt_pure (c, O')
theorem appC_pt (te : Ty) (bts : Nat) (c d : AV) (O : OO) : Pt fun κ : AON → Prop => appC te bts c d n O fun a b c => κ (a, b, c) :=
  pt_and fun _ => pt_and fun _ => pt_bind (catC_pt c d) fun e => pt_pure (_, _, _)
theorem appendC_pt (ts : List TypeId) (s x : AV) : Pt fun κ : AON → Prop => appendC P ts s x O n fun a b c => κ (a, b, c) := by
  cases ts with
  | nil => exact pt_false
  | cons st ts =>
    cases ts with
    | nil => exact pt_false
    | cons xt ts =>
      cases ts with
      | cons _ _ => exact pt_false
      | nil =>
        refine pt_bind (f := tyC P st) (tyC_pt st) fun sty => ?_
        cases sty with
        | slice e =>
          refine pt_bind (f := tyC P e) (tyC_pt e) fun te => pt_bind (f := byC P e) (byC_pt e) fun bts => pt_and fun _ => pt_and fun _ => ?_
          have gen : Pt fun κ : AON → Prop => tyC P xt fun xty => (∀ k, xty ≠ .int k) ∧ contC O te x fun d => ownC te O s fun c O' => appC te bts c d n O' fun a b c => κ (a, b, c) :=
            pt_bind (f := tyC P xt) (tyC_pt xt) fun xty => pt_and fun _ => pt_bind (contC_pt te x) fun d => pt_bind2 (f := fun κ => ownC te O s κ) (ownC_pt te s) fun c O' => appC_pt te bts c d O'
          cases x <;> first | exact gen |
            exact pt_bind (f := tyC P xt) (tyC_pt xt) fun xty => pt_and fun _ => pt_and fun _ => pt_and fun _ => pt_bind (zerosC_pt _ te) fun d => pt_bind2 (f := fun κ => ownC te O s κ) (ownC_pt te s) fun c O' => appC_pt te bts c d O'
        | _ => exact pt_false
theorem putC_pt (q : AV) (lo : Nat) (d : AV) : Pt fun κ => putC q lo d κ := by cases q <;> cases d <;> first | exact pt_false | exact pt_and fun _ => pt_and fun _ => pt_pure _
theorem copyC_pt (ts : List TypeId) (s x : AV) : Pt fun κ : Nat × OO → Prop => copyC P ts s x O fun a b => κ (a, b) := by
  cases ts with
  | nil => exact pt_false
  | cons st ts =>
    refine pt_bind (f := tyC P st) (tyC_pt st) fun sty => ?_
    cases sty with
    | slice e =>
      refine pt_bind (f := tyC P e) (tyC_pt e) fun te => pt_and fun _ => ?_
      cases s with
      | nils => exact pt_bind (contC_pt te x) fun _ => pt_pure (0, O)
      | osl o p sz lo len =>
        refine pt_and fun _ => pt_bind (contC_pt te x) fun d => ?_
        have put : ∀ (d : AV) (m : Nat), Pt fun κ : Nat × OO → Prop => objC O o fun ob => obC ob fun c => navC p c fun q => putC q lo d fun q' => updO O o p q' fun O' => κ (m, O') := fun d m =>
          pt_bind (objC_pt o) fun ob => pt_bind (obC_pt ob) fun c => pt_bind (navC_pt p c) fun q => pt_bind (putC_pt q lo d) fun q' => pt_bind (updO_pt o p q') fun O' => pt_pure (m, O')
        have sub : Pt fun κ : Nat × OO → Prop => subC d 0 len fun d' => objC O o fun ob => obC ob fun c => navC p c fun q => putC q lo d' fun q' => updO O o p q' fun O' => κ (len, O') :=
          pt_bind (subC_pt d 0 len) fun d' => put d' len
        rintro κ ⟨h1, h2, h3⟩
        by_cases hz : d.cnt = 0 ∨ len = 0
        · exact ⟨_, h1 hz, fun κ' h' => ⟨fun _ => h', fun _ _ => by omega, fun _ _ => by omega⟩⟩
        · by_cases hle : d.cnt ≤ len
          · obtain ⟨y, g1, g2⟩ := put d d.cnt κ (h2 (by omega) (by omega) hle)
            exact ⟨y, g1, fun κ' h' => ⟨fun h => absurd h hz, fun _ _ _ => g2 κ' h', fun _ _ h => absurd hle h⟩⟩
          · obtain ⟨y, g1, g2⟩ := sub κ (h3 (by omega) (by omega) hle)
            exact ⟨y, g1, fun κ' h' => ⟨fun h => absurd h hz, fun _ _ h => absurd h hle, fun _ _ _ => g2 κ' h'⟩⟩
      | _ => exact pt_false
    | _ => exact pt_false
theorem lenK_pt (t : TypeId) (v : AV) : Pt fun κ => lenK P t v κ := by
  refine pt_bind (f := tyC P t) (tyC_pt t) fun ty => ?_
  cases ty <;> first | exact pt_false | exact pt_bind (lenC_pt v) fun _ => pt_pure _ | exact pt_bind (strL_pt v) fun _ => pt_pure _ | exact pt_pure _
theorem bltC_pt (b : Builtin) (ts : List TypeId) (vs : List AV) : Pt fun κ : AON → Prop => bltC P b ts vs O n fun a b c => κ (a, b, c) := fun κ h => by
  replace h : bltC P b ts vs O n (fun a b c => κ (a, b, c)) := h
  have key : ∀ (F : (AON → Prop) → Prop), Pt F → (∀ κ : AON → Prop, bltC P b ts vs O n (fun a b c => κ (a, b, c)) = F κ) → ∃ x, κ x ∧ ∀ κ' : AON → Prop, κ' x → bltC P b ts vs O n (fun a b c => κ' (a, b, c)) := fun F hF e => by
    rw [e] at h
    obtain ⟨x, h1, h2⟩ := hF κ h
    exact ⟨x, h1, fun κ' h' => by rw [e]; exact h2 κ' h'⟩
  unfold bltC at h
  split at h
  · split at h
    · rename_i v _ t
      exact key _ (pt_bind (lenK_pt t v) fun r => pt_pure (r, O, n)) fun _ => rfl
    · exact h.elim
  · rename_i s x
    exact key _ (appendC_pt ts s x) fun _ => rfl
  · rename_i s x
    exact key _ (pt_bind2 (f := fun κ => copyC P ts s x O κ) (copyC_pt ts s x) fun m O' => pt_pure (.int .i64 m, O', n)) fun _ => rfl
  · exact key _ (pt_and fun _ => pt_pure (_, O, n)) fun _ => rfl
  · exact key _ (pt_and fun _ => pt_pure (_, O, n)) fun _ => rfl
  · exact h.elim
theorem convC_pt (q t : TypeId) (v : AV) : Pt fun κ : AON → Prop => convC P q t v O n fun a b c => κ (a, b, c) := by
  refine pt_bind (f := tyC P q) (tyC_pt q) fun sty => pt_bind (f := tyC P t) (tyC_pt t) fun d => ?_
  cases d <;> cases v <;> first | exact pt_false | exact pt_pure (_, O, n) | exact pt_and fun _ => pt_bind (f := tyC P _) (tyC_pt _) fun te => pt_and fun _ => pt_pure (_, _, _) | skip
  all_goals first | exact pt_and fun _ => pt_and fun _ => pt_and fun _ => pt_bind (f := tyC P _) (tyC_pt _) fun te => pt_and fun _ => pt_bind (objC_pt _) fun ob => pt_bind (rowC_pt ob) fun _ => pt_pure (_, O, n) | skip
  all_goals
    cases sty <;> first | exact pt_false | exact pt_bind (f := tyC P _) (tyC_pt _) fun te => pt_and fun _ => pt_bind (contC_pt te _) fun c => pt_bind (bytesOf_pt c) fun s => pt_pure (_, O, n)
theorem fldA_pt (f : Nat) (ts : List Ty) (v : AV) : Pt fun κ => fldA f ts v κ := by
  cases v <;> first | exact pt_false | exact pt_bind2 (f := fun κ => nthTC ts f 0 κ) (nthTC_pt ts f 0) fun _ _ => pt_pure _
theorem idxA_pt (ty : Ty) (v : AV) (i : Int) : Pt fun κ => idxA ty (fun e κ => tyC P e fun te => κ te.size) v i κ := by
  have hs : ∀ e, Pt fun κ => tyC P e fun te => κ te.size := fun e => pt_bind (f := tyC P e) (tyC_pt e) fun te => pt_pure _
  cases ty <;> cases v <;> first | exact pt_false | exact pt_and fun _ => pt_and fun _ => pt_pure _ |
    exact pt_and fun _ => pt_and fun _ => pt_bind (f := fun κ => tyC P _ fun te => κ te.size) (hs _) fun z => pt_and fun _ => pt_pure _
theorem idxV_pt (te : Ty) (m : Nat) (v : AV) (i : Int) : Pt fun κ => idxV te m v i κ := by
  cases v <;> first | exact pt_false | exact pt_and fun _ => pt_and fun _ => pt_and fun _ => pt_and fun _ => pt_and fun _ => pt_pure _ |
    exact pt_and fun _ => pt_and fun _ => pt_and fun _ => pt_and fun _ => pt_all fun q => fitC_pt te q (pt_pure q) | skip
  rename_i sz ps
  have h : Pt fun κ => (ps.length = m ∧ 0 ≤ i ∧ i < m ∧ sz = te.size) ∧ (i.toNat < ps.length ∧ ∀ q, ps[i.toNat]? = some q → fitC te q (κ q)) := pt_and fun _ => pt_all fun q => fitC_pt te q (pt_pure q)
  intro κ hk
  obtain ⟨y, h1, h2⟩ := h κ ⟨⟨hk.1, hk.2.1, hk.2.2.1, hk.2.2.2.1⟩, by have := hk.1; have := hk.2.1; have := hk.2.2.1; omega, hk.2.2.2.2⟩
  exact ⟨y, h1, fun κ' h' => by obtain ⟨⟨g1, g2, g3, g4⟩, _, g5⟩ := h2 κ' h'; exact ⟨g1, g2, g3, g4, g5⟩⟩
theorem s2aC_pt (m : Nat) (te : Ty) (v : AV) : Pt fun κ => s2aC m te v κ := by
  cases v <;> first | exact pt_false | exact pt_and fun _ => pt_and fun _ => pt_and fun _ => pt_bind (subC_pt _ _ _) fun q => pt_pure _ | exact pt_and fun _ => pt_and fun _ => pt_and fun _ => pt_and fun _ => pt_pure _
theorem CallP_pt (f : FuncId) (args : List AV) : Pt fun κ : AON → Prop => CallP P f args O n fun a b c => κ (a, b, c) := by
  rintro κ ⟨bor, σ, τ, A, O1, O2, r, O', n', h1, h2, h3, h4, h5, h6, h7, h8, h9, h10, h11, h12, h13, h⟩
  have : Pt fun κ : AON → Prop => renC τ r fun r' => renOO τ O' fun L => κ (r', L ++ O2, n') := pt_bind (renC_pt τ r) fun r' => pt_bind (renOO_pt τ O') fun L => pt_pure (r', L ++ O2, n')
  obtain ⟨x, g1, g2⟩ := this κ h
  exact ⟨x, g1, fun κ' h' => ⟨bor, σ, τ, A, O1, O2, r, O', n', h1, h2, h3, h4, h5, h6, h7, h8, h9, h10, h11, h12, h13, g2 κ' h'⟩⟩
theorem vcOp_pt (op : Op) : Pt fun κ : AON → Prop => vcOp P op T O n fun a b c => κ (a, b, c) := by
  cases op with
  | move x => exact pt_bind (evC_pt x) fun v => pt_pure (v, O, n)
  | assign x => exact pt_bind (evC_pt x) fun v => pt_pure (v, O, n)
  | pick c x y =>
    refine pt_bind (evC_pt c) fun v => pt_bind (boolC_pt v) fun b => pt_bind (iteC_pt b) fun t => ?_
    cases t
    · exact pt_bind (evC_pt y) fun v => pt_pure (v, O, n)
    · exact pt_bind (evC_pt x) fun v => pt_pure (v, O, n)
  | alloc t => exact pt_bind (f := tyC P t) (tyC_pt t) fun ty => pt_pure (_, _, _)
  | box t x => exact pt_bind (evC_pt x) fun v => pt_and fun _ => pt_pure (_, _, _)
  | build t ps =>
    refine pt_bind (f := tyC P t) (tyC_pt t) fun ty => pt_bind (partsC_pt ps.toList) fun l => ?_
    cases ty <;> first | exact pt_false | exact pt_bind (bldS_pt l _) fun qs => pt_pure (_, O, n) | exact pt_bind (elemsC_pt _ _ l) fun v => pt_pure (v, O, n)
  | buildSlice t m ps =>
    refine pt_bind (f := tyC P t) (tyC_pt t) fun ty => pt_bind (partsC_pt ps.toList) fun l => ?_
    cases ty <;> first | exact pt_false | exact pt_bind (f := tyC P _) (tyC_pt _) fun te => pt_and fun _ => pt_and fun _ => pt_bind (elemsC_pt _ _ l) fun c => pt_pure (_, _, _)
  | load t x => exact pt_bind (f := tyC P t) (tyC_pt t) fun ty => pt_bind (evC_pt x) fun v => pt_bind (loadC_pt v) fun q => fitC_pt ty q (pt_pure (q, O, n))
  | store t x y =>
    refine pt_bind (f := tyC P t) (tyC_pt t) fun ty => pt_bind (evC_pt x) fun v => pt_bind (evC_pt y) fun u => pt_and fun _ => pt_and fun _ => pt_and fun _ => ?_
    cases v <;> first | exact pt_false | exact pt_bind (updO_pt _ _ u) fun O' => pt_pure (AV.junk, O', n)
  | nilCheck x =>
    refine pt_bind (evC_pt x) fun v => ?_
    cases v <;> first | exact pt_false | exact pt_pure (_, O, n) | skip
    rename_i f ps
    cases f <;> first | exact pt_false | exact pt_pure (_, O, n)
  | binOp op t x y t' => exact pt_bind (evC_pt x) fun v => pt_bind (evC_pt y) fun u => pt_bind (binC_pt op t v u) fun r => pt_pure (r, O, n)
  | unOp op t x => exact pt_bind (evC_pt x) fun v => pt_bind (unC_pt op v) fun r => pt_pure (r, O, n)
  | convert q t x => exact pt_bind (evC_pt x) fun v => convC_pt q t v
  | makeFunc f fs cs => exact pt_and fun _ => pt_bind (evsC_pt _) fun vs => pt_pure (_, O, n)
  | makeSlice t x y =>
    refine pt_bind (f := tyC P t) (tyC_pt t) fun ty => pt_bind (evC_pt x) fun u => pt_bind (evC_pt y) fun v => pt_bind (intC_pt u) fun i => pt_bind (intC_pt v) fun j => ?_
    cases ty <;> first | exact pt_false | exact pt_bind (f := tyC P _) (tyC_pt _) fun te => pt_bind (f := byC P _) (byC_pt _) fun bts => pt_and fun _ => pt_and fun _ => pt_and fun _ => pt_and fun _ => pt_and fun _ => pt_bind (zerosC_pt _ te) fun q => pt_pure (_, _, _)
  | slice t x lo hi mx =>
    cases mx with
    | some _ => exact pt_false
    | none =>
      refine pt_bind (f := tyC P t) (tyC_pt t) fun ty => pt_bind (evC_pt x) fun v => pt_bind (optC_pt lo) fun l => pt_bind (optC_pt hi) fun h => ?_
      cases ty with
      | arr m e te => exact pt_bind (cutA_pt te.size m v _ _) fun r => pt_pure (r, O, n)
      | slice e => exact pt_bind (f := tyC P e) (tyC_pt e) fun te => pt_and fun _ => pt_and fun _ => pt_bind (cutC_pt v _ _) fun r => pt_pure (r, O, n)
      | str => exact pt_bind (cutS_pt v _ _) fun r => pt_pure (r, O, n)
      | ptr q =>
        refine pt_bind (f := tyC P q) (tyC_pt q) fun at' => ?_
        cases at' <;> first | exact pt_false | exact pt_bind (cutA_pt _ _ v _ _) fun r => pt_pure (r, O, n)
      | _ => exact pt_false
  | sliceToArrayPointer t x =>
    refine pt_bind (f := tyC P t) (tyC_pt t) fun ty => pt_bind (evC_pt x) fun v => ?_
    cases ty <;> first | exact pt_false | exact pt_bind (s2aC_pt _ _ v) fun r => pt_pure (r, O, n)
  | fieldAddr s x f =>
    refine pt_bind (f := tyC P s) (tyC_pt s) fun ty => pt_bind (evC_pt x) fun v => ?_
    cases ty <;> first | exact pt_false | exact pt_bind (fldA_pt f _ v) fun r => pt_pure (r, O, n)
  | field s x f =>
    refine pt_bind (f := tyC P s) (tyC_pt s) fun ty => pt_bind (evC_pt x) fun v => ?_
    cases ty <;> cases v <;> first | exact pt_false | exact pt_bind2 (f := fun κ => nthTC _ f 0 κ) (nthTC_pt _ f 0) fun te off => pt_bind (fldC_pt _ f off) fun q => fitC_pt te q (pt_pure (q, O, n))
  | indexAddr t x i => exact pt_bind (f := tyC P t) (tyC_pt t) fun ty => pt_bind (evC_pt x) fun v => pt_bind (evC_pt i) fun u => pt_bind (intC_pt u) fun j => pt_bind (idxA_pt ty v j) fun r => pt_pure (r, O, n)
  | index t x i =>
    refine pt_bind (f := tyC P t) (tyC_pt t) fun ty => pt_bind (evC_pt x) fun v => pt_bind (evC_pt i) fun u => pt_bind (intC_pt u) fun j => ?_
    cases ty with
    | arr m e te => exact pt_bind (idxV_pt te m v j) fun r => pt_pure (r, O, n)
    | str => cases v <;> first | exact pt_false | exact pt_and fun _ => pt_and fun _ => pt_pure (_, O, n)
    | _ => exact pt_false
  | extract x i =>
    refine pt_bind (evC_pt x) fun v => ?_
    cases v <;> first | exact pt_false | exact pt_bind (nthC_pt _ i) fun r => pt_pure (r, O, n)
  | call c =>
    obtain ⟨callee, args, ats⟩ := c
    cases callee with
    | value f =>
      refine pt_bind (evC_pt f) fun fv => pt_bind (evsC_pt _) fun vs => ?_
      cases fv <;> first | exact pt_false | skip
      rename_i g ps
      cases g <;> first | exact pt_false | exact CallP_pt _ _
    | builtin b => exact pt_bind (evsC_pt _) fun vs => bltC_pt b _ vs
    | invoke x m => exact pt_false
  | _ => exact pt_false
end
end Go.Sy
