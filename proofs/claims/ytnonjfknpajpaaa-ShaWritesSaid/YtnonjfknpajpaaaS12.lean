/- Variables made, read, written. -/
import Derived.Test.YtnonjfknpajpaaaS11
namespace Go.Sy
open Go
set_option linter.unusedSimpArgs false
set_option linter.unusedVariables false
section
variable {E : Env} {N : Nat} {M : Pool} {β β' : Bmap} {T : TT} {O O' : OO} {n : Nat} {a : Act} {w w' : World} {P : Program} {o : Oper} {K : KK}

theorem alloc_new (w : World) (x : Obj) : (w.alloc x).heap[w.heap.size]? = some x := by
  show (w.heap.push x)[w.heap.size]? = _
  simp
theorem free0 (m : Nat) : freeCells (0, 0) m := .inl rfl
/-- A new variable. -/
theorem RelAt.newVar (h : RelAt E N M β T O n a w) (hok : E.ok n) {v : AV} {cs : Array Value} {e : TypeId} (hv : RV M β v cs.toList) :
    RelAt E N M (updB β n (w.heap.size, v.csz + 1)) T ((n, .var v) :: O) (n + 1) a (w.alloc (.cells cs e)) := by
  have hn : β n = none := h.ids n (Nat.le_refl _) hok
  refine h.next (h.st.alloc hn _ _ _ _ (fun _ => rfl) ?_) (updB_le hn _) (h.fresh _) (updB_low hok _ _) (Nat.le_succ _)
  exact ⟨by omega, by omega, cs, e, (0, 0), alloc_new _ _, free0 _, hv.mono (PLe.refl _) (updB_le hn _)⟩
theorem s_alloc (hK : ∀ v O' n', K v O' n' → ∀ o, n ≤ o → o < n' → E.ok o) {t : TypeId} (ho : o.op = .alloc t)
    (h : tyC P t fun ty => K (.ref n []) ((n, .var ty.zero) :: O) (n + 1)) (hr : RelAt E N M β T O n a w) : OpS P o E N T K a w := by
  obtain ⟨ty, hok, _, hk⟩ := tyC_spec h
  have hz : RV M β ty.zero ty.zv.cells.toList := (zero_vr ty β).cells (by have := zero_rv (M := M) ty β; exact multi_mem this)
  refine OpS.val (x := .pointer (some ⟨w.heap.size, 0, none⟩)) ?_ (hr.newVar (hK _ _ _ hk n (Nat.le_refl _) (Nat.lt_succ_self _)) (e := t) hz) (.one rfl (.ref (p := []) (by simp; rfl))) hk
  simp only [execOp, ho, Instr.alloc, Sem.run_bind, r_zero hok, Result.andThen_ok, newVar, newRow, run_newObj, Sem.run_pure]
  rfl
theorem s_box (hK : ∀ v O' n', K v O' n' → ∀ o, n ≤ o → o < n' → E.ok o) {t : TypeId} {x : Operand} (ho : o.op = .box t x)
    (h : evC T x fun v => v.mem = true ∧ K (.ref n []) ((n, .var v) :: O) (n + 1)) (hr : RelAt E N M β T O n a w) : OpS P o E N T K a w := by
  obtain ⟨v, ⟨hm, hk⟩, hv⟩ := evC_spec hr h
  refine OpS.val (x := .pointer (some ⟨w.heap.size, 0, none⟩)) ?_ (hr.newVar (hK _ _ _ hk n (Nat.le_refl _) (Nat.lt_succ_self _)) (e := t) (hv.cells hm)) (.one rfl (.ref (p := []) (by simp; rfl))) hk
  simp only [execOp, ho, Instr.box, Sem.run_bind, newVar, newRow, run_newObj, Sem.run_pure, Result.andThen_ok]
  rfl

/-- A variable read: its cells are known. -/
theorem run_loadVar {t : TypeId} {ty : Ty} (hok : ty.ok P t) {b off : Nat} {cs : List Value} {q : AV} (hc : CellsAt w b off cs) (hq : RV M β q cs) (hs : q.csz = ty.size) (hm : q.multi = ty.multi) :
    ∃ y, (loadVar t ⟨b, off, none⟩).run P w = .ok y w ∧ VR M β q y := by
  have hl := hq.length
  unfold loadVar
  simp only [Sem.run_bind, r_isAgg hok, Result.andThen_ok]
  cases hmm : ty.multi with
  | true =>
    refine ⟨.agg cs.toArray, ?_, .agg (by rw [hm, hmm]) hq⟩
    have := run_loadCells (P := P) hc
    rw [hl, hs] at this
    simp only [if_true, Sem.run_bind, r_size hok, Result.andThen_ok, this]
    rfl
  | false =>
    have h1 : ty.size = 1 := by cases ty <;> first | rfl | cases hmm
    rw [hs, h1] at hl
    match cs, hl with
    | [c], _ =>
      refine ⟨c, ?_, .one (by rw [hm, hmm]) hq⟩
      simp only [if_false, Bool.false_eq_true, run_load, hc.head]
theorem CellsAt.piece {b o m k : Nat} {cs : List Value} (h : CellsAt w b o cs) : CellsAt w b (o + m) (piece cs m k) := fun i v hv => by
  simp only [Sy.piece, List.getElem?_take, List.getElem?_drop] at hv
  split at hv
  · have := h _ _ hv; rwa [Nat.add_assoc]
  · cases hv
/-- An own object's cells. -/
theorem St.cells (h : St E M β O w) {i b κ : Nat} {ob : OB} {c : AV} (hl : lk O i = some ob) (hb : β i = some (b, κ)) (hc : obC ob fun x => x = c) : ∃ cc, RV M β c cc ∧ CellsAt w b 0 cc := by
  obtain ⟨b', κ', hb', hor⟩ := h.objs _ _ hl
  rw [hb] at hb'; cases hb'
  cases ob with
  | var c' =>
    obtain rfl : c' = c := hc
    obtain ⟨_, _, cs, e, fz, h1, _, h3⟩ := hor
    exact ⟨_, h3, by have := CellsAt.of_block h1 0 cs.toList.length; rwa [piece_all] at this⟩
  | row c' =>
    obtain rfl : c' = c := hc
    obtain ⟨_, _, hor⟩ := hor
    rcases hor with ⟨_, _, h3⟩ | ⟨_, cc, sp, e, fz, h1, _, h3, _⟩
    · exact ⟨[], h3, fun i v hv => by simp at hv⟩
    · refine ⟨cc, h3, ?_⟩
      have := CellsAt.of_block h1 0 cc.length
      simpa [piece] using this
  | map ks => exact hc.elim
theorem obC_spec {ob : OB} {κ : AV → Prop} (h : obC ob κ) : ∃ c, (obC ob fun x => x = c) ∧ κ c := by
  cases ob with
  | var c => exact ⟨c, rfl, h⟩
  | row c => exact ⟨c, rfl, h⟩
  | map ks => exact h.elim
theorem s_load {t : TypeId} {x : Operand} (ho : o.op = .load t x)
    (h : tyC P t fun ty => evC T x fun v => loadC O v fun q => fitC ty q (K q O n)) (hr : RelAt E N M β T O n a w) : OpS P o E N T K a w := by
  obtain ⟨ty, hok, _, h1⟩ := tyC_spec h
  obtain ⟨v, h2, hv⟩ := evC_spec hr h1
  have fin : ∀ (b off : Nat) (q : AV) (cs : List Value), a.eval x = .pointer (some ⟨b, off, none⟩) → RV M β q cs → CellsAt w b off cs → fitC ty q (K q O n) → OpS P o E N T K a w := fun b off q cs ex hq hc hf => by
    obtain ⟨f1, f2, hk⟩ := hf
    obtain ⟨y, hrun, hy⟩ := run_loadVar (w := w) hok hc hq f1 f2
    refine OpS.val (x := y) ?_ hr hy hk
    simp only [execOp, ho, Instr.loadAt, ex, Instr.sureAddr, Sem.run_bind, Sem.run_pure, Result.andThen_ok, hrun]
  cases v with
  | ref i p =>
    obtain ⟨ob, hl, h3⟩ := objC_spec h2
    obtain ⟨c, hc, h4⟩ := obC_spec h3
    obtain ⟨b, κ, hb, ex⟩ := hv.ref_inv
    obtain ⟨cc, hcc, hca⟩ := hr.st.cells hl hb hc
    obtain ⟨q, hf, hq⟩ := nav_spec _ _ _ h4
    obtain ⟨_, hq2⟩ := hq hcc
    exact fin b (poff p) q _ ex hq2 (by have := hca.piece (m := poff p) (k := q.csz); rwa [Nat.zero_add] at this) hf
  | pp c p =>
    obtain ⟨q, hf, hq⟩ := nav_spec _ _ _ h2
    obtain ⟨cc, b, off, ex, hcc, hm⟩ := hv.pp_inv
    obtain ⟨_, hq2⟩ := hq hcc
    exact fin b (off + poff p) q _ ex (hq2.mono (PLe.refl _) (BLe.nob _)) (CellsAt.piece fun i v hi => hr.st.pool _ _ _ (hm i v hi)) hf
  | _ => exact h2.elim

theorem updC_row : ∀ (p : List Stp) (c x : AV) (K : AV → Prop), p ≠ [] → updC p c x K → updC p c x fun c' => K c' ∧ c'.isRow = c.isRow ∧ c'.esz = c.esz ∧ c'.cnt = c.cnt := by
  have mono : ∀ (p : List Stp) (c x : AV) (K K' : AV → Prop), (∀ v, K v → K' v) → updC p c x K → updC p c x K' := by
    intro p
    induction p with
    | nil => intro c x K K' hk h; obtain ⟨h1, h2⟩ : x.csz = c.csz ∧ K x := by simpa [updC] using h
             simpa [updC] using And.intro h1 (hk _ h2)
    | cons s p ih =>
      intro c x K K' hk h
      cases s with
      | fld j off =>
        cases c with
        | agg ps =>
          have mf : ∀ (ps : List AV) (j off : Nat) (L L' : List AV → Prop), (∀ v, L v → L' v) → fldU ps j off (fun q K' => updC p q x K') L → fldU ps j off (fun q K' => updC p q x K') L' := by
            intro ps
            induction ps with
            | nil => intro j off L L' _ h; exact h.elim
            | cons q qs ih2 =>
              intro j off L L' hL h
              cases j with
              | zero => exact ⟨h.1, ih _ _ _ _ (fun v hv => hL _ hv) h.2⟩
              | succ j => exact ⟨h.1, ih2 _ _ _ _ (fun v hv => hL _ hv) h.2⟩
          exact mf _ _ _ _ _ (fun v hv => hk _ hv) h
        | _ => exact h.elim
      | «at» i sz =>
        cases c with
        | ints k m xs =>
          obtain ⟨h1, h2, h3, h4⟩ := h
          refine ⟨h1, h2, h3, ?_⟩
          cases x <;> first | exact h4.elim | exact ⟨h4.1, hk _ h4.2⟩
        | arr s ps => exact ⟨h.1, h.2.1, fun q hq => ih _ _ _ _ (fun v hv => hk _ hv) (h.2.2 q hq)⟩
        | lst s m es => exact ⟨h.1, h.2.1, h.2.2.1, fun q hq => ih _ _ _ _ (fun v hv => hk _ hv) (h.2.2.2 q hq)⟩
        | _ => exact h.elim
  intro p c x K hp h
  cases p with
  | nil => exact absurd rfl hp
  | cons s p =>
    cases s with
    | fld j off =>
      cases c with
      | agg ps =>
        have mf : ∀ (ps : List AV) (j off : Nat) (L L' : List AV → Prop), (∀ v, L v → L' v) → fldU ps j off (fun q K' => updC p q x K') L → fldU ps j off (fun q K' => updC p q x K') L' := by
          intro ps
          induction ps with
          | nil => intro j off L L' _ h; exact h.elim
          | cons q qs ih2 =>
            intro j off L L' hL h
            cases j with
            | zero => exact ⟨h.1, mono _ _ _ _ _ (fun v hv => hL _ hv) h.2⟩
            | succ j => exact ⟨h.1, ih2 _ _ _ _ (fun v hv => hL _ hv) h.2⟩
        exact mf _ _ _ _ _ (fun v hv => ⟨hv, rfl, rfl, rfl⟩) h
      | _ => exact h.elim
    | «at» i sz =>
      cases c with
      | ints k m xs =>
        obtain ⟨h1, h2, h3, h4⟩ := h
        refine ⟨h1, h2, h3, ?_⟩
        cases x <;> first | exact h4.elim | exact ⟨h4.1, h4.2, rfl, rfl, rfl⟩
      | arr s ps => exact ⟨h.1, h.2.1, fun q hq => mono _ _ _ _ _ (fun v hv => ⟨hv, rfl, rfl, by simp [AV.cnt]⟩) (h.2.2 q hq)⟩
      | lst s m es => exact ⟨h.1, h.2.1, h.2.2.1, fun q hq => mono _ _ _ _ _ (fun v hv => ⟨hv, rfl, rfl, rfl⟩) (h.2.2.2 q hq)⟩
      | _ => exact h.elim
theorem updC_row' {p : List Stp} {c x : AV} {K : AV → Prop} (hp : p = [] → x.isRow = true ∧ x.esz = c.esz ∧ x.cnt = c.cnt) (hc : c.isRow = true) (h : updC p c x K) :
    updC p c x fun c' => K c' ∧ c'.isRow = c.isRow ∧ c'.esz = c.esz ∧ c'.cnt = c.cnt := by
  by_cases e : p = []
  · obtain ⟨h1, h2, h3⟩ := hp e
    subst e
    obtain ⟨g1, g2⟩ : x.csz = c.csz ∧ K x := by simpa [updC] using h
    simp only [updC]
    exact ⟨g1, g2, by rw [h1, hc], h2, h3⟩
  · exact updC_row _ _ _ _ e h
theorem splice_length {cs xs : List Value} {o : Nat} (h : o + xs.length ≤ cs.length) : (splice cs o xs).length = cs.length := by
  simp only [splice, List.length_append, List.length_take, List.length_drop]; omega
theorem splice_append {cs sp xs : List Value} {o : Nat} (h : o + xs.length ≤ cs.length) : splice (cs ++ sp) o xs = splice cs o xs ++ sp := by
  simp only [splice]
  rw [List.take_append_of_le_length (by omega), List.drop_append_of_le_length (by omega)]
  simp

/-- A piece of an own object is written. -/
theorem RelAt.writeAt (hr : RelAt E N M β T O n a w) {i : Nat} {p : List Stp} {u : AV} {κ : OO → Prop} (h : updO O i p u κ) (off : Nat) {dd : List Value} (hpos : 0 < dd.length)
    (hone : ∀ x ∈ dd, x.oneCell' = true) (hx : ∀ {c : AV} {cs : List Value}, lk O i = some (.var c) ∨ lk O i = some (.row c) → RV M β c cs →
      ∃ z, poff p + z ≤ cs.length ∧ off + dd.length ≤ z ∧ RV M β u (splice (piece cs (poff p) z) off dd) ∧ (splice (piece cs (poff p) z) off dd).length = z) :
    ∃ O' w' b κ0, β i = some (b, κ0) ∧ κ O' ∧ (storeCells ⟨b, poff p + off, none⟩ dd).run P w = .ok () w' ∧ RelAt E N M β T O' n a w' := by
  obtain ⟨ob, K', hl, hu, hO⟩ := updO_spec h
  obtain ⟨b, κ0, hb, hor⟩ := hr.st.objs _ _ hl
  cases ob with
  | var c =>
    obtain ⟨c', hk, hz, hrv⟩ := upd_spec _ _ _ _ hu
    obtain ⟨hk0, hcz, cs, e, fz, h1, h2, h3⟩ := hor
    obtain ⟨z, hz1, hz2, hru, hzl⟩ := hx (.inl hl) h3
    obtain ⟨_, hrv2⟩ := hrv h3 hru
    rw [splice_splice _ _ _ _ _ hz2 hz1] at hrv2
    obtain ⟨O', hko, hlk⟩ := hO _ hk
    have hlt : b < w.heap.size := (Array.getElem?_eq_some_iff.1 h1).1
    have hcs : cs = cs.toList.toArray := by simp
    have hle : poff p + off + dd.length ≤ cs.toList.length := by omega
    have hrun := run_storeCells (P := P) (b := b) (o := poff p + off) (e := e) (fz := fz) dd 0 w cs.toList (by rw [← hcs]; exact h1) (by simpa using hle) (by simpa using h2) hone
    refine ⟨O', _, b, κ0, hb, hko, hrun, hr.next (hr.st.put hl hb hk0 hlk ?_) (BLe.refl _) hr.ids (fun _ _ => rfl) (Nat.le_refl _)⟩
    refine ⟨hk0, by rw [hz]; exact hcz, _, e, fz, by rw [getElem?_putBlock hlt]; simp; rfl, ?_, by simpa using hrv2⟩
    have := splice_length hle
    simp only [List.size_toArray, Nat.add_zero, this]
    simpa using h2
  | row c =>
    obtain ⟨hp, hu⟩ := hu
    obtain ⟨hrow, hez, hor⟩ := hor
    obtain ⟨c', ⟨hk, e1, e2, e3⟩, hz, hrv⟩ := upd_spec _ _ _ _ (updC_row' hp hrow hu)
    rcases hor with ⟨_, _, h3⟩ | ⟨hk0, cc, sp, e, fz, h1, h2, h3, h4⟩
    · obtain ⟨z, hz1, hz2, _⟩ := hx (.inr hl) h3
      simp only [List.length_nil] at hz1
      omega
    · obtain ⟨z, hz1, hz2, hru, hzl⟩ := hx (.inr hl) h3
      obtain ⟨_, hrv2⟩ := hrv h3 hru
      rw [splice_splice _ _ _ _ _ hz2 hz1] at hrv2
      obtain ⟨O', hko, hlk⟩ := hO _ hk
      have hle : poff p + off + dd.length ≤ cc.length := by omega
      have hlt : b < w.heap.size := (Array.getElem?_eq_some_iff.1 h1).1
      have hrun := run_storeCells (P := P) (b := b) (o := poff p + off) (e := e) (fz := fz) dd 0 w (cc ++ sp) h1 (by simp; omega) h2 hone
      rw [Nat.add_zero, splice_append hle] at hrun
      refine ⟨O', _, b, κ0, hb, hko, hrun, hr.next (hr.st.put hl hb hk0 hlk ?_) (BLe.refl _) hr.ids (fun _ _ => rfl) (Nat.le_refl _)⟩
      have := splice_length hle
      refine ⟨by rw [e1]; exact hrow, by rw [e2]; exact hez, .inr ⟨hk0, _, sp, e, fz, by rw [getElem?_putBlock hlt]; simp, ?_, hrv2, ?_⟩⟩
      · simp only [List.length_append, this]; simpa using h2
      · rw [e2, ← h4]; simp [this]
  | map ks => exact hu.elim
theorem RelAt.write (hr : RelAt E N M β T O n a w) {i : Nat} {p : List Stp} {u : AV} {xc : List Value} {κ : OO → Prop} (h : updO O i p u κ) (hx : RV M β u xc) (hpos : 0 < xc.length) :
    ∃ O' w' b κ0, β i = some (b, κ0) ∧ κ O' ∧ (storeCells ⟨b, poff p, none⟩ xc).run P w = .ok () w' ∧ RelAt E N M β T O' n a w' := by
  have key : ∀ {c : AV} {cs : List Value}, lk O i = some (.var c) ∨ lk O i = some (.row c) → RV M β c cs → poff p + xc.length ≤ cs.length := by
    intro c cs hl hc
    obtain ⟨ob, K', hl', hu, _⟩ := updO_spec h
    rcases hl with hl | hl
    · rw [hl] at hl'; cases hl'
      obtain ⟨c', _, _, hrv⟩ := upd_spec _ _ _ _ hu
      exact (hrv hc hx).1
    · rw [hl] at hl'; cases hl'
      obtain ⟨c', _, _, hrv⟩ := upd_spec _ _ _ _ hu.2
      exact (hrv hc hx).1
  have := hr.writeAt (P := P) h 0 hpos hx.one fun {c cs} hl hc => by
    have hle := key hl hc
    have hpl : (piece cs (poff p) xc.length).length = xc.length := by simp [piece]; omega
    have hsp : splice (piece cs (poff p) xc.length) 0 xc = xc := by
      simp only [splice, List.take_zero, List.nil_append, Nat.zero_add]
      rw [List.drop_of_length_le (by omega), List.append_nil]
    exact ⟨xc.length, hle, by omega, by rw [hsp]; exact hx, by rw [hsp]⟩
  simpa using this
theorem s_store {t : TypeId} {x y : Operand} (ho : o.op = .store t x y)
    (h : tyC P t fun ty => evC T x fun v => evC T y fun u => u.mem = true ∧ u.csz = ty.size ∧ 0 < ty.size ∧
      (match v with
      | .ref i p => updO O i p u fun O' => K .junk O' n
      | _ => False)) (hr : RelAt E N M β T O n a w) : OpS P o E N T K a w := by
  obtain ⟨ty, hok, _, h1⟩ := tyC_spec h
  obtain ⟨v, h2, hv⟩ := evC_spec hr h1
  obtain ⟨u, ⟨hm, hs, hpos, h3⟩, hu⟩ := evC_spec hr h2
  cases v with
  | ref i p =>
    have hx := hu.cells hm
    have hl := hx.length
    obtain ⟨O', w', b, κ0, hb, hk, hrun, hr'⟩ := hr.write (P := P) h3 hx (by omega)
    obtain ⟨b', κ', hb', ex⟩ := hv.ref_inv
    rw [hb] at hb'; cases hb'
    refine OpS.skip ?_ hr' hk
    have hsz : (a.eval y).cells.size = ty.size := by rw [← hs, ← hl]; simp
    simp only [execOp, ho, Instr.storeAt, ex, Instr.sureAddr, Sem.run_bind, Sem.run_pure, Result.andThen_ok, storeVar, r_size hok, hsz, ne_eq, not_true, if_false, hrun]
  | _ => exact h3.elim
end
end Go.Sy
