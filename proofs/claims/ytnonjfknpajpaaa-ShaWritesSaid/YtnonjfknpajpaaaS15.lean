/- append, copy, the other builtins, conversions. -/
import Derived.Test.YtnonjfknpajpaaaS14
namespace Go.Sy
open Go
set_option linter.unusedSimpArgs false
set_option linter.unusedVariables false
section
variable {E : Env} {N : Nat} {M : Pool} {β β' : Bmap} {T : TT} {O O' : OO} {n : Nat} {a : Act} {w w' : World} {P : Program} {o : Oper} {K : KK}

/-- What a slice holds, read: the model's own way. -/
structure Cont (M : Pool) (β : Bmap) (w : World) (P : Program) (te : Ty) (x : Value) (c : AV) : Prop where
  row : c.isRow = true
  ez : c.esz = te.size
  len : ∀ w', (Builtin.lenOf x).run P w' = .ok c.cnt w'
  pre : ∃ cc, RV M β c cc ∧ ∀ m, m ≤ c.cnt → ∀ w' : World, w'.heap = w.heap → (Builtin.firstCells te.size m x).run P w' = .ok (cc.take (m * te.size)).toArray w'
theorem Cont.cells {te : Ty} {x : Value} {c : AV} (h : Cont M β w P te x c) : ∃ cc, RV M β c cc ∧ ∀ w' : World, w'.heap = w.heap → (Builtin.firstCells te.size c.cnt x).run P w' = .ok cc.toArray w' := by
  obtain ⟨cc, h1, h2⟩ := h.pre
  refine ⟨cc, h1, fun w' hw => ?_⟩
  have hl : cc.length = c.cnt * te.size := by rw [row_len h1 h.row, h.ez]
  have := h2 c.cnt (Nat.le_refl _) w' hw
  rwa [← hl, List.take_of_length_le (Nat.le_refl _)] at this
theorem CellsAt.take {b o m : Nat} {cs : List Value} (h : CellsAt w b o cs) : CellsAt w b o (cs.take m) := fun i v hv => by
  rw [List.getElem?_take] at hv
  split at hv
  · exact h i v hv
  · cases hv
theorem CellsAt.heap {b o : Nat} {cs : List Value} (h : CellsAt w b o cs) (hw : w'.heap = w.heap) : CellsAt w' b o cs := fun i v hv => by rw [cell_same (congrArg (·[b]?) hw)]; exact h i v hv
theorem u8_ints (s : List UInt8) : (⟨s.toArray⟩ : ByteArray).extract 0 s.length = ⟨s.toArray⟩ := by
  apply ByteArray.ext
  rw [ByteArray.data_extract]
  apply Array.ext'
  simp [List.extract]
theorem contC_spec (h0 : RelAt E N M β T O n a w) {te : Ty} {v : AV} {x : Value} {κ : AV → Prop} (hpos : 0 < te.size) (h : contC O te v κ) (hv : VR M β v x) : ∃ c, κ c ∧ Cont M β w P te x c := by
  have rd : ∀ (b off : Nat) (cc : List Value) (cnt cap m : Nat), CellsAt w b off cc → cc.length = cnt * te.size → m ≤ cnt → ∀ w' : World, w'.heap = w.heap →
      (Builtin.firstCells te.size m (.slice (some ⟨b, off, none⟩) cnt cap)).run P w' = .ok (cc.take (m * te.size)).toArray w' := fun b off cc cnt cap m hc hl hm w' hw => by
    have h5 := run_loadCells (P := P) ((hc.take (m := m * te.size)).heap hw)
    have : (cc.take (m * te.size)).length = m * te.size := by rw [List.length_take, hl]; exact Nat.min_eq_left (Nat.mul_le_mul_right _ hm)
    rw [this] at h5
    simp only [Builtin.firstCells]
    exact h5
  have rd0 : ∀ (base : Option Addr) (cap : Nat) (cc : List Value) (w' : World), (Builtin.firstCells te.size 0 (.slice base 0 cap)).run P w' = .ok (cc.take (0 * te.size)).toArray w' := fun base cap cc w' => by
    rw [Nat.zero_mul]
    cases base <;> simp only [Builtin.firstCells, Nat.zero_mul, loadCells, loadCellsFrom] <;> rfl
  cases v with
  | sl c =>
    obtain ⟨hez, hk⟩ := h
    obtain ⟨cc, base, cap, rfl, hc, hrow, hcap, hm⟩ := hv.sl_inv
    have hl := row_len hc hrow
    refine ⟨c, hk, hrow, hez, fun w' => rfl, cc, hc.mono (PLe.refl _) (BLe.nob _), fun m hmc w' hw => ?_⟩
    rw [hez] at hl
    by_cases hz : c.cnt = 0
    · have : m = 0 := by omega
      subst this
      rw [hz]
      exact rd0 _ _ _ _
    · obtain ⟨b, off, e, hm2⟩ := hm.resolve_left hz
      subst e
      exact rd b off cc c.cnt cap m (fun i v hi => h0.st.pool _ _ _ (hm2 i v hi)) hl hmc w' hw
  | nils =>
    have e := hv.nils_inv
    subst e
    have h' : zerosC 0 te κ := h
    obtain ⟨c, hk, hrow, hcnt, hez, _, hrv⟩ := zerosC_spec h' hpos
    refine ⟨c, hk, hrow, hez, fun w' => by rw [hcnt]; rfl, [], by simpa using hrv (M := M) (β := β), fun m hm w' _ => ?_⟩
    have : m = 0 := by omega
    subst this
    exact rd0 _ _ _ _
  | osl i p sz lo len =>
    obtain ⟨rfl, h1⟩ := h
    obtain ⟨ob, hl, h2⟩ := objC_spec h1
    obtain ⟨c, hc, h3⟩ := obC_spec h2
    obtain ⟨q, ⟨hq1, hq2⟩, hq3⟩ := nav_spec _ _ _ h3
    obtain ⟨r, hk, r1, r2, r3, r4, r5, r6⟩ := subC_spec hq2
    obtain ⟨b, κ0, base, cap, hb, rfl, hcap, hkk, ha⟩ := hv.osl_inv
    obtain ⟨cc, hcc, hca⟩ := h0.st.cells hl hb hc
    obtain ⟨_, hqr⟩ := hq3 hcc
    obtain ⟨g1, g2⟩ := r6 hqr
    rw [hq1] at g2
    have hl2 := row_len g2 r1
    rw [r3, hq1, r2] at hl2
    refine ⟨r, hk, r1, by rw [r3, hq1], fun w' => by rw [r2]; rfl, _, g2, fun m hm w' hw => ?_⟩
    rw [r2] at hm
    by_cases hz : len = 0
    · have : m = 0 := by omega
      subst this; subst hz
      exact rd0 _ _ _ _
    · obtain rfl := ha.resolve_left (by omega)
      have h4 := (hca.piece (m := poff p) (k := q.csz)).piece (m := lo * te.size) (k := len * te.size)
      rw [Nat.zero_add] at h4
      exact rd b _ _ len cap m h4 hl2 hm w' hw
  | str s =>
    obtain ⟨rfl, hk⟩ := h
    have e := hv.str_inv
    subst e
    have hs : (⟨s.toArray⟩ : ByteArray).size = s.length := by simp [ByteArray.size]
    refine ⟨_, hk, rfl, rfl, fun w' => by simp [Builtin.lenOf, hs, AV.cnt], _, .ints .u8 (by simp), fun m hm w' _ => ?_⟩
    have he : (⟨s.toArray⟩ : ByteArray).extract 0 m = ⟨(s.take m).toArray⟩ := by
      apply ByteArray.ext
      rw [ByteArray.data_extract]
      apply Array.ext'
      simp [List.extract]
    simp only [Builtin.firstCells, AV.cnt, he, Sem.run_pure, Ty.size, Nat.mul_one]
    congr 1
    simp [List.map_map, List.map_take]
    rfl
  | _ => exact h.elim

/-- The slice that is appended to, as the call's own. -/
inductive Own (β : Bmap) (O : OO) (te : Ty) (c : AV) : Value → OO → Prop
  | none (hc : c.cnt = 0) : Own β O te c (.slice none 0 0) O
  | some {O' : OO} {i b κ cap : Nat} {base : Option Addr} (hl : lk O i = some (.row c)) (hb : β i = some (b, κ)) (h1 : c.cnt ≤ cap) (h2 : cap ≤ κ) (ha : cap = 0 ∨ base = some ⟨b, 0, none⟩)
      (hO : ∀ j, lk O' j = if j = i then none else lk O j) : Own β O te c (.slice base c.cnt cap) O'
theorem ownC_spec (h0 : RelAt E N M β T O n a w) {te : Ty} {v : AV} {x : Value} {κ : AV → OO → Prop} (hpos : 0 < te.size) (h : ownC te O v κ) (hv : VR M β v x) :
    ∃ c O', κ c O' ∧ Own β O te c x O' ∧ c.isRow = true ∧ (c.cnt = 0 → RV M β c []) := by
  cases v with
  | nils =>
    have e := hv.nils_inv
    subst e
    have h' : zerosC 0 te (fun c => κ c O) := h
    obtain ⟨c, hk, hrow, hcnt, hez, _, hrv⟩ := zerosC_spec h' hpos
    exact ⟨c, O, hk, .none hcnt, hrow, fun _ => by simpa using hrv (M := M) (β := β)⟩
  | osl i p sz lo len =>
    obtain ⟨rfl, rfl, rfl, h1⟩ := h
    obtain ⟨ob, hl, h2⟩ := objC_spec h1
    cases ob with
    | row c =>
      obtain ⟨rfl, h3⟩ := h2
      obtain ⟨O', hk, hO⟩ := rmO_spec h3
      obtain ⟨b, κ0, base, cap, hb, rfl, hcap, hkk, ha⟩ := hv.osl_inv
      obtain ⟨b', κ', hb', hor⟩ := h0.st.objs _ _ hl
      obtain ⟨hrow, hez, hor⟩ := hor
      refine ⟨c, O', hk, .some hl hb hcap (by have := hkk rfl; omega) (by simpa [poff] using ha) hO, hrow, fun hz => ?_⟩
      rcases hor with ⟨_, _, h⟩ | ⟨_, cc, sp, e, fz, _, _, h, _⟩
      · exact h
      · have := row_len h hrow
        rw [hz, Nat.zero_mul] at this
        rw [List.eq_nil_of_length_eq_zero this] at h
        exact h
    | _ => exact h2.elim
  | _ => exact h.elim
theorem catC_spec {c d : AV} {κ : AV → Prop} (h : catC c d κ) : ∃ e, κ e ∧ e.isRow = true ∧ e.cnt = c.cnt + d.cnt ∧ e.esz = c.esz ∧ ∀ {M : Pool} {β : Bmap} {cc dd : List Value}, RV M β c cc → RV M β d dd → RV M β e (cc ++ dd) := by
  cases c <;> cases d <;> first | exact h.elim | skip
  · obtain ⟨rfl, h⟩ := h
    refine ⟨_, h, rfl, rfl, rfl, fun {M β cc dd} h1 h2 => ?_⟩
    cases h1 with
    | ints _ l1 => cases h2 with
      | ints _ l2 => rw [← List.map_append]; exact .ints _ (by simp [l1, l2])
  · obtain ⟨rfl, h⟩ := h
    refine ⟨_, h, rfl, by simp [AV.cnt], rfl, fun {M β cc dd} h1 h2 => ?_⟩
    cases h1 with
    | arr l1 z1 => cases h2 with
      | arr l2 z2 => exact .arr (l1.append l2) fun p hp => by rcases List.mem_append.1 hp with hp | hp; exact z1 p hp; exact z2 p hp
  · obtain ⟨rfl, hn, h⟩ := h
    refine ⟨_, h, rfl, by simp [AV.cnt], rfl, fun {M β cc dd} h1 h2 => ?_⟩
    cases h1 with
    | arr l1 z1 => cases h2 with
      | lst l2 z2 n2 => exact .lst ((nid_aux.2.1 l1 hn nob).append l2) (fun p hp => by rcases List.mem_append.1 hp with hp | hp; exact z1 p hp; exact z2 p hp) (by simp [n2])
  · obtain ⟨rfl, hn, h⟩ := h
    refine ⟨_, h, rfl, by simp [AV.cnt], rfl, fun {M β cc dd} h1 h2 => ?_⟩
    cases h1 with
    | lst l1 z1 n1 => cases h2 with
      | arr l2 z2 => exact .lst (l1.append (nid_aux.2.1 l2 hn nob)) (fun p hp => by rcases List.mem_append.1 hp with hp | hp; exact z1 p hp; exact z2 p hp) (by simp [n1])
  · obtain ⟨rfl, h⟩ := h
    refine ⟨_, h, rfl, by simp [AV.cnt], rfl, fun {M β cc dd} h1 h2 => ?_⟩
    cases h1 with
    | lst l1 z1 n1 => cases h2 with
      | lst l2 z2 n2 => exact .lst (l1.append l2) (fun p hp => by rcases List.mem_append.1 hp with hp | hp; exact z1 p hp; exact z2 p hp) (by simp [n1, n2])

/-- append, whatever comes behind. -/
theorem RelAt.app (h0 : RelAt E N M β T O n a w) (hok : E.ok n) {te : Ty} {e : TypeId} {inf : TypeInfo} {c d r : AV} {x : Value} {dd : List Value} {O' : OO} (hte : te.ok P e) (hinf : P.info? e = some inf) (hpos : 0 < te.size) (hb0 : 0 < inf.bytes)
    (hown : Own β O te c x O') (hcr : c.isRow = true) (hce : c.esz = te.size) (hc0 : c.cnt = 0 → RV M β c []) (hd : RV M β d dd) (hdl : dd.length = d.cnt * te.size)
    (hr : r.isRow = true) (hrc : r.cnt = c.cnt + d.cnt) (hre : r.esz = te.size) (hrv : ∀ {M : Pool} {β : Bmap} {cc dd : List Value}, RV M β c cc → RV M β d dd → RV M β r (cc ++ dd)) (hsz : (c.cnt + d.cnt) * inf.bytes ≤ 140737488355328) :
    ∃ base len cap, x = .slice base len cap ∧ len = c.cnt ∧
      ((c.cnt + d.cnt ≤ cap ∧ ∃ w' κ' b', (match base with | some aa => storeCells (aa.add (c.cnt * te.size)) dd | none => pure ()).run P w = .ok () w' ∧
          RelAt E N M (updB β n (b', κ')) T ((n, .row r) :: O') (n + 1) a w' ∧ VR M (updB β n (b', κ')) (.osl n [] te.size 0 (c.cnt + d.cnt)) (.slice base (c.cnt + d.cnt) cap)) ∨
       (¬ c.cnt + d.cnt ≤ cap ∧ Builtin.nextslicecap (c.cnt + d.cnt) cap * inf.bytes ≤ 281474976710656 ∧ ∃ cc, RV M β c cc ∧ (∀ w' : World, w'.heap = w.heap → (Builtin.firstCells te.size c.cnt x).run P w' = .ok cc.toArray w') ∧
          ∀ newCap, c.cnt + d.cnt ≤ newCap → ∀ w' : World, w'.heap = w.heap → w'.os = w.os → w'.tape = w.tape → w'.output = w.output → ∀ cells : Array Value, cells.toList = cc ++ (dd ++ (List.replicate (newCap - (c.cnt + d.cnt)) te.zc).flatten) →
            RelAt E N M (updB β n (w.heap.size, newCap)) T ((n, .row r) :: O') (n + 1) a (w'.alloc (.cells cells e)) ∧ VR M (updB β n (w.heap.size, newCap)) (.osl n [] te.size 0 (c.cnt + d.cnt)) (.slice (some ⟨w.heap.size, 0, none⟩) (c.cnt + d.cnt) newCap))) := by
  have hn : β n = none := h0.ids n (Nat.le_refl _) hok
  have hzl : te.zc.length = te.size := by rw [(zero_rv (M := M) te β).length, zero_csz.1]
  have hdr : O = O' ∨ ∃ i, ∀ j, lk O' j = if j = i then none else lk O j := by
    cases hown with
    | none => exact .inl rfl
    | some _ _ _ _ _ hO => exact .inr ⟨_, hO⟩
  have st' : St E M β O' w := by
    rcases hdr with rfl | ⟨i, hO⟩
    · exact h0.st
    · exact h0.st.drop hO
  have hvrow : ∀ (b κ : Nat) (base : Option Addr) (cap : Nat), c.cnt + d.cnt ≤ cap → cap ≤ κ → (cap = 0 ∨ base = some ⟨b, 0, none⟩) → VR M (updB β n (b, κ)) (.osl n [] te.size 0 (c.cnt + d.cnt)) (.slice base (c.cnt + d.cnt) cap) := fun b κ base cap g1 g2 g3 =>
    .one rfl (.osl (by simp; exact ⟨rfl, rfl⟩) g1 (fun _ => by omega) (by simpa [poff] using g3))
  have grow : ∀ cc : List Value, RV M β c cc → ∀ newCap, c.cnt + d.cnt ≤ newCap → ∀ w' : World, w'.heap = w.heap → w'.os = w.os → w'.tape = w.tape → w'.output = w.output → ∀ cells : Array Value, cells.toList = cc ++ (dd ++ (List.replicate (newCap - (c.cnt + d.cnt)) te.zc).flatten) →
            RelAt E N M (updB β n (w.heap.size, newCap)) T ((n, .row r) :: O') (n + 1) a (w'.alloc (.cells cells e)) ∧ VR M (updB β n (w.heap.size, newCap)) (.osl n [] te.size 0 (c.cnt + d.cnt)) (.slice (some ⟨w.heap.size, 0, none⟩) (c.cnt + d.cnt) newCap) := by
    intro cc hcc newCap hcap w' e1 e2 e3 e4 cells hcells
    have hcl := row_len hcc hcr
    rw [hce] at hcl
    have r0 : RelAt E N M β T O' n a w := ⟨st', h0.ids, h0.tmps, h0.nd, h0.sz, h0.base, h0.le0⟩
    have st2 : St E M β O' w' := ⟨fun b i v hm => by rw [cell_same (congrArg (·[b]?) e1)]; exact st'.pool b i v hm, st'.sub, st'.only, fun o ob hl => by
        obtain ⟨b, κ, hb, hor⟩ := st'.objs o ob hl
        exact ⟨b, κ, hb, hor.mono (BLe.refl _) fun _ => by rw [e1]⟩, st'.mine, st'.inj, by rw [e1]; exact st'.size, fun b hb hn => by rw [e1]; exact st'.keep b hb hn, by rw [e2, st'.os], by rw [e3, st'.tape], by rw [e4, st'.output]⟩
    have r1 : RelAt E N M β T O' n a w' := ⟨st2, h0.ids, h0.tmps, h0.nd, h0.sz, h0.base, h0.le0⟩
    have hs : w'.heap.size = w.heap.size := by rw [e1]
    have := r1.newRow hok (e := e) (cells := cells) (c := r) (κ := newCap) (cc := cc ++ dd) (sp := (List.replicate (newCap - (c.cnt + d.cnt)) te.zc).flatten) (hrv hcc hd) hr (by omega) (by rw [hcells]; simp)
      (by
        simp only [List.length_append, hcl, hdl, List.length_flatten, List.map_replicate, List.sum_replicate_nat, hzl, hre]
        rw [← Nat.add_mul, ← Nat.add_mul]; congr 1; omega)
      (by rw [List.length_append, hcl, hdl, hrc, hre, Nat.add_mul])
    rw [hs] at this
    exact ⟨this, hvrow _ _ _ _ hcap (Nat.le_refl _) (.inr rfl)⟩
  cases hown with
  | none hc =>
    refine ⟨none, 0, 0, rfl, hc.symm, ?_⟩
    by_cases hz : c.cnt + d.cnt ≤ 0
    · refine .inl ⟨hz, w, 0, 0, rfl, ?_, hvrow _ _ _ _ hz (Nat.le_refl _) (.inl rfl)⟩
      have hd0 : dd = [] := List.eq_nil_of_length_eq_zero (by rw [hdl, show d.cnt = 0 by omega, Nat.zero_mul])
      subst hd0
      have hr0 := hrv (hc0 hc) hd
      have : St E M (updB β n (0, 0)) ((n, .row r) :: O) w := by
        refine h0.st.next (updB_le hn _) (Nat.le_refl _) (fun _ => False) (fun _ hx => hx.elim) (fun _ _ _ => rfl) rfl rfl rfl (fun i ob hi => ?_) ?_
        · simp only [lk] at hi
          split at hi
          · rename_i e; subst e; cases hi
            exact .inr ⟨0, 0, by simp, ⟨hr, by omega, .inl ⟨rfl, by omega, hr0.mono (PLe.refl _) (updB_le hn _)⟩⟩, fun h => absurd rfl h⟩
          · exact .inl ⟨hi, fun _ _ _ _ hx => hx⟩
        · intro i j o1 o2 b κ1 κ2 g1 g2 e1 e2 k1 k2
          by_cases c1 : i = n
          · subst c1; simp at e1; omega
          · by_cases c2 : j = n
            · subst c2; simp at e2; omega
            · simp only [lk, if_neg (Ne.symm c1)] at g1
              simp only [lk, if_neg (Ne.symm c2)] at g2
              simp only [updB, if_neg c1] at e1
              simp only [updB, if_neg c2] at e2
              exact h0.st.inj _ _ _ _ _ _ _ g1 g2 e1 e2 k1 k2
      exact h0.next this (updB_le hn _) (h0.fresh _) (updB_low hok _ _) (Nat.le_succ _)
    · refine .inr ⟨hz, growslice_fits (by omega) hsz, [], hc0 hc, fun w' _ => rfl, grow [] (hc0 hc)⟩
  | some hl hb h1 h2 ha hO =>
    rename_i i b κ cap base
    refine ⟨base, c.cnt, cap, rfl, rfl, ?_⟩
    obtain ⟨b', κ', hb', hor⟩ := h0.st.objs _ _ hl
    rw [hb] at hb'; cases hb'
    have hor' := hor
    obtain ⟨_, _, hor⟩ := hor
    by_cases hz : c.cnt + d.cnt ≤ cap
    · rcases hor with ⟨hk0, _, h3⟩ | ⟨hk0, cc, sp, e', fz, g1, g2, g3, g4⟩
      · have hcap : cap = 0 := by omega
        subst hk0; subst hcap
        have hd0 : dd = [] := List.eq_nil_of_length_eq_zero (by rw [hdl, show d.cnt = 0 by omega, Nat.zero_mul])
        subst hd0
        have hr0 := hrv h3 hd
        refine .inl ⟨hz, w, 0, b, by cases base <;> rfl, ?_, hvrow _ _ _ _ hz (Nat.le_refl _) (.inl rfl)⟩
        have : St E M (updB β n (b, 0)) ((n, .row r) :: O') w := by
          refine st'.next (updB_le hn _) (Nat.le_refl _) (fun _ => False) (fun _ hx => hx.elim) (fun _ _ _ => rfl) rfl rfl rfl (fun i ob hi => ?_) ?_
          · simp only [lk] at hi
            split at hi
            · rename_i e; subst e; cases hi
              exact .inr ⟨b, 0, by simp, ⟨hr, by omega, .inl ⟨rfl, by omega, hr0.mono (PLe.refl _) (updB_le hn _)⟩⟩, fun h => absurd rfl h⟩
            · exact .inl ⟨hi, fun _ _ _ _ hx => hx⟩
          · intro i j o1 o2 b κ1 κ2 g1 g2 e1 e2 k1 k2
            by_cases c1 : i = n
            · subst c1; simp at e1; omega
            · by_cases c2 : j = n
              · subst c2; simp at e2; omega
              · simp only [lk, if_neg (Ne.symm c1)] at g1
                simp only [lk, if_neg (Ne.symm c2)] at g2
                simp only [updB, if_neg c1] at e1
                simp only [updB, if_neg c2] at e2
                exact st'.inj _ _ _ _ _ _ _ g1 g2 e1 e2 k1 k2
        exact h0.next this (updB_le hn _) (h0.fresh _) (updB_low hok _ _) (Nat.le_succ _)
      · have hcl := row_len g3 hcr
        rw [hce] at hcl g4
        have hfit : cc.length + dd.length ≤ (cc ++ sp).length := by
          rw [g4, hcl, hdl, ← Nat.add_mul]
          exact Nat.mul_le_mul_right _ (by omega)
        have hlt : b < w.heap.size := (Array.getElem?_eq_some_iff.1 g1).1
        have hrun := run_storeCells (P := P) (b := b) (o := c.cnt * te.size) (e := e') (fz := fz) dd 0 w (cc ++ sp) g1 (by rw [← hcl]; omega) g2 hd.one
        have hsp : splice (cc ++ sp) (c.cnt * te.size + 0) dd = (cc ++ dd) ++ sp.drop dd.length := by
          simp only [splice, Nat.add_zero, ← hcl]
          rw [List.take_append_of_le_length (Nat.le_refl _), List.take_of_length_le (Nat.le_refl _), List.drop_append, List.drop_of_length_le (by omega), show cc.length + dd.length - cc.length = dd.length by omega]
          simp
        have hcap0 : cap ≠ 0 ∨ dd = [] := by
          by_cases hd0 : dd = []
          · exact .inr hd0
          · left
            intro hc0'
            have : d.cnt = 0 := by omega
            rw [this, Nat.zero_mul] at hdl
            exact hd0 (List.eq_nil_of_length_eq_zero hdl)
        have hlen2 : ((cc ++ dd) ++ sp.drop dd.length).length = (cc ++ sp).length := by
          simp only [List.length_append, List.length_drop] at hfit ⊢; omega
        have hfin : ∀ w', w' = w.putBlock b (.cells ((cc ++ dd) ++ sp.drop dd.length).toArray e' fz) → RelAt E N M (updB β n (b, κ)) T ((n, .row r) :: O') (n + 1) a w' := by
          rintro w' rfl
          refine h0.next (h0.st.reuse hn hl hb hk0 hO ⟨hr, by omega, .inr ⟨hk0, cc ++ dd, sp.drop dd.length, e', fz, by rw [getElem?_putBlock hlt]; simp, by rw [hlen2]; exact g2, (hrv g3 hd).mono (PLe.refl _) (updB_le hn _), ?_⟩⟩) (updB_le hn _) (h0.fresh _) (updB_low hok _ _) (Nat.le_succ _)
          rw [hlen2, hre, g4]
        cases base with
        | none =>
          have hd0 : dd = [] := by
            rcases hcap0 with h | h
            · rcases ha with h' | h'
              · exact absurd h' h
              · cases h'
            · exact h
          subst hd0
          refine .inl ⟨hz, w, κ, b, rfl, hfin w ?_, hvrow _ _ _ _ hz h2 (by simpa using ha)⟩
          have : ((cc ++ []) ++ sp.drop 0).toArray = (cc ++ sp).toArray := by simp
          simp only [List.length_nil, this]
          exact (putBlock_same g1).symm
        | some aa =>
          by_cases hc00 : cap = 0
          · have hd0 : dd = [] := hcap0.resolve_left (by simpa using hc00)
            subst hd0
            refine .inl ⟨hz, w, κ, b, rfl, hfin w ?_, hvrow _ _ _ _ hz h2 ha⟩
            have : ((cc ++ []) ++ sp.drop 0).toArray = (cc ++ sp).toArray := by simp
            simp only [List.length_nil, this]
            exact (putBlock_same g1).symm
          · obtain hbase := ha.resolve_left hc00
            cases hbase
            rw [hsp] at hrun
            refine .inl ⟨hz, _, κ, b, ?_, hfin _ rfl, hvrow _ _ _ _ hz h2 ha⟩
            simp only [add_none, Nat.zero_add]
            exact hrun
    · refine .inr ⟨hz, growslice_fits (by omega) hsz, ?_⟩
      have hcc : ∃ cc, RV M β c cc ∧ (∀ w' : World, w'.heap = w.heap → (Builtin.firstCells te.size c.cnt (.slice base c.cnt cap)).run P w' = .ok cc.toArray w') := by
        rcases hor with ⟨hk0, hc0', h3⟩ | ⟨hk0, cc, sp, e', fz, g1, g2, g3, g4⟩
        · refine ⟨[], h3, fun w' _ => ?_⟩
          cases base <;> simp only [Builtin.firstCells, hc0', Nat.zero_mul, loadCells, loadCellsFrom] <;> rfl
        · have hcl := row_len g3 hcr
          rw [hce] at hcl
          refine ⟨cc, g3, fun w' hw => ?_⟩
          by_cases hcz : c.cnt = 0
          · rw [hcz, Nat.zero_mul] at hcl
            have := List.eq_nil_of_length_eq_zero hcl
            subst this
            cases base <;> simp only [Builtin.firstCells, hcz, Nat.zero_mul, loadCells, loadCellsFrom] <;> rfl
          · obtain rfl := ha.resolve_left (by omega)
            simp only [Builtin.firstCells]
            rw [← hcl]
            refine run_loadCells fun i v hi => ?_
            have g5 : w'.heap[b]? = some (.cells (cc ++ sp).toArray e' fz) := by rw [hw]; exact g1
            simp only [World.cell?, g5]
            have hi2 : i < cc.length := (List.getElem?_eq_some_iff.1 hi).1
            simp only [Option.isSome_none, Bool.false_eq_true, if_false, Nat.zero_add, List.getElem?_toArray]
            rw [List.getElem?_append_left hi2]; exact hi
      obtain ⟨cc, h3, h4⟩ := hcc
      exact ⟨cc, h3, h4, grow cc h3⟩
end
end Go.Sy
