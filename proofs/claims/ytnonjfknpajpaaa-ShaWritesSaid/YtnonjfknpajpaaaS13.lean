/- Structs, arrays and rows put together. -/
import Derived.Test.YtnonjfknpajpaaaS12
namespace Go.Sy
open Go
set_option linter.unusedSimpArgs false
set_option linter.unusedVariables false
section
variable {E : Env} {N : Nat} {M : Pool} {β β' : Bmap} {T : TT} {O O' : OO} {n : Nat} {a : Act} {w w' : World} {P : Program} {o : Oper} {K : KK}

inductive Parts (M : Pool) (β : Bmap) : List (Nat × AV) → List (Nat × Value) → Prop
  | nil : Parts M β [] []
  | cons {j : Nat} {v : AV} {x : Value} {l : List (Nat × AV)} {m : List (Nat × Value)} (h : RV M β v x.cells.toList) (hs : Parts M β l m) : Parts M β ((j, v) :: l) ((j, x) :: m)
theorem partsC_spec (hr : RelAt E N M β T O n a w) : ∀ {ps : List (Nat × Operand)} {κ : List (Nat × AV) → Prop}, partsC T ps κ → ∃ l, κ l ∧ Parts M β l (ps.map fun p => (p.1, a.eval p.2)) := by
  intro ps
  induction ps with
  | nil => intro κ h; exact ⟨[], h, .nil⟩
  | cons p ps ih =>
    intro κ h
    obtain ⟨j, x⟩ := p
    obtain ⟨v, ⟨hm, h⟩, hv⟩ := evC_spec hr h
    obtain ⟨l, hk, hl⟩ := ih h
    exact ⟨_, hk, .cons (hv.cells hm) hl⟩
theorem fold_splice : ∀ (xs : List Value) (k : Nat) (cs : Array Value) (off : Nat), off + k + xs.length ≤ cs.size →
    ((xs.zipIdx k).foldl (fun cs (c, j) => cs.setIfInBounds (off + j) c) cs).toList = splice cs.toList (off + k) xs := by
  intro xs
  induction xs with
  | nil => intro k cs off h; simp [splice]
  | cons x xs ih =>
    intro k cs off h
    simp only [List.length_cons] at h
    simp only [List.zipIdx_cons, List.foldl_cons]
    rw [ih (k + 1) _ off (by simp; omega)]
    have hlt : off + k < cs.toList.length := by simp; omega
    simp only [splice, Array.toList_setIfInBounds]
    rw [List.set_eq_take_append_cons_drop, if_pos hlt]
    have e1 : List.take (off + (k + 1)) (List.take (off + k) cs.toList ++ x :: List.drop (off + k + 1) cs.toList) = List.take (off + k) cs.toList ++ [x] := by
      rw [List.take_append, List.take_of_length_le (by simp; omega), show off + (k + 1) - (List.take (off + k) cs.toList).length = 1 by simp at hlt ⊢; omega]
      simp
    have e2 : List.drop (off + (k + 1) + xs.length) (List.take (off + k) cs.toList ++ x :: List.drop (off + k + 1) cs.toList) = List.drop (off + k + (x :: xs).length) cs.toList := by
      rw [List.drop_append, List.drop_of_length_le (by simp; omega), show off + (k + 1) + xs.length - (List.take (off + k) cs.toList).length = xs.length + 1 by simp at hlt ⊢; omega]
      simp only [List.nil_append, List.drop_succ_cons, List.drop_drop, List.length_cons]
      congr 1; omega
    rw [e1, e2]
    simp
theorem fill_cons {place : Nat → Option (Nat × Nat)} {cells : Array Value} {i off size : Nat} {x : Value} {rest : List (Nat × Value)} (hp : place i = some (off, size)) (hx : x.cells.size = size) (hl : off + size ≤ cells.size) :
    ∃ cells', Instr.fill place cells ((i, x) :: rest) = Instr.fill place cells' rest ∧ cells'.toList = splice cells.toList off x.cells.toList := by
  refine ⟨x.cells.zipIdx.foldl (fun cs (c, j) => cs.setIfInBounds (off + j) c) cells, ?_, ?_⟩
  · conv => lhs; unfold Instr.fill
    simp only [hp]
    rw [if_neg (by simp [hx]; omega)]
  · have := fold_splice x.cells.toList 0 cells off (by simp; omega)
    rw [← Array.foldl_toList, Array.toList_zipIdx]
    simpa using this

/-! Structs. -/
theorem setC_spec : ∀ {ps : List AV} {j : Nat} {v : AV} {κ : List AV → Prop}, setC ps j v κ → ∃ ps', κ ps' ∧ j < ps.length ∧ ps'.map AV.csz = ps.map AV.csz ∧ v.csz = (ps.map AV.csz).getD j 0 ∧
    ∀ {M : Pool} {β : Bmap} {cs xc : List Value}, RVs M β ps cs → RV M β v xc → AV.cszs (ps.take j) + xc.length ≤ cs.length ∧ RVs M β ps' (splice cs (AV.cszs (ps.take j)) xc) := by
  intro ps
  induction ps with
  | nil => intro j v κ h; exact h.elim
  | cons p ps ih =>
    intro j v κ h
    cases j with
    | zero =>
      obtain ⟨hz, hk⟩ := h
      refine ⟨_, hk, by simp, by simp [hz], by simp [hz], fun {M β cs xc} hp hx => ?_⟩
      cases hp with
      | cons h1 h2 =>
        have l1 := h1.length
        have l2 := hx.length
        refine ⟨by simp [AV.cszs]; omega, ?_⟩
        have e : ∀ c cs : List Value, c.length = p.csz → splice (c ++ cs) (AV.cszs (List.take 0 (p :: ps))) xc = xc ++ cs := fun c cs hc => by
          simp [splice, AV.cszs, l2, hz, ← hc]
        rw [e _ _ l1]
        exact .cons hx h2
    | succ j =>
      obtain ⟨ps', hk, hj, hm, hv, hr⟩ := ih h
      refine ⟨_, hk, by simp; exact hj, by simp [hm], by simpa using hv, fun {M β cs xc} hp hx => ?_⟩
      cases hp with
      | cons h1 h2 =>
        rename_i c cs
        have l1 := h1.length
        obtain ⟨g1, g2⟩ := hr h2 hx
        simp only [List.take_succ_cons, AV.cszs]
        refine ⟨by simp; omega, ?_⟩
        have e : splice (c ++ cs) (p.csz + AV.cszs (List.take j ps)) xc = c ++ splice cs (AV.cszs (List.take j ps)) xc := by
          simp only [splice, ← l1]
          rw [List.take_append, List.take_of_length_le (by omega), List.drop_append, List.drop_of_length_le (by omega), show c.length + AV.cszs (List.take j ps) - c.length = AV.cszs (List.take j ps) by omega,
            show c.length + AV.cszs (List.take j ps) + xc.length - c.length = AV.cszs (List.take j ps) + xc.length by omega]
          simp
        rw [e]
        exact .cons h1 g2
theorem cszs_take {ps qs : List AV} (h : ps.map AV.csz = qs.map AV.csz) (j : Nat) : AV.cszs (ps.take j) = AV.cszs (qs.take j) := by
  induction ps generalizing qs j with
  | nil => cases qs with
    | nil => rfl
    | cons q qs => simp at h
  | cons p ps ih =>
    cases qs with
    | nil => simp at h
    | cons q qs =>
      simp only [List.map_cons, List.cons.injEq] at h
      cases j with
      | zero => rfl
      | succ j => simp only [List.take_succ_cons, AV.cszs, h.1, ih h.2]
theorem bldS_spec {place : Nat → Option (Nat × Nat)} {zs : List AV} (hpl : ∀ j, j < zs.length → place j = some (AV.cszs (zs.take j), (zs.map AV.csz).getD j 0)) :
    ∀ {l : List (Nat × AV)} {ps : List AV} {κ : List AV → Prop} {m : List (Nat × Value)} {cells : Array Value}, bldS ps l κ → ps.map AV.csz = zs.map AV.csz → Parts M β l m → RVs M β ps cells.toList →
      ∃ ps' cells', κ ps' ∧ Instr.fill place cells m = some cells' ∧ RVs M β ps' cells'.toList := by
  intro l
  induction l with
  | nil =>
    intro ps κ m cells h hz hp hr
    cases hp
    exact ⟨ps, cells, h, rfl, hr⟩
  | cons p l ih =>
    intro ps κ m cells h hz hp hr
    obtain ⟨j, v⟩ := p
    cases hp with
    | cons hx hps =>
      rename_i x m
      obtain ⟨ps', hk, hj, hm, hv, hrr⟩ := setC_spec h
      obtain ⟨g1, g2⟩ := hrr hr hx
      have hlen : ps.length = zs.length := by have := congrArg List.length hz; simpa using this
      have hxl := hx.length
      obtain ⟨cells', hf, hc⟩ := fill_cons (rest := m) (cells := cells) (hpl j (by omega)) (x := x) (by rw [← hz, ← hv, ← hxl]; simp) (by
        rw [cszs_take hz.symm, ← hz, ← hv, ← hxl]
        simpa using g1)
      obtain ⟨ps2, c2, hk2, hf2, hr2⟩ := ih (cells := cells') hk (hm.trans hz) hps (by rw [hc, cszs_take hz.symm]; exact g2)
      exact ⟨ps2, c2, hk2, by rw [hf]; exact hf2, hr2⟩
theorem oks_place : ∀ {ts : List Ty} {fs : List Field} {off : Nat}, Ty.oks P off fs ts → ∀ (w : World), ∃ pl : List (Nat × Nat), (fs.mapM fun f => (do pure (f.offset, ← sizeOf f.type) : Sem (Nat × Nat))).run P w = .ok pl w ∧
    pl.length = ts.length ∧ ∀ j, j < ts.length → pl[j]? = some (off + AV.cszs ((Ty.zeros ts).take j), ((Ty.zeros ts).map AV.csz).getD j 0) := by
  intro ts
  induction ts with
  | nil =>
    intro fs off h w
    cases fs with
    | nil => exact ⟨[], rfl, rfl, fun j hj => by simp at hj⟩
    | cons f fs => exact h.elim
  | cons t ts ih =>
    intro fs off h w
    cases fs with
    | nil => exact h.elim
    | cons f fs =>
      obtain ⟨h1, _, _, h4, h5⟩ := h
      obtain ⟨pl, hrun, hl, hj⟩ := ih h5 w
      refine ⟨(f.offset, t.size) :: pl, ?_, by simp [hl], fun j hlt => ?_⟩
      · simp only [List.mapM_cons, Sem.run_bind, r_size h4, Result.andThen_ok, Sem.run_pure, hrun]
      · cases j with
        | zero => simp [Ty.zeros, AV.cszs, h1, zero_csz.1]
        | succ j =>
          simp only [List.length_cons, Nat.add_lt_add_iff_right] at hlt
          simp only [List.getElem?_cons_succ, hj j hlt, Ty.zeros, List.take_succ_cons, AV.cszs, List.map_cons, List.getD_cons_succ, zero_csz.1]
          simp [Nat.add_assoc]

/-! Arrays and rows. -/
theorem seqI_spec {k : IntKind} : ∀ {l : List (Nat × AV)} {i : Nat} {κ : Nat → List Int → Prop} {m : List (Nat × Value)}, seqI k i l κ → Parts M β l m → ∃ xs, κ (i + xs.length) xs ∧
    ∀ (place : Nat → Option (Nat × Nat)) (pre : List Value) (d : Nat) (z : Value) (cells : Array Value), (∀ j, place j = some (j * 1, 1)) → pre.length = i → xs.length ≤ d → cells.toList = pre ++ List.replicate d z →
      ∃ cells', Instr.fill place cells m = some cells' ∧ cells'.toList = pre ++ (xs.map (Value.int k) ++ List.replicate (d - xs.length) z) := by
  intro l
  induction l with
  | nil =>
    intro i κ m h hp
    cases hp
    exact ⟨[], h, fun place pre d z cells _ _ _ hc => ⟨cells, rfl, by simpa using hc⟩⟩
  | cons p l ih =>
    intro i κ m h hp
    obtain ⟨j, v⟩ := p
    cases hp with
    | cons hx hps =>
      rename_i x m
      obtain ⟨rfl, h⟩ := h
      cases v with
      | int k' y =>
        obtain ⟨rfl, h⟩ := h
        obtain ⟨xs, hk, hf⟩ := ih h hps
        refine ⟨y :: xs, by simpa [Nat.add_assoc, Nat.add_comm 1] using hk, fun place pre d z cells hpl hpre hd hc => ?_⟩
        have hxc : x.cells.toList = [Value.int k' y] := by
          generalize hxx : x.cells.toList = xl at hx
          cases hx; rfl
        have hsz : x.cells.size = 1 := by rw [← Array.length_toList, hxc]; rfl
        simp only [List.length_cons] at hd
        have hcl : cells.size = pre.length + d := by rw [← Array.length_toList, hc]; simp
        obtain ⟨cells', h1, h2⟩ := fill_cons (rest := m) (cells := cells) (hpl j) hsz (by omega)
        obtain ⟨c2, h3, h4⟩ := hf place (pre ++ [Value.int k' y]) (d - 1) z cells' hpl (by simp [hpre]) (by omega) (by
          rw [h2, hc, hxc]
          simp only [splice, Nat.mul_one, List.length_singleton]
          rw [List.take_append_of_le_length (by omega), List.take_of_length_le (by omega), List.drop_append, List.drop_of_length_le (by omega)]
          simp [hpre, List.drop_replicate])
        refine ⟨c2, by rw [h1, h3], ?_⟩
        rw [h4, show d - 1 - xs.length = d - (y :: xs).length by simp only [List.length_cons]; omega]
        simp only [List.append_assoc, List.map_cons, List.cons_append, List.nil_append]
      | _ => exact h.elim
theorem seqV_spec {sz : Nat} : ∀ {l : List (Nat × AV)} {i : Nat} {κ : Nat → List AV → Prop} {m : List (Nat × Value)}, seqV sz i l κ → Parts M β l m → ∃ vs, κ (i + vs.length) vs ∧ (∀ v ∈ vs, v.csz = sz) ∧
    ∀ (place : Nat → Option (Nat × Nat)) (pre : List Value) (d : Nat) (z : List Value) (cells : Array Value), (∀ j, place j = some (j * sz, sz)) → pre.length = i * sz → z.length = sz → vs.length ≤ d → cells.toList = pre ++ (List.replicate d z).flatten →
      ∃ cells' vc, Instr.fill place cells m = some cells' ∧ RVs M β vs vc ∧ cells'.toList = pre ++ (vc ++ (List.replicate (d - vs.length) z).flatten) := by
  intro l
  induction l with
  | nil =>
    intro i κ m h hp
    cases hp
    exact ⟨[], h, by simp, fun place pre d z cells _ _ _ _ hc => ⟨cells, [], rfl, .nil, by simpa using hc⟩⟩
  | cons p l ih =>
    intro i κ m h hp
    obtain ⟨j, v⟩ := p
    cases hp with
    | cons hx hps =>
      rename_i x m
      obtain ⟨rfl, hz, h⟩ := h
      obtain ⟨vs, hk, hvs, hf⟩ := ih h hps
      refine ⟨v :: vs, by simpa [Nat.add_assoc, Nat.add_comm 1] using hk, by intro u hu; rcases List.mem_cons.1 hu with rfl | hu; exact hz; exact hvs u hu, fun place pre d z cells hpl hpre hzl hd hc => ?_⟩
      have hxl := hx.length
      have hsz : x.cells.size = sz := by rw [← Array.length_toList, hxl, hz]
      simp only [List.length_cons] at hd
      obtain ⟨d, rfl⟩ : ∃ e, d = e + 1 := ⟨d - 1, by omega⟩
      rw [List.replicate_succ, List.flatten_cons] at hc
      have hcl : cells.size = pre.length + (z.length + (List.replicate d z).flatten.length) := by rw [← Array.length_toList, hc]; simp
      obtain ⟨cells', h1, h2⟩ := fill_cons (rest := m) (cells := cells) (hpl j) hsz (by omega)
      obtain ⟨c2, vc, h3, h4, h5⟩ := hf place (pre ++ x.cells.toList) d z cells' hpl (by rw [List.length_append, hpre, hxl, hz, Nat.add_mul]; omega) hzl (by omega) (by
        rw [h2, hc]
        simp only [splice]
        rw [← hpre, List.take_append_of_le_length (Nat.le_refl _), List.take_of_length_le (Nat.le_refl _), List.drop_append, List.drop_of_length_le (by omega), List.drop_append, List.drop_of_length_le (by rw [hzl, ← hz, ← hxl]; omega)]
        have : pre.length + x.cells.toList.length - pre.length - z.length = 0 := by rw [hzl, ← hz, ← hxl]; omega
        rw [this]
        simp)
      refine ⟨c2, x.cells.toList ++ vc, by rw [h1, h3], .cons hx h4, ?_⟩
      rw [h5, show d - vs.length = d + 1 - (v :: vs).length by simp only [List.length_cons]; omega]
      simp only [List.append_assoc]
theorem elemsC_spec {m : Nat} {te : Ty} {l : List (Nat × AV)} {κ : AV → Prop} {ps : List (Nat × Value)} (h : elemsC m te l κ) (hp : Parts M β l ps) (hpos : 0 < te.size) : ∃ c, κ c ∧ c.isRow = true ∧ c.cnt = m ∧ c.esz = te.size ∧
    ∀ cells : Array Value, cells.toList = (List.replicate m te.zc).flatten → ∃ cells', Instr.fill (fun i => some (i * te.size, te.size)) cells ps = some cells' ∧ RV M β c cells'.toList := by
  have hzl : te.zc.length = te.size := by rw [(zero_rv (M := M) te β).length, zero_csz.1]
  have gen : (∀ k, te ≠ .int k) → ((l = [] ∧ m = 0 → κ (.lst te.size 0 [])) ∧ (¬ (l = [] ∧ m = 0) → seqV te.size 0 l fun q vs => q ≤ m ∧ κ (.arr te.size (vs ++ List.replicate (m - q) te.zero)))) →
      ∃ c, κ c ∧ c.isRow = true ∧ c.cnt = m ∧ c.esz = te.size ∧ ∀ cells : Array Value, cells.toList = (List.replicate m te.zc).flatten → ∃ cells', Instr.fill (fun i => some (i * te.size, te.size)) cells ps = some cells' ∧ RV M β c cells'.toList := by
    intro _ ⟨h1, h2⟩
    by_cases e : l = [] ∧ m = 0
    · obtain ⟨rfl, rfl⟩ := e
      refine ⟨_, h1 ⟨rfl, rfl⟩, rfl, rfl, rfl, fun cells hc => ?_⟩
      cases hp
      refine ⟨cells, rfl, ?_⟩
      rw [hc]
      exact .lst .nil (by simp) rfl
    · obtain ⟨vs, ⟨hle, hk⟩, hvs, hf⟩ := seqV_spec (h2 e) hp
      rw [Nat.zero_add] at hle hk
      refine ⟨_, hk, rfl, by simp [AV.cnt]; omega, rfl, fun cells hc => ?_⟩
      obtain ⟨c2, vc, h3, h4, h5⟩ := hf (fun i => some (i * te.size, te.size)) [] m te.zc cells (fun j => rfl) (by simp) hzl hle (by simpa using hc)
      refine ⟨c2, h3, ?_⟩
      rw [h5, List.nil_append]
      refine .arr (h4.append (zeros_rv _ _ _ (fun β => zero_rv te β) β)) fun p hp => ?_
      rcases List.mem_append.1 hp with hp | hp
      · exact hvs p hp
      · rw [(List.mem_replicate.1 hp).2, zero_csz.1]
  cases te with
  | int k =>
    obtain ⟨xs, ⟨hle, hk⟩, hf⟩ := seqI_spec h hp
    rw [Nat.zero_add] at hle hk
    refine ⟨_, hk, rfl, rfl, rfl, fun cells hc => ?_⟩
    obtain ⟨c2, h3, h4⟩ := hf (fun i => some (i * 1, 1)) [] m (.int k 0) cells (fun j => rfl) rfl hle (by
      rw [hc]
      simp only [Ty.zc, List.nil_append]
      clear hc hf hk hle h
      induction m with
      | zero => rfl
      | succ m ih => simp [List.replicate_succ, List.flatten_cons, ih])
    refine ⟨c2, h3, ?_⟩
    rw [h4]
    have : xs.map (Value.int k) ++ List.replicate (m - xs.length) (Value.int k 0) = (xs ++ List.replicate (m - xs.length) 0).map (Value.int k) := by simp
    rw [List.nil_append, this]
    exact .ints k (by simp; omega)
  | _ => exact gen (by intro k e; cases e) h

theorem zeros_length (ts : List Ty) : (Ty.zeros ts).length = ts.length := by
  induction ts with
  | nil => rfl
  | cons t ts ih => simp [Ty.zeros, ih]
theorem s_build {t : TypeId} {ps : Array (Nat × Operand)} (ho : o.op = .build t ps)
    (h : tyC P t fun ty => partsC T ps.toList fun l =>
      (match ty with
      | .st ts => bldS (Ty.zeros ts) l fun qs => K (.agg qs) O n
      | .arr m _ te => elemsC m te l fun v => K v O n
      | _ => False)) (hr : RelAt E N M β T O n a w) : OpS P o E N T K a w := by
  obtain ⟨ty, hok, _, h1⟩ := tyC_spec h
  obtain ⟨l, h2, hp⟩ := partsC_spec hr h1
  have hps : (ps.map fun (i, x) => (i, a.eval x)).toList = ps.toList.map fun p => (p.1, a.eval p.2) := by simp
  cases ty with
  | st ts =>
    have hok2 := hok
    obtain ⟨_, fs, hu, _, hoks⟩ := hok
    obtain ⟨pl, hrun, hpl, hplj⟩ := oks_place hoks w
    have hzc : (Ty.st ts).zv.cells = (Ty.st ts).zc.toArray := rfl
    have hzr : RVs M β (Ty.zeros ts) (Ty.st ts).zv.cells.toList := by
      have := zero_rv (M := M) (.st ts) β
      rw [hzc]
      cases this with
      | agg h => exact h
    have hzl : (Ty.zeros ts).length = ts.length := zeros_length ts
    obtain ⟨qs, cells', hk, hf, hrv⟩ := bldS_spec (place := (pl.toArray[·]?)) (zs := Ty.zeros ts) (fun j hj => by rw [List.getElem?_toArray, hplj j (by omega), Nat.zero_add]) h2 rfl hp hzr
    refine OpS.val (x := .agg cells') ?_ hr (by have := VR.agg (M := M) (β := β) (v := .agg qs) rfl (.agg hrv); simpa using this) hk
    have hfs : (fs.mapM fun f => (do pure (f.offset, ← sizeOf f.type) : Sem (Nat × Nat))).run P w = .ok pl.toArray w := by
      rw [Array.mapM_eq_mapM_toList]
      simp only [Sem.run_map, hrun, Result.andThen_ok]
    simp only [execOp, ho, Instr.build, Sem.run_bind, r_zero hok2, Result.andThen_ok, r_under hu]
    simp only [hfs, Result.andThen_ok, hps, hf, Sem.run_pure]
  | arr m e te =>
    have hok2 := hok
    obtain ⟨_, hu, hpos, hte⟩ := hok
    obtain ⟨c, hk, hrow, hcnt, hez, hf⟩ := elemsC_spec h2 hp hpos
    have hzc : (Ty.arr m e te).zv.cells = (Ty.arr m e te).zc.toArray := rfl
    obtain ⟨cells', h3, h4⟩ := hf (Ty.arr m e te).zv.cells (by rw [hzc]; rfl)
    refine OpS.val (x := .agg cells') ?_ hr (by have := VR.agg (by cases c <;> first | rfl | cases hrow) h4; simpa using this) hk
    simp only [execOp, ho, Instr.build, Sem.run_bind, r_zero hok2, Result.andThen_ok, r_under hu, r_size hte, hps, h3, Sem.run_pure]
  | _ => exact h2.elim
end
end Go.Sy
