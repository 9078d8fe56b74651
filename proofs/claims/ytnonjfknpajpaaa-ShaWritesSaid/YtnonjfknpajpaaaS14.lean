/- Rows of the call's own: made, appended to, copied into. -/
import Derived.Test.YtnonjfknpajpaaaS13
namespace Go.Sy
open Go
set_option linter.unusedSimpArgs false
set_option linter.unusedVariables false
section
variable {E : Env} {N : Nat} {M : Pool} {β β' : Bmap} {T : TT} {O O' : OO} {n : Nat} {a : Act} {w w' : World} {P : Program} {o : Oper} {K : KK}

theorem drewFold (w : World) : ({ w with drawn := w.drawn + 1 } : World) = w.drew := rfl
/-- A new row. -/
theorem RelAt.newRowF (h : RelAt E N M β T O n a w) (hok : E.ok n) {c : AV} {cc sp : List Value} {κ : Nat} {e : TypeId} {cells : Array Value} {fz : Nat × Nat} (hfz : freeCells fz cells.size) (hv : RV M β c cc) (hr : c.isRow = true) (hz : 0 < c.esz) (hc : cells.toList = cc ++ sp) (hl : (cc ++ sp).length = κ * c.esz)
    (hcc : cc.length = c.cnt * c.esz) : RelAt E N M (updB β n (w.heap.size, κ)) T ((n, .row c) :: O) (n + 1) a (w.alloc (.cells cells e fz)) := by
  have hn : β n = none := h.ids n (Nat.le_refl _) hok
  refine h.next (h.st.alloc hn _ _ _ _ (fun _ => rfl) ?_) (updB_le hn _) (h.fresh _) (updB_low hok _ _) (Nat.le_succ _)
  refine ⟨hr, hz, ?_⟩
  by_cases hk : κ = 0
  · subst hk
    simp only [Nat.zero_mul, List.length_append] at hl
    have h0 : cc = [] := List.eq_nil_of_length_eq_zero (by omega)
    subst h0
    refine .inl ⟨rfl, ?_, hv.mono (PLe.refl _) (updB_le hn _)⟩
    rcases Nat.mul_eq_zero.1 (by simpa using hcc.symm : c.cnt * c.esz = 0) with h | h
    · exact h
    · omega
  · refine .inr ⟨hk, cc, sp, e, fz, ?_, by rw [← hc, Array.length_toList]; exact hfz, hv.mono (PLe.refl _) (updB_le hn _), hl⟩
    rw [alloc_new]
    congr 2
    apply Array.ext'
    simpa using hc
theorem RelAt.newRow (h : RelAt E N M β T O n a w) (hok : E.ok n) {c : AV} {cc sp : List Value} {κ : Nat} {e : TypeId} {cells : Array Value} (hv : RV M β c cc) (hr : c.isRow = true) (hz : 0 < c.esz) (hc : cells.toList = cc ++ sp) (hl : (cc ++ sp).length = κ * c.esz)
    (hcc : cc.length = c.cnt * c.esz) : RelAt E N M (updB β n (w.heap.size, κ)) T ((n, .row c) :: O) (n + 1) a (w.alloc (.cells cells e)) := h.newRowF hok (free0 _) hv hr hz hc hl hcc
theorem row_len {c : AV} {cc : List Value} (hv : RV M β c cc) (hr : c.isRow = true) : cc.length = c.cnt * c.esz := by
  rw [hv.length]
  cases c <;> first | cases hr | skip
  · simp [AV.csz, AV.cnt, AV.esz]
  · simp [AV.csz, AV.cnt, AV.esz]
  · simp [AV.csz, AV.cnt, AV.esz]
theorem zerosFill (m : Nat) (z : List Value) (hz : 0 < z.length) : ((Array.range (m * z.length)).map (z.toArray[· % z.toArray.size]!)).toList = (List.replicate m z).flatten := by
  apply List.ext_getElem?
  intro i
  have hl : (List.replicate m z).flatten.length = m * z.length := by simp
  simp only [Array.toList_map, Array.toList_range, List.getElem?_map, List.getElem?_range', List.size_toArray]
  by_cases hi : i < m * z.length
  · rw [List.getElem?_range hi]
    have key : ∀ (m i : Nat), i < m * z.length → (List.replicate m z).flatten[i]? = z[i % z.length]? := by
      intro m
      induction m with
      | zero => intro i hi; simp at hi
      | succ m ih =>
        intro i hi
        rw [List.replicate_succ, List.flatten_cons, List.getElem?_append]
        by_cases h : i < z.length
        · rw [if_pos h, Nat.mod_eq_of_lt h]
        · rw [if_neg h, ih _ (by rw [Nat.add_mul] at hi; omega)]
          congr 1
          rw [Nat.mod_eq_sub_mod (by omega : i ≥ z.length)]
    rw [key m i hi]
    have hm : i % z.length < z.length := Nat.mod_lt _ hz
    simp [hm]
  · rw [List.getElem?_eq_none (by simp; omega), List.getElem?_eq_none (by omega)]
    rfl
theorem row_value {c : AV} {κ m : Nat} (hm : m ≤ κ) (b : Nat) (hb : β n = some (b, κ)) : VR M β (.osl n [] c.esz 0 m) (.slice (some ⟨b, 0, none⟩) m κ) :=
  .one rfl (.osl hb hm (fun _ => by omega) (.inr (by simp [poff])))
theorem s_buildSlice (hK : ∀ v O' n', K v O' n' → ∀ o, n ≤ o → o < n' → E.ok o) {t : TypeId} {m : Nat} {ps : Array (Nat × Operand)} (ho : o.op = .buildSlice t m ps)
    (h : tyC P t fun ty => partsC T ps.toList fun l =>
      (match ty with
      | .slice e => tyC P e fun te => 0 < te.size ∧ m * te.size ≤ 16777216 ∧ elemsC m te l fun c => K (.osl n [] te.size 0 m) ((n, .row c) :: O) (n + 1)
      | _ => False)) (hr : RelAt E N M β T O n a w) : OpS P o E N T K a w := by
  obtain ⟨ty, hok, _, h1⟩ := tyC_spec h
  obtain ⟨l, h2, hp⟩ := partsC_spec hr h1
  have hps : (ps.map fun (i, x) => (i, a.eval x)).toList = ps.toList.map fun p => (p.1, a.eval p.2) := by simp
  cases ty with
  | slice e =>
    obtain ⟨te, hte, _, hpos, hle, h3⟩ := tyC_spec h2
    obtain ⟨c, hk, hrow, hcnt, hez, hf⟩ := elemsC_spec h3 hp hpos
    have hzl : te.zc.length = te.size := by rw [(zero_rv (M := M) te β).length, zero_csz.1]
    have hzc : te.zv.cells = te.zc.toArray := by
      cases te <;> rfl
    have hfill : ∀ cells : Array Value, cells.toList = (List.replicate m te.zc).flatten → (∃ cells', Instr.fill (fun i => some (i * te.size, te.size)) cells (ps.toList.map fun p => (p.1, a.eval p.2)) = some cells' ∧ RV M β c cells'.toList) := hf
    have hrel : ∀ cells' : Array Value, RV M β c cells'.toList → RelAt E N M (updB β n (w.heap.size, m)) T ((n, .row c) :: O) (n + 1) a (w.alloc (.cells cells' e)) := fun cells' hrv =>
      hr.newRow (hK _ _ _ hk n (Nat.le_refl _) (Nat.lt_succ_self _)) (sp := []) hrv hrow (by omega) (by simp) (by rw [List.append_nil, row_len hrv hrow, hcnt]) (row_len hrv hrow)
    by_cases hm0 : m * te.size = 0
    · obtain ⟨cells', h4, h5⟩ := hf #[] (by
        have : m = 0 := by rcases Nat.mul_eq_zero.1 hm0 with h | h <;> omega
        simp [this])
      refine OpS.val (x := .slice (some ⟨w.heap.size, 0, none⟩) m m) ?_ (hrel cells' h5) (by rw [← hez]; exact row_value (Nat.le_refl _) _ (by simp)) hk
      simp only [execOp, ho, Instr.buildSlice, Sem.run_bind, r_under hok.2, Result.andThen_ok, r_size hte]
      rw [if_neg (by omega), if_pos hm0]
      simp only [Sem.run_pure, Result.andThen_ok, hm0, Sem.run_bind]
      have : Array.map (fun x => (#[] : Array Value)[x % 0]!) (Array.range 0) = #[] := by simp
      simp only [List.size_toArray, List.length_nil, this, hps, h4, Sem.run_bind, newRow, run_newObj, Result.andThen_ok, Sem.run_pure]
      rfl
    · obtain ⟨cells', h4, h5⟩ := hf ((Array.range (m * te.size)).map (te.zc.toArray[· % te.zc.toArray.size]!)) (by rw [← hzl]; exact zerosFill m te.zc (by omega))
      refine OpS.val (x := .slice (some ⟨w.heap.size, 0, none⟩) m m) ?_ (hrel cells' h5) (by rw [← hez]; exact row_value (Nat.le_refl _) _ (by simp)) hk
      simp only [execOp, ho, Instr.buildSlice, Sem.run_bind, r_under hok.2, Result.andThen_ok, r_size hte]
      rw [if_neg (by omega), if_neg hm0]
      simp only [Sem.run_bind, r_zero hte, Result.andThen_ok, Sem.run_pure, hzc, hps, h4, newRow, run_newObj]
      rfl
  | _ => exact h2.elim
theorem zerosC_spec {m : Nat} {te : Ty} {κ : AV → Prop} (h : zerosC m te κ) (hpos : 0 < te.size) : ∃ c, κ c ∧ c.isRow = true ∧ c.cnt = m ∧ c.esz = te.size ∧ c.nid = true ∧ ∀ {M : Pool} {β : Bmap}, RV M β c (List.replicate m te.zc).flatten := by
  have gen : (∀ k, te ≠ .int k) → κ (.lst te.size m (List.replicate m te.zero)) → ∃ c, κ c ∧ c.isRow = true ∧ c.cnt = m ∧ c.esz = te.size ∧ c.nid = true ∧ ∀ {M : Pool} {β : Bmap}, RV M β c (List.replicate m te.zc).flatten := fun _ hk =>
    ⟨_, hk, rfl, rfl, rfl, rfl, fun {M β} => .lst (zeros_rv _ _ _ (fun β => zero_rv te β) _) (fun p hp => by rw [(List.mem_replicate.1 hp).2, zero_csz.1]) (by simp)⟩
  cases te with
  | int k =>
    refine ⟨_, h, rfl, rfl, rfl, rfl, fun {M β} => ?_⟩
    have : (List.replicate m (Ty.int k).zc).flatten = (List.replicate m 0).map (Value.int k) := by
      clear h gen
      induction m with
      | zero => rfl
      | succ m ih => simp only [List.replicate_succ, List.flatten_cons, List.map_cons, ih]; rfl
    rw [this]
    exact .ints k (by simp)
  | _ => exact gen (by intro k e; cases e) h
theorem s_makeSlice (hK : ∀ v O' n', K v O' n' → ∀ o, n ≤ o → o < n' → E.ok o) {t : TypeId} {x y : Operand} (ho : o.op = .makeSlice t x y)
    (h : tyC P t fun ty => evC T x fun u => evC T y fun v => intC u fun i => intC v fun j =>
      (match ty with
      | .slice e => tyC P e fun te => byC P e fun bts => 0 < te.size ∧ 0 ≤ i ∧ i ≤ j ∧ j * bts ≤ 281474976710656 ∧ j ≤ 9223372036854775807 ∧ zerosC i.toNat te fun q => K (.osl n [] te.size 0 i.toNat) ((n, .row q) :: O) (n + 1)
      | _ => False)) (hr : RelAt E N M β T O n a w) : OpS P o E N T K a w := by
  obtain ⟨ty, hok, _, h1⟩ := tyC_spec h
  obtain ⟨u, h2, hu⟩ := evC_spec hr h1
  obtain ⟨v, h3, hv⟩ := evC_spec hr h2
  obtain ⟨k, i, rfl, h4⟩ := intC_spec h3
  obtain ⟨k', j, rfl, h5⟩ := intC_spec h4
  cases ty with
  | slice e =>
    obtain ⟨te, hte, _, inf, hinf, hpos, g1, g2, g3, g4, h6⟩ := tyC_spec h5
    obtain ⟨c, hk, hrow, hcnt, hez, _, hrv⟩ := zerosC_spec h6 hpos
    have hzl : te.zc.length = te.size := by rw [(zero_rv (M := M) te β).length, zero_csz.1]
    have hzc : te.zv.cells = te.zc.toArray := by cases te <;> rfl
    have w1 : IntKind.i64.wrap i = i := by simp [IntKind.wrap, IntKind.bits, IntKind.signed]; omega
    have w2 : IntKind.i64.wrap j = j := by simp [IntKind.wrap, IntKind.bits, IntKind.signed]; omega
    have big : (decide (j < 0) || decide ((inf.bytes : Int) * j > 2 ^ 48)) = false := by
      have : (inf.bytes : Int) * j ≤ 281474976710656 := by rw [Int.mul_comm]; exact g3
      simp; omega
    have hsplit : (List.replicate j.toNat te.zc).flatten = (List.replicate i.toNat te.zc).flatten ++ (List.replicate (j.toNat - i.toNat) te.zc).flatten := by
      rw [← List.flatten_append, List.replicate_append_replicate]
      congr 2; omega
    have hcells : ∀ cells : Array Value, cells.toList = (List.replicate j.toNat te.zc).flatten → RelAt E N M (updB β n (w.heap.size, j.toNat)) T ((n, .row c) :: O) (n + 1) a (w.alloc (.cells cells e)) := fun cells hc =>
      hr.newRow (hK _ _ _ hk n (Nat.le_refl _) (Nat.lt_succ_self _)) (sp := (List.replicate (j.toNat - i.toNat) te.zc).flatten) hrv hrow (by omega) (by rw [hc, hsplit]) (by rw [← hsplit, hez]; simp [hzl]) (by rw [hcnt, hez]; simp [hzl])
    have hval : VR M (updB β n (w.heap.size, j.toNat)) (.osl n [] te.size 0 i.toNat) (.slice (some ⟨w.heap.size, 0, none⟩) i.toNat j.toNat) := by rw [← hez]; exact row_value (by omega) _ (by simp)
    have cond : ((decide (j < 0) || decide ((inf.bytes : Int) * j > 2 ^ 48)) || decide (i < 0) || decide (i > j)) = false := by rw [big]; simp; omega
    by_cases hj : j.toNat * te.size = 0
    · refine OpS.val (x := .slice (some ⟨w.heap.size, 0, none⟩) i.toNat j.toNat) ?_ (hcells #[] (by
        have : j.toNat = 0 := by rcases Nat.mul_eq_zero.1 hj with h | h <;> omega
        simp [this])) hval hk
      simp only [execOp, ho, Instr.makeSlice, Sem.run_bind, r_under hok.2, Result.andThen_ok, hu.int_inv, hv.int_inv, asInt, asIntOf, Sem.run_pure, r_info hinf, w1, w2, run_askRoom, r_size hte, hj, if_true]
      rw [if_neg (by simpa using cond)]
      simp only [Sem.run_pure, Result.andThen_ok, run_askRoom, r_size hte, Sem.run_bind, newRow, run_newObj, hj, if_true]
      have : Array.map (fun x => (#[] : Array Value)[x % 0]!) (Array.range 0) = #[] := by simp
      simp only [List.size_toArray, List.length_nil, this]
      rfl
    · refine OpS.val (x := .slice (some ⟨w.heap.size, 0, none⟩) i.toNat j.toNat) ?_ (hcells ((Array.range (j.toNat * te.size)).map (te.zc.toArray[· % te.zc.toArray.size]!)) (by
        have := zerosFill j.toNat te.zc (by omega)
        rw [hzl] at this
        exact this)) hval hk
      simp only [execOp, ho, Instr.makeSlice, Sem.run_bind, r_under hok.2, Result.andThen_ok, hu.int_inv, hv.int_inv, asInt, asIntOf, Sem.run_pure, r_info hinf, w1, w2]
      rw [if_neg (by simpa using cond)]
      simp only [Sem.run_pure, Result.andThen_ok, run_askRoom, r_size hte, Sem.run_bind, newRow, run_newObj, hj, if_false, r_zero hte, hzc]
      rfl
  | _ => exact h5.elim
end
end Go.Sy
