/- Elements of values, slices of slices, lengths, conversions that make nothing. -/
import Derived.Test.YtnonjfknpajpaaaS10
namespace Go.Sy
open Go
set_option linter.unusedSimpArgs false
set_option linter.unusedVariables false
section
variable {E : Env} {N : Nat} {M : Pool} {β β' : Bmap} {T : TT} {O O' : OO} {n : Nat} {a : Act} {w w' : World} {P : Program} {o : Oper} {K : KK}

theorem RVs.take {sz : Nat} : ∀ {es : List AV} {cs : List Value}, RVs M β es cs → (∀ p ∈ es, p.csz = sz) → ∀ m, RVs M β (es.take m) (cs.take (m * sz)) := by
  intro es
  induction es with
  | nil => intro cs h hz m; cases h; simp; exact .nil
  | cons e es ih =>
    intro cs h hz m
    cases h with
    | cons h1 h2 =>
      rename_i c cs
      have hl := h1.length
      rw [hz e (by simp)] at hl
      cases m with
      | zero => simp; exact .nil
      | succ m =>
        simp only [List.take_succ_cons]
        rw [List.take_append, List.take_of_length_le (l := c) (by rw [hl, Nat.add_mul]; omega), show (m + 1) * sz - c.length = m * sz by rw [hl, Nat.add_mul]; omega]
        exact .cons h1 (ih h2 (fun p hp => hz p (by simp [hp])) m)
theorem RVs.drop {sz : Nat} : ∀ {es : List AV} {cs : List Value}, RVs M β es cs → (∀ p ∈ es, p.csz = sz) → ∀ m, RVs M β (es.drop m) (cs.drop (m * sz)) := by
  intro es
  induction es with
  | nil => intro cs h hz m; cases h; simp; exact .nil
  | cons e es ih =>
    intro cs h hz m
    cases h with
    | cons h1 h2 =>
      rename_i c cs
      have hl := h1.length
      rw [hz e (by simp)] at hl
      cases m with
      | zero => simp; exact .cons h1 h2
      | succ m =>
        simp only [List.drop_succ_cons]
        rw [List.drop_append, List.drop_of_length_le (l := c) (by rw [hl, Nat.add_mul]; omega), show (m + 1) * sz - c.length = m * sz by rw [hl, Nat.add_mul]; omega, List.nil_append]
        exact ih h2 (fun p hp => hz p (by simp [hp])) m
theorem RVs.part {sz : Nat} {es : List AV} {cs : List Value} (h : RVs M β es cs) (hz : ∀ p ∈ es, p.csz = sz) (lo len : Nat) (hl : lo + len ≤ es.length) : RVs M β ((es.drop lo).take len) (piece cs (lo * sz) (len * sz)) :=
  (h.drop hz lo).take (fun p hp => hz p (List.mem_of_mem_drop hp)) len
theorem s_index {t : TypeId} {x i : Operand} (ho : o.op = .index t x i)
    (h : tyC P t fun ty => evC T x fun v => evC T i fun u => intC u fun j =>
      (match ty with
      | .arr m _ te => idxV te m v j fun r => K r O n
      | .str => (match v with | .str s => 0 ≤ j ∧ j < s.length ∧ K (.int .u8 ((s.getD j.toNat 0).toNat : Int)) O n | _ => False)
      | _ => False)) (hr : RelAt E N M β T O n a w) : OpS P o E N T K a w := by
  obtain ⟨ty, hok, _, h1⟩ := tyC_spec h
  obtain ⟨v, h2, hv⟩ := evC_spec hr h1
  obtain ⟨u, h3, hu⟩ := evC_spec hr h2
  obtain ⟨k, j, rfl, h4⟩ := intC_spec h3
  have ei := hu.int_inv
  cases ty with
  | arr m e te =>
    have hok2 := hok
    obtain ⟨_, hu2, hpos, hte⟩ := hok
    have run : ∀ (cs : List Value) (y : Value), a.eval x = .agg cs.toArray → 0 ≤ j → j < m → (part e cs.toArray (j.toNat * te.size)).run P w = .ok y w → (execOp a.eval o).run P w = .ok (.value y) w := fun cs y ex h0 hm hp => by
      simp only [execOp, ho, Instr.index, ei, asIntOf, Sem.run_bind, Sem.run_pure, Result.andThen_ok, r_under hu2, ex]
      rw [if_pos ⟨h0, hm⟩]
      simp only [Sem.run_bind, r_size hte, Result.andThen_ok, hp]
    cases v with
    | ints k1 m1 xs =>
      obtain ⟨rfl, h0, hm, hs, hmm, hk⟩ := h4
      obtain ⟨cs, ex, hcs⟩ := hv.agg_inv rfl rfl
      cases hcs with
      | ints _ hl =>
        have hlt : j.toNat < xs.length := by omega
        have e1 : piece (xs.map (Value.int k1)) (j.toNat * te.size) te.size = [Value.int k1 (xs.getD j.toNat 0)] := by
          rw [hs]; simp only [piece, Nat.mul_one]
          rw [List.drop_eq_getElem_cons (by simpa using hlt)]
          simp [List.getD, hlt]
        obtain ⟨y, hrun, hy⟩ := run_part (M := M) (β := β) (w := w) (q := .int k1 (xs.getD j.toNat 0)) hte hpos (by rw [e1]; exact .int _ _) (by rw [hs]; rfl) (by rw [hmm]; rfl) rfl (by rw [hs]; simp; omega)
        exact OpS.val (run _ _ ex h0 hm hrun) hr hy hk
    | lst sz m1 es =>
      obtain ⟨rfl, h0, hm, hs, hlt, hk⟩ := h4
      obtain ⟨cs, ex, hcs⟩ := hv.agg_inv rfl rfl
      cases hcs with
      | lst hes hsz hl =>
        obtain ⟨hq1, hq2, hk⟩ := hk _ (List.getElem?_eq_getElem hlt)
        obtain ⟨g1, g2⟩ := hes.nth hsz (List.getElem?_eq_getElem hlt)
        have g3 := g2.mono (PLe.refl M) (BLe.nob β)
        rw [hs] at g1 g3
        obtain ⟨y, hrun, hy⟩ := run_part (w := w) hte hpos g3 hq1 hq2 (multi_mem g3) g1
        exact OpS.val (run _ _ ex h0 hm hrun) hr hy hk
    | arr sz ps =>
      obtain ⟨rfl, h0, hm, hs, hk⟩ := h4
      obtain ⟨cs, ex, hcs⟩ := hv.agg_inv rfl rfl
      have hlt : j.toNat < ps.length := by omega
      cases hcs with
      | arr hes hsz =>
        obtain ⟨hq1, hq2, hk⟩ := hk _ (List.getElem?_eq_getElem hlt)
        obtain ⟨g1, g2⟩ := hes.nth hsz (List.getElem?_eq_getElem hlt)
        rw [hs] at g1 g2
        obtain ⟨y, hrun, hy⟩ := run_part (w := w) hte hpos g2 hq1 hq2 (multi_mem g2) g1
        exact OpS.val (run _ _ ex h0 hm hrun) hr hy hk
    | _ => exact h4.elim
  | str =>
    cases v with
    | str s =>
      obtain ⟨h0, hlt, hk⟩ := h4
      have hlt2 : j.toNat < s.length := by omega
      refine OpS.val (x := .int .u8 ((s.getD j.toNat 0).toNat : Int)) ?_ hr (.one rfl (.int _ _)) hk
      simp only [execOp, ho, Instr.index, ei, asIntOf, Sem.run_bind, Sem.run_pure, Result.andThen_ok, r_under hok.2, hv.str_inv]
      have e2 : (⟨s.toArray⟩ : ByteArray)[j.toNat]? = some (s.getD j.toNat 0) := by
        rw [getElem?_pos _ _ (by simpa [ByteArray.size] using hlt2)]
        simp [List.getD, hlt2]
        rfl
      simp only [h0, if_true, e2]
      rfl
    | _ => exact h4.elim
  | _ => exact h4.elim

/-! Lengths. -/
theorem lenC_spec {v : AV} {x : Value} {κ : Nat → Prop} (h : lenC v κ) (hv : VR M β v x) : ∃ m, κ m ∧ ∃ b c, x = .slice b m c := by
  cases v with
  | sl c => obtain ⟨cc, base, cap, e, _⟩ := hv.sl_inv; exact ⟨_, h, _, _, e⟩
  | nils => exact ⟨_, h, _, _, hv.nils_inv⟩
  | osl i p sz lo len => obtain ⟨_, _, base, cap, _, e, _⟩ := hv.osl_inv; exact ⟨_, h, _, _, e⟩
  | _ => exact h.elim
theorem lenK_spec {t tt : TypeId} {v : AV} {x : Value} {κ : AV → Prop} (h : lenK P t v κ) (hv : VR M β v x) : ∃ m : Nat, κ (.int .i64 m) ∧ (Builtin.len_ #[t] tt #[x]).run P w = .ok (.int .i64 m) w := by
  obtain ⟨ty, hok, _, h⟩ := tyC_spec h
  cases ty with
  | slice e =>
    obtain ⟨m, hk, b, c, rfl⟩ := lenC_spec h hv
    exact ⟨m, hk, by simp [Builtin.len_, r_under hok.2, goInt]⟩
  | str =>
    cases v with
    | str s =>
      have e := hv.str_inv
      subst e
      have hs : (⟨s.toArray⟩ : ByteArray).size = s.length := by simp [ByteArray.size]
      exact ⟨s.length, h, by simp only [Builtin.len_, r_under hok.2, goInt, Sem.run_bind, Result.andThen_ok, List.getElem?_toArray, List.getElem?_cons_zero, Option.some.injEq, hs]; rfl⟩
    | _ => exact h.elim
  | arr m e te => exact ⟨m, h, by simp [Builtin.len_, r_under hok.2.1, goInt]⟩
  | _ => exact h.elim

/-! Slice expressions. -/
theorem optC_spec (hr : RelAt E N M β T O n a w) {x : Option Operand} {κ : Option Int → Prop} (h : optC T x κ) : ∃ i : Option Int, κ i ∧ (∀ j, i = some j → 0 ≤ j) ∧ (i = none → x = none) ∧ (∀ j, i = some j → ∃ k, x.map a.eval = some (.int k j)) := by
  cases x with
  | none => exact ⟨none, h, by simp, by simp, by simp⟩
  | some x =>
    obtain ⟨v, h, hv⟩ := evC_spec hr h
    obtain ⟨k, j, rfl, h0, h⟩ := intC_spec h
    exact ⟨some j, h, by simp; exact h0, by simp, fun j' e => by cases e; exact ⟨k, by simp [hv.int_inv]⟩⟩
theorem bounds_run (s : Bool) (len cap l h : Nat) (lo hi : Option Value) (hlo : (lo = none ∧ l = 0) ∨ ∃ k, lo = some (.int k l)) (hhi : (hi = none ∧ h = len) ∨ ∃ k, hi = some (.int k h)) (h1 : l ≤ h) (h2 : h ≤ cap) :
    (Instr.sliceBounds s len cap lo hi none).run P w = .ok (l, h, cap) w := by
  unfold Instr.sliceBounds
  rcases hhi with ⟨rfl, rfl⟩ | ⟨k, rfl⟩ <;> rcases hlo with ⟨rfl, rfl⟩ | ⟨k', rfl⟩
  all_goals simp [Instr.sliceBound, asIntOf, h1, h2]
theorem esz_pos {c : AV} (h : c.isRow = true) : True := trivial
theorem subC_spec {c : AV} {lo len : Nat} {κ : AV → Prop} (h : subC c lo len κ) : ∃ q, κ q ∧ q.isRow = true ∧ q.cnt = len ∧ q.esz = c.esz ∧ lo + len ≤ c.cnt ∧ c.isRow = true ∧
    ∀ {M : Pool} {β : Bmap} {cs : List Value}, RV M β c cs → (lo + len) * c.esz ≤ cs.length ∧ RV M β q (piece cs (lo * c.esz) (len * c.esz)) := by
  cases c with
  | ints k m xs =>
    obtain ⟨h0, h1, h2⟩ := h
    by_cases e : lo = 0 ∧ len = m
    · refine ⟨_, h1 e, rfl, e.2.symm, rfl, h0, rfl, fun {M β cs} hr => ?_⟩
      have := hr.length
      simp only [AV.csz] at this
      obtain ⟨rfl, rfl⟩ := e
      simp only [AV.esz, Nat.mul_one]
      exact ⟨by omega, by rw [← this, piece_all]; rw [this]; exact hr⟩
    · refine ⟨_, h2 e, rfl, rfl, rfl, h0, rfl, fun {M β cs} hr => ?_⟩
      cases hr with
      | ints _ hl =>
        simp only [AV.esz, Nat.mul_one, List.length_map]
        refine ⟨by omega, ?_⟩
        have : piece (xs.map (Value.int k)) lo len = ((xs.drop lo).take len).map (Value.int k) := by simp [piece, List.map_take, List.map_drop]
        rw [this]
        exact .ints k (by simp; omega)
  | lst sz m es =>
    obtain ⟨h0, h1, h2⟩ := h
    by_cases e : lo = 0 ∧ len = m
    · refine ⟨_, h1 e, rfl, e.2.symm, rfl, h0, rfl, fun {M β cs} hr => ?_⟩
      have := hr.length
      simp only [AV.csz] at this
      obtain ⟨rfl, rfl⟩ := e
      simp only [AV.esz, Nat.zero_mul, Nat.zero_add]
      exact ⟨by omega, by rw [← this, piece_all]; exact hr⟩
    · refine ⟨_, h2 e, rfl, rfl, rfl, h0, rfl, fun {M β cs} hr => ?_⟩
      cases hr with
      | lst hs hz hl =>
        simp only [AV.esz]
        have hcl := hs.length
        rw [cszs_const hz, hl] at hcl
        refine ⟨by rw [hcl]; exact Nat.mul_le_mul_right _ h0, ?_⟩
        have key := RVs.part hs hz lo len (by omega)
        exact .lst key (fun p hp => hz p (List.mem_of_mem_drop (List.mem_of_mem_take hp))) (by simp; omega)
  | arr sz ps =>
    obtain ⟨h0, h⟩ := h
    refine ⟨_, h, rfl, by simp [AV.cnt]; omega, rfl, h0, rfl, fun {M β cs} hr => ?_⟩
    cases hr with
    | arr hs hz =>
      simp only [AV.esz]
      have hcl := hs.length
      rw [cszs_const hz] at hcl
      refine ⟨by rw [hcl]; exact Nat.mul_le_mul_right _ h0, ?_⟩
      have key := RVs.part hs hz lo len (by omega)
      exact .arr key (fun p hp => hz p (List.mem_of_mem_drop (List.mem_of_mem_take hp)))
  | _ => exact h.elim

theorem run_slice {t e : TypeId} {te : Ty} (hu : P.underlying t = some (.slice e)) (hte : te.ok P e) {base : Option Addr} {len cap l h : Nat} {lo hi : Option Value}
    (hlo : (lo = none ∧ l = 0) ∨ ∃ k, lo = some (.int k l)) (hhi : (hi = none ∧ h = len) ∨ ∃ k, hi = some (.int k h)) (h1 : l ≤ h) (h2 : h ≤ cap) :
    (Instr.sliceAt t (.slice base len cap) lo hi none).run P w = .ok (.slice (if cap = l then base else base.map (·.add (l * te.size))) (h - l) (cap - l)) w := by
  unfold Instr.sliceAt
  simp only [Sem.run_bind, r_under hu, Result.andThen_ok, Instr.slice, bounds_run true len cap l h lo hi hlo hhi h1 h2, r_size hte]
  rfl
theorem run_sliceA {t e : TypeId} {te : Ty} {m : Nat} (hu : P.underlying t = some (.array m e)) (hte : te.ok P e) {b off l h : Nat} {lo hi : Option Value}
    (hlo : (lo = none ∧ l = 0) ∨ ∃ k, lo = some (.int k l)) (hhi : (hi = none ∧ h = m) ∨ ∃ k, hi = some (.int k h)) (h1 : l ≤ h) (h2 : h ≤ m) :
    (Instr.sliceAt t (.pointer (some ⟨b, off, none⟩)) lo hi none).run P w = .ok (.slice (some (if m = l then ⟨b, off, none⟩ else ⟨b, off + l * te.size, none⟩)) (h - l) (m - l)) w := by
  unfold Instr.sliceAt
  simp only [Sem.run_bind, r_under hu, Result.andThen_ok, Instr.sureAddr, Sem.run_pure, bounds_run false m m l h lo hi hlo hhi h1 h2, r_size hte, add_none]
theorem run_sliceP {t e q : TypeId} {te : Ty} {m : Nat} (hp : P.underlying t = some (.pointer q)) (hu : P.underlying q = some (.array m e)) (hte : te.ok P e) {b off l h : Nat} {lo hi : Option Value}
    (hlo : (lo = none ∧ l = 0) ∨ ∃ k, lo = some (.int k l)) (hhi : (hi = none ∧ h = m) ∨ ∃ k, hi = some (.int k h)) (h1 : l ≤ h) (h2 : h ≤ m) :
    (Instr.sliceAt t (.pointer (some ⟨b, off, none⟩)) lo hi none).run P w = .ok (.slice (some (if m = l then ⟨b, off, none⟩ else ⟨b, off + l * te.size, none⟩)) (h - l) (m - l)) w := by
  unfold Instr.sliceAt
  simp only [Sem.run_bind, r_under hp, Result.andThen_ok, Instr.slice, asAddr, Sem.run_pure, r_under hu, bounds_run false m m l h lo hi hlo hhi h1 h2, r_size hte, add_none]
theorem run_sliceS {t : TypeId} (hu : P.underlying t = some .string) {s : List UInt8} {l h : Nat} {lo hi : Option Value}
    (hlo : (lo = none ∧ l = 0) ∨ ∃ k, lo = some (.int k l)) (hhi : (hi = none ∧ h = s.length) ∨ ∃ k, hi = some (.int k h)) (h1 : l ≤ h) (h2 : h ≤ s.length) :
    (Instr.sliceAt t (.string ⟨s.toArray⟩) lo hi none).run P w = .ok (.string ⟨((s.take h).drop l).toArray⟩) w := by
  have hs : (⟨s.toArray⟩ : ByteArray).size = s.length := by simp [ByteArray.size]
  have he : (⟨s.toArray⟩ : ByteArray).extract l h = ⟨((s.take h).drop l).toArray⟩ := by
    apply ByteArray.ext
    rw [ByteArray.data_extract]
    apply Array.ext'
    simp [List.extract, List.drop_take]
  unfold Instr.sliceAt
  simp only [Sem.run_bind, r_under hu, Result.andThen_ok, Instr.slice, hs, Option.isSome_none, Bool.false_eq_true, if_false, bounds_run false s.length s.length l h lo hi hlo hhi h1 h2, he]
  rfl
theorem lo_of {lo : Option Operand} {i : Option Int} (h1 : ∀ j, i = some j → 0 ≤ j) (h2 : i = none → lo = none) (h3 : ∀ j, i = some j → ∃ k, lo.map a.eval = some (.int k j)) :
    (lo.map a.eval = none ∧ (i.getD 0).toNat = 0) ∨ ∃ k, lo.map a.eval = some (.int k ((i.getD 0).toNat : Nat)) := by
  cases i with
  | none => rw [h2 rfl]; exact .inl ⟨rfl, rfl⟩
  | some j => obtain ⟨k, e⟩ := h3 j rfl; refine .inr ⟨k, ?_⟩; rw [e]; simp [Int.toNat_of_nonneg (h1 j rfl)]
theorem hi_of {lo : Option Operand} {i : Option Int} (m : Nat) (h1 : ∀ j, i = some j → 0 ≤ j) (h2 : i = none → lo = none) (h3 : ∀ j, i = some j → ∃ k, lo.map a.eval = some (.int k j)) :
    (lo.map a.eval = none ∧ (i.map Int.toNat).getD m = m) ∨ ∃ k, lo.map a.eval = some (.int k ((i.map Int.toNat).getD m : Nat)) := by
  cases i with
  | none => rw [h2 rfl]; exact .inl ⟨rfl, rfl⟩
  | some j => obtain ⟨k, e⟩ := h3 j rfl; refine .inr ⟨k, ?_⟩; rw [e]; simp [Int.toNat_of_nonneg (h1 j rfl)]
theorem cutC_split {v : AV} {l : Nat} {h : Option Nat} {κ : AV → Prop} (hc : cutC v l h κ) :
    (∃ i p sz lo len, v = .osl i p sz lo len ∧ l ≤ h.getD len ∧ h.getD len ≤ len ∧ κ (.osl i p sz (lo + l) (h.getD len - l))) ∨
    (∃ c, v = .sl c ∧ l ≤ h.getD c.cnt ∧ h.getD c.cnt ≤ c.cnt ∧ subC c l (h.getD c.cnt - l) fun q => κ (.sl q)) ∨
    (v = .nils ∧ l = 0 ∧ h.getD 0 = 0 ∧ κ .nils) := by
  cases v <;> cases h <;> first | exact hc.elim | skip
  · obtain ⟨h1, h2⟩ := hc; exact .inr (.inl ⟨_, rfl, h1, Nat.le_refl _, h2⟩)
  · obtain ⟨h1, h2, h3⟩ := hc; exact .inr (.inl ⟨_, rfl, h1, h2, h3⟩)
  · obtain ⟨h1, h2⟩ := hc; exact .inr (.inr ⟨rfl, h1, rfl, h2⟩)
  · obtain ⟨h1, h2, h3⟩ := hc; exact .inr (.inr ⟨rfl, h1, h2, h3⟩)
  · obtain ⟨h1, h2⟩ := hc; exact .inl ⟨_, _, _, _, _, rfl, h1, Nat.le_refl _, h2⟩
  · obtain ⟨h1, h2, h3⟩ := hc; exact .inl ⟨_, _, _, _, _, rfl, h1, h2, h3⟩
theorem cutA_split {O : OO} {sz m : Nat} {v : AV} {l : Nat} {h : Option Nat} {κ : AV → Prop} (hc : cutA O sz m v l h κ) :
    ∃ i p, v = .ref i p ∧ l ≤ h.getD m ∧ h.getD m ≤ m ∧ (p = [] → objC O i fun ob => varC ob fun c => m ≤ c.csz) ∧ κ (.osl i p sz l (h.getD m - l)) := by
  cases v <;> cases h <;> first | exact hc.elim | skip
  · obtain ⟨h1, h2, h3⟩ := hc; exact ⟨_, _, rfl, h1, Nat.le_refl _, h2, h3⟩
  · obtain ⟨h1, h2, h3, h4⟩ := hc; exact ⟨_, _, rfl, h1, h2, h3, h4⟩
theorem s_slice {t : TypeId} {x : Operand} {lo hi : Option Operand} (ho : o.op = .slice t x lo hi none)
    (h : tyC P t fun ty => evC T x fun v => optC T lo fun l => optC T hi fun h =>
      (match ty with
      | .arr m _ te => cutA O te.size m v (l.getD 0).toNat (h.map Int.toNat) fun r => K r O n
      | .slice e => tyC P e fun te => (∀ o p sz lo len, v = .osl o p sz lo len → sz = te.size) ∧ (∀ c, v = .sl c → c.esz = te.size) ∧ cutC v (l.getD 0).toNat (h.map Int.toNat) fun r => K r O n
      | .str => cutS v (l.getD 0).toNat (h.map Int.toNat) fun r => K r O n
      | .ptr a => tyC P a fun at' => (match at' with | .arr m _ te => cutA O te.size m v (l.getD 0).toNat (h.map Int.toNat) fun r => K r O n | _ => False)
      | _ => False)) (hr : RelAt E N M β T O n a w) : OpS P o E N T K a w := by
  obtain ⟨ty, hok, _, h1⟩ := tyC_spec h
  obtain ⟨v, h2, hv⟩ := evC_spec hr h1
  obtain ⟨i, h3, l1, l2, l3⟩ := optC_spec hr h2
  obtain ⟨j, h4, k1, k2, k3⟩ := optC_spec hr h3
  have L := lo_of (a := a) l1 l2 l3
  have arrc : ∀ {m : Nat} {te : Ty} {e : TypeId} (hte : te.ok P e) (hcut : cutA O te.size m v (i.getD 0).toNat (j.map Int.toNat) fun r => K r O n)
      (run : ∀ (b off l h : Nat) (lo hi : Option Value) (hlo : (lo = none ∧ l = 0) ∨ ∃ k, lo = some (.int k l)) (hhi : (hi = none ∧ h = m) ∨ ∃ k, hi = some (.int k h)) (h1 : l ≤ h) (h2 : h ≤ m),
        (Instr.sliceAt t (.pointer (some ⟨b, off, none⟩)) lo hi none).run P w = .ok (.slice (some (if m = l then ⟨b, off, none⟩ else ⟨b, off + l * te.size, none⟩)) (h - l) (m - l)) w), OpS P o E N T K a w := by
    intro m te e hte hcut run
    obtain ⟨io, p, rfl, c1, c2, c3, hk⟩ := cutA_split hcut
    obtain ⟨b, κ, hb, ex⟩ := hv.ref_inv
    refine OpS.val (by simp only [execOp, ho, Sem.run_bind, ex, run b (poff p) _ _ _ _ L (hi_of m k1 k2 k3) c1 c2, Option.map_none, Result.andThen_ok]; rfl) hr (.one rfl (.osl hb (by omega) (fun hp => ?_) ?_)) hk
    · subst hp
      obtain ⟨ob, hl, hob⟩ := objC_spec (c3 rfl)
      obtain ⟨b', κ', hb', hor⟩ := hr.st.objs _ _ hl
      rw [hb] at hb'; cases hb'
      cases ob with
      | var c => obtain ⟨_, hz, _⟩ := hor; have : m ≤ c.csz := hob; omega
      | _ => exact hob.elim
    · by_cases e : m = (i.getD 0).toNat
      · exact .inl (by omega)
      · right; simp [e]
  cases ty with
  | arr m e te => exact arrc hok.2.2.2 h4 fun b off l h lo hi hlo hhi h1 h2 => run_sliceA hok.2.1 hok.2.2.2 hlo hhi h1 h2
  | ptr q =>
    obtain ⟨at', hat, _, h5⟩ := tyC_spec h4
    cases at' with
    | arr m e te => exact arrc hat.2.2.2 h5 fun b off l h lo hi hlo hhi h1 h2 => run_sliceP hok.2 hat.2.1 hat.2.2.2 hlo hhi h1 h2
    | _ => exact h5.elim
  | str =>
    have key : ∃ s, v = .str s ∧ (i.getD 0).toNat ≤ (j.map Int.toNat).getD s.length ∧ (j.map Int.toNat).getD s.length ≤ s.length ∧ K (.str ((s.take ((j.map Int.toNat).getD s.length)).drop (i.getD 0).toNat)) O n := by
      cases v <;> cases j <;> first | exact h4.elim | skip
      · obtain ⟨h1, h2⟩ := h4; exact ⟨_, rfl, h1, Nat.le_refl _, by simpa using h2⟩
      · obtain ⟨h1, h2, h3⟩ := h4; exact ⟨_, rfl, h1, h2, h3⟩
    obtain ⟨s, rfl, c1, c2, hk⟩ := key
    exact OpS.val (by simp only [execOp, ho, Sem.run_bind, hv.str_inv, run_sliceS hok.2 L (hi_of s.length k1 k2 k3) c1 c2, Option.map_none, Result.andThen_ok]; rfl) hr (.one rfl (.str _)) hk
  | slice e =>
    obtain ⟨te, hte, _, z1, z2, h5⟩ := tyC_spec h4
    rcases cutC_split h5 with ⟨io, p, sz, lo', len, rfl, c1, c2, hk⟩ | ⟨c, rfl, c1, c2, hk⟩ | ⟨rfl, c1, c2, hk⟩
    · obtain rfl := z1 _ _ _ _ _ rfl
      obtain ⟨b, κ, base, cap, hb, ex, hc, hkk, ha⟩ := hv.osl_inv
      refine OpS.val (by simp only [execOp, ho, Sem.run_bind, ex, run_slice hok.2 hte L (hi_of len k1 k2 k3) c1 (Nat.le_trans c2 hc), Option.map_none, Result.andThen_ok]; rfl) hr
        (.one rfl (.osl hb (by omega) (fun hp => by have := hkk hp; omega) ?_)) hk
      by_cases e : cap = (i.getD 0).toNat
      · exact .inl (by omega)
      · right
        obtain rfl := ha.resolve_left (by omega)
        simp [e, Nat.add_mul, Nat.add_assoc]
    · obtain ⟨cc, base, cap, ex, hc, hrow, hcap, hm⟩ := hv.sl_inv
      have hez := z2 c rfl
      obtain ⟨q, hk, hq1, hq2, _, hq3, _, hq4⟩ := subC_spec hk
      obtain ⟨g1, g2⟩ := hq4 hc
      refine OpS.val (by simp only [execOp, ho, Sem.run_bind, ex, run_slice hok.2 hte L (hi_of c.cnt k1 k2 k3) c1 (Nat.le_trans c2 hcap), Option.map_none, Result.andThen_ok]; rfl) hr
        (.one rfl (.sl g2 hq1 hq2 (by omega) ?_)) hk
      by_cases e0 : (j.map Int.toNat).getD c.cnt - (i.getD 0).toNat = 0
      · exact .inl e0
      · right
        obtain ⟨b, off, rfl, hm2⟩ := hm.resolve_left (by omega)
        have e : ¬ cap = (i.getD 0).toNat := by omega
        refine ⟨b, off + (i.getD 0).toNat * te.size, by simp [e], fun ii vv hvv => ?_⟩
        simp only [piece, List.getElem?_take, List.getElem?_drop] at hvv
        split at hvv
        · have := hm2 _ _ hvv
          rw [← hez, Nat.add_assoc]
          exact this
        · cases hvv
    · have ex := hv.nils_inv
      refine OpS.val (by simp only [execOp, ho, Sem.run_bind, ex, run_slice hok.2 hte L (hi_of 0 k1 k2 k3) (by omega) (Nat.le_of_eq c2), Option.map_none, Result.andThen_ok]; rfl) hr (.one rfl ?_) hk
      rw [c1, c2]
      exact .nils
  | _ => exact h4.elim
end
end Go.Sy
