/- The operations that leave memory alone, one by one. -/
import Derived.Test.YtjaailbgeadnnaaGreatGA
import Derived.Laws.IdiomStrings
import Derived.Laws.BytesArg
namespace Go.Sy
open Go
set_option linter.unusedSimpArgs false
set_option linter.unusedVariables false
section
variable {E : Env} {N : Nat} {M : Pool} {β β' : Bmap} {T : TT} {O O' : OO} {n : Nat} {a : Act} {w w' : World} {P : Program} {o : Oper} {K : KK}

theorem eq_run {t : TypeId} {ty : Ty} {x y : AV} {κ : Bool → Prop} {xv yv : Value} (hok : ty.ok P t) (hd : ty.dep ≤ 12) (h : eqC ty x y κ) (hx : VR M β x xv) (hy : VR M β y yv) :
    ∃ b, κ b ∧ (Op.equal t xv yv).run P w = .ok b w := eqC_spec ty t x y κ 10000 xv yv hok (by omega) h hx hy
theorem eqGuard_run {op : BinOp} {t : TypeId} {ty : Ty} (hok : ty.ok P t) (p q : Operand) {xv yv : Value} (h : ¬ (xv = .nilIface ∧ yv = .nilIface)) : (eqGuard op t p q xv yv).run P w = .ok () w := by
  have hg := hok.base.guard
  unfold eqGuard
  cases op <;> try rfl
  all_goals
    simp only [Bool.not_true, Bool.false_eq_true, if_false]
    split
    · exact absurd ⟨rfl, rfl⟩ h
    · simp [hg]
    · rfl
theorem eq_bin {t : TypeId} {ty : Ty} {x y : AV} {κ : Bool → Prop} {xv yv : Value} (hok : ty.ok P t) (hd : ty.dep ≤ 12) (h : eqC ty x y κ) (hx : VR M β x xv) (hy : VR M β y yv) :
    ∃ b, κ b ∧ (binOp .eql t xv yv).run P w = .ok (.bool b) w ∧ (binOp .neq t xv yv).run P w = .ok (.bool (!b)) w ∧ xv ≠ .nilIface := by
  have key := eq_run (w := w) hok hd h hx hy
  cases ty
  case arr m e te =>
    cases te <;> cases x <;> cases y <;> first | exact h.elim | skip
    obtain ⟨b, hk, hrun⟩ := key
    obtain ⟨cs, rfl, _⟩ := hx.agg_inv rfl rfl
    obtain ⟨ds, rfl, _⟩ := hy.agg_inv rfl rfl
    exact ⟨b, hk, by simp [binOp, hrun], by simp [binOp, hrun], by intro e; cases e⟩
  case slice e =>
    obtain ⟨b, hk, hrun⟩ := key
    cases x <;> cases y <;> first | exact h.elim | skip
    all_goals obtain rfl := hy.nils_inv
    · obtain ⟨cc, base, cap, rfl, _⟩ := hx.sl_inv
      exact ⟨b, hk, by simp [binOp, hrun], by simp [binOp, hrun], by intro e; cases e⟩
    · obtain rfl := hx.nils_inv
      exact ⟨b, hk, by simp [binOp, hrun], by simp [binOp, hrun], by intro e; cases e⟩
    · obtain ⟨_, _, base, cap, _, rfl, _⟩ := hx.osl_inv
      exact ⟨b, hk, by simp [binOp, hrun], by simp [binOp, hrun], by intro e; cases e⟩
  all_goals cases x <;> cases y <;> first | exact h.elim | skip
  · obtain ⟨rfl, h⟩ := h
    refine ⟨_, h, ?_, ?_, ?_⟩
    · rw [hx.int_inv, hy.int_inv]; simp [binOp, Op.intCmp, beq_dec]
    · rw [hx.int_inv, hy.int_inv]; simp [binOp, Op.intCmp, bne, beq_dec]
    · rw [hx.int_inv]; intro e; cases e
  · obtain ⟨b, hk, hrun⟩ := key
    obtain rfl := hx.bool_inv
    obtain rfl := hy.bool_inv
    exact ⟨b, hk, by simp [binOp, hrun], by simp [binOp, hrun], by intro e; cases e⟩
  · refine ⟨_, h, ?_, ?_, ?_⟩
    · rw [hx.str_inv, hy.str_inv]; simp only [binOp, Op.stringOp, bytes_toList, beq_dec]; simp
    · rw [hx.str_inv, hy.str_inv]; simp only [binOp, Op.stringOp, bytes_toList, beq_dec]; simp
    · rw [hx.str_inv]; intro e; cases e
  · obtain ⟨b, hk, hrun⟩ := key
    obtain rfl := hx.nilp_inv
    obtain rfl := hy.nilp_inv
    exact ⟨b, hk, by simp [binOp, hrun], by simp [binOp, hrun], by intro e; cases e⟩
  · obtain ⟨b, hk, hrun⟩ := key
    obtain ⟨_, _, _, rfl⟩ := hy.ref_inv
    obtain rfl := hx.nilp_inv
    exact ⟨b, hk, by simp [binOp, hrun], by simp [binOp, hrun], by intro e; cases e⟩
  · obtain ⟨b, hk, hrun⟩ := key
    obtain ⟨_, _, _, rfl, _⟩ := hy.pp_inv
    obtain rfl := hx.nilp_inv
    exact ⟨b, hk, by simp [binOp, hrun], by simp [binOp, hrun], by intro e; cases e⟩
  · obtain ⟨b, hk, hrun⟩ := key
    obtain ⟨_, _, _, rfl⟩ := hx.ref_inv
    obtain rfl := hy.nilp_inv
    exact ⟨b, hk, by simp [binOp, hrun], by simp [binOp, hrun], by intro e; cases e⟩
  · obtain ⟨b, hk, hrun⟩ := key
    obtain ⟨_, _, _, rfl, _⟩ := hx.pp_inv
    obtain rfl := hy.nilp_inv
    exact ⟨b, hk, by simp [binOp, hrun], by simp [binOp, hrun], by intro e; cases e⟩
  · obtain ⟨b, hk, hrun⟩ := key
    obtain ⟨cs, rfl, _⟩ := hx.agg_inv rfl rfl
    obtain ⟨ds, rfl, _⟩ := hy.agg_inv rfl rfl
    exact ⟨b, hk, by simp [binOp, hrun], by simp [binOp, hrun], by intro e; cases e⟩
theorem s_binOp {op : BinOp} {t t' : TypeId} {x y : Operand} (ho : o.op = .binOp op t x y t')
    (h : evC T x fun v => evC T y fun u => binC P op t v u fun r => K r O n) (hr : RelAt E N M β T O n a w) : OpS P o E N T K a w := by
  obtain ⟨v, h, hv⟩ := evC_spec hr h
  obtain ⟨u, h, hu⟩ := evC_spec hr h
  unfold binC at h
  split at h
  · rename_i k i k' j κ
    obtain ⟨r, x', hk, hrun, hvr⟩ := intB_spec (P := P) (w := w) (t := t) h
    have e1 := hv.int_inv
    have e2 := hu.int_inv
    have hg : (eqGuard op t x y (a.eval x) (a.eval y)).run P w = .ok () w := by
      rw [e1, e2]; unfold eqGuard; cases op <;> rfl
    rw [← e1, ← e2] at hrun
    exact OpS.val (by simp only [execOp, ho, Sem.run_bind, hg, Result.andThen_ok, hrun]; rfl) hr (hvr _ _) hk
  · rename_i s s' κ
    obtain ⟨r, x', hk, hrun, hvr⟩ := strB_spec (P := P) (w := w) (t := t) h
    have e1 := hv.str_inv
    have e2 := hu.str_inv
    have hg : (eqGuard op t x y (a.eval x) (a.eval y)).run P w = .ok () w := by
      rw [e1, e2]; unfold eqGuard; cases op <;> rfl
    rw [← e1, ← e2] at hrun
    exact OpS.val (by simp only [execOp, ho, Sem.run_bind, hg, Result.andThen_ok, hrun]; rfl) hr (hvr _ _) hk
  · split at h
    · obtain ⟨ty, hok, hdep, h⟩ := tyC_spec h
      obtain ⟨b, hk, h1, _, h3⟩ := eq_bin (w := w) hok hdep h hv hu
      exact OpS.val (by simp only [execOp, ho, Sem.run_bind, eqGuard_run hok x y fun hh => h3 hh.1, Result.andThen_ok, h1]; rfl) hr (.one rfl (.bool _)) hk
    · obtain ⟨ty, hok, hdep, h⟩ := tyC_spec h
      obtain ⟨b, hk, _, h1, h3⟩ := eq_bin (w := w) hok hdep h hv hu
      exact OpS.val (by simp only [execOp, ho, Sem.run_bind, eqGuard_run hok x y fun hh => h3 hh.1, Result.andThen_ok, h1]; rfl) hr (.one rfl (.bool _)) hk
    · exact h.elim
theorem s_unOp {op : UnOp} {t : TypeId} {x : Operand} (ho : o.op = .unOp op t x)
    (h : evC T x fun v => unC op v fun r => K r O n) (hr : RelAt E N M β T O n a w) : OpS P o E N T K a w := by
  obtain ⟨v, h, hv⟩ := evC_spec hr h
  unfold unC at h
  split at h
  · exact OpS.val (by simp [execOp, ho, hv.int_inv, Op.unary, Op.intArith]) hr (.one rfl (.int _ _)) h
  · exact OpS.val (by simp [execOp, ho, hv.int_inv, Op.unary, Op.intBits, inot, ixor]) hr (.one rfl (.int _ _)) h
  · exact OpS.val (by simp [execOp, ho, hv.bool_inv, Op.unary]) hr (.one rfl (.bool _)) h
  · exact h.elim

theorem nthC_spec : ∀ {vs : List AV} {xs : List Value} {i : Nat} {κ : AV → Prop}, nthC vs i κ → VRs M β vs xs → ∃ v x, κ v ∧ xs[i]? = some x ∧ VR M β v x := by
  intro vs
  induction vs with
  | nil => intro xs i κ h; exact h.elim
  | cons v vs ih =>
    intro xs i κ h hv
    cases hv with
    | cons h1 h2 =>
      cases i with
      | zero => exact ⟨_, _, h, rfl, h1⟩
      | succ i => obtain ⟨u, x, hk, hx, hu⟩ := ih h h2; exact ⟨u, x, hk, by simpa using hx, hu⟩
theorem s_extract {i : Nat} {x : Operand} (ho : o.op = .extract x i)
    (h : evC T x fun v => (match v with | .tup vs => nthC vs i fun r => K r O n | _ => False)) (hr : RelAt E N M β T O n a w) : OpS P o E N T K a w := by
  obtain ⟨v, h, hv⟩ := evC_spec hr h
  split at h
  · obtain ⟨xs, e, hvs⟩ := hv.tup_inv
    obtain ⟨u, y, hk, hy, hu⟩ := nthC_spec h hvs
    refine OpS.val (x := y) ?_ hr hu hk
    have : (Instr.extract (a.eval x) i).run P w = .ok y w := by
      rw [e]
      simp only [Instr.extract, List.getElem?_toArray, hy]
      rfl
    simp only [execOp, ho, Sem.run_bind, this, Result.andThen_ok]; rfl
  · exact h.elim
theorem s_nilCheck {x : Operand} (ho : o.op = .nilCheck x)
    (h : evC T x fun v => (match v with
      | .ref i p => K (.ref i p) O n
      | .pp c p => K (.pp c p) O n
      | .fn (.func f) ps => K (.fn (.func f) ps) O n
      | _ => False)) (hr : RelAt E N M β T O n a w) : OpS P o E N T K a w := by
  obtain ⟨v, h, hv⟩ := evC_spec hr h
  split at h
  · obtain ⟨b, κ, _, e⟩ := hv.ref_inv
    exact OpS.val (x := a.eval x) (by simp [execOp, ho, e]) hr hv h
  · obtain ⟨_, b, κ, e, _⟩ := hv.pp_inv
    exact OpS.val (x := a.eval x) (by simp [execOp, ho, e]) hr hv h
  · obtain ⟨xs, e, _⟩ := hv.fn_inv
    exact OpS.val (x := a.eval x) (by simp [execOp, ho, e]) hr hv h
  · exact h.elim
theorem s_makeFunc {f : Fn} {fs cs : Array Operand} (ho : o.op = .makeFunc f fs cs)
    (h : fs.toList = [] ∧ evsC T cs.toList fun vs => K (.fn f vs) O n) (hr : RelAt E N M β T O n a w) : OpS P o E N T K a w := by
  obtain ⟨h0, h⟩ := h
  obtain ⟨us, hk, hvs⟩ := evsC_spec hr h
  have e : fs = #[] := by simpa using h0
  refine OpS.val (x := .func f #[] (cs.toList.map a.eval).toArray) ?_ hr (.one rfl (.fn hvs)) hk
  have : (cs.map a.eval) = (cs.toList.map a.eval).toArray := by apply Array.ext'; rw [Array.toList_map]
  simp only [execOp, ho, e, Instr.makeFunc, this, Array.map_empty]; rfl

/-! Places. -/
theorem poff_append (p q : List Stp) : poff (p ++ q) = poff p + poff q := by
  induction p with
  | nil => simp [poff]
  | cons s p ih => cases s <;> simp [poff, ih, Nat.add_assoc]
theorem nthTC_spec : ∀ {ts : List Ty} {fs : List Field} {f off : Nat} {κ : Ty → Nat → Prop}, nthTC ts f off κ → Ty.oks P off fs ts → ∃ te fd, κ te fd.offset ∧ fs[f]? = some fd ∧ te.ok P fd.type ∧ 0 < te.size := by
  intro ts
  induction ts with
  | nil => intro fs f off κ h; exact h.elim
  | cons t ts ih =>
    intro fs f off κ h hok
    cases fs with
    | nil => exact hok.elim
    | cons fd fs =>
      obtain ⟨h1, h2, h3, h4, h5⟩ := hok
      cases f with
      | zero => exact ⟨t, fd, by rw [h1]; exact h, rfl, h4, h3⟩
      | succ f => obtain ⟨te, fd', hk, hf, hr⟩ := ih h h5; exact ⟨te, fd', hk, by simpa using hf, hr⟩
theorem s_fieldAddr {s : TypeId} {f : Nat} {x : Operand} (ho : o.op = .fieldAddr s x f)
    (h : tyC P s fun ty => evC T x fun v => (match ty with | .st ts => fldA f ts v fun r => K r O n | _ => False)) (hr : RelAt E N M β T O n a w) : OpS P o E N T K a w := by
  obtain ⟨ty, hok, _, h⟩ := tyC_spec h
  obtain ⟨v, h, hv⟩ := evC_spec hr h
  split at h
  · rename_i ts
    obtain ⟨_, fs, hu, _, hoks⟩ := hok
    have run : ∀ (b off : Nat) (fd : Field) (te : Ty), fs[f]? = some fd → te.ok P fd.type → 0 < te.size → a.eval x = .pointer (some ⟨b, off, none⟩) →
        (execOp a.eval o).run P w = .ok (.value (.pointer (some ⟨b, off + fd.offset, none⟩))) w := fun b off fd te hf hte hpos e => by
      simp only [execOp, ho, Instr.fieldAt, Sem.run_bind, r_under hu, Result.andThen_ok, hf, e, Instr.sureAddr, Sem.run_pure, fieldPlace, r_size hte, Sem.run_ite]
      rw [if_neg (by omega)]
      simp
    cases v <;> first | exact h.elim | skip
    · rename_i i p
      obtain ⟨b, κ, hb, e⟩ := hv.ref_inv
      obtain ⟨te, fd, hk, hf, hte, hpos⟩ := nthTC_spec h hoks
      refine OpS.val (run b _ fd te (by simpa using hf) hte hpos e) hr (.one rfl ?_) hk
      have := RV.ref (M := M) (p := p ++ [.fld f fd.offset]) hb
      simpa [poff_append, poff] using this
    · rename_i c p
      obtain ⟨cc, b, off, e, hc, hm⟩ := hv.pp_inv
      obtain ⟨te, fd, hk, hf, hte, hpos⟩ := nthTC_spec h hoks
      refine OpS.val (run b _ fd te (by simpa using hf) hte hpos e) hr (.one rfl ?_) hk
      have := RV.pp (β := β) (p := p ++ [.fld f fd.offset]) hc hm
      simpa [poff_append, poff, Nat.add_assoc] using this
  · exact h.elim
theorem s_field {s : TypeId} {f : Nat} {x : Operand} (ho : o.op = .field s x f)
    (h : tyC P s fun ty => evC T x fun v => (match ty, v with
      | .st ts, .agg ps => nthTC ts f 0 fun te off => fldC ps f off fun q => fitC te q (K q O n)
      | _, _ => False)) (hr : RelAt E N M β T O n a w) : OpS P o E N T K a w := by
  obtain ⟨ty, hok, _, h⟩ := tyC_spec h
  obtain ⟨v, h, hv⟩ := evC_spec hr h
  split at h
  · rename_i ts ps
    obtain ⟨_, fs, hu, _, hoks⟩ := hok
    obtain ⟨te, fd, h, hf, hte, hpos⟩ := nthTC_spec h hoks
    obtain ⟨q, ⟨h1, h2, hk⟩, hq⟩ := fldC_spec _ _ _ _ h
    obtain ⟨cs, e, hcs⟩ := hv.agg_inv rfl rfl
    cases hcs with
    | agg hcs =>
      obtain ⟨hl, hqr⟩ := hq hcs
      rw [h1] at hqr hl
      obtain ⟨u, hrun, hu2⟩ := run_part (w := w) hte hpos hqr h1 h2 (multi_mem hqr) hl
      refine OpS.val (x := u) ?_ hr hu2 hk
      have hf' : fs[f]? = some fd := by simpa using hf
      simp only [execOp, ho, Instr.field, Sem.run_bind, r_under hu, Result.andThen_ok, hf', e, asAgg, Sem.run_pure, hrun]
  · exact h.elim
theorem s_indexAddr {t : TypeId} {x i : Operand} (ho : o.op = .indexAddr t x i)
    (h : tyC P t fun ty => evC T x fun v => evC T i fun u => intC u fun j => idxA ty (fun e κ => tyC P e fun te => κ te.size) v j fun r => K r O n) (hr : RelAt E N M β T O n a w) : OpS P o E N T K a w := by
  obtain ⟨ty, hok, _, h⟩ := tyC_spec h
  obtain ⟨v, h, hv⟩ := evC_spec hr h
  obtain ⟨u, h, hu⟩ := evC_spec hr h
  obtain ⟨k, j, rfl, h⟩ := intC_spec h
  have ei := hu.int_inv
  cases ty with
  | arr m e te =>
   cases v with
   | ref oo p =>
    obtain ⟨h0, h1, hk⟩ := h
    obtain ⟨b, κ, hb, ex⟩ := hv.ref_inv
    refine OpS.val (x := .pointer (some ⟨b, poff p + j.toNat * te.size, none⟩)) ?_ hr (.one rfl ?_) hk
    · simp only [execOp, ho, Instr.indexAt, ei, asIntOf, Sem.run_bind, Sem.run_pure, Result.andThen_ok, r_under hok.2.1, ex, Instr.sureAddr]
      rw [if_pos ⟨h0, h1⟩]
      simp [r_size hok.2.2.2]
    · have := RV.ref (M := M) (p := p ++ [.at j.toNat te.size]) hb
      simpa [poff_append, poff] using this
   | pp c p =>
    obtain ⟨h0, h1, hk⟩ := h
    obtain ⟨cc, b, off, ex, hc, hm⟩ := hv.pp_inv
    refine OpS.val (x := .pointer (some ⟨b, off + poff p + j.toNat * te.size, none⟩)) ?_ hr (.one rfl ?_) hk
    · simp only [execOp, ho, Instr.indexAt, ei, asIntOf, Sem.run_bind, Sem.run_pure, Result.andThen_ok, r_under hok.2.1, ex, Instr.sureAddr]
      rw [if_pos ⟨h0, h1⟩]
      simp [r_size hok.2.2.2]
    · have := RV.pp (β := β) (p := p ++ [.at j.toNat te.size]) hc hm
      simpa [poff_append, poff, Nat.add_assoc] using this
   | _ => exact h.elim
  | slice e =>
   cases v with
   | osl oo p s lo len =>
    obtain ⟨h0, h1, h⟩ := h
    obtain ⟨te, hte, _, rfl, hk⟩ := tyC_spec h
    obtain ⟨b, κ, base, cap, hb, ex, hc, _, ha⟩ := hv.osl_inv
    have hcap : cap ≠ 0 := by omega
    obtain rfl := ha.resolve_left hcap
    refine OpS.val (x := .pointer (some ⟨b, poff p + lo * te.size + j.toNat * te.size, none⟩)) ?_ hr (.one rfl ?_) hk
    · simp only [execOp, ho, Instr.indexAt, ei, asIntOf, Sem.run_bind, Sem.run_pure, Result.andThen_ok, r_under hok.2, ex]
      rw [if_pos ⟨h0, h1⟩]
      simp [r_size hte]
    · have := RV.ref (M := M) (p := p ++ [.at (lo + j.toNat) te.size]) hb
      simpa [poff_append, poff, Nat.add_mul, Nat.add_assoc] using this
   | sl c =>
    obtain ⟨h0, h1, h⟩ := h
    obtain ⟨te, hte, _, hez, hk⟩ := tyC_spec h
    obtain ⟨cc, base, cap, ex, hc, hrow, hcap, hm⟩ := hv.sl_inv
    obtain ⟨b, off, rfl, hm2⟩ := hm.resolve_left (by omega)
    refine OpS.val (x := .pointer (some ⟨b, off + j.toNat * te.size, none⟩)) ?_ hr (.one rfl ?_) hk
    · simp only [execOp, ho, Instr.indexAt, ei, asIntOf, Sem.run_bind, Sem.run_pure, Result.andThen_ok, r_under hok.2, ex]
      rw [if_pos ⟨h0, h1⟩]
      simp [r_size hte]
    · have := RV.pp (β := β) (p := [.at j.toNat c.esz]) hc hm2
      simpa [poff, hez] using this
   | _ => exact h.elim
  | _ => exact h.elim
end
end Go.Sy
/- Elements of values, slices of slices, lengths, conversions that make nothing. -/
namespace Go.Sy
open Go
set_option linter.unusedSimpArgs false
set_option linter.unusedVariables false
section
variable {E : Env} {N : Nat} {M : Pool} {β β' : Bmap} {T : TT} {O O' : OO} {n : Nat} {a : Act} {w w' : World} {P : Program} {o : Oper} {K : KK}

theorem RVs.take {sz : Nat} : ∀ {es : List AV} {cs : List Value}, RVs M β es cs → (∀ p ∈ es, p.csz = sz) → ∀ m, RVs M β (es.take m) (cs.take (m * sz)) := by
  intro es
  induction es with
  | nil => intro cs h hz m; cases h; simp; exact .nil
  | cons e es ih =>
    intro cs h hz m
    cases h with
    | cons h1 h2 =>
      rename_i c cs
      have hl := h1.length
      rw [hz e (by simp)] at hl
      cases m with
      | zero => simp; exact .nil
      | succ m =>
        simp only [List.take_succ_cons]
        rw [List.take_append, List.take_of_length_le (l := c) (by rw [hl, Nat.add_mul]; omega), show (m + 1) * sz - c.length = m * sz by rw [hl, Nat.add_mul]; omega]
        exact .cons h1 (ih h2 (fun p hp => hz p (by simp [hp])) m)
theorem RVs.drop {sz : Nat} : ∀ {es : List AV} {cs : List Value}, RVs M β es cs → (∀ p ∈ es, p.csz = sz) → ∀ m, RVs M β (es.drop m) (cs.drop (m * sz)) := by
  intro es
  induction es with
  | nil => intro cs h hz m; cases h; simp; exact .nil
  | cons e es ih =>
    intro cs h hz m
    cases h with
    | cons h1 h2 =>
      rename_i c cs
      have hl := h1.length
      rw [hz e (by simp)] at hl
      cases m with
      | zero => simp; exact .cons h1 h2
      | succ m =>
        simp only [List.drop_succ_cons]
        rw [List.drop_append, List.drop_of_length_le (l := c) (by rw [hl, Nat.add_mul]; omega), show (m + 1) * sz - c.length = m * sz by rw [hl, Nat.add_mul]; omega, List.nil_append]
        exact ih h2 (fun p hp => hz p (by simp [hp])) m
theorem RVs.part {sz : Nat} {es : List AV} {cs : List Value} (h : RVs M β es cs) (hz : ∀ p ∈ es, p.csz = sz) (lo len : Nat) (hl : lo + len ≤ es.length) : RVs M β ((es.drop lo).take len) (piece cs (lo * sz) (len * sz)) :=
  (h.drop hz lo).take (fun p hp => hz p (List.mem_of_mem_drop hp)) len
theorem s_index {t : TypeId} {x i : Operand} (ho : o.op = .index t x i)
    (h : tyC P t fun ty => evC T x fun v => evC T i fun u => intC u fun j =>
      (match ty with
      | .arr m _ te => idxV te m v j fun r => K r O n
      | .str => (match v with | .str s => 0 ≤ j ∧ j < s.length ∧ K (.int .u8 ((s.getD j.toNat 0).toNat : Int)) O n | _ => False)
      | _ => False)) (hr : RelAt E N M β T O n a w) : OpS P o E N T K a w := by
  obtain ⟨ty, hok, _, h1⟩ := tyC_spec h
  obtain ⟨v, h2, hv⟩ := evC_spec hr h1
  obtain ⟨u, h3, hu⟩ := evC_spec hr h2
  obtain ⟨k, j, rfl, h4⟩ := intC_spec h3
  have ei := hu.int_inv
  cases ty with
  | arr m e te =>
    have hok2 := hok
    obtain ⟨_, hu2, hpos, hte⟩ := hok
    have run : ∀ (cs : List Value) (y : Value), a.eval x = .agg cs.toArray → 0 ≤ j → j < m → (part e cs.toArray (j.toNat * te.size)).run P w = .ok y w → (execOp a.eval o).run P w = .ok (.value y) w := fun cs y ex h0 hm hp => by
      simp only [execOp, ho, Instr.index, ei, asIntOf, Sem.run_bind, Sem.run_pure, Result.andThen_ok, r_under hu2, ex]
      rw [if_pos ⟨h0, hm⟩]
      simp only [Sem.run_bind, r_size hte, Result.andThen_ok, hp]
    cases v with
    | ints k1 m1 xs =>
      obtain ⟨rfl, h0, hm, hs, hmm, hk⟩ := h4
      obtain ⟨cs, ex, hcs⟩ := hv.agg_inv rfl rfl
      cases hcs with
      | ints _ hl =>
        have hlt : j.toNat < xs.length := by omega
        have e1 : piece (xs.map (Value.int k1)) (j.toNat * te.size) te.size = [Value.int k1 (xs.getD j.toNat 0)] := by
          rw [hs]; simp only [piece, Nat.mul_one]
          rw [List.drop_eq_getElem_cons (by simpa using hlt)]
          simp [List.getD, hlt]
        obtain ⟨y, hrun, hy⟩ := run_part (M := M) (β := β) (w := w) (q := .int k1 (xs.getD j.toNat 0)) hte hpos (by rw [e1]; exact .int _ _) (by rw [hs]; rfl) (by rw [hmm]; rfl) rfl (by rw [hs]; simp; omega)
        exact OpS.val (run _ _ ex h0 hm hrun) hr hy hk
    | lst sz m1 es =>
      obtain ⟨rfl, h0, hm, hs, hlt, hk⟩ := h4
      obtain ⟨cs, ex, hcs⟩ := hv.agg_inv rfl rfl
      cases hcs with
      | lst hes hsz hl =>
        obtain ⟨hq1, hq2, hk⟩ := hk _ (List.getElem?_eq_getElem hlt)
        obtain ⟨g1, g2⟩ := hes.nth hsz (List.getElem?_eq_getElem hlt)
        have g3 := g2.mono (PLe.refl M) (BLe.nob β)
        rw [hs] at g1 g3
        obtain ⟨y, hrun, hy⟩ := run_part (w := w) hte hpos g3 hq1 hq2 (multi_mem g3) g1
        exact OpS.val (run _ _ ex h0 hm hrun) hr hy hk
    | arr sz ps =>
      obtain ⟨rfl, h0, hm, hs, hk⟩ := h4
      obtain ⟨cs, ex, hcs⟩ := hv.agg_inv rfl rfl
      have hlt : j.toNat < ps.length := by omega
      cases hcs with
      | arr hes hsz =>
        obtain ⟨hq1, hq2, hk⟩ := hk _ (List.getElem?_eq_getElem hlt)
        obtain ⟨g1, g2⟩ := hes.nth hsz (List.getElem?_eq_getElem hlt)
        rw [hs] at g1 g2
        obtain ⟨y, hrun, hy⟩ := run_part (w := w) hte hpos g2 hq1 hq2 (multi_mem g2) g1
        exact OpS.val (run _ _ ex h0 hm hrun) hr hy hk
    | _ => exact h4.elim
  | str =>
    cases v with
    | str s =>
      obtain ⟨h0, hlt, hk⟩ := h4
      have hlt2 : j.toNat < s.length := by omega
      refine OpS.val (x := .int .u8 ((s.getD j.toNat 0).toNat : Int)) ?_ hr (.one rfl (.int _ _)) hk
      simp only [execOp, ho, Instr.index, ei, asIntOf, Sem.run_bind, Sem.run_pure, Result.andThen_ok, r_under hok.2, hv.str_inv]
      have e2 : (⟨s.toArray⟩ : ByteArray)[j.toNat]? = some (s.getD j.toNat 0) := by
        rw [getElem?_pos _ _ (by simpa [ByteArray.size] using hlt2)]
        simp [List.getD, hlt2]
        rfl
      simp only [h0, if_true, e2]
      rfl
    | _ => exact h4.elim
  | _ => exact h4.elim

/-! Lengths. -/
theorem lenC_spec {v : AV} {x : Value} {κ : Nat → Prop} (h : lenC v κ) (hv : VR M β v x) : ∃ m, κ m ∧ ∃ b c, x = .slice b m c := by
  cases v with
  | sl c => obtain ⟨cc, base, cap, e, _⟩ := hv.sl_inv; exact ⟨_, h, _, _, e⟩
  | nils => exact ⟨_, h, _, _, hv.nils_inv⟩
  | osl i p sz lo len => obtain ⟨_, _, base, cap, _, e, _⟩ := hv.osl_inv; exact ⟨_, h, _, _, e⟩
  | _ => exact h.elim
theorem lenK_spec {t tt : TypeId} {v : AV} {x : Value} {κ : AV → Prop} (h : lenK P t v κ) (hv : VR M β v x) : ∃ m : Nat, κ (.int .i64 m) ∧ (Builtin.len_ #[t] tt #[x]).run P w = .ok (.int .i64 m) w := by
  obtain ⟨ty, hok, _, h⟩ := tyC_spec h
  cases ty with
  | slice e =>
    obtain ⟨m, hk, b, c, rfl⟩ := lenC_spec h hv
    exact ⟨m, hk, by simp [Builtin.len_, r_under hok.2, goInt]⟩
  | str =>
    cases v with
    | str s =>
      have e := hv.str_inv
      subst e
      have hs : (⟨s.toArray⟩ : ByteArray).size = s.length := by simp [ByteArray.size]
      exact ⟨s.length, h, by simp only [Builtin.len_, r_under hok.2, goInt, Sem.run_bind, Result.andThen_ok, List.getElem?_toArray, List.getElem?_cons_zero, Option.some.injEq, hs]; rfl⟩
    | _ => exact h.elim
  | arr m e te => exact ⟨m, h, by simp [Builtin.len_, r_under hok.2.1, goInt]⟩
  | _ => exact h.elim

/-! Slice expressions. -/
theorem optC_spec (hr : RelAt E N M β T O n a w) {x : Option Operand} {κ : Option Int → Prop} (h : optC T x κ) : ∃ i : Option Int, κ i ∧ (∀ j, i = some j → 0 ≤ j) ∧ (i = none → x = none) ∧ (∀ j, i = some j → ∃ k, x.map a.eval = some (.int k j)) := by
  cases x with
  | none => exact ⟨none, h, by simp, by simp, by simp⟩
  | some x =>
    obtain ⟨v, h, hv⟩ := evC_spec hr h
    obtain ⟨k, j, rfl, h0, h⟩ := intC_spec h
    exact ⟨some j, h, by simp; exact h0, by simp, fun j' e => by cases e; exact ⟨k, by simp [hv.int_inv]⟩⟩
theorem bounds_run (s : Bool) (len cap l h : Nat) (lo hi : Option Value) (hlo : (lo = none ∧ l = 0) ∨ ∃ k, lo = some (.int k l)) (hhi : (hi = none ∧ h = len) ∨ ∃ k, hi = some (.int k h)) (h1 : l ≤ h) (h2 : h ≤ cap) :
    (Instr.sliceBounds s len cap lo hi none).run P w = .ok (l, h, cap) w := by
  unfold Instr.sliceBounds
  rcases hhi with ⟨rfl, rfl⟩ | ⟨k, rfl⟩ <;> rcases hlo with ⟨rfl, rfl⟩ | ⟨k', rfl⟩
  all_goals simp [Instr.sliceBound, asIntOf, h1, h2]
theorem esz_pos {c : AV} (h : c.isRow = true) : True := trivial
theorem subC_spec {c : AV} {lo len : Nat} {κ : AV → Prop} (h : subC c lo len κ) : ∃ q, κ q ∧ q.isRow = true ∧ q.cnt = len ∧ q.esz = c.esz ∧ lo + len ≤ c.cnt ∧ c.isRow = true ∧
    ∀ {M : Pool} {β : Bmap} {cs : List Value}, RV M β c cs → (lo + len) * c.esz ≤ cs.length ∧ RV M β q (piece cs (lo * c.esz) (len * c.esz)) := by
  cases c with
  | ints k m xs =>
    obtain ⟨h0, h1, h2⟩ := h
    by_cases e : lo = 0 ∧ len = m
    · refine ⟨_, h1 e, rfl, e.2.symm, rfl, h0, rfl, fun {M β cs} hr => ?_⟩
      have := hr.length
      simp only [AV.csz] at this
      obtain ⟨rfl, rfl⟩ := e
      simp only [AV.esz, Nat.mul_one]
      exact ⟨by omega, by rw [← this, piece_all]; rw [this]; exact hr⟩
    · refine ⟨_, h2 e, rfl, rfl, rfl, h0, rfl, fun {M β cs} hr => ?_⟩
      cases hr with
      | ints _ hl =>
        simp only [AV.esz, Nat.mul_one, List.length_map]
        refine ⟨by omega, ?_⟩
        have : piece (xs.map (Value.int k)) lo len = ((xs.drop lo).take len).map (Value.int k) := by simp [piece, List.map_take, List.map_drop]
        rw [this]
        exact .ints k (by simp; omega)
  | lst sz m es =>
    obtain ⟨h0, h1, h2⟩ := h
    by_cases e : lo = 0 ∧ len = m
    · refine ⟨_, h1 e, rfl, e.2.symm, rfl, h0, rfl, fun {M β cs} hr => ?_⟩
      have := hr.length
      simp only [AV.csz] at this
      obtain ⟨rfl, rfl⟩ := e
      simp only [AV.esz, Nat.zero_mul, Nat.zero_add]
      exact ⟨by omega, by rw [← this, piece_all]; exact hr⟩
    · refine ⟨_, h2 e, rfl, rfl, rfl, h0, rfl, fun {M β cs} hr => ?_⟩
      cases hr with
      | lst hs hz hl =>
        simp only [AV.esz]
        have hcl := hs.length
        rw [cszs_const hz, hl] at hcl
        refine ⟨by rw [hcl]; exact Nat.mul_le_mul_right _ h0, ?_⟩
        have key := RVs.part hs hz lo len (by omega)
        exact .lst key (fun p hp => hz p (List.mem_of_mem_drop (List.mem_of_mem_take hp))) (by simp; omega)
  | arr sz ps =>
    obtain ⟨h0, h⟩ := h
    refine ⟨_, h, rfl, by simp [AV.cnt]; omega, rfl, h0, rfl, fun {M β cs} hr => ?_⟩
    cases hr with
    | arr hs hz =>
      simp only [AV.esz]
      have hcl := hs.length
      rw [cszs_const hz] at hcl
      refine ⟨by rw [hcl]; exact Nat.mul_le_mul_right _ h0, ?_⟩
      have key := RVs.part hs hz lo len (by omega)
      exact .arr key (fun p hp => hz p (List.mem_of_mem_drop (List.mem_of_mem_take hp)))
  | _ => exact h.elim

theorem run_slice {t e : TypeId} {te : Ty} (hu : P.underlying t = some (.slice e)) (hte : te.ok P e) {base : Option Addr} {len cap l h : Nat} {lo hi : Option Value}
    (hlo : (lo = none ∧ l = 0) ∨ ∃ k, lo = some (.int k l)) (hhi : (hi = none ∧ h = len) ∨ ∃ k, hi = some (.int k h)) (h1 : l ≤ h) (h2 : h ≤ cap) :
    (Instr.sliceAt t (.slice base len cap) lo hi none).run P w = .ok (.slice (if cap = l then base else base.map (·.add (l * te.size))) (h - l) (cap - l)) w := by
  unfold Instr.sliceAt
  simp only [Sem.run_bind, r_under hu, Result.andThen_ok, Instr.slice, bounds_run true len cap l h lo hi hlo hhi h1 h2, r_size hte]
  rfl
theorem run_sliceA {t e : TypeId} {te : Ty} {m : Nat} (hu : P.underlying t = some (.array m e)) (hte : te.ok P e) {b off l h : Nat} {lo hi : Option Value}
    (hlo : (lo = none ∧ l = 0) ∨ ∃ k, lo = some (.int k l)) (hhi : (hi = none ∧ h = m) ∨ ∃ k, hi = some (.int k h)) (h1 : l ≤ h) (h2 : h ≤ m) :
    (Instr.sliceAt t (.pointer (some ⟨b, off, none⟩)) lo hi none).run P w = .ok (.slice (some (if m = l then ⟨b, off, none⟩ else ⟨b, off + l * te.size, none⟩)) (h - l) (m - l)) w := by
  unfold Instr.sliceAt
  simp only [Sem.run_bind, r_under hu, Result.andThen_ok, Instr.sureAddr, Sem.run_pure, bounds_run false m m l h lo hi hlo hhi h1 h2, r_size hte, add_none]
theorem run_sliceP {t e q : TypeId} {te : Ty} {m : Nat} (hp : P.underlying t = some (.pointer q)) (hu : P.underlying q = some (.array m e)) (hte : te.ok P e) {b off l h : Nat} {lo hi : Option Value}
    (hlo : (lo = none ∧ l = 0) ∨ ∃ k, lo = some (.int k l)) (hhi : (hi = none ∧ h = m) ∨ ∃ k, hi = some (.int k h)) (h1 : l ≤ h) (h2 : h ≤ m) :
    (Instr.sliceAt t (.pointer (some ⟨b, off, none⟩)) lo hi none).run P w = .ok (.slice (some (if m = l then ⟨b, off, none⟩ else ⟨b, off + l * te.size, none⟩)) (h - l) (m - l)) w := by
  unfold Instr.sliceAt
  simp only [Sem.run_bind, r_under hp, Result.andThen_ok, Instr.slice, asAddr, Sem.run_pure, r_under hu, bounds_run false m m l h lo hi hlo hhi h1 h2, r_size hte, add_none]
theorem run_sliceS {t : TypeId} (hu : P.underlying t = some .string) {s : List UInt8} {l h : Nat} {lo hi : Option Value}
    (hlo : (lo = none ∧ l = 0) ∨ ∃ k, lo = some (.int k l)) (hhi : (hi = none ∧ h = s.length) ∨ ∃ k, hi = some (.int k h)) (h1 : l ≤ h) (h2 : h ≤ s.length) :
    (Instr.sliceAt t (.string ⟨s.toArray⟩) lo hi none).run P w = .ok (.string ⟨((s.take h).drop l).toArray⟩) w := by
  have hs : (⟨s.toArray⟩ : ByteArray).size = s.length := by simp [ByteArray.size]
  have he : (⟨s.toArray⟩ : ByteArray).extract l h = ⟨((s.take h).drop l).toArray⟩ := by
    apply ByteArray.ext
    rw [ByteArray.data_extract]
    apply Array.ext'
    simp [List.extract, List.drop_take]
  unfold Instr.sliceAt
  simp only [Sem.run_bind, r_under hu, Result.andThen_ok, Instr.slice, hs, Option.isSome_none, Bool.false_eq_true, if_false, bounds_run false s.length s.length l h lo hi hlo hhi h1 h2, he]
  rfl
theorem lo_of {lo : Option Operand} {i : Option Int} (h1 : ∀ j, i = some j → 0 ≤ j) (h2 : i = none → lo = none) (h3 : ∀ j, i = some j → ∃ k, lo.map a.eval = some (.int k j)) :
    (lo.map a.eval = none ∧ (i.getD 0).toNat = 0) ∨ ∃ k, lo.map a.eval = some (.int k ((i.getD 0).toNat : Nat)) := by
  cases i with
  | none => rw [h2 rfl]; exact .inl ⟨rfl, rfl⟩
  | some j => obtain ⟨k, e⟩ := h3 j rfl; refine .inr ⟨k, ?_⟩; rw [e]; simp [Int.toNat_of_nonneg (h1 j rfl)]
theorem hi_of {lo : Option Operand} {i : Option Int} (m : Nat) (h1 : ∀ j, i = some j → 0 ≤ j) (h2 : i = none → lo = none) (h3 : ∀ j, i = some j → ∃ k, lo.map a.eval = some (.int k j)) :
    (lo.map a.eval = none ∧ (i.map Int.toNat).getD m = m) ∨ ∃ k, lo.map a.eval = some (.int k ((i.map Int.toNat).getD m : Nat)) := by
  cases i with
  | none => rw [h2 rfl]; exact .inl ⟨rfl, rfl⟩
  | some j => obtain ⟨k, e⟩ := h3 j rfl; refine .inr ⟨k, ?_⟩; rw [e]; simp [Int.toNat_of_nonneg (h1 j rfl)]
theorem cutC_split {v : AV} {l : Nat} {h : Option Nat} {κ : AV → Prop} (hc : cutC v l h κ) :
    (∃ i p sz lo len, v = .osl i p sz lo len ∧ l ≤ h.getD len ∧ h.getD len ≤ len ∧ κ (.osl i p sz (lo + l) (h.getD len - l))) ∨
    (∃ c, v = .sl c ∧ l ≤ h.getD c.cnt ∧ h.getD c.cnt ≤ c.cnt ∧ subC c l (h.getD c.cnt - l) fun q => κ (.sl q)) ∨
    (v = .nils ∧ l = 0 ∧ h.getD 0 = 0 ∧ κ .nils) := by
  cases v <;> cases h <;> first | exact hc.elim | skip
  · obtain ⟨h1, h2⟩ := hc; exact .inr (.inl ⟨_, rfl, h1, Nat.le_refl _, h2⟩)
  · obtain ⟨h1, h2, h3⟩ := hc; exact .inr (.inl ⟨_, rfl, h1, h2, h3⟩)
  · obtain ⟨h1, h2⟩ := hc; exact .inr (.inr ⟨rfl, h1, rfl, h2⟩)
  · obtain ⟨h1, h2, h3⟩ := hc; exact .inr (.inr ⟨rfl, h1, h2, h3⟩)
  · obtain ⟨h1, h2⟩ := hc; exact .inl ⟨_, _, _, _, _, rfl, h1, Nat.le_refl _, h2⟩
  · obtain ⟨h1, h2, h3⟩ := hc; exact .inl ⟨_, _, _, _, _, rfl, h1, h2, h3⟩
theorem cutA_split {O : OO} {sz m : Nat} {v : AV} {l : Nat} {h : Option Nat} {κ : AV → Prop} (hc : cutA O sz m v l h κ) :
    (∃ i p, v = .ref i p ∧ l ≤ h.getD m ∧ h.getD m ≤ m ∧ (p = [] → objC O i fun ob => varC ob fun c => m ≤ c.csz) ∧ κ (.osl i p sz l (h.getD m - l))) ∨
    (∃ c p, v = .pp c p ∧ navC p c fun q => q.cnt = m ∧ q.esz = sz ∧ l ≤ h.getD m ∧ h.getD m ≤ m ∧ subC q l (h.getD m - l) fun r => κ (.sl r)) := by
  cases v <;> cases h <;> first | exact hc.elim | skip
  · obtain ⟨h1, h2, h3⟩ := hc; exact .inl ⟨_, _, rfl, h1, Nat.le_refl _, h2, h3⟩
  · obtain ⟨h1, h2, h3, h4⟩ := hc; exact .inl ⟨_, _, rfl, h1, h2, h3, h4⟩
  · exact .inr ⟨_, _, rfl, hc⟩
  · exact .inr ⟨_, _, rfl, hc⟩
theorem s_slice {t : TypeId} {x : Operand} {lo hi : Option Operand} (ho : o.op = .slice t x lo hi none)
    (h : tyC P t fun ty => evC T x fun v => optC T lo fun l => optC T hi fun h =>
      (match ty with
      | .arr m _ te => cutA O te.size m v (l.getD 0).toNat (h.map Int.toNat) fun r => K r O n
      | .slice e => tyC P e fun te => (∀ o p sz lo len, v = .osl o p sz lo len → sz = te.size) ∧ (∀ c, v = .sl c → c.esz = te.size) ∧ cutC v (l.getD 0).toNat (h.map Int.toNat) fun r => K r O n
      | .str => cutS v (l.getD 0).toNat (h.map Int.toNat) fun r => K r O n
      | .ptr a => tyC P a fun at' => (match at' with | .arr m _ te => cutA O te.size m v (l.getD 0).toNat (h.map Int.toNat) fun r => K r O n | _ => False)
      | _ => False)) (hr : RelAt E N M β T O n a w) : OpS P o E N T K a w := by
  obtain ⟨ty, hok, _, h1⟩ := tyC_spec h
  obtain ⟨v, h2, hv⟩ := evC_spec hr h1
  obtain ⟨i, h3, l1, l2, l3⟩ := optC_spec hr h2
  obtain ⟨j, h4, k1, k2, k3⟩ := optC_spec hr h3
  have L := lo_of (a := a) l1 l2 l3
  have arrc : ∀ {m : Nat} {te : Ty} {e : TypeId} (hte : te.ok P e) (hcut : cutA O te.size m v (i.getD 0).toNat (j.map Int.toNat) fun r => K r O n)
      (run : ∀ (b off l h : Nat) (lo hi : Option Value) (hlo : (lo = none ∧ l = 0) ∨ ∃ k, lo = some (.int k l)) (hhi : (hi = none ∧ h = m) ∨ ∃ k, hi = some (.int k h)) (h1 : l ≤ h) (h2 : h ≤ m),
        (Instr.sliceAt t (.pointer (some ⟨b, off, none⟩)) lo hi none).run P w = .ok (.slice (some (if m = l then ⟨b, off, none⟩ else ⟨b, off + l * te.size, none⟩)) (h - l) (m - l)) w), OpS P o E N T K a w := by
    intro m te e hte hcut run
    rcases cutA_split hcut with ⟨io, p, rfl, c1, c2, c3, hk⟩ | ⟨c, p, rfl, hk⟩
    · obtain ⟨b, κ, hb, ex⟩ := hv.ref_inv
      refine OpS.val (by simp only [execOp, ho, Sem.run_bind, ex, run b (poff p) _ _ _ _ L (hi_of m k1 k2 k3) c1 c2, Option.map_none, Result.andThen_ok]; rfl) hr (.one rfl (.osl hb (by omega) (fun hp => ?_) ?_)) hk
      · subst hp
        obtain ⟨ob, hl, hob⟩ := objC_spec (c3 rfl)
        obtain ⟨b', κ', hb', hor⟩ := hr.st.objs _ _ hl
        rw [hb] at hb'; cases hb'
        cases ob with
        | var c => obtain ⟨_, hz, _⟩ := hor; have : m ≤ c.csz := hob; omega
        | _ => exact hob.elim
      · by_cases e : m = (i.getD 0).toNat
        · exact .inl (by omega)
        · right; simp [e]
    · obtain ⟨cc, b, off, ex, hcc, hm⟩ := hv.pp_inv
      obtain ⟨q, ⟨c0, cz, c1, c2, hk⟩, hq⟩ := nav_spec _ _ _ hk
      obtain ⟨q1, q2⟩ := hq hcc
      obtain ⟨r, hk, hr1, hr2, _, hr3, _, hr4⟩ := subC_spec hk
      obtain ⟨g1, g2⟩ := hr4 q2
      refine OpS.val (by simp only [execOp, ho, Sem.run_bind, ex, run b (off + poff p) _ _ _ _ L (hi_of m k1 k2 k3) c1 c2, Option.map_none, Result.andThen_ok]; rfl) hr (.one rfl (.sl g2 hr1 hr2 (by omega) ?_)) hk
      by_cases e0 : (j.map Int.toNat).getD m - (i.getD 0).toNat = 0
      · exact .inl e0
      · right
        have e : ¬ m = (i.getD 0).toNat := by omega
        refine ⟨b, off + poff p + (i.getD 0).toNat * te.size, by simp [e], fun ii vv hvv => ?_⟩
        simp only [piece, List.getElem?_take, List.getElem?_drop] at hvv
        split at hvv
        · split at hvv
          · have := hm _ _ hvv
            rw [← cz]
            rw [show off + poff p + (i.getD 0).toNat * q.esz + ii = off + (poff p + ((i.getD 0).toNat * q.esz + ii)) by omega]
            exact this
          · cases hvv
        · cases hvv
  cases ty with
  | arr m e te => exact arrc hok.2.2.2 h4 fun b off l h lo hi hlo hhi h1 h2 => run_sliceA hok.2.1 hok.2.2.2 hlo hhi h1 h2
  | ptr q =>
    obtain ⟨at', hat, _, h5⟩ := tyC_spec h4
    cases at' with
    | arr m e te => exact arrc hat.2.2.2 h5 fun b off l h lo hi hlo hhi h1 h2 => run_sliceP hok.2 hat.2.1 hat.2.2.2 hlo hhi h1 h2
    | _ => exact h5.elim
  | str =>
    have key : ∃ s, v = .str s ∧ (i.getD 0).toNat ≤ (j.map Int.toNat).getD s.length ∧ (j.map Int.toNat).getD s.length ≤ s.length ∧ K (.str ((s.take ((j.map Int.toNat).getD s.length)).drop (i.getD 0).toNat)) O n := by
      cases v <;> cases j <;> first | exact h4.elim | skip
      · obtain ⟨h1, h2⟩ := h4; exact ⟨_, rfl, h1, Nat.le_refl _, by simpa using h2⟩
      · obtain ⟨h1, h2, h3⟩ := h4; exact ⟨_, rfl, h1, h2, h3⟩
    obtain ⟨s, rfl, c1, c2, hk⟩ := key
    exact OpS.val (by simp only [execOp, ho, Sem.run_bind, hv.str_inv, run_sliceS hok.2 L (hi_of s.length k1 k2 k3) c1 c2, Option.map_none, Result.andThen_ok]; rfl) hr (.one rfl (.str _)) hk
  | slice e =>
    obtain ⟨te, hte, _, z1, z2, h5⟩ := tyC_spec h4
    rcases cutC_split h5 with ⟨io, p, sz, lo', len, rfl, c1, c2, hk⟩ | ⟨c, rfl, c1, c2, hk⟩ | ⟨rfl, c1, c2, hk⟩
    · obtain rfl := z1 _ _ _ _ _ rfl
      obtain ⟨b, κ, base, cap, hb, ex, hc, hkk, ha⟩ := hv.osl_inv
      refine OpS.val (by simp only [execOp, ho, Sem.run_bind, ex, run_slice hok.2 hte L (hi_of len k1 k2 k3) c1 (Nat.le_trans c2 hc), Option.map_none, Result.andThen_ok]; rfl) hr
        (.one rfl (.osl hb (by omega) (fun hp => by have := hkk hp; omega) ?_)) hk
      by_cases e : cap = (i.getD 0).toNat
      · exact .inl (by omega)
      · right
        obtain rfl := ha.resolve_left (by omega)
        simp [e, Nat.add_mul, Nat.add_assoc]
    · obtain ⟨cc, base, cap, ex, hc, hrow, hcap, hm⟩ := hv.sl_inv
      have hez := z2 c rfl
      obtain ⟨q, hk, hq1, hq2, _, hq3, _, hq4⟩ := subC_spec hk
      obtain ⟨g1, g2⟩ := hq4 hc
      refine OpS.val (by simp only [execOp, ho, Sem.run_bind, ex, run_slice hok.2 hte L (hi_of c.cnt k1 k2 k3) c1 (Nat.le_trans c2 hcap), Option.map_none, Result.andThen_ok]; rfl) hr
        (.one rfl (.sl g2 hq1 hq2 (by omega) ?_)) hk
      by_cases e0 : (j.map Int.toNat).getD c.cnt - (i.getD 0).toNat = 0
      · exact .inl e0
      · right
        obtain ⟨b, off, rfl, hm2⟩ := hm.resolve_left (by omega)
        have e : ¬ cap = (i.getD 0).toNat := by omega
        refine ⟨b, off + (i.getD 0).toNat * te.size, by simp [e], fun ii vv hvv => ?_⟩
        simp only [piece, List.getElem?_take, List.getElem?_drop] at hvv
        split at hvv
        · have := hm2 _ _ hvv
          rw [← hez, Nat.add_assoc]
          exact this
        · cases hvv
    · have ex := hv.nils_inv
      refine OpS.val (by simp only [execOp, ho, Sem.run_bind, ex, run_slice hok.2 hte L (hi_of 0 k1 k2 k3) (by omega) (Nat.le_of_eq c2), Option.map_none, Result.andThen_ok]; rfl) hr (.one rfl ?_) hk
      rw [c1, c2]
      exact .nils
  | _ => exact h4.elim
end
end Go.Sy
/- Variables made, read, written. -/
namespace Go.Sy
open Go
set_option linter.unusedSimpArgs false
set_option linter.unusedVariables false
section
variable {E : Env} {N : Nat} {M : Pool} {β β' : Bmap} {T : TT} {O O' : OO} {n : Nat} {a : Act} {w w' : World} {P : Program} {o : Oper} {K : KK}

theorem alloc_new (w : World) (x : Obj) : (w.alloc x).heap[w.heap.size]? = some x := by
  show (w.heap.push x)[w.heap.size]? = _
  simp
theorem free0 (m : Nat) : freeCells (0, 0) m := .inl rfl
/-- A new variable. -/
theorem RelAt.newVar (h : RelAt E N M β T O n a w) (hok : E.ok n) {v : AV} {cs : Array Value} {e : TypeId} (hv : RV M β v cs.toList) :
    RelAt E N M (updB β n (w.heap.size, v.csz + 1)) T ((n, .var v) :: O) (n + 1) a (w.alloc (.cells cs e)) := by
  have hn : β n = none := h.ids n (Nat.le_refl _) hok
  refine h.next (h.st.alloc hn _ _ _ _ (fun _ => rfl) ?_) (updB_le hn _) (h.fresh _) (updB_low hok _ _) (Nat.le_succ _)
  exact ⟨by omega, by omega, cs, e, (0, 0), alloc_new _ _, free0 _, hv.mono (PLe.refl _) (updB_le hn _)⟩
theorem s_alloc (hK : ∀ v O' n', K v O' n' → ∀ o, n ≤ o → o < n' → E.ok o) {t : TypeId} (ho : o.op = .alloc t)
    (h : tyC P t fun ty => K (.ref n []) ((n, .var ty.zero) :: O) (n + 1)) (hr : RelAt E N M β T O n a w) : OpS P o E N T K a w := by
  obtain ⟨ty, hok, _, hk⟩ := tyC_spec h
  have hz : RV M β ty.zero ty.zv.cells.toList := (zero_vr ty β).cells (by have := zero_rv (M := M) ty β; exact multi_mem this)
  refine OpS.val (x := .pointer (some ⟨w.heap.size, 0, none⟩)) ?_ (hr.newVar (hK _ _ _ hk n (Nat.le_refl _) (Nat.lt_succ_self _)) (e := t) hz) (.one rfl (.ref (p := []) (by simp; rfl))) hk
  simp only [execOp, ho, Instr.alloc, Sem.run_bind, r_zero hok, Result.andThen_ok, newVar, newRow, run_newObj, Sem.run_pure]
  rfl
theorem s_box (hK : ∀ v O' n', K v O' n' → ∀ o, n ≤ o → o < n' → E.ok o) {t : TypeId} {x : Operand} (ho : o.op = .box t x)
    (h : evC T x fun v => v.mem = true ∧ K (.ref n []) ((n, .var v) :: O) (n + 1)) (hr : RelAt E N M β T O n a w) : OpS P o E N T K a w := by
  obtain ⟨v, ⟨hm, hk⟩, hv⟩ := evC_spec hr h
  refine OpS.val (x := .pointer (some ⟨w.heap.size, 0, none⟩)) ?_ (hr.newVar (hK _ _ _ hk n (Nat.le_refl _) (Nat.lt_succ_self _)) (e := t) (hv.cells hm)) (.one rfl (.ref (p := []) (by simp; rfl))) hk
  simp only [execOp, ho, Instr.box, Sem.run_bind, newVar, newRow, run_newObj, Sem.run_pure, Result.andThen_ok]
  rfl

/-- A variable read: its cells are known. -/
theorem run_loadVar {t : TypeId} {ty : Ty} (hok : ty.ok P t) {b off : Nat} {cs : List Value} {q : AV} (hc : CellsAt w b off cs) (hq : RV M β q cs) (hs : q.csz = ty.size) (hm : q.multi = ty.multi) :
    ∃ y, (loadVar t ⟨b, off, none⟩).run P w = .ok y w ∧ VR M β q y := by
  have hl := hq.length
  unfold loadVar
  simp only [Sem.run_bind, r_isAgg hok, Result.andThen_ok]
  cases hmm : ty.multi with
  | true =>
    refine ⟨.agg cs.toArray, ?_, .agg (by rw [hm, hmm]) hq⟩
    have := run_loadCells (P := P) hc
    rw [hl, hs] at this
    simp only [if_true, Sem.run_bind, r_size hok, Result.andThen_ok, this]
    rfl
  | false =>
    have h1 : ty.size = 1 := by cases ty <;> first | rfl | cases hmm
    rw [hs, h1] at hl
    match cs, hl with
    | [c], _ =>
      refine ⟨c, ?_, .one (by rw [hm, hmm]) hq⟩
      simp only [if_false, Bool.false_eq_true, run_load, hc.head]
theorem CellsAt.piece {b o m k : Nat} {cs : List Value} (h : CellsAt w b o cs) : CellsAt w b (o + m) (piece cs m k) := fun i v hv => by
  simp only [Sy.piece, List.getElem?_take, List.getElem?_drop] at hv
  split at hv
  · have := h _ _ hv; rwa [Nat.add_assoc]
  · cases hv
/-- An own object's cells. -/
theorem St.cells (h : St E M β O w) {i b κ : Nat} {ob : OB} {c : AV} (hl : lk O i = some ob) (hb : β i = some (b, κ)) (hc : obC ob fun x => x = c) : ∃ cc, RV M β c cc ∧ CellsAt w b 0 cc := by
  obtain ⟨b', κ', hb', hor⟩ := h.objs _ _ hl
  rw [hb] at hb'; cases hb'
  cases ob with
  | var c' =>
    obtain rfl : c' = c := hc
    obtain ⟨_, _, cs, e, fz, h1, _, h3⟩ := hor
    exact ⟨_, h3, by have := CellsAt.of_block h1 0 cs.toList.length; rwa [piece_all] at this⟩
  | row c' =>
    obtain rfl : c' = c := hc
    obtain ⟨_, _, hor⟩ := hor
    rcases hor with ⟨_, _, h3⟩ | ⟨_, cc, sp, e, fz, h1, _, h3, _⟩
    · exact ⟨[], h3, fun i v hv => by simp at hv⟩
    · refine ⟨cc, h3, ?_⟩
      have := CellsAt.of_block h1 0 cc.length
      simpa [piece] using this
  | map ks => exact hc.elim
  | gm f ks vs => exact hc.elim
theorem obC_spec {ob : OB} {κ : AV → Prop} (h : obC ob κ) : ∃ c, (obC ob fun x => x = c) ∧ κ c := by
  cases ob with
  | var c => exact ⟨c, rfl, h⟩
  | row c => exact ⟨c, rfl, h⟩
  | map ks => exact h.elim
  | gm f ks vs => exact h.elim
theorem s_load {t : TypeId} {x : Operand} (ho : o.op = .load t x)
    (h : tyC P t fun ty => evC T x fun v => loadC O v fun q => fitC ty q (K q O n)) (hr : RelAt E N M β T O n a w) : OpS P o E N T K a w := by
  obtain ⟨ty, hok, _, h1⟩ := tyC_spec h
  obtain ⟨v, h2, hv⟩ := evC_spec hr h1
  have fin : ∀ (b off : Nat) (q : AV) (cs : List Value), a.eval x = .pointer (some ⟨b, off, none⟩) → RV M β q cs → CellsAt w b off cs → fitC ty q (K q O n) → OpS P o E N T K a w := fun b off q cs ex hq hc hf => by
    obtain ⟨f1, f2, hk⟩ := hf
    obtain ⟨y, hrun, hy⟩ := run_loadVar (w := w) hok hc hq f1 f2
    refine OpS.val (x := y) ?_ hr hy hk
    simp only [execOp, ho, Instr.loadAt, ex, Instr.sureAddr, Sem.run_bind, Sem.run_pure, Result.andThen_ok, hrun]
  cases v with
  | ref i p =>
    obtain ⟨ob, hl, h3⟩ := objC_spec h2
    obtain ⟨c, hc, h4⟩ := obC_spec h3
    obtain ⟨b, κ, hb, ex⟩ := hv.ref_inv
    obtain ⟨cc, hcc, hca⟩ := hr.st.cells hl hb hc
    obtain ⟨q, hf, hq⟩ := nav_spec _ _ _ h4
    obtain ⟨_, hq2⟩ := hq hcc
    exact fin b (poff p) q _ ex hq2 (by have := hca.piece (m := poff p) (k := q.csz); rwa [Nat.zero_add] at this) hf
  | pp c p =>
    obtain ⟨q, hf, hq⟩ := nav_spec _ _ _ h2
    obtain ⟨cc, b, off, ex, hcc, hm⟩ := hv.pp_inv
    obtain ⟨_, hq2⟩ := hq hcc
    exact fin b (off + poff p) q _ ex (hq2.mono (PLe.refl _) (BLe.nob _)) (CellsAt.piece fun i v hi => hr.st.pool _ _ _ (hm i v hi)) hf
  | _ => exact h2.elim

theorem updC_row : ∀ (p : List Stp) (c x : AV) (K : AV → Prop), p ≠ [] → updC p c x K → updC p c x fun c' => K c' ∧ c'.isRow = c.isRow ∧ c'.esz = c.esz ∧ c'.cnt = c.cnt := by
  have mono : ∀ (p : List Stp) (c x : AV) (K K' : AV → Prop), (∀ v, K v → K' v) → updC p c x K → updC p c x K' := by
    intro p
    induction p with
    | nil => intro c x K K' hk h; obtain ⟨h1, h2⟩ : x.csz = c.csz ∧ K x := by simpa [updC] using h
             simpa [updC] using And.intro h1 (hk _ h2)
    | cons s p ih =>
      intro c x K K' hk h
      cases s with
      | fld j off =>
        cases c with
        | agg ps =>
          have mf : ∀ (ps : List AV) (j off : Nat) (L L' : List AV → Prop), (∀ v, L v → L' v) → fldU ps j off (fun q K' => updC p q x K') L → fldU ps j off (fun q K' => updC p q x K') L' := by
            intro ps
            induction ps with
            | nil => intro j off L L' _ h; exact h.elim
            | cons q qs ih2 =>
              intro j off L L' hL h
              cases j with
              | zero => exact ⟨h.1, ih _ _ _ _ (fun v hv => hL _ hv) h.2⟩
              | succ j => exact ⟨h.1, ih2 _ _ _ _ (fun v hv => hL _ hv) h.2⟩
          exact mf _ _ _ _ _ (fun v hv => hk _ hv) h
        | _ => exact h.elim
      | «at» i sz =>
        cases c with
        | ints k m xs =>
          obtain ⟨h1, h2, h3, h4⟩ := h
          refine ⟨h1, h2, h3, ?_⟩
          cases x <;> first | exact h4.elim | exact ⟨h4.1, hk _ h4.2⟩
        | arr s ps => exact ⟨h.1, h.2.1, fun q hq => ih _ _ _ _ (fun v hv => hk _ hv) (h.2.2 q hq)⟩
        | lst s m es => exact ⟨h.1, h.2.1, h.2.2.1, fun q hq => ih _ _ _ _ (fun v hv => hk _ hv) (h.2.2.2 q hq)⟩
        | _ => exact h.elim
  intro p c x K hp h
  cases p with
  | nil => exact absurd rfl hp
  | cons s p =>
    cases s with
    | fld j off =>
      cases c with
      | agg ps =>
        have mf : ∀ (ps : List AV) (j off : Nat) (L L' : List AV → Prop), (∀ v, L v → L' v) → fldU ps j off (fun q K' => updC p q x K') L → fldU ps j off (fun q K' => updC p q x K') L' := by
          intro ps
          induction ps with
          | nil => intro j off L L' _ h; exact h.elim
          | cons q qs ih2 =>
            intro j off L L' hL h
            cases j with
            | zero => exact ⟨h.1, mono _ _ _ _ _ (fun v hv => hL _ hv) h.2⟩
            | succ j => exact ⟨h.1, ih2 _ _ _ _ (fun v hv => hL _ hv) h.2⟩
        exact mf _ _ _ _ _ (fun v hv => ⟨hv, rfl, rfl, rfl⟩) h
      | _ => exact h.elim
    | «at» i sz =>
      cases c with
      | ints k m xs =>
        obtain ⟨h1, h2, h3, h4⟩ := h
        refine ⟨h1, h2, h3, ?_⟩
        cases x <;> first | exact h4.elim | exact ⟨h4.1, h4.2, rfl, rfl, rfl⟩
      | arr s ps => exact ⟨h.1, h.2.1, fun q hq => mono _ _ _ _ _ (fun v hv => ⟨hv, rfl, rfl, by simp [AV.cnt]⟩) (h.2.2 q hq)⟩
      | lst s m es => exact ⟨h.1, h.2.1, h.2.2.1, fun q hq => mono _ _ _ _ _ (fun v hv => ⟨hv, rfl, rfl, rfl⟩) (h.2.2.2 q hq)⟩
      | _ => exact h.elim
theorem updC_row' {p : List Stp} {c x : AV} {K : AV → Prop} (hp : p = [] → x.isRow = true ∧ x.esz = c.esz ∧ x.cnt = c.cnt) (hc : c.isRow = true) (h : updC p c x K) :
    updC p c x fun c' => K c' ∧ c'.isRow = c.isRow ∧ c'.esz = c.esz ∧ c'.cnt = c.cnt := by
  by_cases e : p = []
  · obtain ⟨h1, h2, h3⟩ := hp e
    subst e
    obtain ⟨g1, g2⟩ : x.csz = c.csz ∧ K x := by simpa [updC] using h
    simp only [updC]
    exact ⟨g1, g2, by rw [h1, hc], h2, h3⟩
  · exact updC_row _ _ _ _ e h
theorem splice_length {cs xs : List Value} {o : Nat} (h : o + xs.length ≤ cs.length) : (splice cs o xs).length = cs.length := by
  simp only [splice, List.length_append, List.length_take, List.length_drop]; omega
theorem splice_append {cs sp xs : List Value} {o : Nat} (h : o + xs.length ≤ cs.length) : splice (cs ++ sp) o xs = splice cs o xs ++ sp := by
  simp only [splice]
  rw [List.take_append_of_le_length (by omega), List.drop_append_of_le_length (by omega)]
  simp

/-- A piece of an own object is written. -/
theorem RelAt.writeAt (hr : RelAt E N M β T O n a w) {i : Nat} {p : List Stp} {u : AV} {κ : OO → Prop} (h : updO O i p u κ) (off : Nat) {dd : List Value} (hpos : 0 < dd.length)
    (hone : ∀ x ∈ dd, x.oneCell' = true) (hx : ∀ {c : AV} {cs : List Value}, lk O i = some (.var c) ∨ lk O i = some (.row c) → RV M β c cs →
      ∃ z, poff p + z ≤ cs.length ∧ off + dd.length ≤ z ∧ RV M β u (splice (piece cs (poff p) z) off dd) ∧ (splice (piece cs (poff p) z) off dd).length = z) :
    ∃ O' w' b κ0, β i = some (b, κ0) ∧ κ O' ∧ (storeCells ⟨b, poff p + off, none⟩ dd).run P w = .ok () w' ∧ RelAt E N M β T O' n a w' := by
  obtain ⟨ob, K', hl, hu, hO⟩ := updO_spec h
  obtain ⟨b, κ0, hb, hor⟩ := hr.st.objs _ _ hl
  cases ob with
  | var c =>
    obtain ⟨c', hk, hz, hrv⟩ := upd_spec _ _ _ _ hu
    obtain ⟨hk0, hcz, cs, e, fz, h1, h2, h3⟩ := hor
    obtain ⟨z, hz1, hz2, hru, hzl⟩ := hx (.inl hl) h3
    obtain ⟨_, hrv2⟩ := hrv h3 hru
    rw [splice_splice _ _ _ _ _ hz2 hz1] at hrv2
    obtain ⟨O', hko, hlk⟩ := hO _ hk
    have hlt : b < w.heap.size := (Array.getElem?_eq_some_iff.1 h1).1
    have hcs : cs = cs.toList.toArray := by simp
    have hle : poff p + off + dd.length ≤ cs.toList.length := by omega
    have hrun := run_storeCells (P := P) (b := b) (o := poff p + off) (e := e) (fz := fz) dd 0 w cs.toList (by rw [← hcs]; exact h1) (by simpa using hle) (by simpa using h2) hone
    refine ⟨O', _, b, κ0, hb, hko, hrun, hr.next (hr.st.put hl hb hk0 hlk ?_) (BLe.refl _) hr.ids (fun _ _ => rfl) (Nat.le_refl _)⟩
    refine ⟨hk0, by rw [hz]; exact hcz, _, e, fz, by rw [getElem?_putBlock hlt]; simp; rfl, ?_, by simpa using hrv2⟩
    have := splice_length hle
    simp only [List.size_toArray, Nat.add_zero, this]
    simpa using h2
  | row c =>
    obtain ⟨hp, hu⟩ := hu
    obtain ⟨hrow, hez, hor⟩ := hor
    obtain ⟨c', ⟨hk, e1, e2, e3⟩, hz, hrv⟩ := upd_spec _ _ _ _ (updC_row' hp hrow hu)
    rcases hor with ⟨_, _, h3⟩ | ⟨hk0, cc, sp, e, fz, h1, h2, h3, h4⟩
    · obtain ⟨z, hz1, hz2, _⟩ := hx (.inr hl) h3
      simp only [List.length_nil] at hz1
      omega
    · obtain ⟨z, hz1, hz2, hru, hzl⟩ := hx (.inr hl) h3
      obtain ⟨_, hrv2⟩ := hrv h3 hru
      rw [splice_splice _ _ _ _ _ hz2 hz1] at hrv2
      obtain ⟨O', hko, hlk⟩ := hO _ hk
      have hle : poff p + off + dd.length ≤ cc.length := by omega
      have hlt : b < w.heap.size := (Array.getElem?_eq_some_iff.1 h1).1
      have hrun := run_storeCells (P := P) (b := b) (o := poff p + off) (e := e) (fz := fz) dd 0 w (cc ++ sp) h1 (by simp; omega) h2 hone
      rw [Nat.add_zero, splice_append hle] at hrun
      refine ⟨O', _, b, κ0, hb, hko, hrun, hr.next (hr.st.put hl hb hk0 hlk ?_) (BLe.refl _) hr.ids (fun _ _ => rfl) (Nat.le_refl _)⟩
      have := splice_length hle
      refine ⟨by rw [e1]; exact hrow, by rw [e2]; exact hez, .inr ⟨hk0, _, sp, e, fz, by rw [getElem?_putBlock hlt]; simp, ?_, hrv2, ?_⟩⟩
      · simp only [List.length_append, this]; simpa using h2
      · rw [e2, ← h4]; simp [this]
  | map ks => exact hu.elim
  | gm f ks vs => exact hu.elim
theorem RelAt.write (hr : RelAt E N M β T O n a w) {i : Nat} {p : List Stp} {u : AV} {xc : List Value} {κ : OO → Prop} (h : updO O i p u κ) (hx : RV M β u xc) (hpos : 0 < xc.length) :
    ∃ O' w' b κ0, β i = some (b, κ0) ∧ κ O' ∧ (storeCells ⟨b, poff p, none⟩ xc).run P w = .ok () w' ∧ RelAt E N M β T O' n a w' := by
  have key : ∀ {c : AV} {cs : List Value}, lk O i = some (.var c) ∨ lk O i = some (.row c) → RV M β c cs → poff p + xc.length ≤ cs.length := by
    intro c cs hl hc
    obtain ⟨ob, K', hl', hu, _⟩ := updO_spec h
    rcases hl with hl | hl
    · rw [hl] at hl'; cases hl'
      obtain ⟨c', _, _, hrv⟩ := upd_spec _ _ _ _ hu
      exact (hrv hc hx).1
    · rw [hl] at hl'; cases hl'
      obtain ⟨c', _, _, hrv⟩ := upd_spec _ _ _ _ hu.2
      exact (hrv hc hx).1
  have := hr.writeAt (P := P) h 0 hpos hx.one fun {c cs} hl hc => by
    have hle := key hl hc
    have hpl : (piece cs (poff p) xc.length).length = xc.length := by simp [piece]; omega
    have hsp : splice (piece cs (poff p) xc.length) 0 xc = xc := by
      simp only [splice, List.take_zero, List.nil_append, Nat.zero_add]
      rw [List.drop_of_length_le (by omega), List.append_nil]
    exact ⟨xc.length, hle, by omega, by rw [hsp]; exact hx, by rw [hsp]⟩
  simpa using this
theorem s_store {t : TypeId} {x y : Operand} (ho : o.op = .store t x y)
    (h : tyC P t fun ty => evC T x fun v => evC T y fun u => u.mem = true ∧ u.csz = ty.size ∧ 0 < ty.size ∧
      (match v with
      | .ref i p => updO O i p u fun O' => K .junk O' n
      | _ => False)) (hr : RelAt E N M β T O n a w) : OpS P o E N T K a w := by
  obtain ⟨ty, hok, _, h1⟩ := tyC_spec h
  obtain ⟨v, h2, hv⟩ := evC_spec hr h1
  obtain ⟨u, ⟨hm, hs, hpos, h3⟩, hu⟩ := evC_spec hr h2
  cases v with
  | ref i p =>
    have hx := hu.cells hm
    have hl := hx.length
    obtain ⟨O', w', b, κ0, hb, hk, hrun, hr'⟩ := hr.write (P := P) h3 hx (by omega)
    obtain ⟨b', κ', hb', ex⟩ := hv.ref_inv
    rw [hb] at hb'; cases hb'
    refine OpS.skip ?_ hr' hk
    have hsz : (a.eval y).cells.size = ty.size := by rw [← hs, ← hl]; simp
    simp only [execOp, ho, Instr.storeAt, ex, Instr.sureAddr, Sem.run_bind, Sem.run_pure, Result.andThen_ok, storeVar, r_size hok, hsz, ne_eq, not_true, if_false, hrun]
  | _ => exact h3.elim
end
end Go.Sy
/- Structs, arrays and rows put together. -/
namespace Go.Sy
open Go
set_option linter.unusedSimpArgs false
set_option linter.unusedVariables false
section
variable {E : Env} {N : Nat} {M : Pool} {β β' : Bmap} {T : TT} {O O' : OO} {n : Nat} {a : Act} {w w' : World} {P : Program} {o : Oper} {K : KK}

inductive Parts (M : Pool) (β : Bmap) : List (Nat × AV) → List (Nat × Value) → Prop
  | nil : Parts M β [] []
  | cons {j : Nat} {v : AV} {x : Value} {l : List (Nat × AV)} {m : List (Nat × Value)} (h : RV M β v x.cells.toList) (hs : Parts M β l m) : Parts M β ((j, v) :: l) ((j, x) :: m)
theorem partsC_spec (hr : RelAt E N M β T O n a w) : ∀ {ps : List (Nat × Operand)} {κ : List (Nat × AV) → Prop}, partsC T ps κ → ∃ l, κ l ∧ Parts M β l (ps.map fun p => (p.1, a.eval p.2)) := by
  intro ps
  induction ps with
  | nil => intro κ h; exact ⟨[], h, .nil⟩
  | cons p ps ih =>
    intro κ h
    obtain ⟨j, x⟩ := p
    obtain ⟨v, ⟨hm, h⟩, hv⟩ := evC_spec hr h
    obtain ⟨l, hk, hl⟩ := ih h
    exact ⟨_, hk, .cons (hv.cells hm) hl⟩
theorem fold_splice : ∀ (xs : List Value) (k : Nat) (cs : Array Value) (off : Nat), off + k + xs.length ≤ cs.size →
    ((xs.zipIdx k).foldl (fun cs (c, j) => cs.setIfInBounds (off + j) c) cs).toList = splice cs.toList (off + k) xs := by
  intro xs
  induction xs with
  | nil => intro k cs off h; simp [splice]
  | cons x xs ih =>
    intro k cs off h
    simp only [List.length_cons] at h
    simp only [List.zipIdx_cons, List.foldl_cons]
    rw [ih (k + 1) _ off (by simp; omega)]
    have hlt : off + k < cs.toList.length := by simp; omega
    simp only [splice, Array.toList_setIfInBounds]
    rw [List.set_eq_take_append_cons_drop, if_pos hlt]
    have e1 : List.take (off + (k + 1)) (List.take (off + k) cs.toList ++ x :: List.drop (off + k + 1) cs.toList) = List.take (off + k) cs.toList ++ [x] := by
      rw [List.take_append, List.take_of_length_le (by simp; omega), show off + (k + 1) - (List.take (off + k) cs.toList).length = 1 by simp at hlt ⊢; omega]
      simp
    have e2 : List.drop (off + (k + 1) + xs.length) (List.take (off + k) cs.toList ++ x :: List.drop (off + k + 1) cs.toList) = List.drop (off + k + (x :: xs).length) cs.toList := by
      rw [List.drop_append, List.drop_of_length_le (by simp; omega), show off + (k + 1) + xs.length - (List.take (off + k) cs.toList).length = xs.length + 1 by simp at hlt ⊢; omega]
      simp only [List.nil_append, List.drop_succ_cons, List.drop_drop, List.length_cons]
      congr 1; omega
    rw [e1, e2]
    simp
theorem fill_cons {place : Nat → Option (Nat × Nat)} {cells : Array Value} {i off size : Nat} {x : Value} {rest : List (Nat × Value)} (hp : place i = some (off, size)) (hx : x.cells.size = size) (hl : off + size ≤ cells.size) :
    ∃ cells', Instr.fill place cells ((i, x) :: rest) = Instr.fill place cells' rest ∧ cells'.toList = splice cells.toList off x.cells.toList := by
  refine ⟨x.cells.zipIdx.foldl (fun cs (c, j) => cs.setIfInBounds (off + j) c) cells, ?_, ?_⟩
  · conv => lhs; unfold Instr.fill
    simp only [hp]
    rw [if_neg (by simp [hx]; omega)]
  · have := fold_splice x.cells.toList 0 cells off (by simp; omega)
    rw [← Array.foldl_toList, Array.toList_zipIdx]
    simpa using this

/-! Structs. -/
theorem setC_spec : ∀ {ps : List AV} {j : Nat} {v : AV} {κ : List AV → Prop}, setC ps j v κ → ∃ ps', κ ps' ∧ j < ps.length ∧ ps'.map AV.csz = ps.map AV.csz ∧ v.csz = (ps.map AV.csz).getD j 0 ∧
    ∀ {M : Pool} {β : Bmap} {cs xc : List Value}, RVs M β ps cs → RV M β v xc → AV.cszs (ps.take j) + xc.length ≤ cs.length ∧ RVs M β ps' (splice cs (AV.cszs (ps.take j)) xc) := by
  intro ps
  induction ps with
  | nil => intro j v κ h; exact h.elim
  | cons p ps ih =>
    intro j v κ h
    cases j with
    | zero =>
      obtain ⟨hz, hk⟩ := h
      refine ⟨_, hk, by simp, by simp [hz], by simp [hz], fun {M β cs xc} hp hx => ?_⟩
      cases hp with
      | cons h1 h2 =>
        have l1 := h1.length
        have l2 := hx.length
        refine ⟨by simp [AV.cszs]; omega, ?_⟩
        have e : ∀ c cs : List Value, c.length = p.csz → splice (c ++ cs) (AV.cszs (List.take 0 (p :: ps))) xc = xc ++ cs := fun c cs hc => by
          simp [splice, AV.cszs, l2, hz, ← hc]
        rw [e _ _ l1]
        exact .cons hx h2
    | succ j =>
      obtain ⟨ps', hk, hj, hm, hv, hr⟩ := ih h
      refine ⟨_, hk, by simp; exact hj, by simp [hm], by simpa using hv, fun {M β cs xc} hp hx => ?_⟩
      cases hp with
      | cons h1 h2 =>
        rename_i c cs
        have l1 := h1.length
        obtain ⟨g1, g2⟩ := hr h2 hx
        simp only [List.take_succ_cons, AV.cszs]
        refine ⟨by simp; omega, ?_⟩
        have e : splice (c ++ cs) (p.csz + AV.cszs (List.take j ps)) xc = c ++ splice cs (AV.cszs (List.take j ps)) xc := by
          simp only [splice, ← l1]
          rw [List.take_append, List.take_of_length_le (by omega), List.drop_append, List.drop_of_length_le (by omega), show c.length + AV.cszs (List.take j ps) - c.length = AV.cszs (List.take j ps) by omega,
            show c.length + AV.cszs (List.take j ps) + xc.length - c.length = AV.cszs (List.take j ps) + xc.length by omega]
          simp
        rw [e]
        exact .cons h1 g2
theorem cszs_take {ps qs : List AV} (h : ps.map AV.csz = qs.map AV.csz) (j : Nat) : AV.cszs (ps.take j) = AV.cszs (qs.take j) := by
  induction ps generalizing qs j with
  | nil => cases qs with
    | nil => rfl
    | cons q qs => simp at h
  | cons p ps ih =>
    cases qs with
    | nil => simp at h
    | cons q qs =>
      simp only [List.map_cons, List.cons.injEq] at h
      cases j with
      | zero => rfl
      | succ j => simp only [List.take_succ_cons, AV.cszs, h.1, ih h.2]
theorem bldS_spec {place : Nat → Option (Nat × Nat)} {zs : List AV} (hpl : ∀ j, j < zs.length → place j = some (AV.cszs (zs.take j), (zs.map AV.csz).getD j 0)) :
    ∀ {l : List (Nat × AV)} {ps : List AV} {κ : List AV → Prop} {m : List (Nat × Value)} {cells : Array Value}, bldS ps l κ → ps.map AV.csz = zs.map AV.csz → Parts M β l m → RVs M β ps cells.toList →
      ∃ ps' cells', κ ps' ∧ Instr.fill place cells m = some cells' ∧ RVs M β ps' cells'.toList := by
  intro l
  induction l with
  | nil =>
    intro ps κ m cells h hz hp hr
    cases hp
    exact ⟨ps, cells, h, rfl, hr⟩
  | cons p l ih =>
    intro ps κ m cells h hz hp hr
    obtain ⟨j, v⟩ := p
    cases hp with
    | cons hx hps =>
      rename_i x m
      obtain ⟨ps', hk, hj, hm, hv, hrr⟩ := setC_spec h
      obtain ⟨g1, g2⟩ := hrr hr hx
      have hlen : ps.length = zs.length := by have := congrArg List.length hz; simpa using this
      have hxl := hx.length
      obtain ⟨cells', hf, hc⟩ := fill_cons (rest := m) (cells := cells) (hpl j (by omega)) (x := x) (by rw [← hz, ← hv, ← hxl]; simp) (by
        rw [cszs_take hz.symm, ← hz, ← hv, ← hxl]
        simpa using g1)
      obtain ⟨ps2, c2, hk2, hf2, hr2⟩ := ih (cells := cells') hk (hm.trans hz) hps (by rw [hc, cszs_take hz.symm]; exact g2)
      exact ⟨ps2, c2, hk2, by rw [hf]; exact hf2, hr2⟩
theorem oks_place : ∀ {ts : List Ty} {fs : List Field} {off : Nat}, Ty.oks P off fs ts → ∀ (w : World), ∃ pl : List (Nat × Nat), (fs.mapM fun f => (do pure (f.offset, ← sizeOf f.type) : Sem (Nat × Nat))).run P w = .ok pl w ∧
    pl.length = ts.length ∧ ∀ j, j < ts.length → pl[j]? = some (off + AV.cszs ((Ty.zeros ts).take j), ((Ty.zeros ts).map AV.csz).getD j 0) := by
  intro ts
  induction ts with
  | nil =>
    intro fs off h w
    cases fs with
    | nil => exact ⟨[], rfl, rfl, fun j hj => by simp at hj⟩
    | cons f fs => exact h.elim
  | cons t ts ih =>
    intro fs off h w
    cases fs with
    | nil => exact h.elim
    | cons f fs =>
      obtain ⟨h1, _, _, h4, h5⟩ := h
      obtain ⟨pl, hrun, hl, hj⟩ := ih h5 w
      refine ⟨(f.offset, t.size) :: pl, ?_, by simp [hl], fun j hlt => ?_⟩
      · simp only [List.mapM_cons, Sem.run_bind, r_size h4, Result.andThen_ok, Sem.run_pure, hrun]
      · cases j with
        | zero => simp [Ty.zeros, AV.cszs, h1, zero_csz.1]
        | succ j =>
          simp only [List.length_cons, Nat.add_lt_add_iff_right] at hlt
          simp only [List.getElem?_cons_succ, hj j hlt, Ty.zeros, List.take_succ_cons, AV.cszs, List.map_cons, List.getD_cons_succ, zero_csz.1]
          simp [Nat.add_assoc]

/-! Arrays and rows. -/
theorem seqI_spec {k : IntKind} : ∀ {l : List (Nat × AV)} {i : Nat} {κ : Nat → List Int → Prop} {m : List (Nat × Value)}, seqI k i l κ → Parts M β l m → ∃ xs, κ (i + xs.length) xs ∧
    ∀ (place : Nat → Option (Nat × Nat)) (pre : List Value) (d : Nat) (z : Value) (cells : Array Value), (∀ j, place j = some (j * 1, 1)) → pre.length = i → xs.length ≤ d → cells.toList = pre ++ List.replicate d z → z = Value.int k 0 →
      ∃ cells', Instr.fill place cells m = some cells' ∧ cells'.toList = pre ++ (xs.map (Value.int k) ++ List.replicate (d - xs.length) z) := by
  intro l
  induction l with
  | nil =>
    intro i κ m h hp
    cases hp
    exact ⟨[], h, fun place pre d z cells _ _ _ hc _ => ⟨cells, rfl, by simpa using hc⟩⟩
  | cons p l ih =>
    intro i κ m h hp
    obtain ⟨j, v⟩ := p
    cases hp with
    | cons hx hps =>
      rename_i x m
      have one : ∀ (y : Int) (hx : RV M β (.int k y) x.cells.toList) (pre : List Value) (d : Nat) (z : Value) (cells : Array Value) (place : Nat → Option (Nat × Nat)), (∀ j, place j = some (j * 1, 1)) → pre.length = j → 1 ≤ d → cells.toList = pre ++ List.replicate d z →
          ∃ cells', Instr.fill place cells ((j, x) :: m) = Instr.fill place cells' m ∧ cells'.toList = (pre ++ [Value.int k y]) ++ List.replicate (d - 1) z := by
        intro y hx pre d z cells place hpl hpre hd hc
        have hxc : x.cells.toList = [Value.int k y] := by
          generalize hxx : x.cells.toList = xl at hx
          cases hx; rfl
        have hsz : x.cells.size = 1 := by rw [← Array.length_toList, hxc]; rfl
        have hcl : cells.size = pre.length + d := by rw [← Array.length_toList, hc]; simp
        obtain ⟨cells', h1, h2⟩ := fill_cons (rest := m) (cells := cells) (hpl j) hsz (by omega)
        refine ⟨cells', h1, ?_⟩
        rw [h2, hc, hxc]
        simp only [splice, Nat.mul_one, List.length_singleton]
        rw [List.take_append_of_le_length (by omega), List.take_of_length_le (by omega), List.drop_append, List.drop_of_length_le (by omega)]
        simp [hpre, List.drop_replicate]
      simp only [seqI] at h
      split at h
      · rename_i e
        subst e
        cases v with
        | int k' y =>
          obtain ⟨rfl, h⟩ := h
          obtain ⟨xs, hk, hf⟩ := ih h hps
          refine ⟨y :: xs, by simpa [Nat.add_assoc, Nat.add_comm 1] using hk, fun place pre d z cells hpl hpre hd hc hz => ?_⟩
          simp only [List.length_cons] at hd
          obtain ⟨cells', h1, h2⟩ := one y hx pre d z cells place hpl hpre (by omega) hc
          obtain ⟨c2, h3, h4⟩ := hf place (pre ++ [Value.int k' y]) (d - 1) z cells' hpl (by simp [hpre]) (by omega) h2 hz
          refine ⟨c2, by rw [h1, h3], ?_⟩
          rw [h4, show d - 1 - xs.length = d - (y :: xs).length by simp only [List.length_cons]; omega]
          simp only [List.append_assoc, List.map_cons, List.cons_append, List.nil_append]
        | _ => exact h.elim
      · obtain ⟨hlt, h⟩ := h
        cases v with
        | int k' y =>
          obtain ⟨rfl, h⟩ := h
          obtain ⟨xs, hk, hf⟩ := ih h hps
          refine ⟨List.replicate (j - i) 0 ++ y :: xs, ?_, fun place pre d z cells hpl hpre hd hc hz => ?_⟩
          · rw [show i + (List.replicate (j - i) (0 : Int) ++ y :: xs).length = j + 1 + xs.length by simp; omega]
            exact hk
          · simp only [List.length_append, List.length_replicate, List.length_cons] at hd
            have hc' : cells.toList = (pre ++ List.replicate (j - i) z) ++ List.replicate (d - (j - i)) z := by
              rw [hc, List.append_assoc, List.replicate_append_replicate, show j - i + (d - (j - i)) = d by omega]
            obtain ⟨cells', h1, h2⟩ := one y hx (pre ++ List.replicate (j - i) z) (d - (j - i)) z cells place hpl (by simp [hpre]; omega) (by omega) hc'
            obtain ⟨c2, h3, h4⟩ := hf place (pre ++ List.replicate (j - i) z ++ [Value.int k' y]) (d - (j - i) - 1) z cells' hpl (by simp [hpre]; omega) (by omega) h2 hz
            refine ⟨c2, by rw [h1, h3], ?_⟩
            rw [h4, show d - (j - i) - 1 - xs.length = d - (List.replicate (j - i) (0 : Int) ++ y :: xs).length by simp; omega, hz]
            simp only [List.append_assoc, List.map_append, List.map_replicate, List.map_cons, List.cons_append, List.nil_append]
        | _ => exact h.elim
theorem seqV_spec {sz : Nat} : ∀ {l : List (Nat × AV)} {i : Nat} {κ : Nat → List AV → Prop} {m : List (Nat × Value)}, seqV sz i l κ → Parts M β l m → ∃ vs, κ (i + vs.length) vs ∧ (∀ v ∈ vs, v.csz = sz) ∧
    ∀ (place : Nat → Option (Nat × Nat)) (pre : List Value) (d : Nat) (z : List Value) (cells : Array Value), (∀ j, place j = some (j * sz, sz)) → pre.length = i * sz → z.length = sz → vs.length ≤ d → cells.toList = pre ++ (List.replicate d z).flatten →
      ∃ cells' vc, Instr.fill place cells m = some cells' ∧ RVs M β vs vc ∧ cells'.toList = pre ++ (vc ++ (List.replicate (d - vs.length) z).flatten) := by
  intro l
  induction l with
  | nil =>
    intro i κ m h hp
    cases hp
    exact ⟨[], h, by simp, fun place pre d z cells _ _ _ _ hc => ⟨cells, [], rfl, .nil, by simpa using hc⟩⟩
  | cons p l ih =>
    intro i κ m h hp
    obtain ⟨j, v⟩ := p
    cases hp with
    | cons hx hps =>
      rename_i x m
      obtain ⟨rfl, hz, h⟩ := h
      obtain ⟨vs, hk, hvs, hf⟩ := ih h hps
      refine ⟨v :: vs, by simpa [Nat.add_assoc, Nat.add_comm 1] using hk, by intro u hu; rcases List.mem_cons.1 hu with rfl | hu; exact hz; exact hvs u hu, fun place pre d z cells hpl hpre hzl hd hc => ?_⟩
      have hxl := hx.length
      have hsz : x.cells.size = sz := by rw [← Array.length_toList, hxl, hz]
      simp only [List.length_cons] at hd
      obtain ⟨d, rfl⟩ : ∃ e, d = e + 1 := ⟨d - 1, by omega⟩
      rw [List.replicate_succ, List.flatten_cons] at hc
      have hcl : cells.size = pre.length + (z.length + (List.replicate d z).flatten.length) := by rw [← Array.length_toList, hc]; simp
      obtain ⟨cells', h1, h2⟩ := fill_cons (rest := m) (cells := cells) (hpl j) hsz (by omega)
      obtain ⟨c2, vc, h3, h4, h5⟩ := hf place (pre ++ x.cells.toList) d z cells' hpl (by rw [List.length_append, hpre, hxl, hz, Nat.add_mul]; omega) hzl (by omega) (by
        rw [h2, hc]
        simp only [splice]
        rw [← hpre, List.take_append_of_le_length (Nat.le_refl _), List.take_of_length_le (Nat.le_refl _), List.drop_append, List.drop_of_length_le (by omega), List.drop_append, List.drop_of_length_le (by rw [hzl, ← hz, ← hxl]; omega)]
        have : pre.length + x.cells.toList.length - pre.length - z.length = 0 := by rw [hzl, ← hz, ← hxl]; omega
        rw [this]
        simp)
      refine ⟨c2, x.cells.toList ++ vc, by rw [h1, h3], .cons hx h4, ?_⟩
      rw [h5, show d - vs.length = d + 1 - (v :: vs).length by simp only [List.length_cons]; omega]
      simp only [List.append_assoc]
theorem elemsC_spec {m : Nat} {te : Ty} {l : List (Nat × AV)} {κ : AV → Prop} {ps : List (Nat × Value)} (h : elemsC m te l κ) (hp : Parts M β l ps) (hpos : 0 < te.size) : ∃ c, κ c ∧ c.isRow = true ∧ c.cnt = m ∧ c.esz = te.size ∧
    ∀ cells : Array Value, cells.toList = (List.replicate m te.zc).flatten → ∃ cells', Instr.fill (fun i => some (i * te.size, te.size)) cells ps = some cells' ∧ RV M β c cells'.toList := by
  have hzl : te.zc.length = te.size := by rw [(zero_rv (M := M) te β).length, zero_csz.1]
  have gen : (∀ k, te ≠ .int k) → ((l = [] ∧ m = 0 → κ (.lst te.size 0 [])) ∧ (¬ (l = [] ∧ m = 0) → seqV te.size 0 l fun q vs => q ≤ m ∧ κ (.arr te.size (vs ++ List.replicate (m - q) te.zero)))) →
      ∃ c, κ c ∧ c.isRow = true ∧ c.cnt = m ∧ c.esz = te.size ∧ ∀ cells : Array Value, cells.toList = (List.replicate m te.zc).flatten → ∃ cells', Instr.fill (fun i => some (i * te.size, te.size)) cells ps = some cells' ∧ RV M β c cells'.toList := by
    intro _ ⟨h1, h2⟩
    by_cases e : l = [] ∧ m = 0
    · obtain ⟨rfl, rfl⟩ := e
      refine ⟨_, h1 ⟨rfl, rfl⟩, rfl, rfl, rfl, fun cells hc => ?_⟩
      cases hp
      refine ⟨cells, rfl, ?_⟩
      rw [hc]
      exact .lst .nil (by simp) rfl
    · obtain ⟨vs, ⟨hle, hk⟩, hvs, hf⟩ := seqV_spec (h2 e) hp
      rw [Nat.zero_add] at hle hk
      refine ⟨_, hk, rfl, by simp [AV.cnt]; omega, rfl, fun cells hc => ?_⟩
      obtain ⟨c2, vc, h3, h4, h5⟩ := hf (fun i => some (i * te.size, te.size)) [] m te.zc cells (fun j => rfl) (by simp) hzl hle (by simpa using hc)
      refine ⟨c2, h3, ?_⟩
      rw [h5, List.nil_append]
      refine .arr (h4.append (zeros_rv _ _ _ (fun β => zero_rv te β) β)) fun p hp => ?_
      rcases List.mem_append.1 hp with hp | hp
      · exact hvs p hp
      · rw [(List.mem_replicate.1 hp).2, zero_csz.1]
  cases te with
  | int k =>
    obtain ⟨xs, ⟨hle, hk⟩, hf⟩ := seqI_spec h hp
    rw [Nat.zero_add] at hle hk
    refine ⟨_, hk, rfl, rfl, rfl, fun cells hc => ?_⟩
    obtain ⟨c2, h3, h4⟩ := hf (fun i => some (i * 1, 1)) [] m (.int k 0) cells (fun j => rfl) rfl hle (by
      rw [hc]
      simp only [Ty.zc, List.nil_append]
      clear hc hf hk hle h
      induction m with
      | zero => rfl
      | succ m ih => simp [List.replicate_succ, List.flatten_cons, ih]) rfl
    refine ⟨c2, h3, ?_⟩
    rw [h4]
    have : xs.map (Value.int k) ++ List.replicate (m - xs.length) (Value.int k 0) = (xs ++ List.replicate (m - xs.length) 0).map (Value.int k) := by simp
    rw [List.nil_append, this]
    exact .ints k (by simp; omega)
  | _ => exact gen (by intro k e; cases e) h

theorem zeros_length (ts : List Ty) : (Ty.zeros ts).length = ts.length := by
  induction ts with
  | nil => rfl
  | cons t ts ih => simp [Ty.zeros, ih]
theorem s_build {t : TypeId} {ps : Array (Nat × Operand)} (ho : o.op = .build t ps)
    (h : tyC P t fun ty => partsC T ps.toList fun l =>
      (match ty with
      | .st ts => bldS (Ty.zeros ts) l fun qs => K (.agg qs) O n
      | .arr m _ te => elemsC m te l fun v => K v O n
      | _ => False)) (hr : RelAt E N M β T O n a w) : OpS P o E N T K a w := by
  obtain ⟨ty, hok, _, h1⟩ := tyC_spec h
  obtain ⟨l, h2, hp⟩ := partsC_spec hr h1
  have hps : (ps.map fun (i, x) => (i, a.eval x)).toList = ps.toList.map fun p => (p.1, a.eval p.2) := by simp
  cases ty with
  | st ts =>
    have hok2 := hok
    obtain ⟨_, fs, hu, _, hoks⟩ := hok
    obtain ⟨pl, hrun, hpl, hplj⟩ := oks_place hoks w
    have hzc : (Ty.st ts).zv.cells = (Ty.st ts).zc.toArray := rfl
    have hzr : RVs M β (Ty.zeros ts) (Ty.st ts).zv.cells.toList := by
      have := zero_rv (M := M) (.st ts) β
      rw [hzc]
      cases this with
      | agg h => exact h
    have hzl : (Ty.zeros ts).length = ts.length := zeros_length ts
    obtain ⟨qs, cells', hk, hf, hrv⟩ := bldS_spec (place := (pl.toArray[·]?)) (zs := Ty.zeros ts) (fun j hj => by rw [List.getElem?_toArray, hplj j (by omega), Nat.zero_add]) h2 rfl hp hzr
    refine OpS.val (x := .agg cells') ?_ hr (by have := VR.agg (M := M) (β := β) (v := .agg qs) rfl (.agg hrv); simpa using this) hk
    have hfs : (fs.mapM fun f => (do pure (f.offset, ← sizeOf f.type) : Sem (Nat × Nat))).run P w = .ok pl.toArray w := by
      rw [Array.mapM_eq_mapM_toList]
      simp only [Sem.run_map, hrun, Result.andThen_ok]
    simp only [execOp, ho, Instr.build, Sem.run_bind, r_zero hok2, Result.andThen_ok, r_under hu]
    simp only [hfs, Result.andThen_ok, hps, hf, Sem.run_pure]
  | arr m e te =>
    have hok2 := hok
    obtain ⟨_, hu, hpos, hte⟩ := hok
    obtain ⟨c, hk, hrow, hcnt, hez, hf⟩ := elemsC_spec h2 hp hpos
    have hzc : (Ty.arr m e te).zv.cells = (Ty.arr m e te).zc.toArray := rfl
    obtain ⟨cells', h3, h4⟩ := hf (Ty.arr m e te).zv.cells (by rw [hzc]; rfl)
    refine OpS.val (x := .agg cells') ?_ hr (by have := VR.agg (by cases c <;> first | rfl | cases hrow) h4; simpa using this) hk
    simp only [execOp, ho, Instr.build, Sem.run_bind, r_zero hok2, Result.andThen_ok, r_under hu, r_size hte, hps, h3, Sem.run_pure]
  | _ => exact h2.elim
end
end Go.Sy
/- Rows of the call's own: made, appended to, copied into. -/
namespace Go.Sy
open Go
set_option linter.unusedSimpArgs false
set_option linter.unusedVariables false
section
variable {E : Env} {N : Nat} {M : Pool} {β β' : Bmap} {T : TT} {O O' : OO} {n : Nat} {a : Act} {w w' : World} {P : Program} {o : Oper} {K : KK}

theorem drewFold (w : World) : ({ w with drawn := w.drawn + 1 } : World) = w.drew := rfl
/-- A new row. -/
theorem RelAt.newRowF (h : RelAt E N M β T O n a w) (hok : E.ok n) {c : AV} {cc sp : List Value} {κ : Nat} {e : TypeId} {cells : Array Value} {fz : Nat × Nat} (hfz : freeCells fz cells.size) (hv : RV M β c cc) (hr : c.isRow = true) (hz : 0 < c.esz) (hc : cells.toList = cc ++ sp) (hl : (cc ++ sp).length = κ * c.esz)
    (hcc : cc.length = c.cnt * c.esz) : RelAt E N M (updB β n (w.heap.size, κ)) T ((n, .row c) :: O) (n + 1) a (w.alloc (.cells cells e fz)) := by
  have hn : β n = none := h.ids n (Nat.le_refl _) hok
  refine h.next (h.st.alloc hn _ _ _ _ (fun _ => rfl) ?_) (updB_le hn _) (h.fresh _) (updB_low hok _ _) (Nat.le_succ _)
  refine ⟨hr, hz, ?_⟩
  by_cases hk : κ = 0
  · subst hk
    simp only [Nat.zero_mul, List.length_append] at hl
    have h0 : cc = [] := List.eq_nil_of_length_eq_zero (by omega)
    subst h0
    refine .inl ⟨rfl, ?_, hv.mono (PLe.refl _) (updB_le hn _)⟩
    rcases Nat.mul_eq_zero.1 (by simpa using hcc.symm : c.cnt * c.esz = 0) with h | h
    · exact h
    · omega
  · refine .inr ⟨hk, cc, sp, e, fz, ?_, by rw [← hc, Array.length_toList]; exact hfz, hv.mono (PLe.refl _) (updB_le hn _), hl⟩
    rw [alloc_new]
    congr 2
    apply Array.ext'
    simpa using hc
theorem RelAt.newRow (h : RelAt E N M β T O n a w) (hok : E.ok n) {c : AV} {cc sp : List Value} {κ : Nat} {e : TypeId} {cells : Array Value} (hv : RV M β c cc) (hr : c.isRow = true) (hz : 0 < c.esz) (hc : cells.toList = cc ++ sp) (hl : (cc ++ sp).length = κ * c.esz)
    (hcc : cc.length = c.cnt * c.esz) : RelAt E N M (updB β n (w.heap.size, κ)) T ((n, .row c) :: O) (n + 1) a (w.alloc (.cells cells e)) := h.newRowF hok (free0 _) hv hr hz hc hl hcc
theorem row_len {c : AV} {cc : List Value} (hv : RV M β c cc) (hr : c.isRow = true) : cc.length = c.cnt * c.esz := by
  rw [hv.length]
  cases c <;> first | cases hr | skip
  · simp [AV.csz, AV.cnt, AV.esz]
  · simp [AV.csz, AV.cnt, AV.esz]
  · simp [AV.csz, AV.cnt, AV.esz]
theorem zerosFill (m : Nat) (z : List Value) (hz : 0 < z.length) : ((Array.range (m * z.length)).map (z.toArray[· % z.toArray.size]!)).toList = (List.replicate m z).flatten := by
  apply List.ext_getElem?
  intro i
  have hl : (List.replicate m z).flatten.length = m * z.length := by simp
  simp only [Array.toList_map, Array.toList_range, List.getElem?_map, List.getElem?_range', List.size_toArray]
  by_cases hi : i < m * z.length
  · rw [List.getElem?_range hi]
    have key : ∀ (m i : Nat), i < m * z.length → (List.replicate m z).flatten[i]? = z[i % z.length]? := by
      intro m
      induction m with
      | zero => intro i hi; simp at hi
      | succ m ih =>
        intro i hi
        rw [List.replicate_succ, List.flatten_cons, List.getElem?_append]
        by_cases h : i < z.length
        · rw [if_pos h, Nat.mod_eq_of_lt h]
        · rw [if_neg h, ih _ (by rw [Nat.add_mul] at hi; omega)]
          congr 1
          rw [Nat.mod_eq_sub_mod (by omega : i ≥ z.length)]
    rw [key m i hi]
    have hm : i % z.length < z.length := Nat.mod_lt _ hz
    simp [hm]
  · rw [List.getElem?_eq_none (by simp; omega), List.getElem?_eq_none (by omega)]
    rfl
theorem row_value {c : AV} {κ m : Nat} (hm : m ≤ κ) (b : Nat) (hb : β n = some (b, κ)) : VR M β (.osl n [] c.esz 0 m) (.slice (some ⟨b, 0, none⟩) m κ) :=
  .one rfl (.osl hb hm (fun _ => by omega) (.inr (by simp [poff])))
theorem s_buildSlice (hK : ∀ v O' n', K v O' n' → ∀ o, n ≤ o → o < n' → E.ok o) {t : TypeId} {m : Nat} {ps : Array (Nat × Operand)} (ho : o.op = .buildSlice t m ps)
    (h : tyC P t fun ty => partsC T ps.toList fun l =>
      (match ty with
      | .slice e => tyC P e fun te => 0 < te.size ∧ m * te.size ≤ 16777216 ∧ elemsC m te l fun c => K (.osl n [] te.size 0 m) ((n, .row c) :: O) (n + 1)
      | _ => False)) (hr : RelAt E N M β T O n a w) : OpS P o E N T K a w := by
  obtain ⟨ty, hok, _, h1⟩ := tyC_spec h
  obtain ⟨l, h2, hp⟩ := partsC_spec hr h1
  have hps : (ps.map fun (i, x) => (i, a.eval x)).toList = ps.toList.map fun p => (p.1, a.eval p.2) := by simp
  cases ty with
  | slice e =>
    obtain ⟨te, hte, _, hpos, hle, h3⟩ := tyC_spec h2
    obtain ⟨c, hk, hrow, hcnt, hez, hf⟩ := elemsC_spec h3 hp hpos
    have hzl : te.zc.length = te.size := by rw [(zero_rv (M := M) te β).length, zero_csz.1]
    have hzc : te.zv.cells = te.zc.toArray := by
      cases te <;> rfl
    have hfill : ∀ cells : Array Value, cells.toList = (List.replicate m te.zc).flatten → (∃ cells', Instr.fill (fun i => some (i * te.size, te.size)) cells (ps.toList.map fun p => (p.1, a.eval p.2)) = some cells' ∧ RV M β c cells'.toList) := hf
    have hrel : ∀ cells' : Array Value, RV M β c cells'.toList → RelAt E N M (updB β n (w.heap.size, m)) T ((n, .row c) :: O) (n + 1) a (w.alloc (.cells cells' e)) := fun cells' hrv =>
      hr.newRow (hK _ _ _ hk n (Nat.le_refl _) (Nat.lt_succ_self _)) (sp := []) hrv hrow (by omega) (by simp) (by rw [List.append_nil, row_len hrv hrow, hcnt]) (row_len hrv hrow)
    by_cases hm0 : m * te.size = 0
    · obtain ⟨cells', h4, h5⟩ := hf #[] (by
        have : m = 0 := by rcases Nat.mul_eq_zero.1 hm0 with h | h <;> omega
        simp [this])
      refine OpS.val (x := .slice (some ⟨w.heap.size, 0, none⟩) m m) ?_ (hrel cells' h5) (by rw [← hez]; exact row_value (Nat.le_refl _) _ (by simp)) hk
      simp only [execOp, ho, Instr.buildSlice, Sem.run_bind, r_under hok.2, Result.andThen_ok, r_size hte]
      rw [if_neg (by omega), if_pos hm0]
      simp only [Sem.run_pure, Result.andThen_ok, hm0, Sem.run_bind]
      have : Array.map (fun x => (#[] : Array Value)[x % 0]!) (Array.range 0) = #[] := by simp
      simp only [List.size_toArray, List.length_nil, this, hps, h4, Sem.run_bind, newRow, run_newObj, Result.andThen_ok, Sem.run_pure]
      rfl
    · obtain ⟨cells', h4, h5⟩ := hf ((Array.range (m * te.size)).map (te.zc.toArray[· % te.zc.toArray.size]!)) (by rw [← hzl]; exact zerosFill m te.zc (by omega))
      refine OpS.val (x := .slice (some ⟨w.heap.size, 0, none⟩) m m) ?_ (hrel cells' h5) (by rw [← hez]; exact row_value (Nat.le_refl _) _ (by simp)) hk
      simp only [execOp, ho, Instr.buildSlice, Sem.run_bind, r_under hok.2, Result.andThen_ok, r_size hte]
      rw [if_neg (by omega), if_neg hm0]
      simp only [Sem.run_bind, r_zero hte, Result.andThen_ok, Sem.run_pure, hzc, hps, h4, newRow, run_newObj]
      rfl
  | _ => exact h2.elim
theorem zerosC_spec {m : Nat} {te : Ty} {κ : AV → Prop} (h : zerosC m te κ) (hpos : 0 < te.size) : ∃ c, κ c ∧ c.isRow = true ∧ c.cnt = m ∧ c.esz = te.size ∧ c.nid = true ∧ ∀ {M : Pool} {β : Bmap}, RV M β c (List.replicate m te.zc).flatten := by
  have gen : (∀ k, te ≠ .int k) → κ (.lst te.size m (List.replicate m te.zero)) → ∃ c, κ c ∧ c.isRow = true ∧ c.cnt = m ∧ c.esz = te.size ∧ c.nid = true ∧ ∀ {M : Pool} {β : Bmap}, RV M β c (List.replicate m te.zc).flatten := fun _ hk =>
    ⟨_, hk, rfl, rfl, rfl, rfl, fun {M β} => .lst (zeros_rv _ _ _ (fun β => zero_rv te β) _) (fun p hp => by rw [(List.mem_replicate.1 hp).2, zero_csz.1]) (by simp)⟩
  cases te with
  | int k =>
    refine ⟨_, h, rfl, rfl, rfl, rfl, fun {M β} => ?_⟩
    have : (List.replicate m (Ty.int k).zc).flatten = (List.replicate m 0).map (Value.int k) := by
      clear h gen
      induction m with
      | zero => rfl
      | succ m ih => simp only [List.replicate_succ, List.flatten_cons, List.map_cons, ih]; rfl
    rw [this]
    exact .ints k (by simp)
  | _ => exact gen (by intro k e; cases e) h
theorem s_makeSlice (hK : ∀ v O' n', K v O' n' → ∀ o, n ≤ o → o < n' → E.ok o) {t : TypeId} {x y : Operand} (ho : o.op = .makeSlice t x y)
    (h : tyC P t fun ty => evC T x fun u => evC T y fun v => intC u fun i => intC v fun j =>
      (match ty with
      | .slice e => tyC P e fun te => byC P e fun bts => 0 < te.size ∧ 0 ≤ i ∧ i ≤ j ∧ j * bts ≤ 281474976710656 ∧ j ≤ 9223372036854775807 ∧ zerosC i.toNat te fun q => K (.osl n [] te.size 0 i.toNat) ((n, .row q) :: O) (n + 1)
      | _ => False)) (hr : RelAt E N M β T O n a w) : OpS P o E N T K a w := by
  obtain ⟨ty, hok, _, h1⟩ := tyC_spec h
  obtain ⟨u, h2, hu⟩ := evC_spec hr h1
  obtain ⟨v, h3, hv⟩ := evC_spec hr h2
  obtain ⟨k, i, rfl, h4⟩ := intC_spec h3
  obtain ⟨k', j, rfl, h5⟩ := intC_spec h4
  cases ty with
  | slice e =>
    obtain ⟨te, hte, _, inf, hinf, hpos, g1, g2, g3, g4, h6⟩ := tyC_spec h5
    obtain ⟨c, hk, hrow, hcnt, hez, _, hrv⟩ := zerosC_spec h6 hpos
    have hzl : te.zc.length = te.size := by rw [(zero_rv (M := M) te β).length, zero_csz.1]
    have hzc : te.zv.cells = te.zc.toArray := by cases te <;> rfl
    have w1 : IntKind.i64.wrap i = i := by simp [IntKind.wrap, IntKind.bits, IntKind.signed]; omega
    have w2 : IntKind.i64.wrap j = j := by simp [IntKind.wrap, IntKind.bits, IntKind.signed]; omega
    have big : (decide (j < 0) || decide ((inf.bytes : Int) * j > 2 ^ 48)) = false := by
      have : (inf.bytes : Int) * j ≤ 281474976710656 := by rw [Int.mul_comm]; exact g3
      simp; omega
    have hsplit : (List.replicate j.toNat te.zc).flatten = (List.replicate i.toNat te.zc).flatten ++ (List.replicate (j.toNat - i.toNat) te.zc).flatten := by
      rw [← List.flatten_append, List.replicate_append_replicate]
      congr 2; omega
    have hcells : ∀ cells : Array Value, cells.toList = (List.replicate j.toNat te.zc).flatten → RelAt E N M (updB β n (w.heap.size, j.toNat)) T ((n, .row c) :: O) (n + 1) a (w.alloc (.cells cells e)) := fun cells hc =>
      hr.newRow (hK _ _ _ hk n (Nat.le_refl _) (Nat.lt_succ_self _)) (sp := (List.replicate (j.toNat - i.toNat) te.zc).flatten) hrv hrow (by omega) (by rw [hc, hsplit]) (by rw [← hsplit, hez]; simp [hzl]) (by rw [hcnt, hez]; simp [hzl])
    have hval : VR M (updB β n (w.heap.size, j.toNat)) (.osl n [] te.size 0 i.toNat) (.slice (some ⟨w.heap.size, 0, none⟩) i.toNat j.toNat) := by rw [← hez]; exact row_value (by omega) _ (by simp)
    have cond : ((decide (j < 0) || decide ((inf.bytes : Int) * j > 2 ^ 48)) || decide (i < 0) || decide (i > j)) = false := by rw [big]; simp; omega
    by_cases hj : j.toNat * te.size = 0
    · refine OpS.val (x := .slice (some ⟨w.heap.size, 0, none⟩) i.toNat j.toNat) ?_ (hcells #[] (by
        have : j.toNat = 0 := by rcases Nat.mul_eq_zero.1 hj with h | h <;> omega
        simp [this])) hval hk
      simp only [execOp, ho, Instr.makeSlice, Sem.run_bind, r_under hok.2, Result.andThen_ok, hu.int_inv, hv.int_inv, asInt, asIntOf, Sem.run_pure, r_info hinf, w1, w2, run_askRoom, r_size hte, hj, if_true]
      rw [if_neg (by simpa using cond)]
      simp only [Sem.run_pure, Result.andThen_ok, run_askRoom, r_size hte, Sem.run_bind, newRow, run_newObj, hj, if_true]
      have : Array.map (fun x => (#[] : Array Value)[x % 0]!) (Array.range 0) = #[] := by simp
      simp only [List.size_toArray, List.length_nil, this]
      rfl
    · refine OpS.val (x := .slice (some ⟨w.heap.size, 0, none⟩) i.toNat j.toNat) ?_ (hcells ((Array.range (j.toNat * te.size)).map (te.zc.toArray[· % te.zc.toArray.size]!)) (by
        have := zerosFill j.toNat te.zc (by omega)
        rw [hzl] at this
        exact this)) hval hk
      simp only [execOp, ho, Instr.makeSlice, Sem.run_bind, r_under hok.2, Result.andThen_ok, hu.int_inv, hv.int_inv, asInt, asIntOf, Sem.run_pure, r_info hinf, w1, w2]
      rw [if_neg (by simpa using cond)]
      simp only [Sem.run_pure, Result.andThen_ok, run_askRoom, r_size hte, Sem.run_bind, newRow, run_newObj, hj, if_false, r_zero hte, hzc]
      rfl
  | _ => exact h5.elim
end
end Go.Sy
/- Own memory that is not turned any more, told as memory that never turns. -/
namespace Go.Sy
open Go
set_option linter.unusedSimpArgs false
set_option linter.unusedVariables false
section
variable {E : Env} {N : Nat} {M M' M1 : Pool} {β β' β1 : Bmap} {T : TT} {O O' O1 O2 : OO} {n : Nat} {a : Act} {w w' : World} {P : Program} {o : Oper} {K : KK}
theorem OR.mono2 {b κ : Nat} {ob : OB} (h : OR M β b κ w ob) (hM : PLe M M') (hb : BLe β β') (hw : κ ≠ 0 → w'.heap[b]? = w.heap[b]?) : OR M' β' b κ w' ob := by
  cases ob with
  | var c =>
    obtain ⟨hk, hz, cs, e, fz, h1, h2, h3⟩ := h
    exact ⟨hk, hz, cs, e, fz, by rw [hw hk]; exact h1, h2, h3.mono hM hb⟩
  | row c =>
    obtain ⟨hr, hz, h⟩ := h
    refine ⟨hr, hz, ?_⟩
    rcases h with ⟨hk, hc, h⟩ | ⟨hk, cc, sp, e, fz, h1, h2, h3, h4⟩
    · exact .inl ⟨hk, hc, h.mono hM hb⟩
    · exact .inr ⟨hk, cc, sp, e, fz, by rw [hw hk]; exact h1, h2, h3.mono hM hb, h4⟩
  | map ks =>
    obtain ⟨hk, es, cl, h1, h2⟩ := h
    exact ⟨hk, es, cl, by rw [hw hk]; exact h1, h2⟩
  | gm f ks vs =>
    obtain ⟨hk, es, cl, h1, h2, h3, h4⟩ := h
    exact ⟨hk, es, cl, by rw [hw hk]; exact h1, h2, h3.mono hM hb, h4⟩
/-! The callee may read own memory that the caller keeps. -/
structure Vw (M M1 : Pool) (β : Bmap) (v c : AV) : Prop where
  csz : c.csz = v.csz
  multi : c.multi = v.multi
  row : c.isRow = v.isRow
  cnt : c.cnt = v.cnt
  esz : c.esz = v.esz
  rv : ∀ {cs : List Value}, RV M β v cs → RV M1 nob c cs
  vr : ∀ {x : Value}, VR M β v x → VR M1 nob c x
theorem Vw.of_nid {v : AV} (h : v.nid = true) (hM : PLe M M1) : Vw M M1 β v v := ⟨rfl, rfl, rfl, rfl, rfl, fun g => (g.nid h nob).mono hM (BLe.refl _), fun g => (g.nid h nob).mono hM (BLe.refl _)⟩
theorem viewC_spec (hst : St E M β O w) (hM : PLe M M1) (hO2 : ∀ o ob, lk O2 o = some ob → lk O o = some ob) (hcell : ∀ o ob b κ, lk O2 o = some ob → β o = some (b, κ) → κ ≠ 0 → ∀ i v, w.cell? ⟨b, i, none⟩ = some v → M1 b i = some v) :
    ∀ (f : Nat) (v : AV) (κ : AV → Prop), viewC O2 f v κ → ∃ c, κ c ∧ Vw M M1 β v c := by
  intro f
  induction f with
  | zero =>
    intro v κ h
    cases v <;> first | exact h.elim | exact ⟨_, h, .of_nid rfl hM⟩
  | succ f ih =>
    have vs : ∀ (ps : List AV) (κ : List AV → Prop), viewC.views (viewC O2 f) ps κ → ∃ qs, κ qs ∧ qs.length = ps.length ∧ AV.cszs qs = AV.cszs ps ∧ (∀ sz, (∀ p ∈ ps, p.csz = sz) → ∀ p ∈ qs, p.csz = sz) ∧ ∀ {cs : List Value}, RVs M β ps cs → RVs M1 nob qs cs := by
      intro ps
      induction ps with
      | nil => intro κ h; exact ⟨[], h, rfl, rfl, fun _ h => h, fun g => by cases g; exact .nil⟩
      | cons p ps ih2 =>
        intro κ h
        obtain ⟨q, h, hq⟩ := ih _ _ h
        obtain ⟨qs, h, l, z, al, g⟩ := ih2 _ h
        refine ⟨_, h, by simp [l], by simp only [AV.cszs, z, hq.csz], fun sz hs => ?_, fun g' => ?_⟩
        · simp only [List.mem_cons, forall_eq_or_imp] at hs ⊢
          exact ⟨by rw [hq.csz]; exact hs.1, al sz hs.2⟩
        · cases g' with | cons g1 g2 => exact .cons (hq.rv g1) (g g2)
    intro v κ h
    cases v with
    | osl o p sz lo len =>
      obtain ⟨ob, hl, h⟩ := objC_spec h
      obtain ⟨c, hc, h⟩ := obC_spec h
      obtain ⟨q, h, hq⟩ := nav_spec _ _ _ h
      obtain ⟨hsz, h⟩ := h
      obtain ⟨r, h, r1, r2, r3, r4, _, r5⟩ := subC_spec h
      obtain ⟨r', ⟨k1, k2, hk⟩, hr'⟩ := ih _ _ h
      have key : ∀ {cs : List Value}, RV M β (.osl o p sz lo len) cs → RV M1 nob (.sl r') cs := fun g => by
        cases g with
        | @osl _ _ b κ0 _ _ _ _ cap base hb hcap hkk ha =>
          obtain ⟨cc, hcc, hca⟩ := hst.cells (hO2 _ _ hl) hb hc
          obtain ⟨_, g1⟩ := hq hcc
          obtain ⟨_, g2⟩ := r5 g1
          have g3 := hr'.rv g2
          refine .sl g3 k1 k2 hcap ?_
          rcases ha with ha | ha
          · exact .inl (by omega)
          · refine .inr ⟨b, _, ha, fun i v hv => ?_⟩
            have hv2 : cc[poff p + lo * sz + i]? = some v := by
              simp only [piece, List.getElem?_take, List.getElem?_drop] at hv
              split at hv
              · split at hv
                · rw [hsz, Nat.add_assoc]; exact hv
                · cases hv
              · cases hv
            have hk0 : κ0 ≠ 0 := by
              rintro rfl
              obtain ⟨b', κ', hb', hor⟩ := hst.objs _ _ (hO2 _ _ hl)
              rw [hb] at hb'; cases hb'
              cases ob with
              | var c' => exact hor.1 rfl
              | map ks => exact hor.1 rfl
              | gm f ks vs => exact hor.1 rfl
              | row c' =>
                obtain rfl : c' = c := hc
                obtain ⟨_, _, hor⟩ := hor
                rcases hor with ⟨_, _, h3⟩ | ⟨hk0, _⟩
                · have e0 := h3.length
                  have e1 := hcc.length
                  simp only [List.length_nil] at e0
                  rw [List.getElem?_eq_none (by omega)] at hv2
                  cases hv2
                · exact hk0 rfl
            refine hcell _ _ _ _ hl hb hk0 _ _ ?_
            have := hca _ _ hv2
            rwa [Nat.zero_add] at this
      exact ⟨_, hk, rfl, rfl, rfl, rfl, rfl, key, fun g => .one rfl (key (g.one_inv rfl rfl))⟩
    | ref o p =>
      obtain ⟨ob, hl, h⟩ := objC_spec h
      cases ob with
      | var c =>
        obtain ⟨c', hk, hc'⟩ := ih c _ h
        have key : ∀ {cs : List Value}, RV M β (.ref o p) cs → RV M1 nob (.pp c' p) cs := fun g => by
          cases g with
          | @ref _ _ b κ0 _ hb =>
            obtain ⟨b', κ', hb', hor⟩ := hst.objs _ _ (hO2 _ _ hl)
            rw [hb] at hb'; cases hb'
            have hk0 : κ0 ≠ 0 := hor.1
            obtain ⟨cc, hcc, hca⟩ := hst.cells (hO2 _ _ hl) hb (show obC (.var c) fun d => d = c from rfl)
            have := RV.pp (M := M1) (β := nob) (p := p) (b := b) (off := 0) (hc'.rv hcc) (fun i v hv => hcell _ _ _ _ hl hb hk0 _ _ (hca _ _ hv))
            rwa [Nat.zero_add] at this
        exact ⟨_, hk, rfl, rfl, rfl, rfl, rfl, key, fun g => .one rfl (key (g.one_inv rfl rfl))⟩
      | _ => exact h.elim
    | agg ps =>
      obtain ⟨qs, hk, l, z, al, g⟩ := vs _ _ h
      have key : ∀ {cs : List Value}, RV M β (.agg ps) cs → RV M1 nob (.agg qs) cs := fun g' => by cases g' with | agg g' => exact .agg (g g')
      exact ⟨_, hk, by simp only [AV.csz, z], rfl, rfl, rfl, rfl, key, fun g' => by obtain ⟨cs, rfl, g2⟩ := g'.agg_inv rfl rfl; exact .agg rfl (key g2)⟩
    | arr sz ps =>
      obtain ⟨qs, hk, l, z, al, g⟩ := vs _ _ h
      have key : ∀ {cs : List Value}, RV M β (.arr sz ps) cs → RV M1 nob (.lst sz qs.length qs) cs := fun g' => by cases g' with | arr g' hs => exact .lst (g g') (al _ hs) rfl
      exact ⟨_, hk, by simp only [AV.csz, l], rfl, rfl, by simp only [AV.cnt, l], rfl, key, fun g' => by obtain ⟨cs, rfl, g2⟩ := g'.agg_inv rfl rfl; exact .agg rfl (key g2)⟩
    | _ => first | exact h.elim | exact ⟨_, h, .of_nid rfl hM⟩
end
open Classical in
/-- What the callee may take for granted: the pool, and (if it borrows) own memory that the caller keeps. -/
noncomputable def poolOf (bor : Bool) (M : Pool) (β : Bmap) (O2 : OO) (w : World) : Pool := fun b i =>
  if bor = true ∧ ∃ o ob κ, lk O2 o = some ob ∧ β o = some (b, κ) ∧ κ ≠ 0 then w.cell? ⟨b, i, none⟩ else M b i
theorem lk_frzO (F : List Nat) (o : Nat) : ∀ O : OO, lk (frzO O F) o = if F.contains o = true then lk O o else none
  | [] => by simp [frzO, lk]
  | (i, ob) :: O => by
    have ih := lk_frzO F o O
    simp only [frzO]
    by_cases hi : i = o
    · subst hi
      by_cases h : F.contains i = true
      · rw [if_pos h, if_pos h]; simp [lk]
      · rw [if_neg h, if_neg h, ih, if_neg h]
    · by_cases h : F.contains i = true
      · rw [if_pos h]; simp only [lk, if_neg hi, ih]
      · rw [if_neg h, ih]; simp only [lk, if_neg hi]
theorem lk_dropO (F : List Nat) (o : Nat) : ∀ O : OO, lk (dropO O F) o = if F.contains o = true then none else lk O o
  | [] => by simp [dropO, lk]
  | (i, ob) :: O => by
    have ih := lk_dropO F o O
    simp only [dropO]
    by_cases hi : i = o
    · subst hi
      by_cases h : F.contains i = true
      · rw [if_pos h, if_pos h, ih, if_pos h]
      · rw [if_neg h, if_neg h]; simp [lk]
    · by_cases h : F.contains i = true
      · rw [if_pos h, ih]; simp only [lk, if_neg hi]
      · rw [if_neg h]; simp only [lk, if_neg hi, ih]
section
variable {E : Env} {N : Nat} {M M' M1 : Pool} {β β' β1 : Bmap} {T : TT} {O O' O1 O2 J : OO} {n : Nat} {a : Act} {w w' : World} {P : Program}
/-- What reading own memory as memory that never turns gives. -/
def Views (M M1 : Pool) (β : Bmap) (OF : OO) : Prop := ∀ v κ, viewC OF 9 v κ → ∃ c, κ c ∧ Vw M M1 β v c
theorem St.freeze (h : St E M β O w) (F : List Nat) : ∃ M1, PLe M M1 ∧ Views M M1 β (frzO O F) ∧ St E M1 β (dropO O F) w := by
  let M1 : Pool := poolOf true M β (frzO O F) w
  have hin : ∀ o ob, lk (frzO O F) o = some ob → lk O o = some ob ∧ F.contains o = true := fun o ob hl => by
    rw [lk_frzO] at hl
    split at hl
    · rename_i e; exact ⟨hl, e⟩
    · cases hl
  have hout : ∀ o ob, lk (dropO O F) o = some ob → lk O o = some ob ∧ ¬ F.contains o = true := fun o ob hl => by
    rw [lk_dropO] at hl
    split at hl
    · cases hl
    · rename_i e; exact ⟨hl, e⟩
  have hM : PLe M M1 := fun b i v hm => by
    show poolOf true M β (frzO O F) w b i = some v
    unfold poolOf
    rw [if_neg]
    · exact hm
    · rintro ⟨_, o, ob, κ, h1, h2, h3⟩
      have := (h.mine o ob b κ (hin _ _ h1).1 h2 h3).1 i
      rw [this] at hm; cases hm
  have cases1 : ∀ b i v, M1 b i = some v → ((∃ o ob κ, lk (frzO O F) o = some ob ∧ β o = some (b, κ) ∧ κ ≠ 0) ∧ w.cell? ⟨b, i, none⟩ = some v) ∨ M b i = some v := fun b i v hm => by
    have hm : poolOf true M β (frzO O F) w b i = some v := hm
    unfold poolOf at hm
    split at hm
    · rename_i e; exact .inl ⟨e.2, hm⟩
    · exact .inr hm
  refine ⟨M1, hM, ?_, ?_⟩
  · intro v κ hv
    refine viewC_spec h hM (fun o ob h => (hin o ob h).1) (fun o ob b κ h1 h2 h3 i v h4 => ?_) 9 v κ hv
    show poolOf true M β (frzO O F) w b i = some v
    unfold poolOf
    rw [if_pos ⟨rfl, o, ob, κ, h1, h2, h3⟩]
    exact h4
  · refine ⟨fun b i v hm => ?_, fun b i v hm => hM _ _ _ (h.sub _ _ _ hm), fun b i v hm => ?_, fun o ob hl => ?_, fun o ob b κ hl hb hk => ⟨fun i => ?_, (h.mine o ob b κ (hout _ _ hl).1 hb hk).2⟩, fun o o' ob ob' b κ κ' hl hl' => h.inj o o' ob ob' b κ κ' (hout _ _ hl).1 (hout _ _ hl').1, h.size, h.keep, h.os, h.tape, h.output⟩
    · rcases cases1 b i v hm with ⟨_, g⟩ | g
      · exact g
      · exact h.pool _ _ _ g
    · rcases cases1 b i v hm with ⟨⟨o, ob, κ, h1, h2, h3⟩, _⟩ | g
      · exact .inr (h.mine o ob b κ (hin _ _ h1).1 h2 h3).2
      · exact h.only _ _ _ g
    · obtain ⟨b, κ, hb, hor⟩ := h.objs _ _ (hout _ _ hl).1
      exact ⟨b, κ, hb, hor.mono2 hM (BLe.refl _) fun _ => rfl⟩
    · cases hc : M1 b i with
      | none => rfl
      | some v =>
        exfalso
        rcases cases1 b i v hc with ⟨⟨o', ob', κ', h1, h2, h3⟩, _⟩ | g
        · obtain ⟨g1, g2⟩ := hin _ _ h1
          obtain ⟨g3, g4⟩ := hout _ _ hl
          have := h.inj _ _ _ _ _ _ _ g3 g1 hb h2 hk h3
          subst this
          exact g4 g2
        · rw [(h.mine o ob b κ (hout _ _ hl).1 hb hk).1 i] at g; cases g
end
end Go.Sy
/- append, copy, the other builtins, conversions. -/
namespace Go.Sy
open Go
set_option linter.unusedSimpArgs false
set_option linter.unusedVariables false
section
variable {E : Env} {N : Nat} {M : Pool} {β β' : Bmap} {T : TT} {O O' : OO} {n : Nat} {a : Act} {w w' : World} {P : Program} {o : Oper} {K : KK}

/-- What a slice holds, read: the model's own way. -/
structure Cont (M : Pool) (β : Bmap) (w : World) (P : Program) (te : Ty) (x : Value) (c : AV) : Prop where
  row : c.isRow = true
  ez : c.esz = te.size
  len : ∀ w', (Builtin.lenOf x).run P w' = .ok c.cnt w'
  pre : ∃ cc, RV M β c cc ∧ ∀ m, m ≤ c.cnt → ∀ w' : World, w'.heap = w.heap → (Builtin.firstCells te.size m x).run P w' = .ok (cc.take (m * te.size)).toArray w'
theorem Cont.cells {te : Ty} {x : Value} {c : AV} (h : Cont M β w P te x c) : ∃ cc, RV M β c cc ∧ ∀ w' : World, w'.heap = w.heap → (Builtin.firstCells te.size c.cnt x).run P w' = .ok cc.toArray w' := by
  obtain ⟨cc, h1, h2⟩ := h.pre
  refine ⟨cc, h1, fun w' hw => ?_⟩
  have hl : cc.length = c.cnt * te.size := by rw [row_len h1 h.row, h.ez]
  have := h2 c.cnt (Nat.le_refl _) w' hw
  rwa [← hl, List.take_of_length_le (Nat.le_refl _)] at this
theorem CellsAt.take {b o m : Nat} {cs : List Value} (h : CellsAt w b o cs) : CellsAt w b o (cs.take m) := fun i v hv => by
  rw [List.getElem?_take] at hv
  split at hv
  · exact h i v hv
  · cases hv
theorem CellsAt.heap {b o : Nat} {cs : List Value} (h : CellsAt w b o cs) (hw : w'.heap = w.heap) : CellsAt w' b o cs := fun i v hv => by rw [cell_same (congrArg (·[b]?) hw)]; exact h i v hv
theorem u8_ints (s : List UInt8) : (⟨s.toArray⟩ : ByteArray).extract 0 s.length = ⟨s.toArray⟩ := by
  apply ByteArray.ext
  rw [ByteArray.data_extract]
  apply Array.ext'
  simp [List.extract]
theorem contC_spec (h0 : RelAt E N M β T O n a w) {te : Ty} {v : AV} {x : Value} {κ : AV → Prop} (hpos : 0 < te.size) (h : contC O te v κ) (hv : VR M β v x) : ∃ c, κ c ∧ Cont M β w P te x c := by
  have rd : ∀ (b off : Nat) (cc : List Value) (cnt cap m : Nat), CellsAt w b off cc → cc.length = cnt * te.size → m ≤ cnt → ∀ w' : World, w'.heap = w.heap →
      (Builtin.firstCells te.size m (.slice (some ⟨b, off, none⟩) cnt cap)).run P w' = .ok (cc.take (m * te.size)).toArray w' := fun b off cc cnt cap m hc hl hm w' hw => by
    have h5 := run_loadCells (P := P) ((hc.take (m := m * te.size)).heap hw)
    have : (cc.take (m * te.size)).length = m * te.size := by rw [List.length_take, hl]; exact Nat.min_eq_left (Nat.mul_le_mul_right _ hm)
    rw [this] at h5
    simp only [Builtin.firstCells]
    exact h5
  have rd0 : ∀ (base : Option Addr) (cap : Nat) (cc : List Value) (w' : World), (Builtin.firstCells te.size 0 (.slice base 0 cap)).run P w' = .ok (cc.take (0 * te.size)).toArray w' := fun base cap cc w' => by
    rw [Nat.zero_mul]
    cases base <;> simp only [Builtin.firstCells, Nat.zero_mul, loadCells, loadCellsFrom] <;> rfl
  cases v with
  | sl c =>
    obtain ⟨hez, hk⟩ := h
    obtain ⟨cc, base, cap, rfl, hc, hrow, hcap, hm⟩ := hv.sl_inv
    have hl := row_len hc hrow
    refine ⟨c, hk, hrow, hez, fun w' => rfl, cc, hc.mono (PLe.refl _) (BLe.nob _), fun m hmc w' hw => ?_⟩
    rw [hez] at hl
    by_cases hz : c.cnt = 0
    · have : m = 0 := by omega
      subst this
      rw [hz]
      exact rd0 _ _ _ _
    · obtain ⟨b, off, e, hm2⟩ := hm.resolve_left hz
      subst e
      exact rd b off cc c.cnt cap m (fun i v hi => h0.st.pool _ _ _ (hm2 i v hi)) hl hmc w' hw
  | nils =>
    have e := hv.nils_inv
    subst e
    have h' : zerosC 0 te κ := h
    obtain ⟨c, hk, hrow, hcnt, hez, _, hrv⟩ := zerosC_spec h' hpos
    refine ⟨c, hk, hrow, hez, fun w' => by rw [hcnt]; rfl, [], by simpa using hrv (M := M) (β := β), fun m hm w' _ => ?_⟩
    have : m = 0 := by omega
    subst this
    exact rd0 _ _ _ _
  | osl i p sz lo len =>
    obtain ⟨rfl, h1⟩ := h
    obtain ⟨ob, hl, h2⟩ := objC_spec h1
    obtain ⟨c, hc, h3⟩ := obC_spec h2
    obtain ⟨q, ⟨hq1, hq2⟩, hq3⟩ := nav_spec _ _ _ h3
    obtain ⟨r, hk, r1, r2, r3, r4, r5, r6⟩ := subC_spec hq2
    obtain ⟨b, κ0, base, cap, hb, rfl, hcap, hkk, ha⟩ := hv.osl_inv
    obtain ⟨cc, hcc, hca⟩ := h0.st.cells hl hb hc
    obtain ⟨_, hqr⟩ := hq3 hcc
    obtain ⟨g1, g2⟩ := r6 hqr
    rw [hq1] at g2
    have hl2 := row_len g2 r1
    rw [r3, hq1, r2] at hl2
    refine ⟨r, hk, r1, by rw [r3, hq1], fun w' => by rw [r2]; rfl, _, g2, fun m hm w' hw => ?_⟩
    rw [r2] at hm
    by_cases hz : len = 0
    · have : m = 0 := by omega
      subst this; subst hz
      exact rd0 _ _ _ _
    · obtain rfl := ha.resolve_left (by omega)
      have h4 := (hca.piece (m := poff p) (k := q.csz)).piece (m := lo * te.size) (k := len * te.size)
      rw [Nat.zero_add] at h4
      exact rd b _ _ len cap m h4 hl2 hm w' hw
  | str s =>
    obtain ⟨rfl, hk⟩ := h
    have e := hv.str_inv
    subst e
    have hs : (⟨s.toArray⟩ : ByteArray).size = s.length := by simp [ByteArray.size]
    refine ⟨_, hk, rfl, rfl, fun w' => by simp [Builtin.lenOf, hs, AV.cnt], _, .ints .u8 (by simp), fun m hm w' _ => ?_⟩
    have he : (⟨s.toArray⟩ : ByteArray).extract 0 m = ⟨(s.take m).toArray⟩ := by
      apply ByteArray.ext
      rw [ByteArray.data_extract]
      apply Array.ext'
      simp [List.extract]
    simp only [Builtin.firstCells, AV.cnt, he, Sem.run_pure, Ty.size, Nat.mul_one]
    congr 1
    simp [List.map_map, List.map_take]
    rfl
  | _ => exact h.elim

/-- The slice that is appended to, as the call's own. -/
inductive Own (β : Bmap) (O : OO) (te : Ty) (c : AV) : Value → OO → Prop
  | none (hc : c.cnt = 0) : Own β O te c (.slice none 0 0) O
  | some {O' : OO} {i b κ cap : Nat} {base : Option Addr} (hl : lk O i = some (.row c)) (hb : β i = some (b, κ)) (h1 : c.cnt ≤ cap) (h2 : cap ≤ κ) (ha : cap = 0 ∨ base = some ⟨b, 0, none⟩)
      (hO : ∀ j, lk O' j = if j = i then none else lk O j) : Own β O te c (.slice base c.cnt cap) O'
theorem ownC_spec (h0 : RelAt E N M β T O n a w) {te : Ty} {v : AV} {x : Value} {κ : AV → OO → Prop} (hpos : 0 < te.size) (h : ownC te O v κ) (hv : VR M β v x) :
    ∃ c O', κ c O' ∧ Own β O te c x O' ∧ c.isRow = true ∧ (c.cnt = 0 → RV M β c []) := by
  cases v with
  | nils =>
    have e := hv.nils_inv
    subst e
    have h' : zerosC 0 te (fun c => κ c O) := h
    obtain ⟨c, hk, hrow, hcnt, hez, _, hrv⟩ := zerosC_spec h' hpos
    exact ⟨c, O, hk, .none hcnt, hrow, fun _ => by simpa using hrv (M := M) (β := β)⟩
  | osl i p sz lo len =>
    obtain ⟨rfl, rfl, rfl, h1⟩ := h
    obtain ⟨ob, hl, h2⟩ := objC_spec h1
    cases ob with
    | row c =>
      obtain ⟨rfl, h3⟩ := h2
      obtain ⟨O', hk, hO⟩ := rmO_spec h3
      obtain ⟨b, κ0, base, cap, hb, rfl, hcap, hkk, ha⟩ := hv.osl_inv
      obtain ⟨b', κ', hb', hor⟩ := h0.st.objs _ _ hl
      obtain ⟨hrow, hez, hor⟩ := hor
      refine ⟨c, O', hk, .some hl hb hcap (by have := hkk rfl; omega) (by simpa [poff] using ha) hO, hrow, fun hz => ?_⟩
      rcases hor with ⟨_, _, h⟩ | ⟨_, cc, sp, e, fz, _, _, h, _⟩
      · exact h
      · have := row_len h hrow
        rw [hz, Nat.zero_mul] at this
        rw [List.eq_nil_of_length_eq_zero this] at h
        exact h
    | _ => exact h2.elim
  | _ => exact h.elim
theorem catC_spec {c d : AV} {κ : AV → Prop} (h : catC c d κ) : ∃ e, κ e ∧ e.isRow = true ∧ e.cnt = c.cnt + d.cnt ∧ e.esz = c.esz ∧ ∀ {M : Pool} {β : Bmap} {cc dd : List Value}, RV M β c cc → RV M β d dd → RV M β e (cc ++ dd) := by
  cases c <;> cases d <;> first | exact h.elim | skip
  · obtain ⟨rfl, h⟩ := h
    refine ⟨_, h, rfl, rfl, rfl, fun {M β cc dd} h1 h2 => ?_⟩
    cases h1 with
    | ints _ l1 => cases h2 with
      | ints _ l2 => rw [← List.map_append]; exact .ints _ (by simp [l1, l2])
  · obtain ⟨rfl, h⟩ := h
    refine ⟨_, h, rfl, by simp [AV.cnt], rfl, fun {M β cc dd} h1 h2 => ?_⟩
    cases h1 with
    | arr l1 z1 => cases h2 with
      | arr l2 z2 => exact .arr (l1.append l2) fun p hp => by rcases List.mem_append.1 hp with hp | hp; exact z1 p hp; exact z2 p hp
  · obtain ⟨rfl, hn, h⟩ := h
    refine ⟨_, h, rfl, by simp [AV.cnt], rfl, fun {M β cc dd} h1 h2 => ?_⟩
    cases h1 with
    | arr l1 z1 => cases h2 with
      | lst l2 z2 n2 => exact .lst ((nid_aux.2.1 l1 hn nob).append l2) (fun p hp => by rcases List.mem_append.1 hp with hp | hp; exact z1 p hp; exact z2 p hp) (by simp [n2])
  · obtain ⟨rfl, hn, h⟩ := h
    refine ⟨_, h, rfl, by simp [AV.cnt], rfl, fun {M β cc dd} h1 h2 => ?_⟩
    cases h1 with
    | lst l1 z1 n1 => cases h2 with
      | arr l2 z2 => exact .lst (l1.append (nid_aux.2.1 l2 hn nob)) (fun p hp => by rcases List.mem_append.1 hp with hp | hp; exact z1 p hp; exact z2 p hp) (by simp [n1])
  · obtain ⟨rfl, h⟩ := h
    refine ⟨_, h, rfl, by simp [AV.cnt], rfl, fun {M β cc dd} h1 h2 => ?_⟩
    cases h1 with
    | lst l1 z1 n1 => cases h2 with
      | lst l2 z2 n2 => exact .lst (l1.append l2) (fun p hp => by rcases List.mem_append.1 hp with hp | hp; exact z1 p hp; exact z2 p hp) (by simp [n1, n2])

/-- append, whatever comes behind. -/
theorem RelAt.app (h0 : RelAt E N M β T O n a w) (hok : E.ok n) {te : Ty} {e : TypeId} {inf : TypeInfo} {c d r : AV} {x : Value} {dd : List Value} {O' : OO} (hte : te.ok P e) (hinf : P.info? e = some inf) (hpos : 0 < te.size) (hb0 : 0 < inf.bytes)
    (hown : Own β O te c x O') (hcr : c.isRow = true) (hce : c.esz = te.size) (hc0 : c.cnt = 0 → RV M β c []) (hd : RV M β d dd) (hdl : dd.length = d.cnt * te.size)
    (hr : r.isRow = true) (hrc : r.cnt = c.cnt + d.cnt) (hre : r.esz = te.size) (hrv : ∀ {M : Pool} {β : Bmap} {cc dd : List Value}, RV M β c cc → RV M β d dd → RV M β r (cc ++ dd)) (hsz : (c.cnt + d.cnt) * inf.bytes ≤ 140737488355328) :
    ∃ base len cap, x = .slice base len cap ∧ len = c.cnt ∧
      ((c.cnt + d.cnt ≤ cap ∧ ∃ w' κ' b', (match base with | some aa => storeCells (aa.add (c.cnt * te.size)) dd | none => pure ()).run P w = .ok () w' ∧
          RelAt E N M (updB β n (b', κ')) T ((n, .row r) :: O') (n + 1) a w' ∧ VR M (updB β n (b', κ')) (.osl n [] te.size 0 (c.cnt + d.cnt)) (.slice base (c.cnt + d.cnt) cap)) ∨
       (¬ c.cnt + d.cnt ≤ cap ∧ Builtin.nextslicecap (c.cnt + d.cnt) cap * inf.bytes ≤ 281474976710656 ∧ ∃ cc, RV M β c cc ∧ (∀ w' : World, w'.heap = w.heap → (Builtin.firstCells te.size c.cnt x).run P w' = .ok cc.toArray w') ∧
          ∀ newCap, c.cnt + d.cnt ≤ newCap → ∀ w' : World, w'.heap = w.heap → w'.os = w.os → w'.tape = w.tape → w'.output = w.output → ∀ cells : Array Value, cells.toList = cc ++ (dd ++ (List.replicate (newCap - (c.cnt + d.cnt)) te.zc).flatten) →
            RelAt E N M (updB β n (w.heap.size, newCap)) T ((n, .row r) :: O') (n + 1) a (w'.alloc (.cells cells e)) ∧ VR M (updB β n (w.heap.size, newCap)) (.osl n [] te.size 0 (c.cnt + d.cnt)) (.slice (some ⟨w.heap.size, 0, none⟩) (c.cnt + d.cnt) newCap))) := by
  have hn : β n = none := h0.ids n (Nat.le_refl _) hok
  have hzl : te.zc.length = te.size := by rw [(zero_rv (M := M) te β).length, zero_csz.1]
  have hdr : O = O' ∨ ∃ i, ∀ j, lk O' j = if j = i then none else lk O j := by
    cases hown with
    | none => exact .inl rfl
    | some _ _ _ _ _ hO => exact .inr ⟨_, hO⟩
  have st' : St E M β O' w := by
    rcases hdr with rfl | ⟨i, hO⟩
    · exact h0.st
    · exact h0.st.drop hO
  have hvrow : ∀ (b κ : Nat) (base : Option Addr) (cap : Nat), c.cnt + d.cnt ≤ cap → cap ≤ κ → (cap = 0 ∨ base = some ⟨b, 0, none⟩) → VR M (updB β n (b, κ)) (.osl n [] te.size 0 (c.cnt + d.cnt)) (.slice base (c.cnt + d.cnt) cap) := fun b κ base cap g1 g2 g3 =>
    .one rfl (.osl (by simp; exact ⟨rfl, rfl⟩) g1 (fun _ => by omega) (by simpa [poff] using g3))
  have grow : ∀ cc : List Value, RV M β c cc → ∀ newCap, c.cnt + d.cnt ≤ newCap → ∀ w' : World, w'.heap = w.heap → w'.os = w.os → w'.tape = w.tape → w'.output = w.output → ∀ cells : Array Value, cells.toList = cc ++ (dd ++ (List.replicate (newCap - (c.cnt + d.cnt)) te.zc).flatten) →
            RelAt E N M (updB β n (w.heap.size, newCap)) T ((n, .row r) :: O') (n + 1) a (w'.alloc (.cells cells e)) ∧ VR M (updB β n (w.heap.size, newCap)) (.osl n [] te.size 0 (c.cnt + d.cnt)) (.slice (some ⟨w.heap.size, 0, none⟩) (c.cnt + d.cnt) newCap) := by
    intro cc hcc newCap hcap w' e1 e2 e3 e4 cells hcells
    have hcl := row_len hcc hcr
    rw [hce] at hcl
    have r0 : RelAt E N M β T O' n a w := ⟨st', h0.ids, h0.tmps, h0.nd, h0.sz, h0.base, h0.le0⟩
    have st2 : St E M β O' w' := ⟨fun b i v hm => by rw [cell_same (congrArg (·[b]?) e1)]; exact st'.pool b i v hm, st'.sub, st'.only, fun o ob hl => by
        obtain ⟨b, κ, hb, hor⟩ := st'.objs o ob hl
        exact ⟨b, κ, hb, hor.mono (BLe.refl _) fun _ => by rw [e1]⟩, st'.mine, st'.inj, by rw [e1]; exact st'.size, fun b hb hn => by rw [e1]; exact st'.keep b hb hn, by rw [e2, st'.os], by rw [e3, st'.tape], by rw [e4, st'.output]⟩
    have r1 : RelAt E N M β T O' n a w' := ⟨st2, h0.ids, h0.tmps, h0.nd, h0.sz, h0.base, h0.le0⟩
    have hs : w'.heap.size = w.heap.size := by rw [e1]
    have := r1.newRow hok (e := e) (cells := cells) (c := r) (κ := newCap) (cc := cc ++ dd) (sp := (List.replicate (newCap - (c.cnt + d.cnt)) te.zc).flatten) (hrv hcc hd) hr (by omega) (by rw [hcells]; simp)
      (by
        simp only [List.length_append, hcl, hdl, List.length_flatten, List.map_replicate, List.sum_replicate_nat, hzl, hre]
        rw [← Nat.add_mul, ← Nat.add_mul]; congr 1; omega)
      (by rw [List.length_append, hcl, hdl, hrc, hre, Nat.add_mul])
    rw [hs] at this
    exact ⟨this, hvrow _ _ _ _ hcap (Nat.le_refl _) (.inr rfl)⟩
  cases hown with
  | none hc =>
    refine ⟨none, 0, 0, rfl, hc.symm, ?_⟩
    by_cases hz : c.cnt + d.cnt ≤ 0
    · refine .inl ⟨hz, w, 0, 0, rfl, ?_, hvrow _ _ _ _ hz (Nat.le_refl _) (.inl rfl)⟩
      have hd0 : dd = [] := List.eq_nil_of_length_eq_zero (by rw [hdl, show d.cnt = 0 by omega, Nat.zero_mul])
      subst hd0
      have hr0 := hrv (hc0 hc) hd
      have : St E M (updB β n (0, 0)) ((n, .row r) :: O) w := by
        refine h0.st.next (updB_le hn _) (Nat.le_refl _) (fun _ => False) (fun _ hx => hx.elim) (fun _ _ _ => rfl) rfl rfl rfl (fun i ob hi => ?_) ?_
        · simp only [lk] at hi
          split at hi
          · rename_i e; subst e; cases hi
            exact .inr ⟨0, 0, by simp, ⟨hr, by omega, .inl ⟨rfl, by omega, hr0.mono (PLe.refl _) (updB_le hn _)⟩⟩, fun h => absurd rfl h⟩
          · exact .inl ⟨hi, fun _ _ _ _ hx => hx⟩
        · intro i j o1 o2 b κ1 κ2 g1 g2 e1 e2 k1 k2
          by_cases c1 : i = n
          · subst c1; simp at e1; omega
          · by_cases c2 : j = n
            · subst c2; simp at e2; omega
            · simp only [lk, if_neg (Ne.symm c1)] at g1
              simp only [lk, if_neg (Ne.symm c2)] at g2
              simp only [updB, if_neg c1] at e1
              simp only [updB, if_neg c2] at e2
              exact h0.st.inj _ _ _ _ _ _ _ g1 g2 e1 e2 k1 k2
      exact h0.next this (updB_le hn _) (h0.fresh _) (updB_low hok _ _) (Nat.le_succ _)
    · refine .inr ⟨hz, growslice_fits (by omega) hsz, [], hc0 hc, fun w' _ => rfl, grow [] (hc0 hc)⟩
  | some hl hb h1 h2 ha hO =>
    rename_i i b κ cap base
    refine ⟨base, c.cnt, cap, rfl, rfl, ?_⟩
    obtain ⟨b', κ', hb', hor⟩ := h0.st.objs _ _ hl
    rw [hb] at hb'; cases hb'
    have hor' := hor
    obtain ⟨_, _, hor⟩ := hor
    by_cases hz : c.cnt + d.cnt ≤ cap
    · rcases hor with ⟨hk0, _, h3⟩ | ⟨hk0, cc, sp, e', fz, g1, g2, g3, g4⟩
      · have hcap : cap = 0 := by omega
        subst hk0; subst hcap
        have hd0 : dd = [] := List.eq_nil_of_length_eq_zero (by rw [hdl, show d.cnt = 0 by omega, Nat.zero_mul])
        subst hd0
        have hr0 := hrv h3 hd
        refine .inl ⟨hz, w, 0, b, by cases base <;> rfl, ?_, hvrow _ _ _ _ hz (Nat.le_refl _) (.inl rfl)⟩
        have : St E M (updB β n (b, 0)) ((n, .row r) :: O') w := by
          refine st'.next (updB_le hn _) (Nat.le_refl _) (fun _ => False) (fun _ hx => hx.elim) (fun _ _ _ => rfl) rfl rfl rfl (fun i ob hi => ?_) ?_
          · simp only [lk] at hi
            split at hi
            · rename_i e; subst e; cases hi
              exact .inr ⟨b, 0, by simp, ⟨hr, by omega, .inl ⟨rfl, by omega, hr0.mono (PLe.refl _) (updB_le hn _)⟩⟩, fun h => absurd rfl h⟩
            · exact .inl ⟨hi, fun _ _ _ _ hx => hx⟩
          · intro i j o1 o2 b κ1 κ2 g1 g2 e1 e2 k1 k2
            by_cases c1 : i = n
            · subst c1; simp at e1; omega
            · by_cases c2 : j = n
              · subst c2; simp at e2; omega
              · simp only [lk, if_neg (Ne.symm c1)] at g1
                simp only [lk, if_neg (Ne.symm c2)] at g2
                simp only [updB, if_neg c1] at e1
                simp only [updB, if_neg c2] at e2
                exact st'.inj _ _ _ _ _ _ _ g1 g2 e1 e2 k1 k2
        exact h0.next this (updB_le hn _) (h0.fresh _) (updB_low hok _ _) (Nat.le_succ _)
      · have hcl := row_len g3 hcr
        rw [hce] at hcl g4
        have hfit : cc.length + dd.length ≤ (cc ++ sp).length := by
          rw [g4, hcl, hdl, ← Nat.add_mul]
          exact Nat.mul_le_mul_right _ (by omega)
        have hlt : b < w.heap.size := (Array.getElem?_eq_some_iff.1 g1).1
        have hrun := run_storeCells (P := P) (b := b) (o := c.cnt * te.size) (e := e') (fz := fz) dd 0 w (cc ++ sp) g1 (by rw [← hcl]; omega) g2 hd.one
        have hsp : splice (cc ++ sp) (c.cnt * te.size + 0) dd = (cc ++ dd) ++ sp.drop dd.length := by
          simp only [splice, Nat.add_zero, ← hcl]
          rw [List.take_append_of_le_length (Nat.le_refl _), List.take_of_length_le (Nat.le_refl _), List.drop_append, List.drop_of_length_le (by omega), show cc.length + dd.length - cc.length = dd.length by omega]
          simp
        have hcap0 : cap ≠ 0 ∨ dd = [] := by
          by_cases hd0 : dd = []
          · exact .inr hd0
          · left
            intro hc0'
            have : d.cnt = 0 := by omega
            rw [this, Nat.zero_mul] at hdl
            exact hd0 (List.eq_nil_of_length_eq_zero hdl)
        have hlen2 : ((cc ++ dd) ++ sp.drop dd.length).length = (cc ++ sp).length := by
          simp only [List.length_append, List.length_drop] at hfit ⊢; omega
        have hfin : ∀ w', w' = w.putBlock b (.cells ((cc ++ dd) ++ sp.drop dd.length).toArray e' fz) → RelAt E N M (updB β n (b, κ)) T ((n, .row r) :: O') (n + 1) a w' := by
          rintro w' rfl
          refine h0.next (h0.st.reuse hn hl hb hk0 hO ⟨hr, by omega, .inr ⟨hk0, cc ++ dd, sp.drop dd.length, e', fz, by rw [getElem?_putBlock hlt]; simp, by rw [hlen2]; exact g2, (hrv g3 hd).mono (PLe.refl _) (updB_le hn _), ?_⟩⟩) (updB_le hn _) (h0.fresh _) (updB_low hok _ _) (Nat.le_succ _)
          rw [hlen2, hre, g4]
        cases base with
        | none =>
          have hd0 : dd = [] := by
            rcases hcap0 with h | h
            · rcases ha with h' | h'
              · exact absurd h' h
              · cases h'
            · exact h
          subst hd0
          refine .inl ⟨hz, w, κ, b, rfl, hfin w ?_, hvrow _ _ _ _ hz h2 (by simpa using ha)⟩
          have : ((cc ++ []) ++ sp.drop 0).toArray = (cc ++ sp).toArray := by simp
          simp only [List.length_nil, this]
          exact (putBlock_same g1).symm
        | some aa =>
          by_cases hc00 : cap = 0
          · have hd0 : dd = [] := hcap0.resolve_left (by simpa using hc00)
            subst hd0
            refine .inl ⟨hz, w, κ, b, rfl, hfin w ?_, hvrow _ _ _ _ hz h2 ha⟩
            have : ((cc ++ []) ++ sp.drop 0).toArray = (cc ++ sp).toArray := by simp
            simp only [List.length_nil, this]
            exact (putBlock_same g1).symm
          · obtain hbase := ha.resolve_left hc00
            cases hbase
            rw [hsp] at hrun
            refine .inl ⟨hz, _, κ, b, ?_, hfin _ rfl, hvrow _ _ _ _ hz h2 ha⟩
            simp only [add_none, Nat.zero_add]
            exact hrun
    · refine .inr ⟨hz, growslice_fits (by omega) hsz, ?_⟩
      have hcc : ∃ cc, RV M β c cc ∧ (∀ w' : World, w'.heap = w.heap → (Builtin.firstCells te.size c.cnt (.slice base c.cnt cap)).run P w' = .ok cc.toArray w') := by
        rcases hor with ⟨hk0, hc0', h3⟩ | ⟨hk0, cc, sp, e', fz, g1, g2, g3, g4⟩
        · refine ⟨[], h3, fun w' _ => ?_⟩
          cases base <;> simp only [Builtin.firstCells, hc0', Nat.zero_mul, loadCells, loadCellsFrom] <;> rfl
        · have hcl := row_len g3 hcr
          rw [hce] at hcl
          refine ⟨cc, g3, fun w' hw => ?_⟩
          by_cases hcz : c.cnt = 0
          · rw [hcz, Nat.zero_mul] at hcl
            have := List.eq_nil_of_length_eq_zero hcl
            subst this
            cases base <;> simp only [Builtin.firstCells, hcz, Nat.zero_mul, loadCells, loadCellsFrom] <;> rfl
          · obtain rfl := ha.resolve_left (by omega)
            simp only [Builtin.firstCells]
            rw [← hcl]
            refine run_loadCells fun i v hi => ?_
            have g5 : w'.heap[b]? = some (.cells (cc ++ sp).toArray e' fz) := by rw [hw]; exact g1
            simp only [World.cell?, g5]
            have hi2 : i < cc.length := (List.getElem?_eq_some_iff.1 hi).1
            simp only [Option.isSome_none, Bool.false_eq_true, if_false, Nat.zero_add, List.getElem?_toArray]
            rw [List.getElem?_append_left hi2]; exact hi
      obtain ⟨cc, h3, h4⟩ := hcc
      exact ⟨cc, h3, h4, grow cc h3⟩
end
end Go.Sy
/- The builtins' runs. -/
namespace Go.Sy
open Go
set_option linter.unusedSimpArgs false
set_option linter.unusedVariables false
section
variable {E : Env} {N : Nat} {M : Pool} {β β' : Bmap} {T : TT} {O O' : OO} {n : Nat} {a : Act} {w w' : World} {P : Program} {o : Oper} {K : KK}

/-- What an operation with memory of its own comes to. -/
def BltS (P : Program) (E : Env) (N : Nat) (T : TT) (a : Act) (w : World) (s : Sem Value) (κ : AV → OO → Nat → Prop) : Prop :=
  ∃ r O' n' y w' M' β', κ r O' n' ∧ s.run P w = .ok y w' ∧ RelAt E N M' β' T O' n' a w' ∧ VR M' β' r y
theorem zeroCells_list (z : Value) (te : Ty) (hz : z = te.zv) (k : Nat) (hpos : 0 < te.size) : (Builtin.zeroCells z.cells k).toList = (List.replicate k te.zc).flatten := by
  have hzl : te.zc.length = te.size := by rw [(zero_rv (M := fun _ _ => none) te nob).length, zero_csz.1]
  have hzc : te.zv.cells = te.zc.toArray := by cases te <;> rfl
  have := zerosFill k te.zc (by omega)
  unfold Builtin.zeroCells
  rw [hz, hzc]
  simpa using this
theorem app_run (h0 : RelAt E N M β T O n a w) {st xt e tt : TypeId} {te : Ty} {inf : TypeInfo} {c d : AV} {s x : Value} {O' : OO} {κ : AV → OO → Nat → Prop} (hst : P.underlying st = some (.slice e)) (hte : te.ok P e) (hinf : P.info? e = some inf)
    (hpos : 0 < te.size) (hb0 : 0 < inf.bytes) (hown : Own β O te c s O') (hcr : c.isRow = true) (hc0 : c.cnt = 0 → RV M β c []) (hx : (∃ xty, P.underlying xt = some xty ∧ (∀ k, xty ≠ .int k) ∧ Cont M β w P te x d) ∨
      (∃ k kk, P.underlying xt = some (.int k) ∧ x = .int kk d.cnt ∧ (d.cnt : Int) ≤ 9223372036854775807 ∧ d.isRow = true ∧ d.esz = te.size ∧ ∀ {M : Pool} {β : Bmap}, RV M β d (List.replicate d.cnt te.zc).flatten))
    (hK : ∀ v O' n', κ v O' n' → ∀ o, n ≤ o → o < n' → E.ok o) (h : appC te inf.bytes c d n O' κ) : BltS P E N T a w (Builtin.append_ #[st, xt] tt #[s, x]) κ := by
  obtain ⟨hsz, hce, h⟩ := h
  have hsl : ∃ b l c', s = .slice b l c' := by cases hown <;> exact ⟨_, _, _, rfl⟩
  obtain ⟨sb, sl0, sc0, rfl⟩ := hsl
  obtain ⟨r, hk, hr, hrc, hre, hrv⟩ := catC_spec h
  have hzl : te.zc.length = te.size := by rw [(zero_rv (M := M) te β).length, zero_csz.1]
  have hdd : ∃ dd, RV M β d dd ∧ dd.length = d.cnt * te.size := by
    rcases hx with ⟨_, _, _, hc⟩ | ⟨k, kk, _, rfl, _, hdr, hde, hrv⟩
    · obtain ⟨dd, h1, _⟩ := hc.cells
      exact ⟨dd, h1, by rw [row_len h1 hc.row, hc.ez]⟩
    · exact ⟨_, hrv, by simp [hzl]⟩
  have hm : IntKind.i64.max = 9223372036854775807 := by decide
  have hnb : ∀ z : Prop, ¬ (((c.cnt + d.cnt : Nat) : Int) > IntKind.i64.max ∧ (z ∨ inf.bytes = 0)) := by
    intro z
    rw [hm]
    intro hh
    have : (c.cnt + d.cnt) * 1 ≤ (c.cnt + d.cnt) * inf.bytes := Nat.mul_le_mul_left _ hb0
    omega
  have pick : ∀ dd : List Value, RV M β d dd → dd.length = d.cnt * te.size →
      (∀ cap w', sl0 = c.cnt → sc0 = cap → c.cnt + d.cnt ≤ cap → (match sb with | some aa => storeCells (aa.add (c.cnt * te.size)) dd | none => pure ()).run P w = .ok () w' →
        (Builtin.append_ #[st, xt] tt #[.slice sb sl0 sc0, x]).run P w = .ok (.slice sb (c.cnt + d.cnt) cap) w') →
      (∀ cap (cc : List Value), sl0 = c.cnt → sc0 = cap → ¬ c.cnt + d.cnt ≤ cap → Builtin.nextslicecap (c.cnt + d.cnt) cap * inf.bytes ≤ 281474976710656 → (∀ w' : World, w'.heap = w.heap → (Builtin.firstCells te.size c.cnt (.slice sb sl0 sc0)).run P w' = .ok cc.toArray w') →
        ∃ nc, c.cnt + d.cnt ≤ nc ∧ (Builtin.append_ #[st, xt] tt #[.slice sb sl0 sc0, x]).run P w =
          .ok (.slice (some ⟨w.heap.size, 0, none⟩) (c.cnt + d.cnt) nc) (w.drew.alloc (.cells (cc.toArray ++ dd.toArray ++ Builtin.zeroCells te.zv.cells (nc - (c.cnt + d.cnt))) e))) →
      BltS P E N T a w (Builtin.append_ #[st, xt] tt #[.slice sb sl0 sc0, x]) κ := by
    intro dd hd hdl g1 g2
    obtain ⟨base, len, cap, e0, e1, hcase⟩ := h0.app (hK _ _ _ hk n (Nat.le_refl _) (Nat.lt_succ_self _)) hte hinf hpos hb0 hown hcr hce hc0 hd hdl hr hrc (by rw [hre, hce]) hrv hsz
    cases e0
    rcases hcase with ⟨hle, w', κ', b', hst', hrel, hv⟩ | ⟨hgt, hcapn, cc, hcc, hold, hgrow⟩
    · exact ⟨_, _, _, _, w', M, _, hk, g1 _ w' e1 rfl hle hst', hrel, hv⟩
    · obtain ⟨nc, hle, hrun⟩ := g2 _ cc e1 rfl hgt hcapn hold
      obtain ⟨hrel, hv⟩ := hgrow nc hle w.drew rfl rfl rfl rfl (cc.toArray ++ dd.toArray ++ Builtin.zeroCells te.zv.cells (nc - (c.cnt + d.cnt))) (by
        simp only [Array.toList_append, List.append_assoc]
        rw [zeroCells_list _ te rfl _ hpos])
      exact ⟨_, _, _, _, _, M, _, hk, hrun, hrel, hv⟩
  rcases hx with ⟨xty, hu, hni, hc⟩ | ⟨k, kk, hu, rfl, hle, hdr, hde, hrv2⟩
  · obtain ⟨dd, hd, hcells⟩ := hc.cells
    have hdl : dd.length = d.cnt * te.size := by rw [row_len hd hc.row, hc.ez]
    have hz : ∀ d : TypeDesc, (∀ k, d ≠ .int k) → (match d with | .int _ => true | _ => false) = false := by
      intro d h
      cases d <;> first | rfl | exact absurd rfl (h _)
    refine pick dd hd hdl (fun cap w' e1 e2 hle hst' => ?_) fun cap cc e1 e2 hgt hcapn hold => ?_
    · subst e1; subst e2
      simp only [Builtin.append_, List.getElem?_toArray, List.getElem?_cons_zero, List.getElem?_cons_succ, Sem.run_bind, r_under hst, Result.andThen_ok, r_size hte, r_under hu, Sem.run_pure, hz xty hni]
      simp only [Bool.false_eq_true, if_false, hc.len w, Result.andThen_ok, Bool.not_false, if_true, hle, Sem.run_bind, hcells w rfl]
      cases sb with
      | none =>
        have : w' = w := by simpa using hst'.symm
        subst this
        rfl
      | some aa =>
        simp only at hst'
        simp only [Sem.run_bind, hst', Result.andThen_ok]
        rfl
    · subst e1; subst e2
      refine ⟨c.cnt + d.cnt + w.tape w.drawn (.appendCap (c.cnt + d.cnt) sc0 e) % (2 ^ 63 - (c.cnt + d.cnt)), Nat.le_add_right _ _, ?_⟩
      simp only [Builtin.append_, List.getElem?_toArray, List.getElem?_cons_zero, List.getElem?_cons_succ, Sem.run_bind, r_under hst, Result.andThen_ok, r_size hte, r_under hu, Sem.run_pure, hz xty hni]
      simp only [Bool.false_eq_true, if_false, hc.len w, Result.andThen_ok, Bool.not_false, if_true, hgt, Sem.run_bind, r_info hinf, hnb]
      rw [if_neg (by omega)]
      simp only [Sem.run_bind, run_choose, Question.forced, Bool.false_eq_true, if_false, Result.andThen_ok, Question.cut, run_askRoom, drewFold, r_info hinf]
      rw [hold w.drew rfl]
      simp only [Result.andThen_ok, hcells w.drew rfl, newRow, Sem.run_bind, run_newObj, Sem.run_pure, r_zero hte]
      rfl
  · have hwr : IntKind.i64.wrap (d.cnt : Int) = d.cnt := by simp [IntKind.wrap, IntKind.bits, IntKind.signed]; omega
    have hbl : ¬ ((d.cnt : Int) * inf.bytes > 2 ^ 48) := by
      have h1 : d.cnt * inf.bytes ≤ (c.cnt + d.cnt) * inf.bytes := Nat.mul_le_mul_right _ (by omega)
      have h2 : ((d.cnt * inf.bytes : Nat) : Int) = (d.cnt : Int) * inf.bytes := by simp
      omega
    have hn0 : ¬ ((d.cnt : Int) < 0) := by omega
    have hcells : ∀ w' : World, ((if d.cnt * te.size = 0 then pure #[] else do pure (Builtin.zeroCells (← zeroValue e).cells d.cnt)) : Sem (Array Value)).run P w' = .ok (List.replicate d.cnt te.zc).flatten.toArray w' := by
      intro w'
      by_cases h0 : d.cnt * te.size = 0
      · have : d.cnt = 0 := by rcases Nat.mul_eq_zero.1 h0 with h | h <;> omega
        rw [if_pos h0, this]
        rfl
      · rw [if_neg h0]
        simp only [Sem.run_bind, r_zero hte, Result.andThen_ok, Sem.run_pure]
        congr 1
        apply Array.ext'
        rw [zeroCells_list _ te rfl _ hpos]
    refine pick _ hrv2 (by simp [hzl]) (fun cap w' e1 e2 hle hst' => ?_) fun cap cc e1 e2 hgt hcapn hold => ?_
    · subst e1; subst e2
      simp only [Builtin.append_, List.getElem?_toArray, List.getElem?_cons_zero, List.getElem?_cons_succ, Sem.run_bind, r_under hst, Result.andThen_ok, r_size hte, r_under hu, Sem.run_pure]
      simp only [if_true, asInt, asIntOf, Sem.run_bind, Sem.run_pure, Result.andThen_ok, hwr, hn0, if_false, r_info hinf, hbl, Int.toNat_natCast, hle, Bool.not_true, Bool.false_eq_true, hcells]
      cases sb with
      | none =>
        have : w' = w := by simpa using hst'.symm
        subst this
        rfl
      | some aa =>
        simp only at hst'
        simp only [Sem.run_bind, hst', Result.andThen_ok]
        rfl
    · subst e1; subst e2
      refine ⟨c.cnt + d.cnt + w.tape w.drawn (.appendCap (c.cnt + d.cnt) sc0 e) % (2 ^ 63 - (c.cnt + d.cnt)), Nat.le_add_right _ _, ?_⟩
      simp only [Builtin.append_, List.getElem?_toArray, List.getElem?_cons_zero, List.getElem?_cons_succ, Sem.run_bind, r_under hst, Result.andThen_ok, r_size hte, r_under hu, Sem.run_pure]
      simp only [if_true, asInt, asIntOf, Sem.run_bind, Sem.run_pure, Result.andThen_ok, hwr, hn0, if_false, r_info hinf, hbl, Int.toNat_natCast, hgt, Bool.not_true, Bool.false_eq_true, hnb]
      rw [if_neg (by omega)]
      simp only [Sem.run_bind, run_choose, Question.forced, Bool.false_eq_true, if_false, Result.andThen_ok, Question.cut, run_askRoom, drewFold, r_info hinf]
      rw [hold w.drew rfl]
      simp only [Result.andThen_ok, hcells, newRow, Sem.run_bind, run_newObj, Sem.run_pure, r_zero hte]
      rfl
end
end Go.Sy
/- The builtins and the conversions as operations. -/
namespace Go.Sy
open Go
set_option linter.unusedSimpArgs false
set_option linter.unusedVariables false
section
variable {E : Env} {N : Nat} {M : Pool} {β β' : Bmap} {T : TT} {O O' : OO} {n : Nat} {a : Act} {w w' : World} {P : Program} {o : Oper} {K : KK}

theorem Cont.view {M1 : Pool} {te : Ty} {x : Value} {d d' : AV} (h : Cont M β w P te x d) (hv : Vw M M1 β d d') : Cont M1 β w P te x d' := by
  obtain ⟨h1, h2, h3, cc, h4, h5⟩ := h
  exact ⟨hv.row.trans h1, hv.esz.trans h2, fun w' => by rw [hv.cnt]; exact h3 w', cc, (hv.rv h4).mono (PLe.refl _) (BLe.nob _), fun m hm => by rw [hv.cnt] at hm; exact h5 m hm⟩
theorem RelAt.freeze (h : RelAt E N M β T O n a w) (F : List Nat) : ∃ M1, PLe M M1 ∧ Views M M1 β (frzO O F) ∧ RelAt E N M1 β T (dropO O F) n a w := by
  obtain ⟨M1, hM, hV, hs⟩ := h.st.freeze F
  exact ⟨M1, hM, hV, hs, h.ids, fun t v hl => by obtain ⟨x, hx, hv⟩ := h.tmps t v hl; exact ⟨x, hx, hv.mono hM (BLe.refl _)⟩, h.nd, h.sz, h.base, h.le0⟩
theorem St.retell (h : St E M β O w) {i : Nat} {ob ob' : OB} (hl : lk O i = some ob) (hO : ∀ j, lk O' j = if j = i then some ob' else lk O j) (hor : ∀ b κ, β i = some (b, κ) → OR M β b κ w ob') : St E M β O' w := by
  have hs : ∀ j x, lk O' j = some x → ∃ y, lk O j = some y := fun j x hj => by
    rw [hO] at hj
    split at hj
    · rename_i e; exact ⟨ob, by rw [e]; exact hl⟩
    · exact ⟨x, hj⟩
  refine ⟨h.pool, h.sub, h.only, fun o x hx => ?_, fun o x b κ hx hb hk => ?_, fun o o' x x' b κ κ' hx hx' => ?_, h.size, h.keep, h.os, h.tape, h.output⟩
  · have hx' := hx
    rw [hO] at hx
    split at hx
    · rename_i e
      subst e
      cases hx
      obtain ⟨b, κ, hb, _⟩ := h.objs _ _ hl
      exact ⟨b, κ, hb, hor b κ hb⟩
    · exact h.objs _ _ hx
  · obtain ⟨y, hy⟩ := hs _ _ hx
    exact h.mine _ _ _ _ hy hb hk
  · obtain ⟨y, hy⟩ := hs _ _ hx
    obtain ⟨y', hy'⟩ := hs _ _ hx'
    exact h.inj _ _ _ _ _ _ _ hy hy'
theorem Cont.mono1 {M1 : Pool} {te : Ty} {x : Value} {d : AV} (hM : PLe M M1) (h : Cont M β w P te x d) : Cont M1 β w P te x d := by
  obtain ⟨h1, h2, h3, cc, h4, h5⟩ := h
  exact ⟨h1, h2, h3, cc, h4.mono hM (BLe.refl _), h5⟩
theorem thawC_spec (h0 : RelAt E N M β T O n a w) {te : Ty} {s c d : AV} {sv xv : Value} {κ : AV → AV → OO → Prop} (hpos : 0 < te.size) (hs : VR M β s sv) (hown : Own β O te c sv O') (hcr : c.isRow = true) (hc0 : c.cnt = 0 → RV M β c []) (hd : Cont M β w P te xv d) (h : thawC te O O' s c d κ) :
    ∃ M1 O1 O2 c' d', RelAt E N M1 β T O1 n a w ∧ Own β O1 te c' sv O2 ∧ c'.isRow = true ∧ (c'.cnt = 0 → RV M1 β c' []) ∧ Cont M1 β w P te xv d' ∧ κ c' d' O2 := by
  unfold thawC at h
  split at h
  · rename_i sz ps
    cases hn : AV.nids ps with
    | true => exact ⟨M, O, O', _, _, h0, hown, hcr, hc0, hd, h.1 hn⟩
    | false =>
      obtain ⟨M1, hM, hV, h1⟩ := h0.freeze (reach O 3 (idsVs ps))
      obtain ⟨d', h2, hv⟩ := hV _ _ (h.2 hn)
      obtain ⟨c', O2, h3, hown', hcr', hc0'⟩ := ownC_spec h1 hpos h2 (hs.mono hM (BLe.refl _))
      exact ⟨M1, _, O2, c', d', h1, hown', hcr', hc0', hd.view hv, h3⟩
  · rename_i sz ps sz' m es
    cases hn : AV.nids ps with
    | true => exact ⟨M, O, O', _, _, h0, hown, hcr, hc0, hd, h.1 hn⟩
    | false =>
      obtain ⟨M1, hM, hV, h1⟩ := h0.freeze (reach O 3 (idsVs ps))
      obtain ⟨c', h2, hv⟩ := hV _ _ (h.2 hn)
      obtain ⟨c2, O2, ⟨rfl, h3⟩, hown', hcr', hc0'⟩ := ownC_spec h1 hpos h2 (hs.mono hM (BLe.refl _))
      have hne : (AV.arr sz ps).cnt ≠ 0 := by
        intro e
        have : ps = [] := List.eq_nil_of_length_eq_zero e
        subst this
        cases hn
      have ec : c'.cnt = (AV.arr sz ps).cnt := hv.cnt
      cases hown' with
      | none hc => exact absurd hc hne
      | some hl hb g1 g2 ha hO =>
        rename_i i b k cap base
        have hl0 : lk O i = some (.row (.arr sz ps)) := by
          rw [lk_dropO] at hl
          split at hl
          · cases hl
          · exact hl
        have hor : ∀ b κ, β i = some (b, κ) → OR M1 β b κ w (.row c') := fun b κ hb => by
          obtain ⟨b', κ', hb', hor⟩ := h0.st.objs _ _ hl0
          rw [hb] at hb'; cases hb'
          obtain ⟨_, e1, hor⟩ := hor
          refine ⟨hv.row, by rw [hv.esz]; exact e1, ?_⟩
          rcases hor with ⟨_, hz, _⟩ | ⟨hk0, cc, sp, e', fz, q1, q2, q3, q4⟩
          · exact absurd hz hne
          · exact .inr ⟨hk0, cc, sp, e', fz, q1, q2, (hv.rv q3).mono (PLe.refl _) (BLe.nob _), by rw [hv.esz]; exact q4⟩
        have hO1 : ∀ j, lk ((i, OB.row c') :: O2) j = if j = i then some (OB.row c') else lk (dropO O (reach O 3 (idsVs ps))) j := fun j => by
          simp only [lk]
          by_cases e : j = i
          · subst e; simp
          · rw [if_neg (Ne.symm e), if_neg e, hO, if_neg e]
        refine ⟨M1, (i, .row c') :: O2, O2, c', _, ⟨h1.st.retell hl hO1 hor, h1.ids, h1.tmps, h1.nd, h1.sz, h1.base, h1.le0⟩, ?_, hv.row, fun e => absurd (ec ▸ e) hne, hd.mono1 hM, h3⟩
        rw [← ec]
        exact .some (by simp [lk]) hb (by rw [ec]; exact g1) g2 ha fun j => by
          rw [hO1]
          by_cases e : j = i
          · subst e; rw [if_pos rfl, hO, if_pos rfl]
          · rw [if_neg e, if_neg e, hO, if_neg e]
  · exact ⟨M, O, O', _, _, h0, hown, hcr, hc0, hd, h⟩
theorem lk_repO {ob ob' : OB} {o : Nat} : ∀ {O : OO}, lk O o = some ob → ∀ j, lk (repO O o ob') j = if j = o then some ob' else lk O j
  | [], h, _ => by cases h
  | (i, x) :: O, h, j => by
    simp only [repO]
    by_cases e : i = o
    · subst e
      rw [if_pos rfl]
      simp only [lk]
      by_cases ej : i = j
      · subst ej; simp
      · rw [if_neg ej, if_neg (Ne.symm ej), if_neg ej]
    · rw [if_neg e]
      simp only [lk] at h ⊢
      rw [if_neg e] at h
      by_cases ej : i = j
      · subst ej; rw [if_pos rfl, if_neg e, if_pos rfl]
      · rw [if_neg ej, lk_repO h j, if_neg ej]
theorem truncC_spec (h0 : RelAt E N M β T O n a w) {s : AV} {κ : OO → Prop} (h : truncC O s κ) : ∃ O1, κ O1 ∧ RelAt E N M β T O1 n a w := by
  cases s with
  | osl o p sz lo len =>
    obtain ⟨ob, hl, h1⟩ := objC_spec h
    cases ob with
    | row c =>
      obtain ⟨h2, h3⟩ := h1
      by_cases e : c.cnt = len
      · exact ⟨O, h2 e, h0⟩
      · obtain ⟨rfl, rfl, hlt, h4⟩ := h3 e
        obtain ⟨q, hk, q1, q2, q3, q4, q5, q6⟩ := subC_spec h4
        refine ⟨_, hk, h0.st.retell hl (lk_repO hl) (fun b κ hb => ?_), h0.ids, h0.tmps, h0.nd, h0.sz, h0.base, h0.le0⟩
        obtain ⟨b', κ', hb', hor⟩ := h0.st.objs _ _ hl
        rw [hb] at hb'; cases hb'
        obtain ⟨g1, g2, g3⟩ := hor
        refine ⟨q1, by rw [q3]; exact g2, ?_⟩
        rcases g3 with ⟨_, hz, _⟩ | ⟨hk0, cc, sp, e', fz, r1, r2, r3, r4⟩
        · omega
        · obtain ⟨t1, t2⟩ := q6 r3
          simp only [Nat.zero_mul, Nat.zero_add] at t1 t2
          have e1 : piece cc 0 (len * c.esz) = cc.take (len * c.esz) := by simp [piece]
          rw [e1] at t2
          have e2 : cc.take (len * c.esz) ++ (cc.drop (len * c.esz) ++ sp) = cc ++ sp := by rw [← List.append_assoc, List.take_append_drop]
          exact .inr ⟨hk0, cc.take (len * c.esz), cc.drop (len * c.esz) ++ sp, e', fz, by rw [e2]; exact r1, by rw [e2]; exact r2, t2, by rw [e2, q3]; exact r4⟩
    | _ => exact h1.elim
  | _ => exact ⟨O, h, h0⟩
theorem appendC_spec (h0 : RelAt E N M β T O n a w) {ts : List TypeId} {s x : AV} {sv xv : Value} {tt : TypeId} {κ : AV → OO → Nat → Prop} (hK : ∀ v O' n', κ v O' n' → ∀ o, n ≤ o → o < n' → E.ok o) (h : appendC P ts s x O n κ) (hs : VR M β s sv) (hx : VR M β x xv) :
    BltS P E N T a w (Builtin.append_ ts.toArray tt #[sv, xv]) κ := by
  unfold appendC at h
  split at h
  · rename_i st xt
    obtain ⟨sty, hst, _, h⟩ := tyC_spec h
    cases sty with
    | slice e =>
      obtain ⟨te, hte, _, inf, hinf, hb0, hpos, h⟩ := tyC_spec h
      have gen : (∀ k i, x ≠ .int k i) → (tyC P xt fun xty => (∀ k, xty ≠ .int k) ∧ contC O te x fun d => truncC O s fun O1 => ownC te O1 s fun c O' => thawC te O1 O' s c d fun c d O' => appC te inf.bytes c d n O' κ) → BltS P E N T a w (Builtin.append_ #[st, xt] tt #[sv, xv]) κ := fun _ h => by
        obtain ⟨xty, hxt, _, hni, h⟩ := tyC_spec h
        obtain ⟨d, h, hc⟩ := contC_spec (P := P) h0 hpos h hx
        obtain ⟨O1, h, h0⟩ := truncC_spec h0 h
        obtain ⟨c, O', h, hown, hcr, hc0⟩ := ownC_spec h0 hpos h hs
        have hu : ∃ d, P.underlying xt = some d ∧ ∀ k, d ≠ .int k := by
          cases xty with
          | int k => exact absurd rfl (hni k)
          | st ts => obtain ⟨_, fs, hu, _⟩ := hxt; exact ⟨_, hu, by intro k e; cases e⟩
          | arr m e te => exact ⟨_, hxt.2.1, by intro k e; cases e⟩
          | func => obtain ⟨_, _, _, _, hu⟩ := hxt; exact ⟨_, hu, by intro k e; cases e⟩
          | _ => exact ⟨_, hxt.2, by intro k e; cases e⟩
        obtain ⟨xd, hu, hd⟩ := hu
        obtain ⟨M1, O1, O2, c', d', h1, hown', hcr', hc0', hc', h⟩ := thawC_spec h0 hpos hs hown hcr hc0 hc h
        exact app_run h1 hst.2 hte hinf hpos hb0 hown' hcr' hc0' (.inl ⟨xd, hu, hd, hc'⟩) hK h
      cases x with
      | int k m =>
        obtain ⟨xty, hxt, _, ⟨k', rfl⟩, hm0, hm1, h⟩ := tyC_spec h
        obtain ⟨d, h, hdr, hdc, hde, _, hrv⟩ := zerosC_spec h hpos
        obtain ⟨O1, h, h0⟩ := truncC_spec h0 h
        obtain ⟨c, O', h, hown, hcr, hc0⟩ := ownC_spec h0 hpos h hs
        have e := hx.int_inv
        subst e
        refine app_run h0 hst.2 hte hinf hpos hb0 hown hcr hc0 (.inr ⟨k', k, hxt.2, by rw [hdc, Int.toNat_of_nonneg hm0], by omega, hdr, hde, fun {M β} => by rw [hdc]; exact hrv⟩) hK h
      | _ => exact gen (by intro k i e; cases e) h
    | _ => exact h.elim
  · exact h.elim
theorem putC_spec {q d : AV} {lo : Nat} {κ : AV → Prop} (h : putC q lo d κ) : ∃ q', κ q' ∧ q'.isRow = true ∧ q'.esz = q.esz ∧ q'.cnt = q.cnt ∧ d.esz = q.esz ∧ lo + d.cnt ≤ q.cnt ∧ q'.csz = q.csz ∧
    ∀ {M : Pool} {β : Bmap} {cs dd : List Value}, RV M β q cs → RV M β d dd → RV M β q' (splice cs (lo * q.esz) dd) := by
  cases q <;> cases d <;> first | exact h.elim | skip
  · obtain ⟨rfl, hl, h⟩ := h
    rename_i k m xs n ys
    refine ⟨_, h, rfl, rfl, rfl, rfl, hl, rfl, fun {M β cs dd} h1 h2 => ?_⟩
    cases h1 with
    | ints _ l1 => cases h2 with
      | ints _ l2 =>
        have : splice (xs.map (Value.int k)) (lo * 1) (ys.map (Value.int k)) = (xs.take lo ++ (ys ++ xs.drop (lo + ys.length))).map (Value.int k) := by
          simp only [splice, Nat.mul_one, List.length_map, List.map_take, List.map_drop, List.map_append]
        simp only [AV.esz, AV.cnt] at *
        rw [this, l2]
        exact .ints _ (by simp; omega)
  · obtain ⟨rfl, hl, h⟩ := h
    rename_i sz n es m fs
    refine ⟨_, h, rfl, rfl, rfl, rfl, hl, rfl, fun {M β cs dd} h1 h2 => ?_⟩
    cases h1 with
    | lst l1 z1 n1 => cases h2 with
      | lst l2 z2 n2 =>
        simp only [AV.esz, splice, AV.cnt] at *
        have hd : dd.length = m * sz := by rw [l2.length, cszs_const z2, n2]
        rw [hd, ← Nat.add_mul]
        refine .lst ((l1.take z1 lo).append (l2.append (l1.drop z1 (lo + m)))) (fun p hp => ?_) (by simp; omega)
        rcases List.mem_append.1 hp with hp | hp
        · exact z1 p (List.mem_of_mem_take hp)
        · rcases List.mem_append.1 hp with hp | hp
          · exact z2 p hp
          · exact z1 p (List.mem_of_mem_drop hp)
theorem putC_csz {q d : AV} {lo : Nat} {κ : AV → Prop} (h : putC q lo d κ) : q.csz = q.cnt * q.esz := by
  cases q <;> cases d <;> first | exact h.elim | skip
  · simp [AV.csz, AV.cnt, AV.esz]
  · simp [AV.csz, AV.cnt, AV.esz]
theorem copyC_spec (h0 : RelAt E N M β T O n a w) {ts : List TypeId} {s x : AV} {sv xv : Value} {tt : TypeId} {κ : Nat → OO → Prop} (h : copyC P ts s x O κ) (hs : VR M β s sv) (hx : VR M β x xv) :
    BltS P E N T a w (Builtin.copy_ ts.toArray tt #[sv, xv]) (fun r O' n' => ∃ m : Nat, r = .int .i64 m ∧ n' = n ∧ κ m O') := by
  unfold copyC at h
  split at h
  · rename_i st rest
    obtain ⟨sty, hst, _, h⟩ := tyC_spec h
    cases sty with
    | slice e =>
      obtain ⟨te, hte, _, hpos, h⟩ := tyC_spec h
      have none0 : ∀ (base : Option Addr) (len cap : Nat) (d : AV), sv = .slice base len cap → Cont M β w P te xv d → Nat.min d.cnt len = 0 → κ 0 O →
          BltS P E N T a w (Builtin.copy_ (st :: rest).toArray tt #[sv, xv]) (fun r O' n' => ∃ m : Nat, r = .int .i64 m ∧ n' = n ∧ κ m O') := by
        intro base len cap d e hc hm hk
        obtain ⟨dd, _, hpre⟩ := hc.pre
        subst e
        refine ⟨_, _, _, .int .i64 0, w, M, β, ⟨0, rfl, rfl, hk⟩, ?_, h0, .one rfl (.int _ _)⟩
        simp only [Builtin.copy_, List.getElem?_toArray, List.getElem?_cons_zero, List.getElem?_cons_succ, Sem.run_bind, r_under hst.2, Result.andThen_ok, hc.len w, r_size hte]
        rw [hm, hpre 0 (Nat.zero_le _) w rfl]
        cases base <;> simp [storeCells, goInt]
      cases s with
      | nils =>
        obtain ⟨d, hk, hc⟩ := contC_spec (P := P) h0 hpos h hx
        exact none0 none 0 0 d hs.nils_inv hc (Nat.min_zero _) hk
      | osl i p sz lo len =>
        obtain ⟨hsz, h2⟩ := h
        subst hsz
        obtain ⟨d, ⟨hz, hA, hB⟩, hc⟩ := contC_spec (P := P) h0 hpos h2 hx
        obtain ⟨dd, hdd, hpre⟩ := hc.pre
        have hdl := row_len hdd hc.row
        rw [hc.ez] at hdl
        obtain ⟨b, κ0, base, cap, hb, rfl, hcap, hkk, ha⟩ := hs.osl_inv
        by_cases hcz : d.cnt = 0 ∨ len = 0
        · refine none0 base len cap d rfl hc ?_ (hz hcz)
          show min d.cnt len = 0
          omega
        have hbase : base = some ⟨b, poff p + lo * te.size, none⟩ := ha.resolve_left (by omega)
        subst hbase
        have gen : ∀ (m : Nat) (d' : AV) (xs : List Value), m = Nat.min d.cnt len → 0 < m → m ≤ d.cnt → RV M β d' xs → xs = dd.take (m * te.size) → d'.cnt = m →
            (objC O i fun ob => obC ob fun c => navC p c fun q => putC q lo d' fun q' => updO O i p q' fun O' => κ m O') →
            BltS P E N T a w (Builtin.copy_ (st :: rest).toArray tt #[.slice (some ⟨b, poff p + lo * te.size, none⟩) len cap, xv]) (fun r O' n' => ∃ m : Nat, r = .int .i64 m ∧ n' = n ∧ κ m O') := by
          intro m d' xs hm hm0 hmd hd' hxs hc' h
          obtain ⟨ob, hl, h⟩ := objC_spec h
          obtain ⟨c, hcc, h⟩ := obC_spec h
          obtain ⟨q, h, hq⟩ := nav_spec _ _ _ h
          have hqc := putC_csz h
          obtain ⟨q', h, q1, q2, q3, q4, q5, q6, q7⟩ := putC_spec h
          have hxl : xs.length = m * te.size := by rw [hxs, List.length_take, hdl]; exact Nat.min_eq_left (Nat.mul_le_mul_right _ hmd)
          have hxp : 0 < xs.length := by rw [hxl]; exact Nat.mul_pos hm0 hpos
          have hrow : d'.isRow = true := by cases d' <;> first | rfl | (simp [AV.cnt] at hc'; omega)
          have he' : d'.esz = te.size := by
            have := row_len hd' hrow
            rw [hxl, hc'] at this
            exact (Nat.eq_of_mul_eq_mul_left hm0 this).symm
          have hqe : q.esz = te.size := by rw [← q4, he']
          obtain ⟨O', w', b', κ', hb', hk, hrun, hr'⟩ := h0.writeAt (P := P) h (lo * te.size) hxp hd'.one fun {c' cs} hl' hcs => by
            have e1 : c' = c := by
              rcases hl' with h' | h' <;> rw [h'] at hl <;> cases hl <;> exact hcc
            subst e1
            obtain ⟨g1, g2⟩ := hq hcs
            have g3 := q7 g2 hd'
            rw [hqe] at g3
            exact ⟨q.csz, g1, by rw [hqc, hqe, hxl, ← Nat.add_mul, ← hc']; exact Nat.mul_le_mul_right _ q5, g3, by rw [g3.length, q6]⟩
          rw [hb] at hb'; cases hb'
          refine ⟨_, _, _, .int .i64 m, w', M, β, ⟨m, rfl, rfl, hk⟩, ?_, hr', .one rfl (.int _ _)⟩
          simp only [Builtin.copy_, List.getElem?_toArray, List.getElem?_cons_zero, List.getElem?_cons_succ, Sem.run_bind, r_under hst.2, Result.andThen_ok, hc.len w, r_size hte, ← hm]
          rw [hpre m hmd w rfl, ← hxs]
          simp only [Result.andThen_ok, Sem.run_bind, hrun]
          rfl
        by_cases hle : d.cnt ≤ len
        · refine gen d.cnt d dd (Nat.min_eq_left hle).symm (by omega) (Nat.le_refl _) hdd ?_ rfl (hA (by omega) (by omega) hle)
          rw [List.take_of_length_le (by omega)]
        · obtain ⟨d', h, s1, s2, s3, s4, _, s5⟩ := subC_spec (hB (by omega) (by omega) hle)
          obtain ⟨_, this⟩ := s5 hdd
          simp only [Nat.zero_mul, piece, List.drop_zero, hc.ez] at this
          exact gen len d' _ (Nat.min_eq_right (by omega)).symm (by omega) (by omega) this rfl s2 h
      | _ => exact h.elim
    | _ => exact h.elim
  · exact h.elim
end
end Go.Sy
/- The builtins and the conversions as operations. -/
namespace Go.Sy
open Go
set_option linter.unusedSimpArgs false
set_option linter.unusedVariables false
section
variable {E : Env} {N : Nat} {M : Pool} {β β' : Bmap} {T : TT} {O O' : OO} {n : Nat} {a : Act} {w w' : World} {P : Program} {o : Oper} {K : KK}

theorem OpS.blt {s : Sem Value} {κ : AV → OO → Nat → Prop} (hrun : (execOp a.eval o).run P w = (do pure (.value (← s)) : Sem Next).run P w) (h : BltS P E N T a w s κ)
    (hk : ∀ r O' n', κ r O' n' → K r O' n') : OpS P o E N T K a w := by
  obtain ⟨r, O', n', y, w', M', β', h1, h2, h3, h4⟩ := h
  refine fun next Q hn => ?_
  unfold Oper.wp
  rw [hrun]
  simp only [Sem.run_bind, h2, Result.andThen_ok, Sem.run_pure]
  exact hn _ _ _ _ _ _ _ (hk _ _ _ h1) h3 h4
theorem bltC_spec (h0 : RelAt E N M β T O n a w) {b : Builtin} {ts : List TypeId} {vs : List AV} {xs : List Value} {tt : TypeId} {κ : AV → OO → Nat → Prop} (hK : ∀ v O' n', κ v O' n' → ∀ o, n ≤ o → o < n' → E.ok o) (h : bltC P b ts vs O n κ) (hv : VRs M β vs xs) :
    ∃ s : Sem Value, (∀ cs, builtin b ts.toArray tt cs xs.toArray = (do pure (.value (← s)) : Sem Next)) ∧ BltS P E N T a w s κ := by
  unfold bltC at h
  split at h
  · rename_i v
    split at h
    · rename_i t
      cases hv with
      | cons h1 hs =>
        cases hs
        obtain ⟨m, hk, hrun⟩ := lenK_spec (tt := tt) h h1
        exact ⟨_, fun _ => rfl, _, _, _, _, w, M, β, hk, hrun, h0, .one rfl (.int _ _)⟩
    · exact h.elim
  · cases hv with
    | cons h1 hs => cases hs with
      | cons h2 hs =>
        cases hs
        exact ⟨_, fun _ => rfl, appendC_spec h0 hK h h1 h2⟩
  · cases hv with
    | cons h1 hs => cases hs with
      | cons h2 hs =>
        cases hs
        obtain ⟨r, O', n', y, w', M', β', ⟨m, rfl, rfl, hk⟩, g⟩ := copyC_spec (tt := tt) h0 h h1 h2
        exact ⟨_, fun _ => rfl, _, _, _, y, w', M', β', hk, g⟩
  · rename_i k x k' y
    obtain ⟨rfl, h⟩ := h
    cases hv with
    | cons h1 hs => cases hs with
      | cons h2 hs =>
        cases hs
        have e1 := h1.int_inv
        have e2 := h2.int_inv
        subst e1; subst e2
        refine ⟨_, fun _ => rfl, _, _, _, .int k (min x y), w, M, β, h, ?_, h0, .one rfl (.int _ _)⟩
        have : (if y < x then y else x) = min x y := by rw [Int.min_def]; split <;> split <;> omega
        simp [Builtin.min_, Builtin.min2, this]
  · rename_i k x k' y
    obtain ⟨rfl, h⟩ := h
    cases hv with
    | cons h1 hs => cases hs with
      | cons h2 hs =>
        cases hs
        have e1 := h1.int_inv
        have e2 := h2.int_inv
        subst e1; subst e2
        refine ⟨_, fun _ => rfl, _, _, _, .int k (max x y), w, M, β, h, ?_, h0, .one rfl (.int _ _)⟩
        have : (if x < y then y else x) = max x y := by rw [Int.max_def]; split <;> split <;> omega
        simp [Builtin.max_, Builtin.max2, this]
  · exact h.elim
theorem s_builtin (hK : ∀ v O' n', K v O' n' → ∀ o, n ≤ o → o < n' → E.ok o) {c : Call} {b : Builtin} (ho : o.op = .call c) (hb : c.callee = .builtin b)
    (h : evsC T c.args.toList fun vs => bltC P b c.argTypes.toList vs O n fun r O' n' => K r O' n') (hr : RelAt E N M β T O n a w) : OpS P o E N T K a w := by
  obtain ⟨vs, h, hv⟩ := evsC_spec hr h
  obtain ⟨s, e, hs⟩ := bltC_spec (tt := o.type) hr hK h hv
  refine OpS.blt ?_ hs fun _ _ _ hk => hk
  simp only [execOp, ho, resolve, hb, Sem.run_bind, Sem.run_pure, Result.andThen_ok, invoke]
  have ea : c.args.map a.eval = (c.args.toList.map a.eval).toArray := by apply Array.ext'; simp
  have et : c.argTypes = c.argTypes.toList.toArray := by simp
  rw [ea, et, e]
  simp

theorem bytesOf_spec {c : AV} {κ : List UInt8 → Prop} (h : bytesOf c κ) : ∃ m xs, c = .ints .u8 m xs ∧ κ (xs.map fun x => UInt8.ofNat x.toNat) := by
  unfold bytesOf at h
  split at h
  · exact ⟨_, _, rfl, h⟩
  · exact h.elim
theorem s_convert (hK : ∀ v O' n', K v O' n' → ∀ o, n ≤ o → o < n' → E.ok o) {q t : TypeId} {x : Operand} (ho : o.op = .convert q t x) (h : evC T x fun v => convC P q t v O n fun r O' n' => K r O' n') (hr : RelAt E N M β T O n a w) : OpS P o E N T K a w := by
  obtain ⟨v, h, hv⟩ := evC_spec hr h
  obtain ⟨sty, hs, _, h⟩ := tyC_spec h
  obtain ⟨d, hdd, _, h⟩ := tyC_spec h
  have hu : ∃ d, P.underlying q = some d := by
    cases sty with
    | st ts => obtain ⟨_, fs, hu, _⟩ := hs; exact ⟨_, hu⟩
    | arr m e te => exact ⟨_, hs.2.1⟩
    | func => obtain ⟨_, _, _, _, hu⟩ := hs; exact ⟨_, hu⟩
    | _ => exact ⟨_, hs.2⟩
  obtain ⟨ud, hu⟩ := hu
  refine OpS.blt (s := convert q t (a.eval x)) (by simp only [execOp, ho]) (κ := fun r O' n' => K r O' n') ?_ fun _ _ _ hk => hk
  cases d with
  | int k =>
    cases v with
    | int k' m =>
      have e := hv.int_inv
      rw [e]
      refine ⟨_, _, _, .int k (k.wrap m), w, M, β, h, ?_, hr, .one rfl (.int _ _)⟩
      simp [convert, r_under hu, r_under hdd.2, Conv.intToInt]
    | _ => exact h.elim
  | slice e =>
    cases v with
    | osl o0 p sz lo len =>
      obtain ⟨rfl, hlen, rfl, h⟩ := h
      obtain ⟨te, hte, _, hte2, h⟩ := tyC_spec h
      subst hte2
      obtain ⟨ob, hl, h⟩ := objC_spec h
      cases ob with
      | row c =>
        have hk : K (.osl o0 [] sz lo len) O n := h
        have hv0 := hv
        obtain ⟨b, κ, base, cap, hb, e1, hcap, hkk, ha⟩ := hv.osl_inv
        have hbase : base = some ⟨b, poff [] + lo * sz, none⟩ := ha.resolve_left (by omega)
        have hk0 : κ ≠ 0 := by have := hkk rfl; omega
        obtain ⟨b', κ', hb', hor⟩ := hr.st.objs _ _ hl
        rw [hb] at hb'; cases hb'
        obtain ⟨h1, h2, h3⟩ := hor
        rcases h3 with ⟨h3, _⟩ | ⟨_, cc, sp, e', fz, h4, h5, h6, h7⟩
        · exact absurd h3 hk0
        · rw [e1, hbase]
          let fz' : Nat × Nat := if fz.1 == fz.2 then ((cc ++ sp).length, (cc ++ sp).length + 1) else (min fz.1 (cc ++ sp).length, max fz.2 ((cc ++ sp).length + 1))
          have hfz' : freeCells fz' (cc ++ sp).length := by
            show freeCells (if fz.1 == fz.2 then _ else _) _
            split
            · exact .inr (Nat.le_refl _)
            · rename_i hne
              rcases h5 with h5 | h5
              · exact absurd (by simpa using h5) hne
              · exact .inr (by show _ ≤ min _ _; omega)
          have hblt : b < w.heap.size := (Array.getElem?_eq_some_iff.1 h4).1
          have hput := hr.st.put hl hb hk0 (O' := O) (ob' := .row c) (x := .cells (cc ++ sp).toArray e' fz') (fun i => by split <;> simp_all) ⟨h1, h2, .inr ⟨hk0, cc, sp, e', fz', by rw [getElem?_putBlock hblt, if_pos rfl], hfz', h6, h7⟩⟩
          have hrel : RelAt E N M β T O n a (w.putBlock b (.cells (cc ++ sp).toArray e' fz')) := hr.next hput (BLe.refl _) hr.ids (fun _ _ => rfl) (Nat.le_refl _)
          refine ⟨_, _, _, .slice (some ⟨b, poff [] + lo * sz, none⟩) len cap, w.putBlock b (.cells (cc ++ sp).toArray e' fz'), M, β, hk, ?_, hrel, ?_⟩
          · have hsh : w.shape? b = some (e', (cc ++ sp).length) := by simp [World.shape?, h4]
            have hfr : w.freeze ⟨b, (cc ++ sp).length, none⟩ 1 = w.putBlock b (.cells (cc ++ sp).toArray e' fz') := by
              unfold World.freeze World.putBlock
              rw [if_neg (by decide)]
              congr 1
              apply Array.ext_getElem?
              intro i
              rw [Array.getElem?_modify, Array.getElem?_setIfInBounds]
              by_cases hi : b = i
              · subst hi
                rw [if_pos rfl, if_pos rfl, if_pos hblt, h4]
                rfl
              · rw [if_neg hi, if_neg hi]
            simp [convert, r_under hdd.2, r_under hte.2, markStringish, hsh]
            rw [← List.length_append]
            exact hfr
          · rw [e1, hbase] at hv0; exact hv0
      | _ => exact h.elim
    | str s =>
      obtain ⟨hs2, h2⟩ := h
      subst hs2
      obtain ⟨te, hte, _, hte2, h3⟩ := tyC_spec h2
      subst hte2
      have e1 := hv.str_inv
      rw [e1]
      have hsz : (⟨s.toArray⟩ : ByteArray).size = s.length := by simp [ByteArray.size]
      have hrun := run_bytes_of_string (P := P) w q t e ⟨s.toArray⟩ hs.2 hdd.2 hte.2
      rw [hsz] at hrun
      have hge := grownCap_ge w s.length 0 e
      have hr0 : RelAt E N M β T O n a w.drew := hr.next hr.st.drew (BLe.refl _) hr.ids (fun _ _ => rfl) (Nat.le_refl _)
      have hrv : RV M β (.ints .u8 s.length (s.map fun x => (x.toNat : Int))) ((s.map fun x => (x.toNat : Int)).map (Value.int .u8)) := .ints _ (by simp)
      have hnew := hr0.newRowF (hK _ _ _ h3 n (Nat.le_refl _) (Nat.lt_succ_self _)) (e := e) (cells := bytesRow ⟨s.toArray⟩ (grownCap w s.length 0 e)) (sp := List.replicate (grownCap w s.length 0 e - s.length) (.int .u8 0)) (κ := grownCap w s.length 0 e)
        (fz := ((bytesRow ⟨s.toArray⟩ (grownCap w s.length 0 e)).size, (bytesRow ⟨s.toArray⟩ (grownCap w s.length 0 e)).size + 1)) (.inr (Nat.le_refl _)) hrv rfl (by simp [AV.esz])
        (by simp [bytesRow, ByteArray.size]) (by simp [AV.esz]; omega) (by simp [AV.esz, AV.cnt])
      refine ⟨_, _, _, _, _, M, _, h3, hrun, hnew, ?_⟩
      exact row_value (c := .ints .u8 s.length (s.map fun x => (x.toNat : Int))) hge _ (by simp)
    | _ => exact h.elim
  | str =>
    have gen : (∃ b l c, a.eval x = .slice b l c) → (match (generalizing := false) sty with
      | .slice e => tyC P e fun te => te = .int .u8 ∧ contC O te v fun c => bytesOf c fun s => K (.str s) O n
      | _ => False) → BltS P E N T a w (convert q t (a.eval x)) (fun r O' n' => K r O' n') := by
      rintro ⟨b, l, c, e⟩ h
      rw [e] at hv ⊢
      cases sty with
      | slice e =>
        obtain ⟨te, hte, _, hte2, h3⟩ := tyC_spec h
        subst hte2
        obtain ⟨d, h4, hc⟩ := contC_spec (P := P) hr (by decide) h3 hv
        obtain ⟨m, xs, rfl, hk⟩ := bytesOf_spec h4
        refine ⟨_, _, _, .string ⟨(xs.map fun x => UInt8.ofNat x.toNat).toArray⟩, w, M, β, hk, ?_, hr, .one rfl (.str _)⟩
        rw [run_convert_bytes_string w q t e b l c hs.2 hte.2 hdd.2]
        obtain ⟨cc, hcc, hcells⟩ := hc.cells
        have hl : l = m := by
          have := hc.len w
          simp only [Builtin.lenOf, Sem.run_pure, AV.cnt] at this
          simpa using this
        have hcx : cc = xs.map (Value.int .u8) := by cases hcc; rfl
        have hrd := hcells w rfl
        subst hl; subst hcx
        cases b with
        | none =>
          simp only [Builtin.firstCells, Sem.run_pure] at hrd
          have : xs = [] := by
            have e := hrd
            simp at e
            exact e
          subst this
          simp [Conv.bytesToString, ByteArray.empty, ByteArray.emptyWithCapacity]
          rfl
        | some aa =>
          simp only [Builtin.firstCells, AV.cnt, Ty.size, Nat.mul_one] at hrd
          rw [run_bytesToString w aa l c xs hrd, foldl_push_bytes]
          simp [ByteArray.empty, ByteArray.emptyWithCapacity]
          rfl
      | _ => exact h.elim
    cases v with
    | str s =>
      have e := hv.str_inv
      rw [e]
      refine ⟨_, _, _, .string ⟨s.toArray⟩, w, M, β, h, ?_, hr, .one rfl (.str _)⟩
      cases ud <;> simp [convert, r_under hu, r_under hdd.2]
    | sl c => exact gen (by obtain ⟨_, _, _, e, _⟩ := hv.sl_inv; exact ⟨_, _, _, e⟩) h
    | nils => exact gen ⟨_, _, _, hv.nils_inv⟩ h
    | osl i p sz lo len => exact gen (by obtain ⟨_, _, _, _, _, e, _⟩ := hv.osl_inv; exact ⟨_, _, _, e⟩) h
    | _ => cases sty <;> first | exact h.elim | (obtain ⟨_, _, _, _, h⟩ := tyC_spec h; exact h.elim)
  | _ => exact h.elim
end
end Go.Sy
/- Calls: the callee's view of the caller's state, and back. -/
namespace Go.Sy
open Go
set_option linter.unusedSimpArgs false
set_option linter.unusedVariables false

/-- Names agree. -/
def Agr (σ : List (Nat × Nat)) (β1 β : Bmap) : Prop := ∀ o o', lk σ o = some o' → β1 o = β o'
theorem idC_spec {K : Nat → Prop} : ∀ {σ : List (Nat × Nat)} {o : Nat}, idC σ o K → ∃ o', lk σ o = some o' ∧ K o' := by
  intro σ
  induction σ with
  | nil => intro o h; exact h.elim
  | cons p σ ih =>
    intro o h
    obtain ⟨i, j⟩ := p
    simp only [idC] at h
    simp only [lk]
    split at h
    · rename_i e; exact ⟨j, by simp [e], h⟩
    · rename_i e; obtain ⟨o', h1, h2⟩ := ih h; exact ⟨o', by simp [e, h1], h2⟩
structure Ren (σ : List (Nat × Nat)) (v v' : AV) : Prop where
  csz : v'.csz = v.csz
  multi : v'.multi = v.multi
  row : v'.isRow = v.isRow
  cnt : v'.cnt = v.cnt
  esz : v'.esz = v.esz
  rv : ∀ {M : Pool} {β1 β : Bmap} {cs : List Value}, Agr σ β1 β → (RV M β1 v cs ↔ RV M β v' cs)
  vr : ∀ {M : Pool} {β1 β : Bmap} {x : Value}, Agr σ β1 β → (VR M β1 v x ↔ VR M β v' x)
structure Rens (σ : List (Nat × Nat)) (vs vs' : List AV) : Prop where
  len : vs'.length = vs.length
  cszs : AV.cszs vs' = AV.cszs vs
  all : ∀ sz, (∀ p ∈ vs, p.csz = sz) ↔ (∀ p ∈ vs', p.csz = sz)
  rv : ∀ {M : Pool} {β1 β : Bmap} {cs : List Value}, Agr σ β1 β → (RVs M β1 vs cs ↔ RVs M β vs' cs)
  vr : ∀ {M : Pool} {β1 β : Bmap} {xs : List Value}, Agr σ β1 β → (VRs M β1 vs xs ↔ VRs M β vs' xs)
theorem Ren.of_nid (σ : List (Nat × Nat)) (v : AV) (h : v.nid = true) : Ren σ v v :=
  ⟨rfl, rfl, rfl, rfl, rfl, fun _ => ⟨fun g => g.nid h _, fun g => g.nid h _⟩, fun _ => ⟨fun g => g.nid h _, fun g => g.nid h _⟩⟩
theorem VR.iff_one {M : Pool} {β1 β : Bmap} {v v' : AV} {x : Value} (hm : v.multi = false) (hm' : v'.multi = false) (ht : v.mem = true) (ht' : v'.mem = true) (h : RV M β1 v [x] ↔ RV M β v' [x]) : VR M β1 v x ↔ VR M β v' x :=
  ⟨fun g => .one hm' (h.1 (g.one_inv hm ht)), fun g => .one hm (h.2 (g.one_inv hm' ht'))⟩
theorem VR.iff_agg {M : Pool} {β1 β : Bmap} {v v' : AV} {x : Value} (hm : v.multi = true) (hm' : v'.multi = true) (ht : v.mem = true) (ht' : v'.mem = true) (h : ∀ cs, RV M β1 v cs ↔ RV M β v' cs) : VR M β1 v x ↔ VR M β v' x :=
  ⟨fun g => by obtain ⟨cs, rfl, h1⟩ := g.agg_inv hm ht; exact .agg hm' ((h cs).1 h1), fun g => by obtain ⟨cs, rfl, h1⟩ := g.agg_inv hm' ht'; exact .agg hm ((h cs).2 h1)⟩
mutual
theorem renC_spec (σ : List (Nat × Nat)) : ∀ (v : AV) (K : AV → Prop), renC σ v K → ∃ v', K v' ∧ Ren σ v v'
  | .ref o p, K, h => by
    simp only [renC] at h
    obtain ⟨o', hl, hk⟩ := idC_spec h
    have key : ∀ {M : Pool} {β1 β : Bmap} {cs : List Value}, Agr σ β1 β → (RV M β1 (.ref o p) cs ↔ RV M β (.ref o' p) cs) := fun ha =>
      ⟨fun g => by cases g with | ref hb => exact .ref (by rw [← ha _ _ hl]; exact hb), fun g => by cases g with | ref hb => exact .ref (by rw [ha _ _ hl]; exact hb)⟩
    exact ⟨_, hk, rfl, rfl, rfl, rfl, rfl, key, fun ha => VR.iff_one rfl rfl rfl rfl (key ha)⟩
  | .osl o p sz lo len, K, h => by
    simp only [renC] at h
    obtain ⟨o', hl, hk⟩ := idC_spec h
    have key : ∀ {M : Pool} {β1 β : Bmap} {cs : List Value}, Agr σ β1 β → (RV M β1 (.osl o p sz lo len) cs ↔ RV M β (.osl o' p sz lo len) cs) := fun ha =>
      ⟨fun g => by cases g with | osl hb h1 h2 h3 => exact .osl (by rw [← ha _ _ hl]; exact hb) h1 h2 h3, fun g => by cases g with | osl hb h1 h2 h3 => exact .osl (by rw [ha _ _ hl]; exact hb) h1 h2 h3⟩
    exact ⟨_, hk, rfl, rfl, rfl, rfl, rfl, key, fun ha => VR.iff_one rfl rfl rfl rfl (key ha)⟩
  | .mp o, K, h => by
    simp only [renC] at h
    obtain ⟨o', hl, hk⟩ := idC_spec h
    have key : ∀ {M : Pool} {β1 β : Bmap} {cs : List Value}, Agr σ β1 β → (RV M β1 (.mp o) cs ↔ RV M β (.mp o') cs) := fun ha =>
      ⟨fun g => by cases g with | mp hb => exact .mp (by rw [← ha _ _ hl]; exact hb), fun g => by cases g with | mp hb => exact .mp (by rw [ha _ _ hl]; exact hb)⟩
    exact ⟨_, hk, rfl, rfl, rfl, rfl, rfl, key, fun ha => VR.iff_one rfl rfl rfl rfl (key ha)⟩
  | .agg ps, K, h => by
    simp only [renC] at h
    obtain ⟨qs, hk, hr⟩ := rensC_spec σ ps _ h
    have key : ∀ {M : Pool} {β1 β : Bmap} {cs : List Value}, Agr σ β1 β → (RV M β1 (.agg ps) cs ↔ RV M β (.agg qs) cs) := fun ha =>
      ⟨fun g => by cases g with | agg g => exact .agg ((hr.rv ha).1 g), fun g => by cases g with | agg g => exact .agg ((hr.rv ha).2 g)⟩
    exact ⟨_, hk, by simp only [AV.csz]; exact hr.cszs, rfl, rfl, rfl, rfl, key, fun ha => VR.iff_agg rfl rfl rfl rfl fun _ => key ha⟩
  | .arr sz ps, K, h => by
    simp only [renC] at h
    obtain ⟨qs, hk, hr⟩ := rensC_spec σ ps _ h
    have key : ∀ {M : Pool} {β1 β : Bmap} {cs : List Value}, Agr σ β1 β → (RV M β1 (.arr sz ps) cs ↔ RV M β (.arr sz qs) cs) := fun ha =>
      ⟨fun g => by cases g with | arr g hs => exact .arr ((hr.rv ha).1 g) ((hr.all _).1 hs), fun g => by cases g with | arr g hs => exact .arr ((hr.rv ha).2 g) ((hr.all _).2 hs)⟩
    exact ⟨_, hk, by simp only [AV.csz, hr.len], rfl, rfl, by simp only [AV.cnt, hr.len], rfl, key, fun ha => VR.iff_agg rfl rfl rfl rfl fun _ => key ha⟩
  | .tup ps, K, h => by
    simp only [renC] at h
    obtain ⟨qs, hk, hr⟩ := rensC_spec σ ps _ h
    exact ⟨_, hk, rfl, rfl, rfl, rfl, rfl, fun ha => ⟨fun g => (by cases g), fun g => (by cases g)⟩,
      fun ha => ⟨fun g => by obtain ⟨xs, rfl, g2⟩ := g.tup_inv; exact .tup ((hr.vr ha).1 g2), fun g => by obtain ⟨xs, rfl, g2⟩ := g.tup_inv; exact .tup ((hr.vr ha).2 g2)⟩⟩
  | .fn f ps, K, h => by
    simp only [renC] at h
    obtain ⟨qs, hk, hr⟩ := rensC_spec σ ps _ h
    have key : ∀ {M : Pool} {β1 β : Bmap} {cs : List Value}, Agr σ β1 β → (RV M β1 (.fn f ps) cs ↔ RV M β (.fn f qs) cs) := fun ha =>
      ⟨fun g => by cases g with | fn g => exact .fn ((hr.vr ha).1 g), fun g => by cases g with | fn g => exact .fn ((hr.vr ha).2 g)⟩
    exact ⟨_, hk, rfl, rfl, rfl, rfl, rfl, key, fun ha => VR.iff_one rfl rfl rfl rfl (key ha)⟩
  | .int k n, K, h => ⟨_, by simpa only [renC] using h, .of_nid _ _ rfl⟩
  | .bool b, K, h => ⟨_, by simpa only [renC] using h, .of_nid _ _ rfl⟩
  | .str s, K, h => ⟨_, by simpa only [renC] using h, .of_nid _ _ rfl⟩
  | .nilp, K, h => ⟨_, by simpa only [renC] using h, .of_nid _ _ rfl⟩
  | .ints k n xs, K, h => ⟨_, by simpa only [renC] using h, .of_nid _ _ rfl⟩
  | .lst sz n es, K, h => ⟨_, by simpa only [renC] using h, .of_nid _ _ rfl⟩
  | .sl c, K, h => ⟨_, by simpa only [renC] using h, .of_nid _ _ rfl⟩
  | .nils, K, h => ⟨_, by simpa only [renC] using h, .of_nid _ _ rfl⟩
  | .pp c p, K, h => ⟨_, by simpa only [renC] using h, .of_nid _ _ rfl⟩
  | .nilf, K, h => ⟨_, by simpa only [renC] using h, .of_nid _ _ rfl⟩
  | .nilm, K, h => ⟨_, by simpa only [renC] using h, .of_nid _ _ rfl⟩
  | .junk, K, h => by simp only [renC] at h
theorem rensC_spec (σ : List (Nat × Nat)) : ∀ (vs : List AV) (K : List AV → Prop), rensC σ vs K → ∃ vs', K vs' ∧ Rens σ vs vs'
  | [], K, h => ⟨[], by simpa only [rensC] using h, rfl, rfl, fun _ => Iff.rfl, fun _ => ⟨fun g => by cases g; exact .nil, fun g => by cases g; exact .nil⟩, fun _ => ⟨fun g => by cases g; exact .nil, fun g => by cases g; exact .nil⟩⟩
  | v :: vs, K, h => by
    simp only [rensC] at h
    obtain ⟨v', h, hv⟩ := renC_spec σ v _ h
    obtain ⟨vs', h, hvs⟩ := rensC_spec σ vs _ h
    refine ⟨_, h, by simp [hvs.len], by simp only [AV.cszs, hv.csz, hvs.cszs], fun sz => ?_, fun ha => ⟨fun g => ?_, fun g => ?_⟩, fun ha => ⟨fun g => ?_, fun g => ?_⟩⟩
    · simp only [List.mem_cons, forall_eq_or_imp, hv.csz, hvs.all sz]
    · cases g with | cons g1 g2 => exact .cons ((hv.rv ha).1 g1) ((hvs.rv ha).1 g2)
    · cases g with | cons g1 g2 => exact .cons ((hv.rv ha).2 g1) ((hvs.rv ha).2 g2)
    · cases g with | cons g1 g2 => exact .cons ((hv.vr ha).1 g1) ((hvs.vr ha).1 g2)
    · cases g with | cons g1 g2 => exact .cons ((hv.vr ha).2 g1) ((hvs.vr ha).2 g2)
end

section
variable {E : Env} {N : Nat} {M M' M1 : Pool} {β β' β1 : Bmap} {T : TT} {O O' : OO} {n : Nat} {a : Act} {w w' : World} {P : Program} {o : Oper} {K : KK}

/-- No pool is reached: any will do. -/
theorem pf_aux : (∀ {β v cs}, RV M β v cs → v.pf = true → ∀ M', RV M' β v cs) ∧ (∀ {β vs cs}, RVs M β vs cs → AV.pf.pfs vs = true → ∀ M', RVs M' β vs cs) ∧
    (∀ {β v x}, VR M β v x → v.pf = true → ∀ M', VR M' β v x) ∧ (∀ {β vs xs}, VRs M β vs xs → AV.pf.pfs vs = true → ∀ M', VRs M' β vs xs) :=
  @ind4 M (fun β v cs => v.pf = true → ∀ M', RV M' β v cs) (fun β vs cs => AV.pf.pfs vs = true → ∀ M', RVs M' β vs cs) (fun β v x => v.pf = true → ∀ M', VR M' β v x) (fun β vs xs => AV.pf.pfs vs = true → ∀ M', VRs M' β vs xs)
  (fun k n _ _ => .int k n) (fun b _ _ => .bool b) (fun s _ _ => .str s) (fun _ _ => .nilp) (fun h _ _ => .ref h) (fun k _ _ h _ _ => .ints k h)
  (fun _ ih h M' => .agg (ih (by simpa [AV.pf] using h) M')) (fun _ hs ih h M' => .arr (ih (by simpa [AV.pf] using h) M') hs) (fun _ hs hn ih h M' => .lst (ih (by simpa [AV.pf] using h) M') hs hn)
  (fun _ _ _ _ _ _ h => by simp [AV.pf] at h) (fun _ _ => .nils) (fun h h1 h2 h3 _ _ => .osl h h1 h2 h3) (fun _ _ _ h => by simp [AV.pf] at h)
  (fun _ _ h => by simp [AV.pf] at h) (fun _ _ => .nilf) (fun _ _ => .nilm) (fun h _ _ => .mp h) (fun _ _ => .nil)
  (fun _ _ i1 i2 h M' => by simp only [AV.pf.pfs, Bool.and_eq_true] at h; exact .cons (i1 h.1 M') (i2 h.2 M'))
  (fun hm _ ih h M' => .one hm (ih h M')) (fun hm _ ih h M' => .agg hm (ih h M')) (fun _ ih h M' => .tup (ih (by simpa [AV.pf] using h) M')) (fun x h => by simp [AV.pf] at h) (fun _ _ => .nil)
  (fun _ _ i1 i2 h M' => by simp only [AV.pf.pfs, Bool.and_eq_true] at h; exact .cons (i1 h.1 M') (i2 h.2 M'))
end
end Go.Sy
