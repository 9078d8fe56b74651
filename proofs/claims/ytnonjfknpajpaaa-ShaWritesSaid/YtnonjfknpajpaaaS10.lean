/- The operations that leave memory alone, one by one. -/
import Derived.Test.YtnonjfknpajpaaaS9
namespace Go.Sy
open Go
set_option linter.unusedSimpArgs false
set_option linter.unusedVariables false
section
variable {E : Env} {N : Nat} {M : Pool} {β β' : Bmap} {T : TT} {O O' : OO} {n : Nat} {a : Act} {w w' : World} {P : Program} {o : Oper} {K : KK}

theorem eq_run {t : TypeId} {ty : Ty} {x y : AV} {κ : Bool → Prop} {xv yv : Value} (hok : ty.ok P t) (hd : ty.dep ≤ 12) (h : eqC ty x y κ) (hx : VR M β x xv) (hy : VR M β y yv) :
    ∃ b, κ b ∧ (Op.equal t xv yv).run P w = .ok b w := eqC_spec ty t x y κ 10000 xv yv hok (by omega) h hx hy
theorem eqGuard_run {op : BinOp} {t : TypeId} {ty : Ty} (hok : ty.ok P t) (p q : Operand) {xv yv : Value} (h : ¬ (xv = .nilIface ∧ yv = .nilIface)) : (eqGuard op t p q xv yv).run P w = .ok () w := by
  have hg := hok.base.guard
  unfold eqGuard
  cases op <;> try rfl
  all_goals
    simp only [Bool.not_true, Bool.false_eq_true, if_false]
    split
    · exact absurd ⟨rfl, rfl⟩ h
    · simp [hg]
    · rfl
theorem eq_bin {t : TypeId} {ty : Ty} {x y : AV} {κ : Bool → Prop} {xv yv : Value} (hok : ty.ok P t) (hd : ty.dep ≤ 12) (h : eqC ty x y κ) (hx : VR M β x xv) (hy : VR M β y yv) :
    ∃ b, κ b ∧ (binOp .eql t xv yv).run P w = .ok (.bool b) w ∧ (binOp .neq t xv yv).run P w = .ok (.bool (!b)) w ∧ xv ≠ .nilIface := by
  have key := eq_run (w := w) hok hd h hx hy
  cases ty
  case arr m e te =>
    cases te <;> cases x <;> cases y <;> first | exact h.elim | skip
    obtain ⟨b, hk, hrun⟩ := key
    obtain ⟨cs, rfl, _⟩ := hx.agg_inv rfl rfl
    obtain ⟨ds, rfl, _⟩ := hy.agg_inv rfl rfl
    exact ⟨b, hk, by simp [binOp, hrun], by simp [binOp, hrun], by intro e; cases e⟩
  all_goals cases x <;> cases y <;> first | exact h.elim | skip
  · obtain ⟨rfl, h⟩ := h
    refine ⟨_, h, ?_, ?_, ?_⟩
    · rw [hx.int_inv, hy.int_inv]; simp [binOp, Op.intCmp, beq_dec]
    · rw [hx.int_inv, hy.int_inv]; simp [binOp, Op.intCmp, bne, beq_dec]
    · rw [hx.int_inv]; intro e; cases e
  · obtain ⟨b, hk, hrun⟩ := key
    obtain rfl := hx.bool_inv
    obtain rfl := hy.bool_inv
    exact ⟨b, hk, by simp [binOp, hrun], by simp [binOp, hrun], by intro e; cases e⟩
  · refine ⟨_, h, ?_, ?_, ?_⟩
    · rw [hx.str_inv, hy.str_inv]; simp only [binOp, Op.stringOp, bytes_toList, beq_dec]; simp
    · rw [hx.str_inv, hy.str_inv]; simp only [binOp, Op.stringOp, bytes_toList, beq_dec]; simp
    · rw [hx.str_inv]; intro e; cases e
  · obtain ⟨b, hk, hrun⟩ := key
    obtain rfl := hx.nilp_inv
    obtain rfl := hy.nilp_inv
    exact ⟨b, hk, by simp [binOp, hrun], by simp [binOp, hrun], by intro e; cases e⟩
  · obtain ⟨b, hk, hrun⟩ := key
    obtain ⟨_, _, _, rfl⟩ := hy.ref_inv
    obtain rfl := hx.nilp_inv
    exact ⟨b, hk, by simp [binOp, hrun], by simp [binOp, hrun], by intro e; cases e⟩
  · obtain ⟨b, hk, hrun⟩ := key
    obtain ⟨_, _, _, rfl, _⟩ := hy.pp_inv
    obtain rfl := hx.nilp_inv
    exact ⟨b, hk, by simp [binOp, hrun], by simp [binOp, hrun], by intro e; cases e⟩
  · obtain ⟨b, hk, hrun⟩ := key
    obtain ⟨_, _, _, rfl⟩ := hx.ref_inv
    obtain rfl := hy.nilp_inv
    exact ⟨b, hk, by simp [binOp, hrun], by simp [binOp, hrun], by intro e; cases e⟩
  · obtain ⟨b, hk, hrun⟩ := key
    obtain ⟨_, _, _, rfl, _⟩ := hx.pp_inv
    obtain rfl := hy.nilp_inv
    exact ⟨b, hk, by simp [binOp, hrun], by simp [binOp, hrun], by intro e; cases e⟩
  · obtain ⟨b, hk, hrun⟩ := key
    obtain ⟨cs, rfl, _⟩ := hx.agg_inv rfl rfl
    obtain ⟨ds, rfl, _⟩ := hy.agg_inv rfl rfl
    exact ⟨b, hk, by simp [binOp, hrun], by simp [binOp, hrun], by intro e; cases e⟩
theorem s_binOp {op : BinOp} {t t' : TypeId} {x y : Operand} (ho : o.op = .binOp op t x y t')
    (h : evC T x fun v => evC T y fun u => binC P op t v u fun r => K r O n) (hr : RelAt E N M β T O n a w) : OpS P o E N T K a w := by
  obtain ⟨v, h, hv⟩ := evC_spec hr h
  obtain ⟨u, h, hu⟩ := evC_spec hr h
  unfold binC at h
  split at h
  · rename_i k i k' j κ
    obtain ⟨r, x', hk, hrun, hvr⟩ := intB_spec (P := P) (w := w) (t := t) h
    have e1 := hv.int_inv
    have e2 := hu.int_inv
    have hg : (eqGuard op t x y (a.eval x) (a.eval y)).run P w = .ok () w := by
      rw [e1, e2]; unfold eqGuard; cases op <;> rfl
    rw [← e1, ← e2] at hrun
    exact OpS.val (by simp only [execOp, ho, Sem.run_bind, hg, Result.andThen_ok, hrun]; rfl) hr (hvr _ _) hk
  · rename_i s s' κ
    obtain ⟨r, x', hk, hrun, hvr⟩ := strB_spec (P := P) (w := w) (t := t) h
    have e1 := hv.str_inv
    have e2 := hu.str_inv
    have hg : (eqGuard op t x y (a.eval x) (a.eval y)).run P w = .ok () w := by
      rw [e1, e2]; unfold eqGuard; cases op <;> rfl
    rw [← e1, ← e2] at hrun
    exact OpS.val (by simp only [execOp, ho, Sem.run_bind, hg, Result.andThen_ok, hrun]; rfl) hr (hvr _ _) hk
  · split at h
    · obtain ⟨ty, hok, hdep, h⟩ := tyC_spec h
      obtain ⟨b, hk, h1, _, h3⟩ := eq_bin (w := w) hok hdep h hv hu
      exact OpS.val (by simp only [execOp, ho, Sem.run_bind, eqGuard_run hok x y fun hh => h3 hh.1, Result.andThen_ok, h1]; rfl) hr (.one rfl (.bool _)) hk
    · obtain ⟨ty, hok, hdep, h⟩ := tyC_spec h
      obtain ⟨b, hk, _, h1, h3⟩ := eq_bin (w := w) hok hdep h hv hu
      exact OpS.val (by simp only [execOp, ho, Sem.run_bind, eqGuard_run hok x y fun hh => h3 hh.1, Result.andThen_ok, h1]; rfl) hr (.one rfl (.bool _)) hk
    · exact h.elim
theorem s_unOp {op : UnOp} {t : TypeId} {x : Operand} (ho : o.op = .unOp op t x)
    (h : evC T x fun v => unC op v fun r => K r O n) (hr : RelAt E N M β T O n a w) : OpS P o E N T K a w := by
  obtain ⟨v, h, hv⟩ := evC_spec hr h
  unfold unC at h
  split at h
  · exact OpS.val (by simp [execOp, ho, hv.int_inv, Op.unary, Op.intArith]) hr (.one rfl (.int _ _)) h
  · exact OpS.val (by simp [execOp, ho, hv.int_inv, Op.unary, Op.intBits, inot, ixor]) hr (.one rfl (.int _ _)) h
  · exact OpS.val (by simp [execOp, ho, hv.bool_inv, Op.unary]) hr (.one rfl (.bool _)) h
  · exact h.elim

theorem nthC_spec : ∀ {vs : List AV} {xs : List Value} {i : Nat} {κ : AV → Prop}, nthC vs i κ → VRs M β vs xs → ∃ v x, κ v ∧ xs[i]? = some x ∧ VR M β v x := by
  intro vs
  induction vs with
  | nil => intro xs i κ h; exact h.elim
  | cons v vs ih =>
    intro xs i κ h hv
    cases hv with
    | cons h1 h2 =>
      cases i with
      | zero => exact ⟨_, _, h, rfl, h1⟩
      | succ i => obtain ⟨u, x, hk, hx, hu⟩ := ih h h2; exact ⟨u, x, hk, by simpa using hx, hu⟩
theorem s_extract {i : Nat} {x : Operand} (ho : o.op = .extract x i)
    (h : evC T x fun v => (match v with | .tup vs => nthC vs i fun r => K r O n | _ => False)) (hr : RelAt E N M β T O n a w) : OpS P o E N T K a w := by
  obtain ⟨v, h, hv⟩ := evC_spec hr h
  split at h
  · obtain ⟨xs, e, hvs⟩ := hv.tup_inv
    obtain ⟨u, y, hk, hy, hu⟩ := nthC_spec h hvs
    refine OpS.val (x := y) ?_ hr hu hk
    have : (Instr.extract (a.eval x) i).run P w = .ok y w := by
      rw [e]
      simp only [Instr.extract, List.getElem?_toArray, hy]
      rfl
    simp only [execOp, ho, Sem.run_bind, this, Result.andThen_ok]; rfl
  · exact h.elim
theorem s_nilCheck {x : Operand} (ho : o.op = .nilCheck x)
    (h : evC T x fun v => (match v with
      | .ref i p => K (.ref i p) O n
      | .pp c p => K (.pp c p) O n
      | .fn (.func f) ps => K (.fn (.func f) ps) O n
      | _ => False)) (hr : RelAt E N M β T O n a w) : OpS P o E N T K a w := by
  obtain ⟨v, h, hv⟩ := evC_spec hr h
  split at h
  · obtain ⟨b, κ, _, e⟩ := hv.ref_inv
    exact OpS.val (x := a.eval x) (by simp [execOp, ho, e]) hr hv h
  · obtain ⟨_, b, κ, e, _⟩ := hv.pp_inv
    exact OpS.val (x := a.eval x) (by simp [execOp, ho, e]) hr hv h
  · obtain ⟨xs, e, _⟩ := hv.fn_inv
    exact OpS.val (x := a.eval x) (by simp [execOp, ho, e]) hr hv h
  · exact h.elim
theorem s_makeFunc {f : Fn} {fs cs : Array Operand} (ho : o.op = .makeFunc f fs cs)
    (h : fs.toList = [] ∧ evsC T cs.toList fun vs => K (.fn f vs) O n) (hr : RelAt E N M β T O n a w) : OpS P o E N T K a w := by
  obtain ⟨h0, h⟩ := h
  obtain ⟨us, hk, hvs⟩ := evsC_spec hr h
  have e : fs = #[] := by simpa using h0
  refine OpS.val (x := .func f #[] (cs.toList.map a.eval).toArray) ?_ hr (.one rfl (.fn hvs)) hk
  have : (cs.map a.eval) = (cs.toList.map a.eval).toArray := by apply Array.ext'; rw [Array.toList_map]
  simp only [execOp, ho, e, Instr.makeFunc, this, Array.map_empty]; rfl

/-! Places. -/
theorem poff_append (p q : List Stp) : poff (p ++ q) = poff p + poff q := by
  induction p with
  | nil => simp [poff]
  | cons s p ih => cases s <;> simp [poff, ih, Nat.add_assoc]
theorem nthTC_spec : ∀ {ts : List Ty} {fs : List Field} {f off : Nat} {κ : Ty → Nat → Prop}, nthTC ts f off κ → Ty.oks P off fs ts → ∃ te fd, κ te fd.offset ∧ fs[f]? = some fd ∧ te.ok P fd.type ∧ 0 < te.size := by
  intro ts
  induction ts with
  | nil => intro fs f off κ h; exact h.elim
  | cons t ts ih =>
    intro fs f off κ h hok
    cases fs with
    | nil => exact hok.elim
    | cons fd fs =>
      obtain ⟨h1, h2, h3, h4, h5⟩ := hok
      cases f with
      | zero => exact ⟨t, fd, by rw [h1]; exact h, rfl, h4, h3⟩
      | succ f => obtain ⟨te, fd', hk, hf, hr⟩ := ih h h5; exact ⟨te, fd', hk, by simpa using hf, hr⟩
theorem s_fieldAddr {s : TypeId} {f : Nat} {x : Operand} (ho : o.op = .fieldAddr s x f)
    (h : tyC P s fun ty => evC T x fun v => (match ty with | .st ts => fldA f ts v fun r => K r O n | _ => False)) (hr : RelAt E N M β T O n a w) : OpS P o E N T K a w := by
  obtain ⟨ty, hok, _, h⟩ := tyC_spec h
  obtain ⟨v, h, hv⟩ := evC_spec hr h
  split at h
  · rename_i ts
    obtain ⟨_, fs, hu, _, hoks⟩ := hok
    have run : ∀ (b off : Nat) (fd : Field) (te : Ty), fs[f]? = some fd → te.ok P fd.type → 0 < te.size → a.eval x = .pointer (some ⟨b, off, none⟩) →
        (execOp a.eval o).run P w = .ok (.value (.pointer (some ⟨b, off + fd.offset, none⟩))) w := fun b off fd te hf hte hpos e => by
      simp only [execOp, ho, Instr.fieldAt, Sem.run_bind, r_under hu, Result.andThen_ok, hf, e, Instr.sureAddr, Sem.run_pure, fieldPlace, r_size hte, Sem.run_ite]
      rw [if_neg (by omega)]
      simp
    cases v <;> first | exact h.elim | skip
    · rename_i i p
      obtain ⟨b, κ, hb, e⟩ := hv.ref_inv
      obtain ⟨te, fd, hk, hf, hte, hpos⟩ := nthTC_spec h hoks
      refine OpS.val (run b _ fd te (by simpa using hf) hte hpos e) hr (.one rfl ?_) hk
      have := RV.ref (M := M) (p := p ++ [.fld f fd.offset]) hb
      simpa [poff_append, poff] using this
    · rename_i c p
      obtain ⟨cc, b, off, e, hc, hm⟩ := hv.pp_inv
      obtain ⟨te, fd, hk, hf, hte, hpos⟩ := nthTC_spec h hoks
      refine OpS.val (run b _ fd te (by simpa using hf) hte hpos e) hr (.one rfl ?_) hk
      have := RV.pp (β := β) (p := p ++ [.fld f fd.offset]) hc hm
      simpa [poff_append, poff, Nat.add_assoc] using this
  · exact h.elim
theorem s_field {s : TypeId} {f : Nat} {x : Operand} (ho : o.op = .field s x f)
    (h : tyC P s fun ty => evC T x fun v => (match ty, v with
      | .st ts, .agg ps => nthTC ts f 0 fun te off => fldC ps f off fun q => fitC te q (K q O n)
      | _, _ => False)) (hr : RelAt E N M β T O n a w) : OpS P o E N T K a w := by
  obtain ⟨ty, hok, _, h⟩ := tyC_spec h
  obtain ⟨v, h, hv⟩ := evC_spec hr h
  split at h
  · rename_i ts ps
    obtain ⟨_, fs, hu, _, hoks⟩ := hok
    obtain ⟨te, fd, h, hf, hte, hpos⟩ := nthTC_spec h hoks
    obtain ⟨q, ⟨h1, h2, hk⟩, hq⟩ := fldC_spec _ _ _ _ h
    obtain ⟨cs, e, hcs⟩ := hv.agg_inv rfl rfl
    cases hcs with
    | agg hcs =>
      obtain ⟨hl, hqr⟩ := hq hcs
      rw [h1] at hqr hl
      obtain ⟨u, hrun, hu2⟩ := run_part (w := w) hte hpos hqr h1 h2 (multi_mem hqr) hl
      refine OpS.val (x := u) ?_ hr hu2 hk
      have hf' : fs[f]? = some fd := by simpa using hf
      simp only [execOp, ho, Instr.field, Sem.run_bind, r_under hu, Result.andThen_ok, hf', e, asAgg, Sem.run_pure, hrun]
  · exact h.elim
theorem s_indexAddr {t : TypeId} {x i : Operand} (ho : o.op = .indexAddr t x i)
    (h : tyC P t fun ty => evC T x fun v => evC T i fun u => intC u fun j => idxA ty (fun e κ => tyC P e fun te => κ te.size) v j fun r => K r O n) (hr : RelAt E N M β T O n a w) : OpS P o E N T K a w := by
  obtain ⟨ty, hok, _, h⟩ := tyC_spec h
  obtain ⟨v, h, hv⟩ := evC_spec hr h
  obtain ⟨u, h, hu⟩ := evC_spec hr h
  obtain ⟨k, j, rfl, h⟩ := intC_spec h
  have ei := hu.int_inv
  cases ty with
  | arr m e te =>
   cases v with
   | ref oo p =>
    obtain ⟨h0, h1, hk⟩ := h
    obtain ⟨b, κ, hb, ex⟩ := hv.ref_inv
    refine OpS.val (x := .pointer (some ⟨b, poff p + j.toNat * te.size, none⟩)) ?_ hr (.one rfl ?_) hk
    · simp only [execOp, ho, Instr.indexAt, ei, asIntOf, Sem.run_bind, Sem.run_pure, Result.andThen_ok, r_under hok.2.1, ex, Instr.sureAddr]
      rw [if_pos ⟨h0, h1⟩]
      simp [r_size hok.2.2.2]
    · have := RV.ref (M := M) (p := p ++ [.at j.toNat te.size]) hb
      simpa [poff_append, poff] using this
   | pp c p =>
    obtain ⟨h0, h1, hk⟩ := h
    obtain ⟨cc, b, off, ex, hc, hm⟩ := hv.pp_inv
    refine OpS.val (x := .pointer (some ⟨b, off + poff p + j.toNat * te.size, none⟩)) ?_ hr (.one rfl ?_) hk
    · simp only [execOp, ho, Instr.indexAt, ei, asIntOf, Sem.run_bind, Sem.run_pure, Result.andThen_ok, r_under hok.2.1, ex, Instr.sureAddr]
      rw [if_pos ⟨h0, h1⟩]
      simp [r_size hok.2.2.2]
    · have := RV.pp (β := β) (p := p ++ [.at j.toNat te.size]) hc hm
      simpa [poff_append, poff, Nat.add_assoc] using this
   | _ => exact h.elim
  | slice e =>
   cases v with
   | osl oo p s lo len =>
    obtain ⟨h0, h1, h⟩ := h
    obtain ⟨te, hte, _, rfl, hk⟩ := tyC_spec h
    obtain ⟨b, κ, base, cap, hb, ex, hc, _, ha⟩ := hv.osl_inv
    have hcap : cap ≠ 0 := by omega
    obtain rfl := ha.resolve_left hcap
    refine OpS.val (x := .pointer (some ⟨b, poff p + lo * te.size + j.toNat * te.size, none⟩)) ?_ hr (.one rfl ?_) hk
    · simp only [execOp, ho, Instr.indexAt, ei, asIntOf, Sem.run_bind, Sem.run_pure, Result.andThen_ok, r_under hok.2, ex]
      rw [if_pos ⟨h0, h1⟩]
      simp [r_size hte]
    · have := RV.ref (M := M) (p := p ++ [.at (lo + j.toNat) te.size]) hb
      simpa [poff_append, poff, Nat.add_mul, Nat.add_assoc] using this
   | sl c =>
    obtain ⟨h0, h1, h⟩ := h
    obtain ⟨te, hte, _, hez, hk⟩ := tyC_spec h
    obtain ⟨cc, base, cap, ex, hc, hrow, hcap, hm⟩ := hv.sl_inv
    obtain ⟨b, off, rfl, hm2⟩ := hm.resolve_left (by omega)
    refine OpS.val (x := .pointer (some ⟨b, off + j.toNat * te.size, none⟩)) ?_ hr (.one rfl ?_) hk
    · simp only [execOp, ho, Instr.indexAt, ei, asIntOf, Sem.run_bind, Sem.run_pure, Result.andThen_ok, r_under hok.2, ex]
      rw [if_pos ⟨h0, h1⟩]
      simp [r_size hte]
    · have := RV.pp (β := β) (p := [.at j.toNat c.esz]) hc hm2
      simpa [poff, hez] using this
   | _ => exact h.elim
  | _ => exact h.elim
end
end Go.Sy
