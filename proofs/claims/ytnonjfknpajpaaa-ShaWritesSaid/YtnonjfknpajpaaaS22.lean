/- Every operation's law, under one name; regions in the text's order. -/
import Derived.Test.YtnonjfknpajpaaaS21
namespace Go.Sy
open Go
set_option linter.unusedSimpArgs false
set_option linter.unusedVariables false
section
variable {E : Env} {N : Nat} {M M' M1 : Pool} {β β' β1 : Bmap} {T : TT} {O O' O1 O2 : OO} {n : Nat} {a : Act} {w w' : World} {P : Program} {o : Oper} {K : KK}

theorem s_s2a {t : TypeId} {x : Operand} (ho : o.op = .sliceToArrayPointer t x) (h : tyC P t fun ty => evC T x fun v => (match ty with | .arr m _ te => s2aC m te v fun r => K r O n | _ => False)) (hr : RelAt E N M β T O n a w) : OpS P o E N T K a w := by
  obtain ⟨ty, hok, _, h⟩ := tyC_spec h
  obtain ⟨v, h, hv⟩ := evC_spec hr h
  cases ty with
  | arr m e te =>
    cases v with
    | sl c =>
      obtain ⟨hm, hle, hes, h⟩ := h
      obtain ⟨q, hk, q1, q2, q3, q4, _, q5⟩ := subC_spec h
      obtain ⟨cc, base, cap, ex, hcc, hrow, hcap, hmm⟩ := hv.sl_inv
      obtain ⟨b, off, rfl, hcell⟩ := hmm.resolve_left (by omega)
      refine OpS.val (x := .pointer (some ⟨b, off, none⟩)) ?_ hr (.one rfl ?_) hk
      · simp only [execOp, ho, Instr.arrayAt, Sem.run_bind, Sem.run_pure, Result.andThen_ok, r_under hok.2.1, ex]
        rw [if_neg (by omega)]
        simp
      · have := RV.pp (β := β) (p := []) (b := b) (off := off) (q5 hcc).2 (fun i v hi => by
          simp only [piece, Nat.zero_mul, List.drop_zero, List.getElem?_take] at hi
          split at hi
          · exact hcell i v hi
          · cases hi)
        simpa [poff] using this
    | osl oo p sz lo len =>
      obtain ⟨rfl, rfl, hm, hle, hk⟩ := h
      obtain ⟨b, κ, base, cap, hb, ex, hc, hkk, ha⟩ := hv.osl_inv
      obtain rfl := ha.resolve_left (by omega)
      refine OpS.val (x := .pointer (some ⟨b, poff [] + 0 * sz, none⟩)) ?_ hr (.one rfl ?_) hk
      · simp only [execOp, ho, Instr.arrayAt, Sem.run_bind, Sem.run_pure, Result.andThen_ok, r_under hok.2.1, ex]
        rw [if_neg (by omega)]
        simp
      · have := RV.ref (M := M) (p := []) hb
        simpa [poff] using this
    | _ => exact h.elim
  | _ => exact h.elim
theorem vcOp_sound (hK : ∀ v O' n', K v O' n' → ∀ o, n ≤ o → o < n' → E.ok o) {op : Op} (ho : o.op = op) (h : vcOp P op T O n K) (hr : RelAt E N M β T O n a w) : OpS P o E N T K a w := by
  cases op with
  | move x => exact s_move ho h hr
  | assign x => exact s_assign ho h hr
  | pick c x y => exact s_pick ho h hr
  | alloc t => exact s_alloc hK ho h hr
  | box t x => exact s_box hK ho h hr
  | build t ps => exact s_build ho h hr
  | buildSlice t m ps => exact s_buildSlice hK ho h hr
  | load t x => exact s_load ho h hr
  | store t x y => exact s_store ho h hr
  | nilCheck x => exact s_nilCheck ho h hr
  | binOp op t x y t' => exact s_binOp ho h hr
  | unOp op t x => exact s_unOp ho h hr
  | convert q t x => exact s_convert hK ho h hr
  | makeFunc f fs cs => exact s_makeFunc ho h hr
  | makeSlice t x y => exact s_makeSlice hK ho h hr
  | slice t x lo hi mx =>
    cases mx with
    | none => exact s_slice ho h hr
    | some _ => exact h.elim
  | sliceToArrayPointer t x => exact s_s2a ho h hr
  | fieldAddr s x f => exact s_fieldAddr ho h hr
  | field s x f => exact s_field ho h hr
  | indexAddr t x i => exact s_indexAddr ho h hr
  | index t x i => exact s_index ho h hr
  | extract x i => exact s_extract ho h hr
  | call c =>
    cases hc : c.callee with
    | value f => simp only [vcOp, hc] at h; exact s_call hK ho hc h hr
    | builtin b => simp only [vcOp, hc] at h; exact s_builtin hK ho hc h hr
    | invoke x m => simp only [vcOp, hc] at h
  | _ => exact h.elim
end
end Go.Sy
