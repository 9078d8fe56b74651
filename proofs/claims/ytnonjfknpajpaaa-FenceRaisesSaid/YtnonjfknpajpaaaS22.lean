/- Every operation's law, under one name; regions in the text's order. -/
import Derived.Test.YtnonjfknpajpaaaS21
namespace Go.Sy
open Go
set_option linter.unusedSimpArgs false
set_option linter.unusedVariables false
section
variable {E : Env} {N : Nat} {M M' M1 : Pool} {β β' β1 : Bmap} {T : TT} {O O' O1 O2 : OO} {n : Nat} {a : Act} {w w' : World} {P : Program} {o : Oper} {K : KK}

theorem vcOp_sound (hK : ∀ v O' n', K v O' n' → ∀ o, n ≤ o → o < n' → E.ok o) {op : Op} (ho : o.op = op) (h : vcOp P op T O n K) (hr : RelAt E N M β T O n a w) : OpS P o E N T K a w := by
  cases op with
  | move x => exact s_move ho h hr
  | assign x => exact s_assign ho h hr
  | pick c x y => exact s_pick ho h hr
  | alloc t => exact s_alloc hK ho h hr
  | box t x => exact s_box hK ho h hr
  | build t ps => exact s_build ho h hr
  | buildSlice t m ps => exact s_buildSlice hK ho h hr
  | load t x => exact s_load ho h hr
  | store t x y => exact s_store ho h hr
  | nilCheck x => exact s_nilCheck ho h hr
  | binOp op t x y t' => exact s_binOp ho h hr
  | unOp op t x => exact s_unOp ho h hr
  | convert q t x => exact s_convert hK ho h hr
  | makeFunc f fs cs => exact s_makeFunc ho h hr
  | makeSlice t x y => exact s_makeSlice hK ho h hr
  | slice t x lo hi mx =>
    cases mx with
    | none => exact s_slice ho h hr
    | some _ => exact h.elim
  | fieldAddr s x f => exact s_fieldAddr ho h hr
  | field s x f => exact s_field ho h hr
  | indexAddr t x i => exact s_indexAddr ho h hr
  | index t x i => exact s_index ho h hr
  | extract x i => exact s_extract ho h hr
  | call c =>
    cases hc : c.callee with
    | value f => simp only [vcOp, hc] at h; exact s_call hK ho hc h hr
    | builtin b => simp only [vcOp, hc] at h; exact s_builtin hK ho hc h hr
    | invoke x m => simp only [vcOp, hc] at h
  | _ => exact h.elim
end
end Go.Sy
