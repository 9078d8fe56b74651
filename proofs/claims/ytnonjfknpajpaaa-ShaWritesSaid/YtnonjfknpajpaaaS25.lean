/- Regions in the text's order. -/
import Derived.Test.YtnonjfknpajpaaaS24
namespace Go.Sy
open Go
set_option linter.unusedSimpArgs false
set_option linter.unusedVariables false
/-- The guard's temporary and its test: `A` where it is as wanted, `B` where it is not, or nothing was yielded. -/
def gdC (all : List Oper) (j : Nat) (want : Bool) (T : TT) (A B : TT → Prop) : Prop :=
  match (all[j]?).bind (·.dst) with
  | none => False
  | some g => lkC T g fun v => match v with
    | .bool b => (b = want → A ((g, .bool want) :: T)) ∧ (b = !want → B ((g, .bool (!want)) :: T))
    | .tup [] => B T
    | _ => False
def vcOps (P : Program) (all : List Oper) : List Oper → CK → CK
  | [], K, T, O, n => K T O n
  | o :: rest, K, T, O, n =>
    match o.guard with
    | none => vcOp P o.op T O n fun v O' n' => vcOps P all rest K (putT o.dst v T) O' n'
    | some (j, want) => gdC all j want T (fun T => vcOp P o.op T O n fun v O' n' => vcOps P all rest K (putT o.dst v T) O' n') (fun T => vcOps P all rest K (putT o.dst (.tup []) T) O n)
section
variable {E : Env} {N : Nat} {M M' M1 : Pool} {β β' β1 : Bmap} {T : TT} {O O' O1 O2 J : OO} {n : Nat} {a : Act} {w w' : World} {P : Program} {o : Oper}

theorem RelAt.know (hr : RelAt E N M β T O n a w) {g : Nat} {b : Bool} (hg : a.tmps[g]? = some (.bool b)) : RelAt E N M β ((g, .bool b) :: T) O n a w :=
  ⟨hr.st, hr.ids, fun t v hl => by
    simp only [lk] at hl
    split at hl
    · rename_i e; subst e; cases hl; exact ⟨_, hg, .one rfl (.bool b)⟩
    · exact hr.tmps t v hl, hr.nd, hr.sz, hr.base, hr.le0⟩
theorem gdC_spec (hr : RelAt E N M β T O n a w) {ops : Array Oper} {j : Nat} {want : Bool} {A B : TT → Prop} (h : gdC ops.toList j want T A B) :
    ∃ T', RelAt E N M β T' O n a w ∧ ((A T' ∧ yielded ops a.tmps j = some want) ∨ (B T' ∧ (yielded ops a.tmps j == some want) = false)) := by
  unfold gdC at h
  split at h
  · exact h.elim
  · rename_i g hg
    obtain ⟨v, hl, h⟩ := lkC_spec h
    obtain ⟨x, hx, hv⟩ := hr.tmps g _ hl
    have e : (ops[j]?).bind (·.dst) = some g := by simpa using hg
    split at h
    · rename_i b
      have := hv.bool_inv
      subst this
      have hy : yielded ops a.tmps j = some b := by
        unfold yielded
        rw [e]
        simp [hx]
      by_cases eb : b = want
      · subst eb
        exact ⟨_, hr.know hx, .inl ⟨h.1 rfl, hy⟩⟩
      · have e2 : b = !want := by cases b <;> cases want <;> simp_all
        exact ⟨_, hr.know (by rw [← e2]; exact hx), .inr ⟨h.2 e2, by rw [hy]; simpa using eb⟩⟩
    · have : x = .tuple #[] := by
        cases hv with
        | tup h => cases h; rfl
        | one hm h => cases h
        | agg hm h => cases h
      subst this
      refine ⟨T, hr, .inr ⟨h, ?_⟩⟩
      unfold yielded
      rw [e]
      simp [hx]
    · exact h.elim
theorem wanted_of {ops : Array Oper} {j : Nat} {want b : Bool} (hg : o.guard = some (j, want)) (hy : yielded ops a.tmps j = some b) : Region.wanted o (yielded ops a.tmps) = (b == want) := by
  unfold Region.wanted
  rw [hg]
  simp only [hy]
  cases b <;> cases want <;> rfl
theorem vcOps_sound (hE : ∀ o, E.ok o) {ops : Array Oper} {Q : Exit → Act → World → Prop} {K : CK} (hd : ∀ o ∈ ops.toList, ∀ t, o.dst = some t → t < N) (h : vcOps P ops.toList ops.toList K T O n) (hr : Rel E N T O n a w)
    (hK : ∀ T O n a w, K T O n → Rel E N T O n a w → Q .normal a w) : wpOps P ops Q (List.range ops.size) a w := by
  have key : ∀ (rest : List Oper) (i : Nat) (T : TT) (O : OO) (n : Nat) (a : Act) (w : World), ops.toList.drop i = rest → vcOps P ops.toList rest K T O n → Rel E N T O n a w → wpOps P ops Q (List.range' i rest.length) a w := by
    intro rest
    induction rest with
    | nil => intro i T O n a w _ h hr; exact hK _ _ _ _ _ h hr
    | cons o rest ih =>
      intro i T O n a w hi h hr
      have hio : ops[i]? = some o := by
        have : (ops.toList.drop i)[0]? = some o := by rw [hi]; rfl
        simpa using this
      have hmem : o ∈ ops.toList := List.mem_of_mem_drop (by rw [hi]; simp)
      have hi' : ops.toList.drop (i + 1) = rest := by
        have := congrArg List.tail hi
        simpa using this
      simp only [List.length_cons, List.range'_succ, wpOps, hio]
      obtain ⟨M, β, hr⟩ := hr
      simp only [vcOps] at h
      split at h
      · rename_i hg
        have : Region.wanted o (yielded ops a.tmps) = true := by unfold Region.wanted; rw [hg]
        rw [if_pos this]
        refine .inl (vcOp_sound (fun _ _ _ _ o _ _ => hE o) rfl h hr _ _ fun v O' n' x w' M' β' hk hr' hv => ih _ _ _ _ _ _ hi' hk ⟨M', β', hr'.value (hd o hmem) hv⟩)
      · rename_i j want hg
        obtain ⟨T', hr, ⟨h1, hy⟩ | ⟨h2, hy⟩⟩ := gdC_spec hr h
        · have : Region.wanted o (yielded ops a.tmps) = true := by unfold Region.wanted; rw [hg]; simp [hy]
          rw [if_pos this]
          exact .inl (vcOp_sound (fun _ _ _ _ o _ _ => hE o) rfl h1 hr _ _ fun v O' n' x w' M' β' hk hr' hv => ih _ _ _ _ _ _ hi' hk ⟨M', β', hr'.value (hd o hmem) hv⟩)
        · have : Region.wanted o (yielded ops a.tmps) = false := by unfold Region.wanted; rw [hg]; simpa using hy
          rw [this, if_neg (by simp)]
          exact ih _ _ _ _ _ _ hi' h2 ⟨M, β, hr.value (hd o hmem) (.tup .nil)⟩
  have := key ops.toList 0 T O n a w rfl h hr
  rwa [Array.length_toList, ← List.range_eq_range'] at this
end
end Go.Sy
