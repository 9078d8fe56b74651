/- Regions in the text's order. -/
import Derived.Test.YtnonjfknpajpaaaS24
namespace Go.Sy
open Go
set_option linter.unusedSimpArgs false
set_option linter.unusedVariables false
/-- The guard's temporary and its test. -/
def gdC (all : List Oper) (j : Nat) (T : TT) (K : Nat → Bool → Prop) : Prop :=
  match (all[j]?).bind (·.dst) with
  | none => False
  | some g => lkC T g fun v => boolC v fun b => K g b
def vcOps (P : Program) (all : List Oper) : List Oper → CK → CK
  | [], K, T, O, n => K T O n
  | o :: rest, K, T, O, n =>
    match o.guard with
    | none => vcOp P o.op T O n fun v O' n' => vcOps P all rest K (putT o.dst v T) O' n'
    | some (j, want) => gdC all j T fun g b =>
        (b = want → vcOp P o.op ((g, .bool want) :: T) O n fun v O' n' => vcOps P all rest K (putT o.dst v ((g, .bool want) :: T)) O' n') ∧
        (b = !want → vcOps P all rest K (putT o.dst .junk ((g, .bool (!want)) :: T)) O n)
section
variable {E : Env} {N : Nat} {M M' M1 : Pool} {β β' β1 : Bmap} {T : TT} {O O' O1 O2 J : OO} {n : Nat} {a : Act} {w w' : World} {P : Program} {o : Oper}

theorem gdC_spec (hr : RelAt E N M β T O n a w) {ops : Array Oper} {j : Nat} {κ : Nat → Bool → Prop} (h : gdC ops.toList j T κ) : ∃ g b, κ g b ∧ yielded ops a.tmps j = some b ∧ a.tmps[g]? = some (.bool b) := by
  unfold gdC at h
  split at h
  · exact h.elim
  · rename_i g hg
    obtain ⟨v, hl, h⟩ := lkC_spec h
    obtain ⟨b, rfl, h⟩ := boolC_spec h
    obtain ⟨x, hx, hv⟩ := hr.tmps g _ hl
    have := hv.bool_inv
    subst this
    refine ⟨g, b, h, ?_, hx⟩
    have e : (ops[j]?).bind (·.dst) = some g := by simpa using hg
    unfold yielded
    rw [e]
    simp [hx]
theorem RelAt.know (hr : RelAt E N M β T O n a w) {g : Nat} {b : Bool} (hg : a.tmps[g]? = some (.bool b)) : RelAt E N M β ((g, .bool b) :: T) O n a w :=
  ⟨hr.st, hr.ids, fun t v hl => by
    simp only [lk] at hl
    split at hl
    · rename_i e; subst e; cases hl; exact ⟨_, hg, .one rfl (.bool b)⟩
    · exact hr.tmps t v hl, hr.nd, hr.sz, hr.base, hr.le0⟩
theorem wanted_of {ops : Array Oper} {j : Nat} {want b : Bool} (hg : o.guard = some (j, want)) (hy : yielded ops a.tmps j = some b) : Region.wanted o (yielded ops a.tmps) = (b == want) := by
  unfold Region.wanted
  rw [hg]
  simp only [hy]
  cases b <;> cases want <;> rfl
theorem vcOps_sound (hE : ∀ o, E.ok o) {ops : Array Oper} {Q : Exit → Act → World → Prop} {K : CK} (hd : ∀ o ∈ ops.toList, ∀ t, o.dst = some t → t < N) (h : vcOps P ops.toList ops.toList K T O n) (hr : Rel E N T O n a w)
    (hK : ∀ T O n a w, K T O n → Rel E N T O n a w → Q .normal a w) : wpOps P ops Q (List.range ops.size) a w := by
  have key : ∀ (rest : List Oper) (i : Nat) (T : TT) (O : OO) (n : Nat) (a : Act) (w : World), ops.toList.drop i = rest → vcOps P ops.toList rest K T O n → Rel E N T O n a w → wpOps P ops Q (List.range' i rest.length) a w := by
    intro rest
    induction rest with
    | nil => intro i T O n a w _ h hr; exact hK _ _ _ _ _ h hr
    | cons o rest ih =>
      intro i T O n a w hi h hr
      have hio : ops[i]? = some o := by
        have : (ops.toList.drop i)[0]? = some o := by rw [hi]; rfl
        simpa using this
      have hmem : o ∈ ops.toList := List.mem_of_mem_drop (by rw [hi]; simp)
      have hi' : ops.toList.drop (i + 1) = rest := by
        have := congrArg List.tail hi
        simpa using this
      simp only [List.length_cons, List.range'_succ, wpOps, hio]
      obtain ⟨M, β, hr⟩ := hr
      simp only [vcOps] at h
      split at h
      · rename_i hg
        have : Region.wanted o (yielded ops a.tmps) = true := by unfold Region.wanted; rw [hg]
        rw [if_pos this]
        refine .inl (vcOp_sound (fun _ _ _ _ o _ _ => hE o) rfl h hr _ _ fun v O' n' x w' M' β' hk hr' hv => ih _ _ _ _ _ _ hi' hk ⟨M', β', hr'.value (hd o hmem) hv⟩)
      · rename_i j want hg
        obtain ⟨g, b, ⟨h1, h2⟩, hy, hgt⟩ := gdC_spec hr h
        rw [wanted_of hg hy]
        by_cases e : b = want
        · subst e
          rw [if_pos (by simp)]
          exact .inl (vcOp_sound (fun _ _ _ _ o _ _ => hE o) rfl (h1 rfl) (hr.know hgt) _ _ fun v O' n' x w' M' β' hk hr' hv => ih _ _ _ _ _ _ hi' hk ⟨M', β', hr'.value (hd o hmem) hv⟩)
        · have e2 : b = !want := by cases b <;> cases want <;> simp_all
          rw [if_neg (by simpa using e)]
          exact ih _ _ _ _ _ _ hi' (h2 e2) ⟨M, β, (hr.know (by rw [← e2]; exact hgt)).value (hd o hmem) (.junk _)⟩
  have := key ops.toList 0 T O n a w rfl h hr
  rwa [Array.length_toList, ← List.range_eq_range'] at this
end
end Go.Sy
