/- The contracts of the package commit and of planchetref16. -/
import Derived.Test.YtegbkbkcfcjkbaaMac
import Derived.Test.YtegbkbkcfcjkbaaGG
namespace Go.Proofs.Ytegbkbkcfcjkbaa
open Go Go.Sy Go.Proofs.Try
set_option maxRecDepth 100000
set_option maxHeartbeats 8000000
set_option linter.unusedSimpArgs false
set_option linter.unusedVariables false
attribute [go_sem] pl72
def namedP (name : List Int) (v : Int) : Prop := 1 ≤ name.length ∧ name.length ≤ 64 ∧ 1 ≤ v
instance (name : List Int) (v : Int) : Decidable (namedP name v) := by unfold namedP; infer_instance
def verB (v : Int) : List Int := be (IntKind.u64.wrap v) 8
theorem verB_len (v : Int) : (verB v).length = 8 := be_len _ _
theorem verB_mem (v : Int) : ∀ x ∈ verB v, 0 ≤ x ∧ x < 256 := be_mem _ _
theorem u64_in (x : Int) : 0 ≤ IntKind.u64.wrap x ∧ IntKind.u64.wrap x < 18446744073709551616 := by rw [u64_mod]; omega
theorem plain_spec : FnC Try.prog 102 [] [] (.fn (.func 83) []) [] := by
  refine fn0 mix [] 0 0 [.tmp 0] Try.func102 rfl (by kernel_rfl) (by kernel_rfl) rfl (by kernel_rfl) (by kernel_rfl) (by simp) ?_
  simp (implicitDefEqProofs := false) (disch := omega) only [go_sem, ↓reduceIte]
theorem cat_cons (a : List Int) (ps : List (List Int)) : cat (a :: ps) = a ++ cat ps := by simp [cat]
theorem ofp_spec (kind : Int) (ps : List (List Int)) (n : Nat) (hn : ps.length = n) (hkd : 0 ≤ kind ∧ kind < 256) (hp : ∀ p ∈ ps, ∀ x ∈ p, 0 ≤ x ∧ x < 256) (hc : (cat ps).length ≤ 10000) (hps : n ≤ 10000) :
    FnC Try.prog 103 [.fn (.func 83) [], .int .u8 kind, .sl (.lst 1 n (ps.map bsl))] [] (.ints .u8 32 (sumD (kind :: cat ps))) [] := by
  have h1 := sums_spec ([kind] :: ps) (fun p h => by
    rcases List.mem_cons.1 h with rfl | h
    · intro x hx; rw [List.mem_singleton] at hx; subst hx; exact hkd
    · exact hp p h) (by rw [cat_cons]; simp only [List.length_append, List.length_singleton]; omega) (by rw [List.length_cons]; omega)
  have hcc : cat ([kind] :: ps) = kind :: cat ps := by rw [cat_cons]; rfl
  have e1 : ([kind] :: ps).length = 1 + n := by rw [List.length_cons]; omega
  rw [hcc] at h1
  refine fn0 mix [] 0 3 [.cell 6 63] Try.func103 rfl (by kernel_rfl) (by kernel_rfl) rfl (by kernel_rfl) (by kernel_rfl) (by simp) ?_
  simp (implicitDefEqProofs := false) (disch := omega) only [go_sem, ↓reduceIte]
  refine callB h1 ?_ ?_
  · simp (implicitDefEqProofs := false) (disch := omega) only [go_sem, ↓reduceIte, bsl, e1, List.singleton_append]
  simp (implicitDefEqProofs := false) (disch := omega) only [go_sem, ↓reduceIte]
def fromD (nonce name : List Int) (v : Int) : List Int := sumD (1 :: (nonce ++ (verB v ++ name)))
def nonceD (key name : List Int) (v : Int) : List Int := code key (1 :: (verB v ++ name))
def madeD (salt value : List Int) : List Int := sumD (2 :: (salt ++ value))
def saltD (key index value : List Int) : List Int := code key (2 :: (index ++ value))
theorem code_len (k t : List Int) : (code k t).length = 32 := sumD_len _
theorem code_mem (k t : List Int) : ∀ x ∈ code k t, 0 ≤ x ∧ x < 256 := sumD_mem _
theorem mem2 {a b : List Int} (ha : ∀ x ∈ a, 0 ≤ x ∧ x < 256) (hb : ∀ x ∈ b, 0 ≤ x ∧ x < 256) : ∀ p ∈ [a, b], ∀ x ∈ p, 0 ≤ x ∧ x < 256 := by
  intro p hp; simp only [List.mem_cons, List.not_mem_nil, or_false] at hp; rcases hp with rfl | rfl <;> assumption
theorem mem3 {a b c : List Int} (ha : ∀ x ∈ a, 0 ≤ x ∧ x < 256) (hb : ∀ x ∈ b, 0 ≤ x ∧ x < 256) (hc : ∀ x ∈ c, 0 ≤ x ∧ x < 256) : ∀ p ∈ [a, b, c], ∀ x ∈ p, 0 ≤ x ∧ x < 256 := by
  intro p hp; simp only [List.mem_cons, List.not_mem_nil, or_false] at hp; rcases hp with rfl | rfl | rfl <;> assumption
theorem cat2 (a b : List Int) : cat [a, b] = a ++ b := by simp [cat]
theorem cat3 (a b c : List Int) : cat [a, b, c] = a ++ (b ++ c) := by simp [cat]
section
variable (nonce name key index salt value : List Int) (v : Int) (n : Nat)
theorem made16_bad (hn : value.length = n) (h : 64 < n) : FnC Try.prog 72 [.ints .u8 32 salt, .sl (.ints .u8 n value)] [] (.tup [.ints .u8 32 (List.replicate 32 0), .int .i64 1]) [] := by
  refine fn0 mix pl72 0 2 [.cell 4 63, .tmp 5] Try.func72 rfl (by kernel_rfl) (by kernel_rfl) rfl (by kernel_rfl) (by kernel_rfl) (by simp) ?_
  simp (implicitDefEqProofs := false) (disch := omega) only [go_sem, ↓reduceIte]
  refine brd (fun h => ?_) (fun h => by omega)
  simp (implicitDefEqProofs := false) (disch := omega) only [go_sem, ↓reduceIte]
theorem made16_ok (hn : value.length = n) (h : n ≤ 64) (hk : salt.length = 32) (hk' : ∀ x ∈ salt, 0 ≤ x ∧ x < 256) (hm : ∀ x ∈ value, 0 ≤ x ∧ x < 256) : FnC Try.prog 72 [.ints .u8 32 salt, .sl (.ints .u8 n value)] [] (.tup [.ints .u8 32 (madeD salt value), .int .i64 0]) [] := by
  have h1 := ofp_spec 2 [salt, value] 2 rfl (by decide) (mem2 hk' hm) (by rw [cat2]; simp only [List.length_append]; omega) (by decide)
  rw [cat2] at h1
  refine fn0 mix pl72 0 2 [.cell 4 63, .tmp 5] Try.func72 rfl (by kernel_rfl) (by kernel_rfl) rfl (by kernel_rfl) (by kernel_rfl) (by simp) ?_
  simp (implicitDefEqProofs := false) (disch := omega) only [go_sem, ↓reduceIte]
  refine brd (fun h => by omega) (fun h => ?_)
  simp (implicitDefEqProofs := false) (disch := omega) only [go_sem, ↓reduceIte]
  refine call0 plain_spec ?_
  simp (implicitDefEqProofs := false) (disch := omega) only [go_sem, ↓reduceIte]
  refine callB h1 ?_ ?_
  · simp (implicitDefEqProofs := false) (disch := omega) only [go_sem, ↓reduceIte, bsl, hk, hn]
  simp (implicitDefEqProofs := false) (disch := omega) only [go_sem, ↓reduceIte, madeD]
theorem isValue_spec (hn : value.length = n) (hnn : n ≤ 1000) (hk : salt.length = 32) (hk' : ∀ x ∈ salt, 0 ≤ x ∧ x < 256) (hm : ∀ x ∈ value, 0 ≤ x ∧ x < 256) : FnC Try.prog 36 [.ints .u8 32 index, .ints .u8 32 salt, .sl (.ints .u8 n value)] [] (.bool (decide (n ≤ 64) && decide (index = madeD salt value))) [] := by
  refine fn0 mix [] 0 3 [.tmp 6] Try.func36 rfl (by kernel_rfl) (by kernel_rfl) rfl (by kernel_rfl) (by kernel_rfl) (by simp) ?_
  simp (implicitDefEqProofs := false) (disch := omega) only [go_sem, ↓reduceIte]
  by_cases h : n ≤ 64
  · rw [decide_eq_true h, Bool.true_and]
    refine call0 (made16_ok salt value n hn h hk hk' hm) ?_
    simp (implicitDefEqProofs := false) (disch := omega) only [go_sem, ↓reduceIte]
  · rw [decide_eq_false h, Bool.false_and]
    refine call0 (made16_bad salt value n hn (by omega)) ?_
    simp (implicitDefEqProofs := false) (disch := omega) only [go_sem, ↓reduceIte]
end
end Go.Proofs.Ytegbkbkcfcjkbaa
