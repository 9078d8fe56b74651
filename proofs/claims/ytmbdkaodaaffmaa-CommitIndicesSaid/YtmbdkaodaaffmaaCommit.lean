/- The contracts of the package commit and of planchetref16. -/
import Derived.Test.YtmbdkaodaaffmaaMac
import Derived.Test.YtmbdkaodaaffmaaLI
namespace Go.Proofs.Ytmbdkaodaaffmaa
open Go Go.Sy Go.Proofs.Try
set_option maxRecDepth 100000
set_option maxHeartbeats 8000000
set_option linter.unusedSimpArgs false
set_option linter.unusedVariables false
attribute [go_sem] pl22 pl25 pl26 pl27 pl28 pl31 pl32
def namedP (name : List Int) (v : Int) : Prop := 1 ≤ name.length ∧ name.length ≤ 64 ∧ 1 ≤ v
instance (name : List Int) (v : Int) : Decidable (namedP name v) := by unfold namedP; infer_instance
def verB (v : Int) : List Int := be (IntKind.u64.wrap v) 8
theorem verB_len (v : Int) : (verB v).length = 8 := be_len _ _
theorem verB_mem (v : Int) : ∀ x ∈ verB v, 0 ≤ x ∧ x < 256 := be_mem _ _
theorem u64_in (x : Int) : 0 ≤ IntKind.u64.wrap x ∧ IntKind.u64.wrap x < 18446744073709551616 := by rw [u64_mod]; omega
theorem named_spec (name : List Int) (v : Int) (n : Nat) (hl : name.length = n) : FnC Try.prog 68 [.sl (.ints .u8 n name), .int .i64 v] [] (.bool (decide (namedP name v))) [] := by
  refine fn0 mix [] 0 2 [.tmp 4] Try.func68 rfl (by kernel_rfl) (by kernel_rfl) rfl (by kernel_rfl) (by kernel_rfl) (by simp) ?_
  simp (implicitDefEqProofs := false) (disch := omega) only [go_sem, ↓reduceIte]
  by_cases hn : namedP name v
  · obtain ⟨h1, h2, h3⟩ := id hn
    have d1 : decide (1 ≤ (n : Int)) = true := decide_eq_true (by omega)
    have d2 : decide ((n : Int) ≤ 64) = true := decide_eq_true (by omega)
    have d3 : decide (1 ≤ v) = true := decide_eq_true (by omega)
    have e : decide (namedP name v) = true := decide_eq_true hn
    simp (implicitDefEqProofs := false) (disch := omega) only [go_sem, ↓reduceIte, d1, d2, d3, e]
  · have e : decide (namedP name v) = false := decide_eq_false hn
    unfold namedP at hn
    rw [e]
    simp (implicitDefEqProofs := false) (disch := omega) only [go_sem, ↓reduceIte]
    refine brd (fun h1 => ?_) (fun h1 => ?_)
    case' refine_2 => simp (implicitDefEqProofs := false) (disch := omega) only [go_sem, ↓reduceIte]
    simp (implicitDefEqProofs := false) (disch := omega) only [go_sem, ↓reduceIte]
    refine brd (fun h2 => ?_) (fun h2 => ?_)
    case' refine_2 => simp (implicitDefEqProofs := false) (disch := omega) only [go_sem, ↓reduceIte]
    have d3 : decide (1 ≤ v) = false := decide_eq_false (by omega)
    simp (implicitDefEqProofs := false) (disch := omega) only [go_sem, ↓reduceIte, d3]
theorem may16_spec (name : List Int) (v : Int) (n : Nat) (hl : name.length = n) : FnC Try.prog 23 [.sl (.ints .u8 n name), .int .i64 v] [] (.bool (decide (namedP name v))) [] := by
  refine fn0 mix [] 0 2 [.tmp 4] Try.func23 rfl (by kernel_rfl) (by kernel_rfl) rfl (by kernel_rfl) (by kernel_rfl) (by simp) ?_
  simp (implicitDefEqProofs := false) (disch := omega) only [go_sem, ↓reduceIte]
  by_cases hn : namedP name v
  · obtain ⟨h1, h2, h3⟩ := id hn
    have d1 : decide (1 ≤ (n : Int)) = true := decide_eq_true (by omega)
    have d2 : decide ((n : Int) ≤ 64) = true := decide_eq_true (by omega)
    have d3 : decide (1 ≤ v) = true := decide_eq_true (by omega)
    have e : decide (namedP name v) = true := decide_eq_true hn
    simp (implicitDefEqProofs := false) (disch := omega) only [go_sem, ↓reduceIte, d1, d2, d3, e]
  · have e : decide (namedP name v) = false := decide_eq_false hn
    unfold namedP at hn
    rw [e]
    simp (implicitDefEqProofs := false) (disch := omega) only [go_sem, ↓reduceIte]
    refine brd (fun h1 => ?_) (fun h1 => ?_)
    case' refine_2 => simp (implicitDefEqProofs := false) (disch := omega) only [go_sem, ↓reduceIte]
    simp (implicitDefEqProofs := false) (disch := omega) only [go_sem, ↓reduceIte]
    refine brd (fun h2 => ?_) (fun h2 => ?_)
    case' refine_2 => simp (implicitDefEqProofs := false) (disch := omega) only [go_sem, ↓reduceIte]
    have d3 : decide (1 ≤ v) = false := decide_eq_false (by omega)
    simp (implicitDefEqProofs := false) (disch := omega) only [go_sem, ↓reduceIte, d3]
theorem count_spec (v : Int) : FnC Try.prog 71 [.int .i64 v] [] (.osl 0 [] 1 0 8) [(0, .row (.ints .u8 8 (verB v)))] := by
  refine fnN mix [] 0 1 [.tmp 2] Try.func71 rfl (by kernel_rfl) (by kernel_rfl) rfl (by kernel_rfl) (by kernel_rfl) (by simp) ?_
  simp (implicitDefEqProofs := false) (disch := omega) only [go_sem, ↓reduceIte]
  refine callF 1 (number_spec (IntKind.u64.wrap v) 8 8 rfl) ?_
  simp (implicitDefEqProofs := false) (disch := omega) only [go_sem, ↓reduceIte]
  refine ⟨[(0, 0)], [], [], rfl, ?_, ?_, ?_⟩ <;> simp (implicitDefEqProofs := false) (disch := omega) only [go_sem, ↓reduceIte, verB]
theorem with1_spec (key : List Int) (ps : List (List Int)) (hk : key.length = 32) (hk' : ∀ x ∈ key, 0 ≤ x ∧ x < 256) (hp : ∀ p ∈ ps, ∀ x ∈ p, 0 ≤ x ∧ x < 256) (hc : (cat ps).length ≤ 100000) (hps : ps.length ≤ 100000) :
    FnC Try.prog 104 [.sl (.lst 1 ps.length (ps.map bsl)), .ref 0 []] [(0, .var (.ints .u8 32 key))] (.ints .u8 32 (code key (cat ps))) [(0, .var (.ints .u8 32 key))] := by
  refine fnN mix [] 1 2 [.cell 3 24] Try.func104 rfl (by kernel_rfl) (by kernel_rfl) rfl (by kernel_rfl) (by kernel_rfl) (by simp) ?_
  simp (implicitDefEqProofs := false) (disch := omega) only [go_sem, ↓reduceIte]
  refine callB (code_spec key ps 32 hk hk' hp (by decide) hc hps) ?_ ?_
  · simp (implicitDefEqProofs := false) (disch := omega) only [go_sem, ↓reduceIte]
  simp (implicitDefEqProofs := false) (disch := omega) only [go_sem, ↓reduceIte]
  refine ⟨[(0, 0)], [], [], rfl, ?_, ?_, ?_⟩ <;> simp (implicitDefEqProofs := false) (disch := omega) only [go_sem, ↓reduceIte]
theorem with_spec (key : List Int) : FnC Try.prog 69 [.ints .u8 32 key] [] (.fn (.func 104) [.ref 0 []]) [(0, .var (.ints .u8 32 key))] := by
  refine fnN mix [] 0 1 [.tmp 2] Try.func69 rfl (by kernel_rfl) (by kernel_rfl) rfl (by kernel_rfl) (by kernel_rfl) (by simp) ?_
  simp (implicitDefEqProofs := false) (disch := omega) only [go_sem, ↓reduceIte]
  refine ⟨[(0, 0)], [], [], rfl, ?_, ?_, ?_⟩ <;> simp (implicitDefEqProofs := false) (disch := omega) only [go_sem, ↓reduceIte]
theorem plain_spec : FnC Try.prog 75 [] [] (.fn (.func 100) []) [] := by
  refine fn0 mix [] 0 0 [.tmp 0] Try.func75 rfl (by kernel_rfl) (by kernel_rfl) rfl (by kernel_rfl) (by kernel_rfl) (by simp) ?_
  simp (implicitDefEqProofs := false) (disch := omega) only [go_sem, ↓reduceIte]
theorem cat_cons (a : List Int) (ps : List (List Int)) : cat (a :: ps) = a ++ cat ps := by simp [cat]
theorem ofw_spec (key : List Int) (kind : Int) (ps : List (List Int)) (n : Nat) (hn : ps.length = n) (hkd : 0 ≤ kind ∧ kind < 256) (hk : key.length = 32) (hk' : ∀ x ∈ key, 0 ≤ x ∧ x < 256) (hp : ∀ p ∈ ps, ∀ x ∈ p, 0 ≤ x ∧ x < 256) (hc : (cat ps).length ≤ 10000) (hps : n ≤ 10000) :
    FnC Try.prog 70 [.fn (.func 104) [.ref 0 []], .int .u8 kind, .sl (.lst 1 n (ps.map bsl))] [(0, .var (.ints .u8 32 key))] (.ints .u8 32 (code key (kind :: cat ps))) [(0, .var (.ints .u8 32 key))] := by
  have h1 := with1_spec key ([kind] :: ps) hk hk' (fun p h => by
    rcases List.mem_cons.1 h with rfl | h
    · intro x hx; rw [List.mem_singleton] at hx; subst hx; exact hkd
    · exact hp p h) (by rw [cat_cons]; simp only [List.length_append, List.length_singleton]; omega) (by rw [List.length_cons]; omega)
  have hcc : cat ([kind] :: ps) = kind :: cat ps := by rw [cat_cons]; rfl
  have e1 : ([kind] :: ps).length = 1 + n := by rw [List.length_cons]; omega
  rw [hcc] at h1
  refine fnN mix [] 1 3 [.cell 6 24] Try.func70 rfl (by kernel_rfl) (by kernel_rfl) rfl (by kernel_rfl) (by kernel_rfl) (by simp) ?_
  simp (implicitDefEqProofs := false) (disch := omega) only [go_sem, ↓reduceIte]
  refine callGB [(0, 0)] [(0, 0)] 5 h1 ?_ ?_
  · simp [keys]
  simp (implicitDefEqProofs := false) (disch := omega) only [go_sem, ↓reduceIte, bsl, e1, List.singleton_append]
  refine ⟨[(0, 0)], [], [], rfl, ?_, ?_, ?_⟩ <;> simp (implicitDefEqProofs := false) (disch := omega) only [go_sem, ↓reduceIte]
theorem ofp_spec (kind : Int) (ps : List (List Int)) (n : Nat) (hn : ps.length = n) (hkd : 0 ≤ kind ∧ kind < 256) (hp : ∀ p ∈ ps, ∀ x ∈ p, 0 ≤ x ∧ x < 256) (hc : (cat ps).length ≤ 10000) (hps : n ≤ 10000) :
    FnC Try.prog 70 [.fn (.func 100) [], .int .u8 kind, .sl (.lst 1 n (ps.map bsl))] [] (.ints .u8 32 (sumD (kind :: cat ps))) [] := by
  have h1 := sums_spec ([kind] :: ps) (fun p h => by
    rcases List.mem_cons.1 h with rfl | h
    · intro x hx; rw [List.mem_singleton] at hx; subst hx; exact hkd
    · exact hp p h) (by rw [cat_cons]; simp only [List.length_append, List.length_singleton]; omega) (by rw [List.length_cons]; omega)
  have hcc : cat ([kind] :: ps) = kind :: cat ps := by rw [cat_cons]; rfl
  have e1 : ([kind] :: ps).length = 1 + n := by rw [List.length_cons]; omega
  rw [hcc] at h1
  refine fn0 mix [] 0 3 [.cell 6 24] Try.func70 rfl (by kernel_rfl) (by kernel_rfl) rfl (by kernel_rfl) (by kernel_rfl) (by simp) ?_
  simp (implicitDefEqProofs := false) (disch := omega) only [go_sem, ↓reduceIte]
  refine callB h1 ?_ ?_
  · simp (implicitDefEqProofs := false) (disch := omega) only [go_sem, ↓reduceIte, bsl, e1, List.singleton_append]
  simp (implicitDefEqProofs := false) (disch := omega) only [go_sem, ↓reduceIte]
def fromD (nonce name : List Int) (v : Int) : List Int := sumD (1 :: (nonce ++ (verB v ++ name)))
def nonceD (key name : List Int) (v : Int) : List Int := code key (1 :: (verB v ++ name))
def madeD (salt value : List Int) : List Int := sumD (2 :: (salt ++ value))
def saltD (key index value : List Int) : List Int := code key (2 :: (index ++ value))
theorem code_len (k t : List Int) : (code k t).length = 32 := sumD_len _
theorem code_mem (k t : List Int) : ∀ x ∈ code k t, 0 ≤ x ∧ x < 256 := sumD_mem _
theorem mem2 {a b : List Int} (ha : ∀ x ∈ a, 0 ≤ x ∧ x < 256) (hb : ∀ x ∈ b, 0 ≤ x ∧ x < 256) : ∀ p ∈ [a, b], ∀ x ∈ p, 0 ≤ x ∧ x < 256 := by
  intro p hp; simp only [List.mem_cons, List.not_mem_nil, or_false] at hp; rcases hp with rfl | rfl <;> assumption
theorem mem3 {a b c : List Int} (ha : ∀ x ∈ a, 0 ≤ x ∧ x < 256) (hb : ∀ x ∈ b, 0 ≤ x ∧ x < 256) (hc : ∀ x ∈ c, 0 ≤ x ∧ x < 256) : ∀ p ∈ [a, b, c], ∀ x ∈ p, 0 ≤ x ∧ x < 256 := by
  intro p hp; simp only [List.mem_cons, List.not_mem_nil, or_false] at hp; rcases hp with rfl | rfl | rfl <;> assumption
theorem cat2 (a b : List Int) : cat [a, b] = a ++ b := by simp [cat]
theorem cat3 (a b c : List Int) : cat [a, b, c] = a ++ (b ++ c) := by simp [cat]
section
variable (nonce name key index salt value : List Int) (v : Int) (n : Nat)
theorem from16_bad (hn : name.length = n) (h : ¬ namedP name v) : FnC Try.prog 26 [.ints .u8 32 nonce, .sl (.ints .u8 n name), .int .i64 v] [] (.tup [.ints .u8 32 (List.replicate 32 0), .int .i64 1]) [] := by
  refine fn0 mix pl26 0 3 [.cell 6 24, .tmp 7] Try.func26 rfl (by kernel_rfl) (by kernel_rfl) rfl (by kernel_rfl) (by kernel_rfl) (by simp) ?_
  simp (implicitDefEqProofs := false) (disch := omega) only [go_sem, ↓reduceIte]
  refine call0 (named_spec name v n hn) ?_
  rw [decide_eq_false h]
  simp (implicitDefEqProofs := false) (disch := omega) only [go_sem, ↓reduceIte]
theorem from16_ok (hn : name.length = n) (h : namedP name v) (hk : nonce.length = 32) (hk' : ∀ x ∈ nonce, 0 ≤ x ∧ x < 256) (hm : ∀ x ∈ name, 0 ≤ x ∧ x < 256) : FnC Try.prog 26 [.ints .u8 32 nonce, .sl (.ints .u8 n name), .int .i64 v] [] (.tup [.ints .u8 32 (fromD nonce name v), .int .i64 0]) [] := by
  have hl := h.2.1
  have hv := verB_len v
  have h1 := ofp_spec 1 [nonce, verB v, name] 3 rfl (by decide) (mem3 hk' (verB_mem v) hm) (by rw [cat3]; simp only [List.length_append]; omega) (by decide)
  rw [cat3] at h1
  refine fn0 mix pl26 0 3 [.cell 6 24, .tmp 7] Try.func26 rfl (by kernel_rfl) (by kernel_rfl) rfl (by kernel_rfl) (by kernel_rfl) (by simp) ?_
  simp (implicitDefEqProofs := false) (disch := omega) only [go_sem, ↓reduceIte]
  refine call0 (named_spec name v n hn) ?_
  rw [decide_eq_true h]
  simp (implicitDefEqProofs := false) (disch := omega) only [go_sem, ↓reduceIte]
  refine call0 plain_spec ?_
  simp (implicitDefEqProofs := false) (disch := omega) only [go_sem, ↓reduceIte]
  refine callF 1 (count_spec v) ?_
  simp (implicitDefEqProofs := false) (disch := omega) only [go_sem, ↓reduceIte]
  refine callB h1 ?_ ?_
  · simp (implicitDefEqProofs := false) (disch := omega) only [go_sem, ↓reduceIte, bsl, hk, hv, hn]
  simp (implicitDefEqProofs := false) (disch := omega) only [go_sem, ↓reduceIte, fromD]
theorem index16_bad (hn : name.length = n) (h : ¬ namedP name v) : FnC Try.prog 22 [.ints .u8 32 key, .sl (.ints .u8 n name), .int .i64 v] [] (.tup [.ints .u8 32 (List.replicate 32 0), .ints .u8 32 (List.replicate 32 0), .int .i64 1]) [] := by
  refine fn0 mix pl22 0 3 [.cell 6 24, .cell 7 24, .tmp 8] Try.func22 rfl (by kernel_rfl) (by kernel_rfl) rfl (by kernel_rfl) (by kernel_rfl) (by simp) ?_
  simp (implicitDefEqProofs := false) (disch := omega) only [go_sem, ↓reduceIte]
  refine call0 (named_spec name v n hn) ?_
  rw [decide_eq_false h]
  simp (implicitDefEqProofs := false) (disch := omega) only [go_sem, ↓reduceIte]
theorem index16_ok (hn : name.length = n) (h : namedP name v) (hk : key.length = 32) (hk' : ∀ x ∈ key, 0 ≤ x ∧ x < 256) (hm : ∀ x ∈ name, 0 ≤ x ∧ x < 256) : FnC Try.prog 22 [.ints .u8 32 key, .sl (.ints .u8 n name), .int .i64 v] [] (.tup [.ints .u8 32 (fromD (nonceD key name v) name v), .ints .u8 32 (nonceD key name v), .int .i64 0]) [] := by
  have hl := h.2.1
  have hv := verB_len v
  have h1 := ofw_spec key 1 [verB v, name] 2 rfl (by decide) hk hk' (mem2 (verB_mem v) hm) (by rw [cat2]; simp only [List.length_append]; omega) (by decide)
  rw [cat2] at h1
  have hnl : (nonceD key name v).length = 32 := code_len _ _
  have hnm : ∀ x ∈ nonceD key name v, 0 ≤ x ∧ x < 256 := code_mem _ _
  have e : code key (1 :: (verB v ++ name)) = nonceD key name v := rfl
  rw [e] at h1
  refine fn0 mix pl22 0 3 [.cell 6 24, .cell 7 24, .tmp 8] Try.func22 rfl (by kernel_rfl) (by kernel_rfl) rfl (by kernel_rfl) (by kernel_rfl) (by simp) ?_
  simp (implicitDefEqProofs := false) (disch := omega) only [go_sem, ↓reduceIte]
  refine call0 (named_spec name v n hn) ?_
  rw [decide_eq_true h]
  simp (implicitDefEqProofs := false) (disch := omega) only [go_sem, ↓reduceIte]
  refine callF 1 (with_spec key) ?_
  simp (implicitDefEqProofs := false) (disch := omega) only [go_sem, ↓reduceIte]
  refine callF 1 (count_spec v) ?_
  simp (implicitDefEqProofs := false) (disch := omega) only [go_sem, ↓reduceIte]
  refine callGB [(0, 3)] [(0, 3)] 6 h1 ?_ ?_
  · simp [keys]
  simp (implicitDefEqProofs := false) (disch := omega) only [go_sem, ↓reduceIte, bsl, hv, hn]
  refine call0 (from16_ok (nonceD key name v) name v n hn h hnl hnm hm) ?_
  simp (implicitDefEqProofs := false) (disch := omega) only [go_sem, ↓reduceIte]
theorem isIndex_spec (hn : name.length = n) (hnn : n ≤ 1000) (hk : nonce.length = 32) (hk' : ∀ x ∈ nonce, 0 ≤ x ∧ x < 256) (hm : ∀ x ∈ name, 0 ≤ x ∧ x < 256) : FnC Try.prog 24 [.ints .u8 32 index, .ints .u8 32 nonce, .sl (.ints .u8 n name), .int .i64 v] [] (.bool (decide (namedP name v) && decide (index = fromD nonce name v))) [] := by
  refine fn0 mix [] 0 4 [.tmp 8] Try.func24 rfl (by kernel_rfl) (by kernel_rfl) rfl (by kernel_rfl) (by kernel_rfl) (by simp) ?_
  simp (implicitDefEqProofs := false) (disch := omega) only [go_sem, ↓reduceIte]
  by_cases h : namedP name v
  · rw [decide_eq_true h, Bool.true_and]
    refine call0 (from16_ok nonce name v n hn h hk hk' hm) ?_
    simp (implicitDefEqProofs := false) (disch := omega) only [go_sem, ↓reduceIte]
  · rw [decide_eq_false h, Bool.false_and]
    refine call0 (from16_bad nonce name v n hn h) ?_
    simp (implicitDefEqProofs := false) (disch := omega) only [go_sem, ↓reduceIte]
theorem made16_bad (hn : value.length = n) (h : 64 < n) : FnC Try.prog 31 [.ints .u8 32 salt, .sl (.ints .u8 n value)] [] (.tup [.ints .u8 32 (List.replicate 32 0), .int .i64 1]) [] := by
  refine fn0 mix pl31 0 2 [.cell 4 24, .tmp 5] Try.func31 rfl (by kernel_rfl) (by kernel_rfl) rfl (by kernel_rfl) (by kernel_rfl) (by simp) ?_
  simp (implicitDefEqProofs := false) (disch := omega) only [go_sem, ↓reduceIte]
  refine brd (fun h => ?_) (fun h => by omega)
  simp (implicitDefEqProofs := false) (disch := omega) only [go_sem, ↓reduceIte]
theorem made16_ok (hn : value.length = n) (h : n ≤ 64) (hk : salt.length = 32) (hk' : ∀ x ∈ salt, 0 ≤ x ∧ x < 256) (hm : ∀ x ∈ value, 0 ≤ x ∧ x < 256) : FnC Try.prog 31 [.ints .u8 32 salt, .sl (.ints .u8 n value)] [] (.tup [.ints .u8 32 (madeD salt value), .int .i64 0]) [] := by
  have h1 := ofp_spec 2 [salt, value] 2 rfl (by decide) (mem2 hk' hm) (by rw [cat2]; simp only [List.length_append]; omega) (by decide)
  rw [cat2] at h1
  refine fn0 mix pl31 0 2 [.cell 4 24, .tmp 5] Try.func31 rfl (by kernel_rfl) (by kernel_rfl) rfl (by kernel_rfl) (by kernel_rfl) (by simp) ?_
  simp (implicitDefEqProofs := false) (disch := omega) only [go_sem, ↓reduceIte]
  refine brd (fun h => by omega) (fun h => ?_)
  simp (implicitDefEqProofs := false) (disch := omega) only [go_sem, ↓reduceIte]
  refine call0 plain_spec ?_
  simp (implicitDefEqProofs := false) (disch := omega) only [go_sem, ↓reduceIte]
  refine callB h1 ?_ ?_
  · simp (implicitDefEqProofs := false) (disch := omega) only [go_sem, ↓reduceIte, bsl, hk, hn]
  simp (implicitDefEqProofs := false) (disch := omega) only [go_sem, ↓reduceIte, madeD]
theorem value16_bad (hn : value.length = n) (h : 64 < n) : FnC Try.prog 28 [.ints .u8 32 key, .ints .u8 32 index, .sl (.ints .u8 n value)] [] (.tup [.ints .u8 32 (List.replicate 32 0), .ints .u8 32 (List.replicate 32 0), .int .i64 1]) [] := by
  refine fn0 mix pl28 0 3 [.cell 6 24, .cell 7 24, .tmp 8] Try.func28 rfl (by kernel_rfl) (by kernel_rfl) rfl (by kernel_rfl) (by kernel_rfl) (by simp) ?_
  simp (implicitDefEqProofs := false) (disch := omega) only [go_sem, ↓reduceIte]
  refine brd (fun h => ?_) (fun h => by omega)
  simp (implicitDefEqProofs := false) (disch := omega) only [go_sem, ↓reduceIte]
theorem value16_ok (hn : value.length = n) (h : n ≤ 64) (hk : key.length = 32) (hk' : ∀ x ∈ key, 0 ≤ x ∧ x < 256) (hi : index.length = 32) (hi' : ∀ x ∈ index, 0 ≤ x ∧ x < 256) (hm : ∀ x ∈ value, 0 ≤ x ∧ x < 256) :
    FnC Try.prog 28 [.ints .u8 32 key, .ints .u8 32 index, .sl (.ints .u8 n value)] [] (.tup [.ints .u8 32 (madeD (saltD key index value) value), .ints .u8 32 (saltD key index value), .int .i64 0]) [] := by
  have h1 := ofw_spec key 2 [index, value] 2 rfl (by decide) hk hk' (mem2 hi' hm) (by rw [cat2]; simp only [List.length_append]; omega) (by decide)
  rw [cat2] at h1
  have hsl : (saltD key index value).length = 32 := code_len _ _
  have hsm : ∀ x ∈ saltD key index value, 0 ≤ x ∧ x < 256 := code_mem _ _
  have e : code key (2 :: (index ++ value)) = saltD key index value := rfl
  rw [e] at h1
  refine fn0 mix pl28 0 3 [.cell 6 24, .cell 7 24, .tmp 8] Try.func28 rfl (by kernel_rfl) (by kernel_rfl) rfl (by kernel_rfl) (by kernel_rfl) (by simp) ?_
  simp (implicitDefEqProofs := false) (disch := omega) only [go_sem, ↓reduceIte]
  refine brd (fun h => by omega) (fun h => ?_)
  simp (implicitDefEqProofs := false) (disch := omega) only [go_sem, ↓reduceIte]
  refine callF 1 (with_spec key) ?_
  simp (implicitDefEqProofs := false) (disch := omega) only [go_sem, ↓reduceIte]
  refine callGB [(0, 4)] [(0, 4)] 6 h1 ?_ ?_
  · simp [keys]
  simp (implicitDefEqProofs := false) (disch := omega) only [go_sem, ↓reduceIte, bsl, hi, hn]
  refine call0 (made16_ok (saltD key index value) value n hn (by omega) hsl hsm hm) ?_
  simp (implicitDefEqProofs := false) (disch := omega) only [go_sem, ↓reduceIte]
theorem isValue_spec (hn : value.length = n) (hnn : n ≤ 1000) (hk : salt.length = 32) (hk' : ∀ x ∈ salt, 0 ≤ x ∧ x < 256) (hm : ∀ x ∈ value, 0 ≤ x ∧ x < 256) : FnC Try.prog 29 [.ints .u8 32 index, .ints .u8 32 salt, .sl (.ints .u8 n value)] [] (.bool (decide (n ≤ 64) && decide (index = madeD salt value))) [] := by
  refine fn0 mix [] 0 3 [.tmp 6] Try.func29 rfl (by kernel_rfl) (by kernel_rfl) rfl (by kernel_rfl) (by kernel_rfl) (by simp) ?_
  simp (implicitDefEqProofs := false) (disch := omega) only [go_sem, ↓reduceIte]
  by_cases h : n ≤ 64
  · rw [decide_eq_true h, Bool.true_and]
    refine call0 (made16_ok salt value n hn h hk hk' hm) ?_
    simp (implicitDefEqProofs := false) (disch := omega) only [go_sem, ↓reduceIte]
  · rw [decide_eq_false h, Bool.false_and]
    refine call0 (made16_bad salt value n hn (by omega)) ?_
    simp (implicitDefEqProofs := false) (disch := omega) only [go_sem, ↓reduceIte]
theorem text16_spec (kind : Int) (d more : List Int) (m k : Nat) (hd : d.length = m) (hk : more.length = k) (hm : m ≤ 1000) (hkk : k ≤ 1000) : FnC Try.prog 73 [.int .u8 kind, .sl (.ints .u8 m d), .sl (.ints .u8 k more)] [] (.osl 0 [] 1 0 (1 + m + k)) [(0, .row (.ints .u8 (1 + m + k) (kind :: (d ++ more))))] := by
  refine fnN mix [] 0 3 [.tmp 6] Try.func73 rfl (by kernel_rfl) (by kernel_rfl) rfl (by kernel_rfl) (by kernel_rfl) (by simp) ?_
  simp (implicitDefEqProofs := false) (disch := omega) only [go_sem, ↓reduceIte]
  refine ⟨[(0, 2)], [], [], rfl, ?_, ?_, ?_⟩ <;> simp (implicitDefEqProofs := false) (disch := omega) only [go_sem, ↓reduceIte]
theorem whole16_spec (hn : name.length = n) (hnn : n ≤ 500) : FnC Try.prog 74 [.sl (.ints .u8 n name), .int .i64 v] [] (.osl 0 [] 1 0 (8 + n)) [(0, .row (.ints .u8 (8 + n) (verB v ++ name)))] := by
  refine fnN mix [] 0 2 [.tmp 4] Try.func74 rfl (by kernel_rfl) (by kernel_rfl) rfl (by kernel_rfl) (by kernel_rfl) (by simp) ?_
  simp (implicitDefEqProofs := false) (disch := omega) only [go_sem, ↓reduceIte]
  refine callF 1 (refnumber_spec (IntKind.u64.wrap v) 8 (by decide) (u64_in v).1 (u64_in v).2) ?_
  simp (implicitDefEqProofs := false) (disch := omega) only [go_sem, ↓reduceIte]
  refine ⟨[(0, 1)], [], [], rfl, ?_, ?_, ?_⟩ <;> simp (implicitDefEqProofs := false) (disch := omega) only [go_sem, ↓reduceIte, verB]
theorem reffrom16_spec (hn : name.length = n) (hnn : n ≤ 500) (hk : nonce.length = 32) (hk' : ∀ x ∈ nonce, 0 ≤ x ∧ x < 256) (hm : ∀ x ∈ name, 0 ≤ x ∧ x < 256) : FnC Try.prog 25 [.ints .u8 32 nonce, .sl (.ints .u8 n name), .int .i64 v] [] (.ints .u8 32 (fromD nonce name v)) [] := by
  have hv := verB_len v
  have h1 := refsum_spec (1 :: (nonce ++ (verB v ++ name))) (fun x hx => by
    rcases List.mem_cons.1 hx with rfl | hx
    · decide
    · exact app_mem hk' (app_mem (verB_mem v) hm) x hx) (by simp only [List.length_cons, List.length_append]; omega)
  have e : (1 :: (nonce ++ (verB v ++ name))).length = 1 + 32 + (8 + n) := by simp only [List.length_cons, List.length_append]; omega
  rw [e] at h1
  refine fn0 mix pl25 0 3 [.cell 6 24] Try.func25 rfl (by kernel_rfl) (by kernel_rfl) rfl (by kernel_rfl) (by kernel_rfl) (by simp) ?_
  simp (implicitDefEqProofs := false) (disch := omega) only [go_sem, ↓reduceIte]
  refine callF 1 (whole16_spec name v n hn hnn) ?_
  simp (implicitDefEqProofs := false) (disch := omega) only [go_sem, ↓reduceIte]
  refine callBF 1 (text16_spec 1 nonce (verB v ++ name) 32 (8 + n) hk (by rw [List.length_append]; omega) (by decide) (by omega)) ?_ ?_
  · simp (implicitDefEqProofs := false) (disch := omega) only [go_sem, ↓reduceIte]
  simp (implicitDefEqProofs := false) (disch := omega) only [go_sem, ↓reduceIte]
  refine callB h1 ?_ ?_
  · simp (implicitDefEqProofs := false) (disch := omega) only [go_sem, ↓reduceIte]
  simp (implicitDefEqProofs := false) (disch := omega) only [go_sem, ↓reduceIte, fromD]
theorem refindex16_spec (hn : name.length = n) (hnn : n ≤ 500) (hk : key.length = 32) (hk' : ∀ x ∈ key, 0 ≤ x ∧ x < 256) (hm : ∀ x ∈ name, 0 ≤ x ∧ x < 256) : FnC Try.prog 27 [.ints .u8 32 key, .sl (.ints .u8 n name), .int .i64 v] [] (.tup [.ints .u8 32 (fromD (nonceD key name v) name v), .ints .u8 32 (nonceD key name v)]) [] := by
  have hv := verB_len v
  have h1 := refcode_spec key (1 :: (verB v ++ name)) 32 (1 + 0 + (8 + n)) hk (by simp only [List.length_cons, List.length_append]; omega) hk' (fun x hx => by
    rcases List.mem_cons.1 hx with rfl | hx
    · decide
    · exact app_mem (verB_mem v) hm x hx) (by decide) (by omega)
  have e : code key (1 :: (verB v ++ name)) = nonceD key name v := rfl
  rw [e] at h1
  have h2 := (text16_spec 1 [] (verB v ++ name) 0 (8 + n) rfl (by rw [List.length_append]; omega) (by decide) (by omega)).nz (args' := [.int .u8 1, .nils, .sl (.ints .u8 (8 + n) (verB v ++ name))]) (by simp [Go.Sy.nz, nzs, AV.void])
  rw [List.nil_append] at h2
  have hnl : (nonceD key name v).length = 32 := code_len _ _
  have hnm : ∀ x ∈ nonceD key name v, 0 ≤ x ∧ x < 256 := code_mem _ _
  refine fn0 mix pl27 0 3 [.cell 6 24, .cell 7 24] Try.func27 rfl (by kernel_rfl) (by kernel_rfl) rfl (by kernel_rfl) (by kernel_rfl) (by simp) ?_
  simp (implicitDefEqProofs := false) (disch := omega) only [go_sem, ↓reduceIte]
  refine callF 1 (whole16_spec name v n hn hnn) ?_
  simp (implicitDefEqProofs := false) (disch := omega) only [go_sem, ↓reduceIte]
  refine callBF 1 h2 ?_ ?_
  · simp (implicitDefEqProofs := false) (disch := omega) only [go_sem, ↓reduceIte]
  simp (implicitDefEqProofs := false) (disch := omega) only [go_sem, ↓reduceIte]
  refine callB h1 ?_ ?_
  · simp (implicitDefEqProofs := false) (disch := omega) only [go_sem, ↓reduceIte]
  simp (implicitDefEqProofs := false) (disch := omega) only [go_sem, ↓reduceIte]
  refine call0 (reffrom16_spec (nonceD key name v) name v n hn hnn hnl hnm hm) ?_
  simp (implicitDefEqProofs := false) (disch := omega) only [go_sem, ↓reduceIte]
theorem refmade16_spec (hn : value.length = n) (hnn : n ≤ 500) (hk : salt.length = 32) (hk' : ∀ x ∈ salt, 0 ≤ x ∧ x < 256) (hm : ∀ x ∈ value, 0 ≤ x ∧ x < 256) : FnC Try.prog 30 [.ints .u8 32 salt, .sl (.ints .u8 n value)] [] (.ints .u8 32 (madeD salt value)) [] := by
  have h1 := refsum_spec (2 :: (salt ++ value)) (fun x hx => by
    rcases List.mem_cons.1 hx with rfl | hx
    · decide
    · exact app_mem hk' hm x hx) (by simp only [List.length_cons, List.length_append]; omega)
  have e : (2 :: (salt ++ value)).length = 1 + 32 + n := by simp only [List.length_cons, List.length_append]; omega
  rw [e] at h1
  refine fn0 mix [] 0 2 [.cell 4 24] Try.func30 rfl (by kernel_rfl) (by kernel_rfl) rfl (by kernel_rfl) (by kernel_rfl) (by simp) ?_
  simp (implicitDefEqProofs := false) (disch := omega) only [go_sem, ↓reduceIte]
  refine callBF 1 (text16_spec 2 salt value 32 n hk hn (by decide) (by omega)) ?_ ?_
  · simp (implicitDefEqProofs := false) (disch := omega) only [go_sem, ↓reduceIte]
  simp (implicitDefEqProofs := false) (disch := omega) only [go_sem, ↓reduceIte]
  refine callB h1 ?_ ?_
  · simp (implicitDefEqProofs := false) (disch := omega) only [go_sem, ↓reduceIte]
  simp (implicitDefEqProofs := false) (disch := omega) only [go_sem, ↓reduceIte, madeD]
theorem refvalue16_spec (hn : value.length = n) (hnn : n ≤ 500) (hk : key.length = 32) (hk' : ∀ x ∈ key, 0 ≤ x ∧ x < 256) (hi : index.length = 32) (hi' : ∀ x ∈ index, 0 ≤ x ∧ x < 256) (hm : ∀ x ∈ value, 0 ≤ x ∧ x < 256) :
    FnC Try.prog 32 [.ints .u8 32 key, .ints .u8 32 index, .sl (.ints .u8 n value)] [] (.tup [.ints .u8 32 (madeD (saltD key index value) value), .ints .u8 32 (saltD key index value)]) [] := by
  have h1 := refcode_spec key (2 :: (index ++ value)) 32 (1 + 32 + n) hk (by simp only [List.length_cons, List.length_append]; omega) hk' (fun x hx => by
    rcases List.mem_cons.1 hx with rfl | hx
    · decide
    · exact app_mem hi' hm x hx) (by decide) (by omega)
  have e : code key (2 :: (index ++ value)) = saltD key index value := rfl
  rw [e] at h1
  have hsl : (saltD key index value).length = 32 := code_len _ _
  have hsm : ∀ x ∈ saltD key index value, 0 ≤ x ∧ x < 256 := code_mem _ _
  refine fn0 mix pl32 0 3 [.cell 6 24, .cell 7 24] Try.func32 rfl (by kernel_rfl) (by kernel_rfl) rfl (by kernel_rfl) (by kernel_rfl) (by simp) ?_
  simp (implicitDefEqProofs := false) (disch := omega) only [go_sem, ↓reduceIte]
  refine callBF 1 (text16_spec 2 index value 32 n hi hn (by decide) (by omega)) ?_ ?_
  · simp (implicitDefEqProofs := false) (disch := omega) only [go_sem, ↓reduceIte]
  simp (implicitDefEqProofs := false) (disch := omega) only [go_sem, ↓reduceIte]
  refine callB h1 ?_ ?_
  · simp (implicitDefEqProofs := false) (disch := omega) only [go_sem, ↓reduceIte]
  simp (implicitDefEqProofs := false) (disch := omega) only [go_sem, ↓reduceIte]
  refine call0 (refmade16_spec (saltD key index value) value n hn hnn hsl hsm hm) ?_
  simp (implicitDefEqProofs := false) (disch := omega) only [go_sem, ↓reduceIte]
end
end Go.Proofs.Ytmbdkaodaaffmaa
