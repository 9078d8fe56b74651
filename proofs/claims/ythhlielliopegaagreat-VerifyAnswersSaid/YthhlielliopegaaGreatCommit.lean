/- The contracts of the package commit and of planchetref16. -/
import Derived.Test.YthhlielliopegaaGreatMac
import Derived.Test.YthhlielliopegaaGreatGG
namespace Go.Proofs.YthhlielliopegaaGreat
open Go Go.Sy Go.Proofs.Tryz
set_option maxRecDepth 100000
set_option maxHeartbeats 8000000
set_option linter.unusedSimpArgs false
set_option linter.unusedVariables false
attribute [go_sem] pl22 pl26 pl27
def namedP (name : List Int) (v : Int) : Prop := 1 ≤ name.length ∧ name.length ≤ 64 ∧ 1 ≤ v
instance (name : List Int) (v : Int) : Decidable (namedP name v) := by unfold namedP; infer_instance
def verB (v : Int) : List Int := be (IntKind.u64.wrap v) 8
theorem verB_len (v : Int) : (verB v).length = 8 := be_len _ _
theorem verB_mem (v : Int) : ∀ x ∈ verB v, 0 ≤ x ∧ x < 256 := be_mem _ _
theorem u64_in (x : Int) : 0 ≤ IntKind.u64.wrap x ∧ IntKind.u64.wrap x < 18446744073709551616 := by rw [u64_mod]; omega
theorem named_spec (name : List Int) (v : Int) (n : Nat) (hl : name.length = n) : FnC Tryz.prog 54 [.sl (.ints .u8 n name), .int .i64 v] [] (.bool (decide (namedP name v))) [] := by
  refine fn0 mix [] 0 2 [.tmp 4] Tryz.func54 rfl (by kernel_rfl) (by kernel_rfl) rfl (by kernel_rfl) (by kernel_rfl) (by simp) ?_
  simp (implicitDefEqProofs := false) (disch := omega) only [go_sem, ↓reduceIte]
  by_cases hn : namedP name v
  · obtain ⟨h1, h2, h3⟩ := id hn
    have d1 : decide (1 ≤ (n : Int)) = true := decide_eq_true (by omega)
    have d2 : decide ((n : Int) ≤ 64) = true := decide_eq_true (by omega)
    have d3 : decide (1 ≤ v) = true := decide_eq_true (by omega)
    have e : decide (namedP name v) = true := decide_eq_true hn
    simp (implicitDefEqProofs := false) (disch := omega) only [go_sem, ↓reduceIte, d1, d2, d3, e]
  · have e : decide (namedP name v) = false := decide_eq_false hn
    unfold namedP at hn
    rw [e]
    simp (implicitDefEqProofs := false) (disch := omega) only [go_sem, ↓reduceIte]
    refine brd (fun h1 => ?_) (fun h1 => ?_)
    case' refine_2 => simp (implicitDefEqProofs := false) (disch := omega) only [go_sem, ↓reduceIte]
    simp (implicitDefEqProofs := false) (disch := omega) only [go_sem, ↓reduceIte]
    refine brd (fun h2 => ?_) (fun h2 => ?_)
    case' refine_2 => simp (implicitDefEqProofs := false) (disch := omega) only [go_sem, ↓reduceIte]
    have d3 : decide (1 ≤ v) = false := decide_eq_false (by omega)
    simp (implicitDefEqProofs := false) (disch := omega) only [go_sem, ↓reduceIte, d3]
theorem may16_spec (name : List Int) (v : Int) (n : Nat) (hl : name.length = n) : FnC Tryz.prog 20 [.sl (.ints .u8 n name), .int .i64 v] [] (.bool (decide (namedP name v))) [] := by
  refine fn0 mix [] 0 2 [.tmp 4] Tryz.func20 rfl (by kernel_rfl) (by kernel_rfl) rfl (by kernel_rfl) (by kernel_rfl) (by simp) ?_
  simp (implicitDefEqProofs := false) (disch := omega) only [go_sem, ↓reduceIte]
  by_cases hn : namedP name v
  · obtain ⟨h1, h2, h3⟩ := id hn
    have d1 : decide (1 ≤ (n : Int)) = true := decide_eq_true (by omega)
    have d2 : decide ((n : Int) ≤ 64) = true := decide_eq_true (by omega)
    have d3 : decide (1 ≤ v) = true := decide_eq_true (by omega)
    have e : decide (namedP name v) = true := decide_eq_true hn
    simp (implicitDefEqProofs := false) (disch := omega) only [go_sem, ↓reduceIte, d1, d2, d3, e]
  · have e : decide (namedP name v) = false := decide_eq_false hn
    unfold namedP at hn
    rw [e]
    simp (implicitDefEqProofs := false) (disch := omega) only [go_sem, ↓reduceIte]
    refine brd (fun h1 => ?_) (fun h1 => ?_)
    case' refine_2 => simp (implicitDefEqProofs := false) (disch := omega) only [go_sem, ↓reduceIte]
    simp (implicitDefEqProofs := false) (disch := omega) only [go_sem, ↓reduceIte]
    refine brd (fun h2 => ?_) (fun h2 => ?_)
    case' refine_2 => simp (implicitDefEqProofs := false) (disch := omega) only [go_sem, ↓reduceIte]
    have d3 : decide (1 ≤ v) = false := decide_eq_false (by omega)
    simp (implicitDefEqProofs := false) (disch := omega) only [go_sem, ↓reduceIte, d3]
theorem count_spec (v : Int) : FnC Tryz.prog 57 [.int .i64 v] [] (.osl 0 [] 1 0 8) [(0, .row (.ints .u8 8 (verB v)))] := by
  refine fnN mix [] 0 1 [.tmp 2] Tryz.func57 rfl (by kernel_rfl) (by kernel_rfl) rfl (by kernel_rfl) (by kernel_rfl) (by simp) ?_
  simp (implicitDefEqProofs := false) (disch := omega) only [go_sem, ↓reduceIte]
  refine callF 1 (number_spec (IntKind.u64.wrap v) 8 8 rfl) ?_
  simp (implicitDefEqProofs := false) (disch := omega) only [go_sem, ↓reduceIte]
  refine ⟨[(0, 0)], [], [], rfl, ?_, ?_, ?_⟩ <;> simp (implicitDefEqProofs := false) (disch := omega) only [go_sem, ↓reduceIte, verB]
theorem plain_spec : FnC Tryz.prog 55 [] [] (.fn (.func 88) []) [] := by
  refine fn0 mix [] 0 0 [.tmp 0] Tryz.func55 rfl (by kernel_rfl) (by kernel_rfl) rfl (by kernel_rfl) (by kernel_rfl) (by simp) ?_
  simp (implicitDefEqProofs := false) (disch := omega) only [go_sem, ↓reduceIte]
theorem cat_cons (a : List Int) (ps : List (List Int)) : cat (a :: ps) = a ++ cat ps := by simp [cat]
theorem ofp_spec (kind : Int) (ps : List (List Int)) (n : Nat) (hn : ps.length = n) (hkd : 0 ≤ kind ∧ kind < 256) (hp : ∀ p ∈ ps, ∀ x ∈ p, 0 ≤ x ∧ x < 256) (hc : (cat ps).length ≤ 10000) (hps : n ≤ 10000) :
    FnC Tryz.prog 56 [.fn (.func 88) [], .int .u8 kind, .sl (.lst 1 n (ps.map bsl))] [] (.ints .u8 32 (sumD (kind :: cat ps))) [] := by
  have h1 := sums_spec ([kind] :: ps) (fun p h => by
    rcases List.mem_cons.1 h with rfl | h
    · intro x hx; rw [List.mem_singleton] at hx; subst hx; exact hkd
    · exact hp p h) (by rw [cat_cons]; simp only [List.length_append, List.length_singleton]; omega) (by rw [List.length_cons]; omega)
  have hcc : cat ([kind] :: ps) = kind :: cat ps := by rw [cat_cons]; rfl
  have e1 : ([kind] :: ps).length = 1 + n := by rw [List.length_cons]; omega
  rw [hcc] at h1
  refine fn0 mix [] 0 3 [.cell 6 23] Tryz.func56 rfl (by kernel_rfl) (by kernel_rfl) rfl (by kernel_rfl) (by kernel_rfl) (by simp) ?_
  simp (implicitDefEqProofs := false) (disch := omega) only [go_sem, ↓reduceIte]
  refine callB h1 ?_ ?_
  · simp (implicitDefEqProofs := false) (disch := omega) only [go_sem, ↓reduceIte, bsl, e1, List.singleton_append]
  simp (implicitDefEqProofs := false) (disch := omega) only [go_sem, ↓reduceIte]
def fromD (nonce name : List Int) (v : Int) : List Int := sumD (1 :: (nonce ++ (verB v ++ name)))
def nonceD (key name : List Int) (v : Int) : List Int := code key (1 :: (verB v ++ name))
def madeD (salt value : List Int) : List Int := sumD (2 :: (salt ++ value))
def saltD (key index value : List Int) : List Int := code key (2 :: (index ++ value))
theorem code_len (k t : List Int) : (code k t).length = 32 := sumD_len _
theorem code_mem (k t : List Int) : ∀ x ∈ code k t, 0 ≤ x ∧ x < 256 := sumD_mem _
theorem mem2 {a b : List Int} (ha : ∀ x ∈ a, 0 ≤ x ∧ x < 256) (hb : ∀ x ∈ b, 0 ≤ x ∧ x < 256) : ∀ p ∈ [a, b], ∀ x ∈ p, 0 ≤ x ∧ x < 256 := by
  intro p hp; simp only [List.mem_cons, List.not_mem_nil, or_false] at hp; rcases hp with rfl | rfl <;> assumption
theorem mem3 {a b c : List Int} (ha : ∀ x ∈ a, 0 ≤ x ∧ x < 256) (hb : ∀ x ∈ b, 0 ≤ x ∧ x < 256) (hc : ∀ x ∈ c, 0 ≤ x ∧ x < 256) : ∀ p ∈ [a, b, c], ∀ x ∈ p, 0 ≤ x ∧ x < 256 := by
  intro p hp; simp only [List.mem_cons, List.not_mem_nil, or_false] at hp; rcases hp with rfl | rfl | rfl <;> assumption
theorem cat2 (a b : List Int) : cat [a, b] = a ++ b := by simp [cat]
theorem cat3 (a b c : List Int) : cat [a, b, c] = a ++ (b ++ c) := by simp [cat]
section
variable (nonce name key index salt value : List Int) (v : Int) (n : Nat)
theorem from16_bad (hn : name.length = n) (h : ¬ namedP name v) : FnC Tryz.prog 26 [.ints .u8 32 nonce, .sl (.ints .u8 n name), .int .i64 v] [] (.tup [.ints .u8 32 (List.replicate 32 0), .int .i64 1]) [] := by
  refine fn0 mix pl26 0 3 [.cell 6 23, .tmp 7] Tryz.func26 rfl (by kernel_rfl) (by kernel_rfl) rfl (by kernel_rfl) (by kernel_rfl) (by simp) ?_
  simp (implicitDefEqProofs := false) (disch := omega) only [go_sem, ↓reduceIte]
  refine call0 (named_spec name v n hn) ?_
  rw [decide_eq_false h]
  simp (implicitDefEqProofs := false) (disch := omega) only [go_sem, ↓reduceIte]
theorem from16_ok (hn : name.length = n) (h : namedP name v) (hk : nonce.length = 32) (hk' : ∀ x ∈ nonce, 0 ≤ x ∧ x < 256) (hm : ∀ x ∈ name, 0 ≤ x ∧ x < 256) : FnC Tryz.prog 26 [.ints .u8 32 nonce, .sl (.ints .u8 n name), .int .i64 v] [] (.tup [.ints .u8 32 (fromD nonce name v), .int .i64 0]) [] := by
  have hl := h.2.1
  have hv := verB_len v
  have h1 := ofp_spec 1 [nonce, verB v, name] 3 rfl (by decide) (mem3 hk' (verB_mem v) hm) (by rw [cat3]; simp only [List.length_append]; omega) (by decide)
  rw [cat3] at h1
  refine fn0 mix pl26 0 3 [.cell 6 23, .tmp 7] Tryz.func26 rfl (by kernel_rfl) (by kernel_rfl) rfl (by kernel_rfl) (by kernel_rfl) (by simp) ?_
  simp (implicitDefEqProofs := false) (disch := omega) only [go_sem, ↓reduceIte]
  refine call0 (named_spec name v n hn) ?_
  rw [decide_eq_true h]
  simp (implicitDefEqProofs := false) (disch := omega) only [go_sem, ↓reduceIte]
  refine call0 plain_spec ?_
  simp (implicitDefEqProofs := false) (disch := omega) only [go_sem, ↓reduceIte]
  refine callF 1 (count_spec v) ?_
  simp (implicitDefEqProofs := false) (disch := omega) only [go_sem, ↓reduceIte]
  refine callB h1 ?_ ?_
  · simp (implicitDefEqProofs := false) (disch := omega) only [go_sem, ↓reduceIte, bsl, hk, hv, hn]
  simp (implicitDefEqProofs := false) (disch := omega) only [go_sem, ↓reduceIte, fromD]
theorem made16_bad (hn : value.length = n) (h : 64 < n) : FnC Tryz.prog 27 [.ints .u8 32 salt, .sl (.ints .u8 n value)] [] (.tup [.ints .u8 32 (List.replicate 32 0), .int .i64 1]) [] := by
  refine fn0 mix pl27 0 2 [.cell 4 23, .tmp 5] Tryz.func27 rfl (by kernel_rfl) (by kernel_rfl) rfl (by kernel_rfl) (by kernel_rfl) (by simp) ?_
  simp (implicitDefEqProofs := false) (disch := omega) only [go_sem, ↓reduceIte]
  refine brd (fun h => ?_) (fun h => by omega)
  simp (implicitDefEqProofs := false) (disch := omega) only [go_sem, ↓reduceIte]
theorem made16_ok (hn : value.length = n) (h : n ≤ 64) (hk : salt.length = 32) (hk' : ∀ x ∈ salt, 0 ≤ x ∧ x < 256) (hm : ∀ x ∈ value, 0 ≤ x ∧ x < 256) : FnC Tryz.prog 27 [.ints .u8 32 salt, .sl (.ints .u8 n value)] [] (.tup [.ints .u8 32 (madeD salt value), .int .i64 0]) [] := by
  have h1 := ofp_spec 2 [salt, value] 2 rfl (by decide) (mem2 hk' hm) (by rw [cat2]; simp only [List.length_append]; omega) (by decide)
  rw [cat2] at h1
  refine fn0 mix pl27 0 2 [.cell 4 23, .tmp 5] Tryz.func27 rfl (by kernel_rfl) (by kernel_rfl) rfl (by kernel_rfl) (by kernel_rfl) (by simp) ?_
  simp (implicitDefEqProofs := false) (disch := omega) only [go_sem, ↓reduceIte]
  refine brd (fun h => by omega) (fun h => ?_)
  simp (implicitDefEqProofs := false) (disch := omega) only [go_sem, ↓reduceIte]
  refine call0 plain_spec ?_
  simp (implicitDefEqProofs := false) (disch := omega) only [go_sem, ↓reduceIte]
  refine callB h1 ?_ ?_
  · simp (implicitDefEqProofs := false) (disch := omega) only [go_sem, ↓reduceIte, bsl, hk, hn]
  simp (implicitDefEqProofs := false) (disch := omega) only [go_sem, ↓reduceIte, madeD]
theorem text16_spec (kind : Int) (d more : List Int) (m k : Nat) (hd : d.length = m) (hk : more.length = k) (hm : m ≤ 1000) (hkk : k ≤ 1000) : FnC Tryz.prog 50 [.int .u8 kind, .sl (.ints .u8 m d), .sl (.ints .u8 k more)] [] (.osl 0 [] 1 0 (1 + m + k)) [(0, .row (.ints .u8 (1 + m + k) (kind :: (d ++ more))))] := by
  refine fnN mix [] 0 3 [.tmp 6] Tryz.func50 rfl (by kernel_rfl) (by kernel_rfl) rfl (by kernel_rfl) (by kernel_rfl) (by simp) ?_
  simp (implicitDefEqProofs := false) (disch := omega) only [go_sem, ↓reduceIte]
  refine ⟨[(0, 2)], [], [], rfl, ?_, ?_, ?_⟩ <;> simp (implicitDefEqProofs := false) (disch := omega) only [go_sem, ↓reduceIte]
theorem whole16_spec (hn : name.length = n) (hnn : n ≤ 500) : FnC Tryz.prog 51 [.sl (.ints .u8 n name), .int .i64 v] [] (.osl 0 [] 1 0 (8 + n)) [(0, .row (.ints .u8 (8 + n) (verB v ++ name)))] := by
  refine fnN mix [] 0 2 [.tmp 4] Tryz.func51 rfl (by kernel_rfl) (by kernel_rfl) rfl (by kernel_rfl) (by kernel_rfl) (by simp) ?_
  simp (implicitDefEqProofs := false) (disch := omega) only [go_sem, ↓reduceIte]
  refine callF 1 (refnumber_spec (IntKind.u64.wrap v) 8 (by decide) (u64_in v).1 (u64_in v).2) ?_
  simp (implicitDefEqProofs := false) (disch := omega) only [go_sem, ↓reduceIte]
  refine ⟨[(0, 1)], [], [], rfl, ?_, ?_, ?_⟩ <;> simp (implicitDefEqProofs := false) (disch := omega) only [go_sem, ↓reduceIte, verB]
theorem reffrom16_spec (hn : name.length = n) (hnn : n ≤ 500) (hk : nonce.length = 32) (hk' : ∀ x ∈ nonce, 0 ≤ x ∧ x < 256) (hm : ∀ x ∈ name, 0 ≤ x ∧ x < 256) : FnC Tryz.prog 22 [.ints .u8 32 nonce, .sl (.ints .u8 n name), .int .i64 v] [] (.ints .u8 32 (fromD nonce name v)) [] := by
  have hv := verB_len v
  have h1 := refsum_spec (1 :: (nonce ++ (verB v ++ name))) (fun x hx => by
    rcases List.mem_cons.1 hx with rfl | hx
    · decide
    · exact app_mem hk' (app_mem (verB_mem v) hm) x hx) (by simp only [List.length_cons, List.length_append]; omega)
  have e : (1 :: (nonce ++ (verB v ++ name))).length = 1 + 32 + (8 + n) := by simp only [List.length_cons, List.length_append]; omega
  rw [e] at h1
  refine fn0 mix pl22 0 3 [.cell 6 23] Tryz.func22 rfl (by kernel_rfl) (by kernel_rfl) rfl (by kernel_rfl) (by kernel_rfl) (by simp) ?_
  simp (implicitDefEqProofs := false) (disch := omega) only [go_sem, ↓reduceIte]
  refine callF 1 (whole16_spec name v n hn hnn) ?_
  simp (implicitDefEqProofs := false) (disch := omega) only [go_sem, ↓reduceIte]
  refine callBF 1 (text16_spec 1 nonce (verB v ++ name) 32 (8 + n) hk (by rw [List.length_append]; omega) (by decide) (by omega)) ?_ ?_
  · simp (implicitDefEqProofs := false) (disch := omega) only [go_sem, ↓reduceIte]
  simp (implicitDefEqProofs := false) (disch := omega) only [go_sem, ↓reduceIte]
  refine callB h1 ?_ ?_
  · simp (implicitDefEqProofs := false) (disch := omega) only [go_sem, ↓reduceIte]
  simp (implicitDefEqProofs := false) (disch := omega) only [go_sem, ↓reduceIte, fromD]
theorem refmade16_spec (hn : value.length = n) (hnn : n ≤ 500) (hk : salt.length = 32) (hk' : ∀ x ∈ salt, 0 ≤ x ∧ x < 256) (hm : ∀ x ∈ value, 0 ≤ x ∧ x < 256) : FnC Tryz.prog 24 [.ints .u8 32 salt, .sl (.ints .u8 n value)] [] (.ints .u8 32 (madeD salt value)) [] := by
  have h1 := refsum_spec (2 :: (salt ++ value)) (fun x hx => by
    rcases List.mem_cons.1 hx with rfl | hx
    · decide
    · exact app_mem hk' hm x hx) (by simp only [List.length_cons, List.length_append]; omega)
  have e : (2 :: (salt ++ value)).length = 1 + 32 + n := by simp only [List.length_cons, List.length_append]; omega
  rw [e] at h1
  refine fn0 mix [] 0 2 [.cell 4 23] Tryz.func24 rfl (by kernel_rfl) (by kernel_rfl) rfl (by kernel_rfl) (by kernel_rfl) (by simp) ?_
  simp (implicitDefEqProofs := false) (disch := omega) only [go_sem, ↓reduceIte]
  refine callBF 1 (text16_spec 2 salt value 32 n hk hn (by decide) (by omega)) ?_ ?_
  · simp (implicitDefEqProofs := false) (disch := omega) only [go_sem, ↓reduceIte]
  simp (implicitDefEqProofs := false) (disch := omega) only [go_sem, ↓reduceIte]
  refine callB h1 ?_ ?_
  · simp (implicitDefEqProofs := false) (disch := omega) only [go_sem, ↓reduceIte]
  simp (implicitDefEqProofs := false) (disch := omega) only [go_sem, ↓reduceIte, madeD]
end
end Go.Proofs.YthhlielliopegaaGreat
