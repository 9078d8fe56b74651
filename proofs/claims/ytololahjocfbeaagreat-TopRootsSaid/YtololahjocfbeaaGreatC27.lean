/- Texts, joined. -/
import Derived.Test.YtololahjocfbeaaGreatC12
import Derived.Test.YtololahjocfbeaaGreatC26
import Derived.Test.YtololahjocfbeaaGreatC22
import Derived.Test.YtololahjocfbeaaGreatC15
import Derived.Test.YtololahjocfbeaaGreatC18
import Derived.Test.YtololahjocfbeaaGreatC09
namespace Go.Proofs.YtololahjocfbeaaGreat
open Go Go.Sy Go.Proofs.Tryz
set_option maxRecDepth 100000
set_option maxHeartbeats 8000000
set_option linter.unusedSimpArgs false
set_option linter.unusedVariables false
attribute [go_sem] pl49 pl139
def keyR (seed pub : List Int) (a b : Int) : List Int := treeD (leafD pub seed (a - 1) 0) pub (a - 1) 0 b.toNat 0
section
variable (seed key pub : List Int) (a b : Int) (hs : goodD seed) (hp : goodD pub)
include hs hp in
theorem key_spec (hr : rightP a b) : FnC Tryz.prog 86 [.agg [.int .i64 a, .int .i64 b], .agg [.ints .u8 32 seed, .ints .u8 32 key, .ints .u8 32 pub]] [] (.tup [.agg [.agg [.int .i64 a, .int .i64 b], .ints .u8 32 (keyR seed pub a b), .ints .u8 32 pub], .int .i64 0]) [] := by
  have hr' := hr
  unfold rightP at hr'
  unfold keyR
  obtain ⟨n, rfl⟩ := Int.eq_ofNat_of_zero_le (show 0 ≤ b by omega)
  have hb := build_spec pub seed key (a - 1) 0 hp hs (by omega) n 0 (by omega) (by omega) (pw_pos n)
  rw [Int.toNat_natCast]
  rw [Int.natCast_zero] at hb
  refine fn0 mix [] 0 2 [.cell 4 80, .tmp 5] Tryz.func86 rfl (by kernel_rfl) (by kernel_rfl) rfl (by kernel_rfl) (by kernel_rfl) (by simp) ?_
  simp -implicitDefEqProofs (disch := omega) only [go_sem, ↓reduceIte]
  refine call0 (right_spec11 a n) ?_
  rw [decide_eq_true hr]
  simp -implicitDefEqProofs (disch := omega) only [go_sem, ↓reduceIte]
  refine callF 1 hb ?_
  simp -implicitDefEqProofs (disch := omega) only [go_sem, ↓reduceIte]
end
attribute [go_sem] pl141
def secK (master : List Int) (k j : Int) : List Int := code master (j :: be (IntKind.u64.wrap k) 8)
theorem secK_good (master : List Int) (k j : Int) : goodD (secK master k j) := ⟨sumD_len _, sumD_mem _⟩
abbrev secV (master : List Int) (k : Int) : AV := .agg [.ints .u8 32 (secK master k 1), .ints .u8 32 (secK master k 2), .ints .u8 32 (secK master k 3)]
attribute [go_sem] secV
section
variable (master : List Int) (hm : goodD master) (k : Int)
include hm in
theorem secpart_spec (j : Int) (hj : 0 ≤ j ∧ j < 256) : FnC Tryz.prog 141 [.int .u8 j, .ref 0 [], .ref 1 []] [(0, .var (.ints .u8 32 master)), (1, .var (.int .i64 k))] (.ints .u8 32 (secK master k j)) [(0, .var (.ints .u8 32 master)), (1, .var (.int .i64 k))] := by
  have h := code_spec master [[j], be (IntKind.u64.wrap k) 8] 32 hm.1 hm.2 (fun p hp => by
    simp only [List.mem_cons, List.not_mem_nil, or_false] at hp
    rcases hp with rfl | rfl
    · intro x hx; rw [List.mem_singleton] at hx; rw [hx]; exact hj
    · exact be_mem _ _) (by decide) (by simp [cat, be_len]) (by simp)
  have e : cat [[j], be (IntKind.u64.wrap k) 8] = j :: be (IntKind.u64.wrap k) 8 := by simp [cat]
  have eb : [[j], be (IntKind.u64.wrap k) 8].map bsl = [.sl (.ints .u8 1 [j]), .sl (.ints .u8 8 (be (IntKind.u64.wrap k) 8))] := by
    rw [List.map_cons, List.map_cons, List.map_nil, bsl, bsl, be_len]
    rfl
  rw [e, eb, show [[j], be (IntKind.u64.wrap k) 8].length = 2 from rfl] at h
  have hn := number_spec (IntKind.u64.wrap k) 8 8 rfl
  have e2 : code master (j :: be (IntKind.u64.wrap k) 8) = secK master k j := rfl
  rw [e2] at h
  generalize secK master k j = X at *
  refine fnN mix pl141 2 3 [.cell 4 25] Tryz.func141 rfl (by kernel_rfl) (by kernel_rfl) rfl (by kernel_rfl) (by kernel_rfl) (by simp) ?_
  simp -implicitDefEqProofs (disch := omega) only [go_sem, ↓reduceIte]
  refine callF 1 hn ?_
  simp -implicitDefEqProofs (disch := omega) only [go_sem, ↓reduceIte]
  refine callB h ?_ ?_
  · simp -implicitDefEqProofs (disch := omega) only [go_sem, ↓reduceIte]
  simp -implicitDefEqProofs (disch := omega) only [go_sem, ↓reduceIte]
  refine ⟨[(0, 0), (1, 1)], [], [], rfl, ?_, ?_, ?_⟩ <;> simp -implicitDefEqProofs (disch := omega) only [go_sem, ↓reduceIte]
include hm in
theorem secret_spec : FnC Tryz.prog 87 [.ints .u8 32 master, .int .i64 k] [] (secV master k) [] := by
  have h1 := secpart_spec master hm k 1 (by decide)
  have h2 := secpart_spec master hm k 2 (by decide)
  have h3 := secpart_spec master hm k 3 (by decide)
  unfold secV
  generalize secK master k 1 = X at *
  generalize secK master k 2 = Y at *
  generalize secK master k 3 = Z at *
  refine fn0 mix [] 0 2 [.cell 4 172] Tryz.func87 rfl (by kernel_rfl) (by kernel_rfl) rfl (by kernel_rfl) (by kernel_rfl) (by simp) ?_
  simp -implicitDefEqProofs (disch := omega) only [go_sem, ↓reduceIte]
  refine callG false [(0, 0), (1, 1)] [(0, 0), (1, 1)] 3 h1 ?_ ?_
  · simp [keys]
  simp -implicitDefEqProofs (disch := omega) only [go_sem, ↓reduceIte]
  refine callG false [(0, 0), (1, 1)] [(0, 0), (1, 1)] 3 h2 ?_ ?_
  · simp [keys]
  simp -implicitDefEqProofs (disch := omega) only [go_sem, ↓reduceIte]
  refine callG false [(0, 0), (1, 1)] [(0, 0), (1, 1)] 3 h3 ?_ ?_
  · simp [keys]
  simp -implicitDefEqProofs (disch := omega) only [go_sem, ↓reduceIte]
end
attribute [go_sem] pl33 pl121
abbrev cfgV (a n b : Int) (ma na : List Int) : AV := .agg [.agg [.int .i64 a, .int .i64 n], .int .i64 b, .ints .u8 32 ma, .ints .u8 32 na]
attribute [go_sem] cfgV
attribute [go_sem] pl96 pl97 pl144 pl196
def namedP (name : List Int) (v : Int) : Prop := 1 ≤ name.length ∧ name.length ≤ 64 ∧ 1 ≤ v
instance (name : List Int) (v : Int) : Decidable (namedP name v) := by unfold namedP; infer_instance
def verB (v : Int) : List Int := be (IntKind.u64.wrap v) 8
theorem verB_len (v : Int) : (verB v).length = 8 := be_len _ _
theorem verB_mem (v : Int) : ∀ x ∈ verB v, 0 ≤ x ∧ x < 256 := be_mem _ _
theorem named_spec (name : List Int) (v : Int) (n : Nat) (hl : name.length = n) : FnC Tryz.prog 155 [.sl (.ints .u8 n name), .int .i64 v] [] (.bool (decide (namedP name v))) [] := by
  refine fn0 mix [] 0 2 [.tmp 4] Tryz.func155 rfl (by kernel_rfl) (by kernel_rfl) rfl (by kernel_rfl) (by kernel_rfl) (by simp) ?_
  simp -implicitDefEqProofs (disch := omega) only [go_sem, ↓reduceIte]
  by_cases hn : namedP name v
  · obtain ⟨h1, h2, h3⟩ := id hn
    have d1 : decide (1 ≤ (n : Int)) = true := decide_eq_true (by omega)
    have d2 : decide ((n : Int) ≤ 64) = true := decide_eq_true (by omega)
    have d3 : decide (1 ≤ v) = true := decide_eq_true (by omega)
    have e : decide (namedP name v) = true := decide_eq_true hn
    simp -implicitDefEqProofs (disch := omega) only [go_sem, ↓reduceIte, d1, d2, d3, e]
  · have e : decide (namedP name v) = false := decide_eq_false hn
    unfold namedP at hn
    rw [e]
    simp -implicitDefEqProofs (disch := omega) only [go_sem, ↓reduceIte]
    refine brd (fun h1 => ?_) (fun h1 => ?_)
    case' refine_2 => simp -implicitDefEqProofs (disch := omega) only [go_sem, ↓reduceIte]
    simp -implicitDefEqProofs (disch := omega) only [go_sem, ↓reduceIte]
    refine brd (fun h2 => ?_) (fun h2 => ?_)
    case' refine_2 => simp -implicitDefEqProofs (disch := omega) only [go_sem, ↓reduceIte]
    have d3 : decide (1 ≤ v) = false := decide_eq_false (by omega)
    simp -implicitDefEqProofs (disch := omega) only [go_sem, ↓reduceIte, d3]
theorem count_spec (v : Int) : FnC Tryz.prog 158 [.int .i64 v] [] (.osl 0 [] 1 0 8) [(0, .row (.ints .u8 8 (verB v)))] := by
  refine fnN mix [] 0 1 [.tmp 2] Tryz.func158 rfl (by kernel_rfl) (by kernel_rfl) rfl (by kernel_rfl) (by kernel_rfl) (by simp) ?_
  simp -implicitDefEqProofs (disch := omega) only [go_sem, ↓reduceIte]
  refine callF 1 (number_spec (IntKind.u64.wrap v) 8 8 rfl) ?_
  simp -implicitDefEqProofs (disch := omega) only [go_sem, ↓reduceIte]
  refine ⟨[(0, 0)], [], [], rfl, ?_, ?_, ?_⟩ <;> simp -implicitDefEqProofs (disch := omega) only [go_sem, ↓reduceIte, verB]
theorem with1_spec (key : List Int) (ps : List (List Int)) (hk : key.length = 32) (hk' : ∀ x ∈ key, 0 ≤ x ∧ x < 256) (hp : ∀ p ∈ ps, ∀ x ∈ p, 0 ≤ x ∧ x < 256) (hc : (cat ps).length ≤ 100000) (hps : ps.length ≤ 100000) :
    FnC Tryz.prog 238 [.sl (.lst 1 ps.length (ps.map bsl)), .ref 0 []] [(0, .var (.ints .u8 32 key))] (.ints .u8 32 (code key (cat ps))) [(0, .var (.ints .u8 32 key))] := by
  refine fnN mix [] 1 2 [.cell 3 25] Tryz.func238 rfl (by kernel_rfl) (by kernel_rfl) rfl (by kernel_rfl) (by kernel_rfl) (by simp) ?_
  simp -implicitDefEqProofs (disch := omega) only [go_sem, ↓reduceIte]
  refine callB (code_spec key ps 32 hk hk' hp (by decide) hc hps) ?_ ?_
  · simp -implicitDefEqProofs (disch := omega) only [go_sem, ↓reduceIte]
  simp -implicitDefEqProofs (disch := omega) only [go_sem, ↓reduceIte]
  refine ⟨[(0, 0)], [], [], rfl, ?_, ?_, ?_⟩ <;> simp -implicitDefEqProofs (disch := omega) only [go_sem, ↓reduceIte]
theorem with_spec (key : List Int) : FnC Tryz.prog 208 [.ints .u8 32 key] [] (.fn (.func 238) [.ref 0 []]) [(0, .var (.ints .u8 32 key))] := by
  refine fnN mix [] 0 1 [.tmp 2] Tryz.func208 rfl (by kernel_rfl) (by kernel_rfl) rfl (by kernel_rfl) (by kernel_rfl) (by simp) ?_
  simp -implicitDefEqProofs (disch := omega) only [go_sem, ↓reduceIte]
  refine ⟨[(0, 0)], [], [], rfl, ?_, ?_, ?_⟩ <;> simp -implicitDefEqProofs (disch := omega) only [go_sem, ↓reduceIte]
theorem plain_spec : FnC Tryz.prog 156 [] [] (.fn (.func 167) []) [] := by
  refine fn0 mix [] 0 0 [.tmp 0] Tryz.func156 rfl (by kernel_rfl) (by kernel_rfl) rfl (by kernel_rfl) (by kernel_rfl) (by simp) ?_
  simp -implicitDefEqProofs (disch := omega) only [go_sem, ↓reduceIte]
theorem cat_cons (a : List Int) (ps : List (List Int)) : cat (a :: ps) = a ++ cat ps := by simp [cat]
theorem ofw_spec (key : List Int) (kind : Int) (ps : List (List Int)) (n : Nat) (hn : ps.length = n) (hkd : 0 ≤ kind ∧ kind < 256) (hk : key.length = 32) (hk' : ∀ x ∈ key, 0 ≤ x ∧ x < 256) (hp : ∀ p ∈ ps, ∀ x ∈ p, 0 ≤ x ∧ x < 256) (hc : (cat ps).length ≤ 10000) (hps : n ≤ 10000) :
    FnC Tryz.prog 157 [.fn (.func 238) [.ref 0 []], .int .u8 kind, .sl (.lst 1 n (ps.map bsl))] [(0, .var (.ints .u8 32 key))] (.ints .u8 32 (code key (kind :: cat ps))) [(0, .var (.ints .u8 32 key))] := by
  have h1 := with1_spec key ([kind] :: ps) hk hk' (fun p h => by
    rcases List.mem_cons.1 h with rfl | h
    · intro x hx; rw [List.mem_singleton] at hx; subst hx; exact hkd
    · exact hp p h) (by rw [cat_cons]; simp only [List.length_append, List.length_singleton]; omega) (by rw [List.length_cons]; omega)
  have hcc : cat ([kind] :: ps) = kind :: cat ps := by rw [cat_cons]; rfl
  have e1 : ([kind] :: ps).length = 1 + n := by rw [List.length_cons]; omega
  rw [hcc] at h1
  refine fnN mix [] 1 3 [.cell 6 25] Tryz.func157 rfl (by kernel_rfl) (by kernel_rfl) rfl (by kernel_rfl) (by kernel_rfl) (by simp) ?_
  simp -implicitDefEqProofs (disch := omega) only [go_sem, ↓reduceIte]
  refine callGB [(0, 0)] [(0, 0)] 5 h1 ?_ ?_
  · simp [keys]
  simp -implicitDefEqProofs (disch := omega) only [go_sem, ↓reduceIte, bsl, e1, List.singleton_append]
  refine ⟨[(0, 0)], [], [], rfl, ?_, ?_, ?_⟩ <;> simp -implicitDefEqProofs (disch := omega) only [go_sem, ↓reduceIte]
theorem ofp_spec (kind : Int) (ps : List (List Int)) (n : Nat) (hn : ps.length = n) (hkd : 0 ≤ kind ∧ kind < 256) (hp : ∀ p ∈ ps, ∀ x ∈ p, 0 ≤ x ∧ x < 256) (hc : (cat ps).length ≤ 10000) (hps : n ≤ 10000) :
    FnC Tryz.prog 157 [.fn (.func 167) [], .int .u8 kind, .sl (.lst 1 n (ps.map bsl))] [] (.ints .u8 32 (sumD (kind :: cat ps))) [] := by
  have h1 := sums_spec ([kind] :: ps) (fun p h => by
    rcases List.mem_cons.1 h with rfl | h
    · intro x hx; rw [List.mem_singleton] at hx; subst hx; exact hkd
    · exact hp p h) (by rw [cat_cons]; simp only [List.length_append, List.length_singleton]; omega) (by rw [List.length_cons]; omega)
  have hcc : cat ([kind] :: ps) = kind :: cat ps := by rw [cat_cons]; rfl
  have e1 : ([kind] :: ps).length = 1 + n := by rw [List.length_cons]; omega
  rw [hcc] at h1
  refine fn0 mix [] 0 3 [.cell 6 25] Tryz.func157 rfl (by kernel_rfl) (by kernel_rfl) rfl (by kernel_rfl) (by kernel_rfl) (by simp) ?_
  simp -implicitDefEqProofs (disch := omega) only [go_sem, ↓reduceIte]
  refine callB h1 ?_ ?_
  · simp -implicitDefEqProofs (disch := omega) only [go_sem, ↓reduceIte, bsl, e1, List.singleton_append]
  simp -implicitDefEqProofs (disch := omega) only [go_sem, ↓reduceIte]
def fromD (nonce name : List Int) (v : Int) : List Int := sumD (1 :: (nonce ++ (verB v ++ name)))
def nonceD (key name : List Int) (v : Int) : List Int := code key (1 :: (verB v ++ name))
def madeD (salt value : List Int) : List Int := sumD (2 :: (salt ++ value))
def saltD (key index value : List Int) : List Int := code key (2 :: (index ++ value))
theorem code_len (k t : List Int) : (code k t).length = 32 := sumD_len _
theorem code_mem (k t : List Int) : ∀ x ∈ code k t, 0 ≤ x ∧ x < 256 := sumD_mem _
theorem mem2 {a b : List Int} (ha : ∀ x ∈ a, 0 ≤ x ∧ x < 256) (hb : ∀ x ∈ b, 0 ≤ x ∧ x < 256) : ∀ p ∈ [a, b], ∀ x ∈ p, 0 ≤ x ∧ x < 256 := by
  intro p hp; simp only [List.mem_cons, List.not_mem_nil, or_false] at hp; rcases hp with rfl | rfl <;> assumption
theorem mem3 {a b c : List Int} (ha : ∀ x ∈ a, 0 ≤ x ∧ x < 256) (hb : ∀ x ∈ b, 0 ≤ x ∧ x < 256) (hc : ∀ x ∈ c, 0 ≤ x ∧ x < 256) : ∀ p ∈ [a, b, c], ∀ x ∈ p, 0 ≤ x ∧ x < 256 := by
  intro p hp; simp only [List.mem_cons, List.not_mem_nil, or_false] at hp; rcases hp with rfl | rfl | rfl <;> assumption
theorem cat2 (a b : List Int) : cat [a, b] = a ++ b := by simp [cat]
theorem cat3 (a b c : List Int) : cat [a, b, c] = a ++ (b ++ c) := by simp [cat]
section
variable (nonce name key index salt value : List Int) (v : Int) (n : Nat)
theorem from16_ok (hn : name.length = n) (h : namedP name v) (hk : nonce.length = 32) (hk' : ∀ x ∈ nonce, 0 ≤ x ∧ x < 256) (hm : ∀ x ∈ name, 0 ≤ x ∧ x < 256) : FnC Tryz.prog 96 [.ints .u8 32 nonce, .sl (.ints .u8 n name), .int .i64 v] [] (.tup [.ints .u8 32 (fromD nonce name v), .int .i64 0]) [] := by
  have hl := h.2.1
  have hv := verB_len v
  have h1 := ofp_spec 1 [nonce, verB v, name] 3 rfl (by decide) (mem3 hk' (verB_mem v) hm) (by rw [cat3]; simp only [List.length_append]; omega) (by decide)
  rw [cat3] at h1
  refine fn0 mix pl96 0 3 [.cell 6 25, .tmp 7] Tryz.func96 rfl (by kernel_rfl) (by kernel_rfl) rfl (by kernel_rfl) (by kernel_rfl) (by simp) ?_
  simp -implicitDefEqProofs (disch := omega) only [go_sem, ↓reduceIte]
  refine call0 (named_spec name v n hn) ?_
  rw [decide_eq_true h]
  simp -implicitDefEqProofs (disch := omega) only [go_sem, ↓reduceIte]
  refine call0 plain_spec ?_
  simp -implicitDefEqProofs (disch := omega) only [go_sem, ↓reduceIte]
  refine callF 1 (count_spec v) ?_
  simp -implicitDefEqProofs (disch := omega) only [go_sem, ↓reduceIte]
  refine callB h1 ?_ ?_
  · simp -implicitDefEqProofs (disch := omega) only [go_sem, ↓reduceIte, bsl, hk, hv, hn]
  simp -implicitDefEqProofs (disch := omega) only [go_sem, ↓reduceIte, fromD]
theorem index16_bad (hn : name.length = n) (h : ¬ namedP name v) : FnC Tryz.prog 144 [.ints .u8 32 key, .sl (.ints .u8 n name), .int .i64 v] [] (.tup [.ints .u8 32 (List.replicate 32 0), .ints .u8 32 (List.replicate 32 0), .int .i64 1]) [] := by
  refine fn0 mix pl144 0 3 [.cell 6 25, .cell 7 25, .tmp 8] Tryz.func144 rfl (by kernel_rfl) (by kernel_rfl) rfl (by kernel_rfl) (by kernel_rfl) (by simp) ?_
  simp -implicitDefEqProofs (disch := omega) only [go_sem, ↓reduceIte]
  refine call0 (named_spec name v n hn) ?_
  rw [decide_eq_false h]
  simp -implicitDefEqProofs (disch := omega) only [go_sem, ↓reduceIte]
theorem index16_ok (hn : name.length = n) (h : namedP name v) (hk : key.length = 32) (hk' : ∀ x ∈ key, 0 ≤ x ∧ x < 256) (hm : ∀ x ∈ name, 0 ≤ x ∧ x < 256) : FnC Tryz.prog 144 [.ints .u8 32 key, .sl (.ints .u8 n name), .int .i64 v] [] (.tup [.ints .u8 32 (fromD (nonceD key name v) name v), .ints .u8 32 (nonceD key name v), .int .i64 0]) [] := by
  have hl := h.2.1
  have hv := verB_len v
  have h1 := ofw_spec key 1 [verB v, name] 2 rfl (by decide) hk hk' (mem2 (verB_mem v) hm) (by rw [cat2]; simp only [List.length_append]; omega) (by decide)
  rw [cat2] at h1
  have hnl : (nonceD key name v).length = 32 := code_len _ _
  have hnm : ∀ x ∈ nonceD key name v, 0 ≤ x ∧ x < 256 := code_mem _ _
  have e : code key (1 :: (verB v ++ name)) = nonceD key name v := rfl
  rw [e] at h1
  refine fn0 mix pl144 0 3 [.cell 6 25, .cell 7 25, .tmp 8] Tryz.func144 rfl (by kernel_rfl) (by kernel_rfl) rfl (by kernel_rfl) (by kernel_rfl) (by simp) ?_
  simp -implicitDefEqProofs (disch := omega) only [go_sem, ↓reduceIte]
  refine call0 (named_spec name v n hn) ?_
  rw [decide_eq_true h]
  simp -implicitDefEqProofs (disch := omega) only [go_sem, ↓reduceIte]
  refine callF 1 (with_spec key) ?_
  simp -implicitDefEqProofs (disch := omega) only [go_sem, ↓reduceIte]
  refine callF 1 (count_spec v) ?_
  simp -implicitDefEqProofs (disch := omega) only [go_sem, ↓reduceIte]
  refine callGB [(0, 3)] [(0, 3)] 6 h1 ?_ ?_
  · simp [keys]
  simp -implicitDefEqProofs (disch := omega) only [go_sem, ↓reduceIte, bsl, hv, hn]
  refine call0 (from16_ok (nonceD key name v) name v n hn h hnl hnm hm) ?_
  simp -implicitDefEqProofs (disch := omega) only [go_sem, ↓reduceIte]
theorem made16_ok (hn : value.length = n) (h : n ≤ 64) (hk : salt.length = 32) (hk' : ∀ x ∈ salt, 0 ≤ x ∧ x < 256) (hm : ∀ x ∈ value, 0 ≤ x ∧ x < 256) : FnC Tryz.prog 97 [.ints .u8 32 salt, .sl (.ints .u8 n value)] [] (.tup [.ints .u8 32 (madeD salt value), .int .i64 0]) [] := by
  have h1 := ofp_spec 2 [salt, value] 2 rfl (by decide) (mem2 hk' hm) (by rw [cat2]; simp only [List.length_append]; omega) (by decide)
  rw [cat2] at h1
  refine fn0 mix pl97 0 2 [.cell 4 25, .tmp 5] Tryz.func97 rfl (by kernel_rfl) (by kernel_rfl) rfl (by kernel_rfl) (by kernel_rfl) (by simp) ?_
  simp -implicitDefEqProofs (disch := omega) only [go_sem, ↓reduceIte]
  refine brd (fun h => by omega) (fun h => ?_)
  simp -implicitDefEqProofs (disch := omega) only [go_sem, ↓reduceIte]
  refine call0 plain_spec ?_
  simp -implicitDefEqProofs (disch := omega) only [go_sem, ↓reduceIte]
  refine callB h1 ?_ ?_
  · simp -implicitDefEqProofs (disch := omega) only [go_sem, ↓reduceIte, bsl, hk, hn]
  simp -implicitDefEqProofs (disch := omega) only [go_sem, ↓reduceIte, madeD]
theorem value16_bad (hn : value.length = n) (h : 64 < n) : FnC Tryz.prog 196 [.ints .u8 32 key, .ints .u8 32 index, .sl (.ints .u8 n value)] [] (.tup [.ints .u8 32 (List.replicate 32 0), .ints .u8 32 (List.replicate 32 0), .int .i64 1]) [] := by
  refine fn0 mix pl196 0 3 [.cell 6 25, .cell 7 25, .tmp 8] Tryz.func196 rfl (by kernel_rfl) (by kernel_rfl) rfl (by kernel_rfl) (by kernel_rfl) (by simp) ?_
  simp -implicitDefEqProofs (disch := omega) only [go_sem, ↓reduceIte]
  refine brd (fun h => ?_) (fun h => by omega)
  simp -implicitDefEqProofs (disch := omega) only [go_sem, ↓reduceIte]
theorem value16_ok (hn : value.length = n) (h : n ≤ 64) (hk : key.length = 32) (hk' : ∀ x ∈ key, 0 ≤ x ∧ x < 256) (hi : index.length = 32) (hi' : ∀ x ∈ index, 0 ≤ x ∧ x < 256) (hm : ∀ x ∈ value, 0 ≤ x ∧ x < 256) :
    FnC Tryz.prog 196 [.ints .u8 32 key, .ints .u8 32 index, .sl (.ints .u8 n value)] [] (.tup [.ints .u8 32 (madeD (saltD key index value) value), .ints .u8 32 (saltD key index value), .int .i64 0]) [] := by
  have h1 := ofw_spec key 2 [index, value] 2 rfl (by decide) hk hk' (mem2 hi' hm) (by rw [cat2]; simp only [List.length_append]; omega) (by decide)
  rw [cat2] at h1
  have hsl : (saltD key index value).length = 32 := code_len _ _
  have hsm : ∀ x ∈ saltD key index value, 0 ≤ x ∧ x < 256 := code_mem _ _
  have e : code key (2 :: (index ++ value)) = saltD key index value := rfl
  rw [e] at h1
  refine fn0 mix pl196 0 3 [.cell 6 25, .cell 7 25, .tmp 8] Tryz.func196 rfl (by kernel_rfl) (by kernel_rfl) rfl (by kernel_rfl) (by kernel_rfl) (by simp) ?_
  simp -implicitDefEqProofs (disch := omega) only [go_sem, ↓reduceIte]
  refine brd (fun h => by omega) (fun h => ?_)
  simp -implicitDefEqProofs (disch := omega) only [go_sem, ↓reduceIte]
  refine callF 1 (with_spec key) ?_
  simp -implicitDefEqProofs (disch := omega) only [go_sem, ↓reduceIte]
  refine callGB [(0, 4)] [(0, 4)] 6 h1 ?_ ?_
  · simp [keys]
  simp -implicitDefEqProofs (disch := omega) only [go_sem, ↓reduceIte, bsl, hi, hn]
  refine call0 (made16_ok (saltD key index value) value n hn (by omega) hsl hsm hm) ?_
  simp -implicitDefEqProofs (disch := omega) only [go_sem, ↓reduceIte]
end
end Go.Proofs.YtololahjocfbeaaGreat
