/- The contract of planchetref11's Sign; the walk of HyperSigns. -/
import Derived.Test.YtclkaibkepaebaaHyper4
namespace Go.Proofs.Ytclkaibkepaebaa
open Go Go.Sy Go.Proofs.Try
set_option maxRecDepth 100000
set_option maxHeartbeats 8000000
set_option linter.unusedSimpArgs false
set_option linter.unusedVariables false
attribute [go_sem] pl22
def outB5 : Nat → AV
  | 0 => .nils
  | k + 1 => .osl 5 [] 2 0 (k + 1)
def outQ5 (seed pub m : List Int) (n idx : Nat) : Nat → OO
  | 0 => []
  | k + 1 => [(5, .row (.lst 2 (k + 1) ((partsK seed pub m n idx (k + 1)).map pt)))]
section
variable (seed key pub root pub' : List Int) (hs : goodD seed) (hk : goodD key) (hp : goodD pub) (ht : goodD root)
include hs hk hp ht in
theorem refsign_spec (a n idx : Nat) (text : List Int) (tl : Nat) (ha : 1 ≤ a ∧ a ≤ 4) (hn : 1 ≤ n ∧ n ≤ 4) (hi : idx < manyD a n) (htl : text.length = tl) (htx : ∀ x ∈ text, 0 ≤ x ∧ x < 256) (htn : tl ≤ 10000) :
    FnC Try.prog 22 [.agg [.agg [.int .i64 a, .int .i64 n], .ints .u8 32 root, .ints .u8 32 pub'], .agg [.ints .u8 32 seed, .ints .u8 32 key, .ints .u8 32 pub], .int .i64 idx, .osl 0 [] 1 0 tl] [(0, .row (.ints .u8 tl text))]
      (.agg [.int .i64 idx, .ints .u8 32 (rD key idx), .osl 0 [] 2 0 a]) [(0, .row (.lst 2 a ((partsK seed pub (msgD (rD key idx) root idx text) n idx a).map pt)))] := by
  have hr : rightP a n := by unfold rightP; omega
  have hm6 := manyD_le (a : Int) n
  have hpw := power_spec n (by omega)
  have hpe : (2 : Int) ^ n = (pw n : Int) := by simp [pw]
  rw [hpe] at hpw
  refine fnV mix pl22 0 1 4 [.cell 8 36] Try.func22 rfl (by kernel_rfl) (by kernel_rfl) rfl (by kernel_rfl) (by kernel_rfl) (by simp) rfl rfl ?_
  simp (implicitDefEqProofs := false) (disch := omega) only [go_sem, ↓reduceIte]
  refine callF 1 (refnumber_spec idx 32 (by decide) (by omega) (by omega)) ?_
  simp (implicitDefEqProofs := false) (disch := omega) only [go_sem, ↓reduceIte]
  refine callB (refprf_spec key (be idx 32) 32 hk.1 (be_len _ _) (by decide) hk.2 (be_mem _ _)) ?_ ?_
  · simp (implicitDefEqProofs := false) (disch := omega) only [go_sem, ↓reduceIte]
  have er : ofD 3 key (be idx 32) = rD key idx := rfl
  rw [er]
  simp (implicitDefEqProofs := false) (disch := omega) only [go_sem, ↓reduceIte]
  refine callB (refmsg_spec a n (rD key idx) root pub' idx text tl (rD_good _ _) ht htl htx htn (by omega)) ?_ ?_
  · simp (implicitDefEqProofs := false) (disch := omega) only [go_sem, ↓reduceIte]
  generalize hM : msgD (rD key idx) root idx text = M
  have hMg : goodD M := by rw [← hM]; exact ofD_good _ _ _
  simp (implicitDefEqProofs := false) (disch := omega) only [go_sem, ↓reduceIte]
  refine call0 hpw ?_
  simp (implicitDefEqProofs := false) (disch := omega) only [go_sem, ↓reduceIte]
  refine loop (ι := Nat) 6 (fun k => k ≤ a) (fun k => [(4, .ref 0 []), (5, .ref 1 []), (8, .ref 2 []), (9, .ref 3 []), (10, .ref 4 []), (11, .int .i64 (pw n)), (12, .int .i64 (atN n idx k)), (13, .int .i64 k)])
    (fun k => [(0, .var (.agg [.agg [.int .i64 a, .int .i64 n], .ints .u8 32 root, .ints .u8 32 pub'])), (1, .var (.agg [.ints .u8 32 seed, .ints .u8 32 key, .ints .u8 32 pub])), (2, .var (.agg [.int .i64 0, .ints .u8 32 (List.replicate 32 0), .nils])),
      (3, .var (.agg [.int .i64 idx, .ints .u8 32 (rD key idx), outB5 k])), (4, .var (.ints .u8 32 (mK seed pub M n idx k)))] ++ outQ5 seed pub M n idx k)
    (fun k => a - k) 0 [(0, 1), (1, 2), (2, 3), (3, 5), (4, 6)] [] (Nat.zero_le _) rfl ?_ ?_ ?_ (fun k hk => ?_)
  · simp (implicitDefEqProofs := false) (disch := omega) only [go_sem, ↓reduceIte]
  · simp (implicitDefEqProofs := false) (disch := omega) only [go_sem, ↓reduceIte, atN]
  · simp (implicitDefEqProofs := false) (disch := omega) only [go_sem, ↓reduceIte, outB5, outQ5, List.cons_append, List.nil_append, List.append_nil, mK]
  have hle := atN_le n idx (k + 1)
  have hle0 := atN_le n idx k
  have hpp := pw_pos n
  have hp4 : pw n ≤ pw 4 := pw_le hn.2
  have hp5 : pw 4 = 16 := rfl
  have hlf : atN n idx k % pw n < pw n := Nat.mod_lt _ (by omega)
  have t2 : (atN n idx k : Int).tmod (pw n : Int) = ((atN n idx k % pw n : Nat) : Int) := by rw [Int.tmod_eq_emod_of_nonneg (by omega), Int.natCast_emod]
  have t3 : (atN n idx k : Int).tdiv (pw n : Int) = (atN n idx (k + 1) : Int) := by rw [Int.tdiv_eq_ediv_of_nonneg (by omega), ← Int.natCast_ediv]; rfl
  have hmk := mK_good seed pub hMg n idx k
  have hb := refbuild_spec pub seed key k (atN n idx (k + 1) : Nat) hp hs (by omega) (by omega) n (atN n idx k % pw n) hn.2 hlf
  have hbw := base_good (l := (k : Int)) (k := 0) (f := ((atN n idx k % pw n : Nat) : Int)) (atN n idx (k + 1) : Nat) (by omega) (by decide) (by omega)
  have hws := refwsign_spec seed pub (mK seed pub M n idx k) _ hs hp hmk hbw
  have hso := refbase_spec (k : Int) (atN n idx (k + 1) : Nat) 0 ((atN n idx k % pw n : Nat) : Int) (by omega) (by omega)
  have e1 : treeD (leafD pub seed k (atN n idx (k + 1) : Nat)) pub k (atN n idx (k + 1) : Nat) n 0 = mK seed pub M n idx (k + 1) := rfl
  have ep : (partsK seed pub M n idx (k + 1)).map pt = (partsK seed pub M n idx k).map pt ++ [pt (partK seed pub M n idx k)] := by rw [partsK, List.map_append]; rfl
  have eq : pt (partK seed pub M n idx k) = .agg [.sl (.lst 32 67 ((rowN (signD (mK seed pub M n idx k) seed pub (base k (atN n idx (k + 1) : Nat) 0 ((atN n idx k % pw n : Nat) : Int))) 67).map dg)), .sl (.lst 32 n ((wayD (leafD pub seed k (atN n idx (k + 1) : Nat)) pub k (atN n idx (k + 1) : Nat) (atN n idx k % pw n) n).map dg))] := by
    unfold pt partK; dsimp only; rw [rowN_len, wayD_len]
  rw [e1] at hb
  obtain _ | k := k
  · simp only [Int.natCast_zero, Nat.zero_add] at eq t2 t3 hle
    simp (implicitDefEqProofs := false) (disch := omega) only [go_sem, ↓reduceIte, outB5, outQ5, List.cons_append, List.nil_append, List.append_nil]
    refine brd (fun h => ?_) (fun h => by omega)
    simp (implicitDefEqProofs := false) (disch := omega) only [go_sem, ↓reduceIte, t2, t3]
    refine callF 1 hb ?_
    simp (implicitDefEqProofs := false) (disch := omega) only [go_sem, ↓reduceIte, t2, t3]
    refine call0 hso ?_
    simp (implicitDefEqProofs := false) (disch := omega) only [go_sem, ↓reduceIte, t2, t3]
    refine callF 1 hws ?_
    simp (implicitDefEqProofs := false) (disch := omega) only [go_sem, ↓reduceIte, t2, t3]
    have p1 : (partsK seed pub M n idx 1).map pt = [pt (partK seed pub M n idx 0)] := rfl
    refine ⟨1, [(0, 0), (1, 1), (2, 2), (3, 3), (4, 4), (5, 10)], [], [], by dsimp only; omega, by dsimp only; omega, rfl, ?_, ?_, ?_⟩ <;> simp (implicitDefEqProofs := false) (disch := omega) only [go_sem, ↓reduceIte, outB5, outQ5, p1, eq]
  · simp (implicitDefEqProofs := false) (disch := omega) only [go_sem, ↓reduceIte, outB5, outQ5, List.cons_append, List.nil_append, List.append_nil]
    refine brd (fun h => ?_) (fun h => ?_)
    · simp (implicitDefEqProofs := false) (disch := omega) only [go_sem, ↓reduceIte, t2, t3]
      refine callF 1 hb ?_
      simp (implicitDefEqProofs := false) (disch := omega) only [go_sem, ↓reduceIte, t2, t3]
      refine call0 hso ?_
      simp (implicitDefEqProofs := false) (disch := omega) only [go_sem, ↓reduceIte, t2, t3]
      refine callF 1 hws ?_
      simp (implicitDefEqProofs := false) (disch := omega) only [go_sem, ↓reduceIte, t2, t3]
      refine ⟨k + 1 + 1, [(0, 0), (1, 1), (2, 2), (3, 3), (4, 4), (5, 10)], [], [], by dsimp only; omega, by dsimp only; omega, rfl, ?_, ?_, ?_⟩ <;> simp (implicitDefEqProofs := false) (disch := omega) only [go_sem, ↓reduceIte, outB5, outQ5, ep, eq]
    · obtain rfl : a = k + 1 := by omega
      simp (implicitDefEqProofs := false) (disch := omega) only [go_sem, ↓reduceIte]
      refine ⟨[(0, 5)], [], [], rfl, ?_, ?_, ?_⟩ <;> simp (implicitDefEqProofs := false) (disch := omega) only [go_sem, ↓reduceIte, hM]
end
def plHS : List (Nat × Plan) := [(8, [(1, [], none), (2, [1], none), (3, [1, 2], none), (4, [1, 2, 3], none), (5, [1, 2, 3], none), (6, [], some [75, 76, 77, 79]), (0, [1, 2, 3, 4, 5, 6], none), (7, [], none), (8, [], none), (9, [], none), (10, [], none), (11, [], none), (12, [], none), (13, [], none), (14, [], none), (15, [], none)])]
attribute [go_sem] plHS
theorem hyperSigns_spec (root pub' seed key pub : List Int) (ht : goodD root) (hs : goodD seed) (hk : goodD key) (hp : goodD pub) (a b i : Int) (ps : List (List Int)) (hi : i < 9223372036854775808)
    (hps : ∀ p ∈ ps, ∀ x ∈ p, 0 ≤ x ∧ x < 256) (hpl : ∀ p ∈ ps, p.length ≤ 140737488351232) (hl : ps.length ≤ 9223372036854775807) :
    FnC Try.prog 3 [.agg [.agg [.int .i64 a, .int .i64 b], .ints .u8 32 root, .ints .u8 32 pub'], .agg [.ints .u8 32 seed, .ints .u8 32 key, .ints .u8 32 pub], .int .i64 i, .sl (.lst 1 ps.length (ps.map bsl))] [] (.bool true) [] := by
  refine fn0 mix plHS 0 4 [.tmp 8] Try.func3 rfl (by kernel_rfl) (by kernel_rfl) rfl (by kernel_rfl) (by kernel_rfl) (by simp) ?_
  simp (implicitDefEqProofs := false) (disch := omega) only [go_sem, ↓reduceIte]
  refine call0 (small_spec a b 8) ?_
  by_cases hsm : smallP a b 8
  case neg =>
    rw [decide_eq_false hsm]
    simp (implicitDefEqProofs := false) (disch := omega) only [go_sem, ↓reduceIte]
    refine call0 knows11_spec ?_
    simp (implicitDefEqProofs := false) (disch := omega) only [go_sem, ↓reduceIte]
  rw [decide_eq_true hsm]
  simp (implicitDefEqProofs := false) (disch := omega) only [go_sem, ↓reduceIte]
  refine call0 (few_spec ps 1000 hl (fun p h => Nat.le_trans (hpl p h) (by decide))) ?_
  by_cases hw : (decide (wsum ps ≤ 1000) && decide ((ps.length : Int) ≤ 100)) = true
  case neg =>
    rw [Bool.not_eq_true] at hw
    rw [hw]
    simp (implicitDefEqProofs := false) (disch := omega) only [go_sem, ↓reduceIte]
    refine call0 knows11_spec ?_
    simp (implicitDefEqProofs := false) (disch := omega) only [go_sem, ↓reduceIte]
  rw [hw]
  simp only [Bool.and_eq_true, decide_eq_true_eq] at hw
  have hw2 := wsum_eq ps hpl ps.length (by omega) (Nat.le_refl _)
  rw [List.take_length] at hw2
  have hcm := cat_mem hps ps.length
  rw [List.take_length] at hcm
  simp (implicitDefEqProofs := false) (disch := omega) only [go_sem, ↓reduceIte]
  by_cases hr : rightP a b
  case neg =>
    refine call0 (sign_arg2_spec a b i root pub' seed key pub ps (.inl hr)) ?_
    simp (implicitDefEqProofs := false) (disch := omega) only [go_sem, ↓reduceIte]
    refine call0 (refright_spec a b) ?_
    rw [decide_eq_false hr]
    simp (implicitDefEqProofs := false) (disch := omega) only [go_sem, ↓reduceIte]
    refine call0 knows11_spec ?_
    simp (implicitDefEqProofs := false) (disch := omega) only [go_sem, ↓reduceIte]
  by_cases h0 : i < 0
  · refine call0 (sign_arg2_spec a b i root pub' seed key pub ps (.inr h0)) ?_
    simp (implicitDefEqProofs := false) (disch := omega) only [go_sem, ↓reduceIte]
    refine call0 (refright_spec a b) ?_
    rw [decide_eq_true hr]
    simp (implicitDefEqProofs := false) (disch := omega) only [go_sem, ↓reduceIte]
    refine brd (fun h => ?_) (fun h => by omega)
    simp (implicitDefEqProofs := false) (disch := omega) only [go_sem, ↓reduceIte]
    refine call0 knows11_spec ?_
    simp (implicitDefEqProofs := false) (disch := omega) only [go_sem, ↓reduceIte]
  by_cases h1 : (manyD a b : Int) ≤ i
  · refine call0 (sign_spent2_spec a b i root pub' seed key pub ps hr (by omega) h1) ?_
    simp (implicitDefEqProofs := false) (disch := omega) only [go_sem, ↓reduceIte]
    refine call0 (refright_spec a b) ?_
    rw [decide_eq_true hr]
    simp (implicitDefEqProofs := false) (disch := omega) only [go_sem, ↓reduceIte]
    refine brd (fun h => by omega) (fun h => ?_)
    simp (implicitDefEqProofs := false) (disch := omega) only [go_sem, ↓reduceIte]
    refine call0 (refmany_spec a b) ?_
    simp (implicitDefEqProofs := false) (disch := omega) only [go_sem, ↓reduceIte]
    refine brd (fun h => ?_) (fun h => by omega)
    simp (implicitDefEqProofs := false) (disch := omega) only [go_sem, ↓reduceIte]
    refine call0 knows11_spec ?_
    simp (implicitDefEqProofs := false) (disch := omega) only [go_sem, ↓reduceIte]
  have hr' := hr
  unfold rightP at hr'
  obtain ⟨a, rfl⟩ := Int.eq_ofNat_of_zero_le (show 0 ≤ a by omega)
  obtain ⟨n, rfl⟩ := Int.eq_ofNat_of_zero_le (show 0 ≤ b by omega)
  obtain ⟨idx, rfl⟩ := Int.eq_ofNat_of_zero_le (show 0 ≤ i by omega)
  have hpl2 : ∀ p ∈ partsK seed pub (msgD (rD key idx) root idx (cat ps)) n idx a, p.1.length ≤ 1000000 ∧ p.2.length ≤ 1000000 := by
    have gen : ∀ k, ∀ p ∈ partsK seed pub (msgD (rD key idx) root idx (cat ps)) n idx k, p.1.length ≤ 1000000 ∧ p.2.length ≤ 1000000 := by
      intro k
      induction k with
      | zero => intro p hx; exact absurd hx List.not_mem_nil
      | succ k ih =>
        intro p hx
        rcases List.mem_append.1 hx with hx | hx
        · exact ih p hx
        · rw [List.mem_singleton] at hx; subst hx
          unfold partK; dsimp only; rw [rowN_len, wayD_len]; omega
    exact gen a
  have hsm2 := same11_spec (idx : Int) idx (rD key idx) (rD key idx) (partsK seed pub (msgD (rD key idx) root idx (cat ps)) n idx a) (partsK seed pub (msgD (rD key idx) root idx (cat ps)) n idx a) (by rw [partsK_len]; omega) hpl2
  rw [partsK_len] at hsm2
  rw [decide_eq_true (⟨rfl, rfl, rfl⟩ : (idx : Int) = idx ∧ rD key idx = rD key idx ∧ partsK seed pub (msgD (rD key idx) root idx (cat ps)) n idx a = partsK seed pub (msgD (rD key idx) root idx (cat ps)) n idx a)] at hsm2
  refine callF 1 (sign_spec seed key pub root pub' hs hk hp ht a n idx ps (by omega) (by omega) (by omega) hps (by omega) (by omega)) ?_
  simp (implicitDefEqProofs := false) (disch := omega) only [go_sem, ↓reduceIte]
  refine call0 (refright_spec a n) ?_
  rw [decide_eq_true hr]
  simp (implicitDefEqProofs := false) (disch := omega) only [go_sem, ↓reduceIte]
  refine brd (fun h => by omega) (fun h => ?_)
  simp (implicitDefEqProofs := false) (disch := omega) only [go_sem, ↓reduceIte]
  refine call0 (refmany_spec a n) ?_
  simp (implicitDefEqProofs := false) (disch := omega) only [go_sem, ↓reduceIte]
  refine brd (fun h => by omega) (fun h => ?_)
  simp (implicitDefEqProofs := false) (disch := omega) only [go_sem, ↓reduceIte]
  refine callF 1 (join_spec ps hl (by omega)) ?_
  simp (implicitDefEqProofs := false) (disch := omega) only [go_sem, ↓reduceIte]
  have hrs := refsign_spec seed key pub root pub' hs hk hp ht a n idx (cat ps) _ (by omega) (by omega) (by omega) rfl hcm (by omega)
  refine callG false [(0, 4)] [(0, 5)] 6 hrs ?_ ?_
  · simp [keys]
  simp (implicitDefEqProofs := false) (disch := omega) only [go_sem, ↓reduceIte]
  refine callB hsm2 ?_ ?_
  · simp (implicitDefEqProofs := false) (disch := omega) only [go_sem, ↓reduceIte]
  simp (implicitDefEqProofs := false) (disch := omega) only [go_sem, ↓reduceIte]
  refine call0 knows11_spec ?_
  simp (implicitDefEqProofs := false) (disch := omega) only [go_sem, ↓reduceIte]
end Go.Proofs.Ytclkaibkepaebaa
