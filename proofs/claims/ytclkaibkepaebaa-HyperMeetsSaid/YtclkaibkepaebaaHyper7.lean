/- The walk of HyperMeets. -/
import Derived.Test.YtclkaibkepaebaaHyper6
namespace Go.Proofs.Ytclkaibkepaebaa
open Go Go.Sy Go.Proofs.Try
set_option maxRecDepth 100000
set_option maxHeartbeats 8000000
set_option linter.unusedSimpArgs false
set_option linter.unusedVariables false

def plHM : List (Nat × Plan) := [(4, [(0, [], none), (1, [0], none), (2, [0, 1], none), (3, [0, 1], none), (4, [0, 1, 2, 3], none), (5, [0, 1, 2, 3], none), (6, [0, 1], none), (7, [0, 1, 2, 3, 4, 5, 6], none), (8, [0, 1, 2, 3, 4, 5, 6], none), (9, [], some [36, 37, 42, 44]), (10, [], none), (11, [], none), (13, [0, 1, 2, 3, 4, 5, 6, 7, 8, 9, 10, 11], none), (14, [], some [11]), (12, [11, 13, 14], none), (15, [], none)]), (13, [(0, [], none), (1, [], none), (2, [0, 1], none), (3, [0, 1], none), (4, [0, 1], none), (5, [0, 1], none), (6, [0, 1], none), (7, [0, 1], none), (8, [0, 1, 2, 3, 4, 5, 6, 7], none), (9, [0, 1, 2, 3, 4, 5, 6, 7], none), (10, [0, 1, 2, 3, 4, 5, 6, 7], none), (11, [0, 1, 2, 3, 4, 5, 6, 7], none), (12, [0, 1, 2, 3, 4, 5, 6, 7], none), (13, [0, 1], none), (14, [], none), (15, [], some [102])])]
attribute [go_sem] plHM
theorem hyperMeets_spec (seed key pub text : List Int) (hs : goodD seed) (hk : goodD key) (hp : goodD pub) (a b i : Int) (hi : 0 ≤ i ∧ i < 65536) (tl : Nat) (htl : text.length = tl) (htx : ∀ x ∈ text, 0 ≤ x ∧ x < 256) (hln : tl ≤ 9223372036854775807) :
    FnC Try.prog 5 [.agg [.int .i64 a, .int .i64 b], .agg [.ints .u8 32 seed, .ints .u8 32 key, .ints .u8 32 pub], .int .u16 i, .sl (.ints .u8 tl text)] [] (.bool true) [] := by
  refine fn0 mix plHM 0 4 [.tmp 8] Try.func5 rfl (by kernel_rfl) (by kernel_rfl) rfl (by kernel_rfl) (by kernel_rfl) (by simp) ?_
  simp (implicitDefEqProofs := false) (disch := omega) only [go_sem, ↓reduceIte]
  refine call0 (refright_spec a b) ?_
  by_cases hr : rightP a b
  case neg =>
    rw [decide_eq_false hr]
    simp (implicitDefEqProofs := false) (disch := omega) only [go_sem, ↓reduceIte]
    refine call0 knows11_spec ?_
    simp (implicitDefEqProofs := false) (disch := omega) only [go_sem, ↓reduceIte]
  rw [decide_eq_true hr]
  simp (implicitDefEqProofs := false) (disch := omega) only [go_sem, ↓reduceIte]
  refine call0 (small_spec a b 8) ?_
  by_cases hsm : smallP a b 8
  case neg =>
    rw [decide_eq_false hsm]
    simp (implicitDefEqProofs := false) (disch := omega) only [go_sem, ↓reduceIte]
    refine call0 knows11_spec ?_
    simp (implicitDefEqProofs := false) (disch := omega) only [go_sem, ↓reduceIte]
  rw [decide_eq_true hsm]
  simp (implicitDefEqProofs := false) (disch := omega) only [go_sem, ↓reduceIte]
  refine brd (fun h => ?_) (fun h => ?_)
  · simp (implicitDefEqProofs := false) (disch := omega) only [go_sem, ↓reduceIte]
    refine call0 knows11_spec ?_
    simp (implicitDefEqProofs := false) (disch := omega) only [go_sem, ↓reduceIte]
  have hr' := hr
  unfold rightP at hr'
  obtain ⟨a, rfl⟩ := Int.eq_ofNat_of_zero_le (show 0 ≤ a by omega)
  obtain ⟨n, rfl⟩ := Int.eq_ofNat_of_zero_le (show 0 ≤ b by omega)
  obtain ⟨v, rfl⟩ := Int.eq_ofNat_of_zero_le hi.1
  have hm6 := manyD_le (a : Int) n
  have hm0 := manyD_pos hr
  obtain ⟨idx, hidx⟩ : ∃ idx, idx = v % manyD (a : Int) n := ⟨_, rfl⟩
  have hix : idx < manyD (a : Int) n := by rw [hidx]; exact Nat.mod_lt _ hm0
  have tix : (v : Int).tmod (manyD (a : Int) n : Int) = (idx : Int) := by rw [Int.tmod_eq_emod_of_nonneg (by omega), hidx, Int.natCast_emod]
  have ha : 1 ≤ a ∧ a ≤ 4 := by omega
  have hn : 1 ≤ n ∧ n ≤ 4 := by omega
  have hkr : goodD (keyR seed pub a n) := treeD_good (leafD_good pub _ _ seed) _ _ _ _ _
  have hro := root_own seed pub ha hn hix
  have hct : cat [text] = text := by simp [cat]
  have hp1 : ∀ p ∈ [text], ∀ x ∈ p, 0 ≤ x ∧ x < 256 := by intro p hx; rw [List.mem_singleton] at hx; subst hx; exact htx
  have hsg := sign_own_spec seed key pub (keyR seed pub a n) pub hs hk hp hkr a n idx text tl htl ha hn hix htx (by omega)
  have hks := key_spec seed key pub a n hs hp hr
  generalize hM : msgD (rD key idx) (keyR seed pub a n) idx text = M at hsg
  have hMg : goodD M := by rw [← hM]; exact ofD_good _ _ _
  have hvo := vK_own (seed := seed) (pub := pub) hMg n idx a a (Nat.le_refl _)
  rw [hro M] at hvo
  have hlen := partsK_len seed pub M n idx a
  have hgp : ∀ p ∈ partsK seed pub M n idx a, goodPt p := fun p h => by
    obtain ⟨k, _, rfl⟩ := partsK_mem h
    exact partK_good _ _ _ _
  have hok : ∀ p ∈ partsK seed pub M n idx a, p.1.length = 67 ∧ p.2.length = n := fun p h => by
    obtain ⟨k, _, rfl⟩ := partsK_mem h
    exact ⟨rowN_len _ _, wayD_len _ _ _ _ _ _⟩
  generalize partsK seed pub M n idx a = sg at *
  have hrg := rD_good key idx
  generalize rD key idx = r at *
  generalize keyR seed pub a n = root at *
  have hi9 : (idx : Int) < 9223372036854775808 := by omega
  have v1 := verify_spec root pub r hkr hp hrg a n idx sg [text] hgp (by omega) hi9 hp1 (by rw [hct]; omega) (by simp)
  rw [hct, hM, Int.toNat_natCast, Int.toNat_natCast, hlen, hvo, decide_eq_true (⟨⟨by omega, by omega, by omega, fun p h => ⟨(hok p h).1, by have := (hok p h).2; omega⟩⟩, rfl⟩ : formedP a n idx sg ∧ root = root)] at v1
  have hb1 : [text].map bsl = [.sl (.ints .u8 tl text)] := by rw [List.map_cons, List.map_nil, bsl, htl]
  obtain _ | ⟨P, rest⟩ := sg
  · rw [List.length_nil] at hlen; omega
  rw [List.length_cons] at hlen
  have hP := hok P (List.mem_cons_self ..)
  have v2 := verify_spec root pub r hkr hp hrg a n idx rest [text] (fun p h => hgp p (List.mem_cons_of_mem _ h)) (by omega) hi9 hp1 (by rw [hct]; omega) (by simp)
  rw [decide_eq_false (fun h => by have := h.1.2.2.1; omega)] at v2
  have v3 := verify_spec root pub r hkr hp hrg a n idx ((P.1.drop 1, P.2) :: rest) [text] (fun p h => by
    rcases List.mem_cons.1 h with rfl | h
    · exact ⟨fun d hd => (hgp P (List.mem_cons_self ..)).1 d (List.mem_of_mem_drop hd), (hgp P (List.mem_cons_self ..)).2⟩
    · exact hgp p (List.mem_cons_of_mem _ h)) (by rw [List.length_cons]; omega) hi9 hp1 (by rw [hct]; omega) (by simp)
  rw [decide_eq_false (fun h => by have := (h.1.2.2.2 _ (List.mem_cons_self ..)).1; simp only [List.length_drop] at this; omega)] at v3
  have hmp : (P :: rest).map pt = .agg [.sl (.lst 32 67 (P.1.map dg)), .sl (.lst 32 n (P.2.map dg))] :: rest.map pt := by rw [List.map_cons, pt, hP.1, hP.2]
  have hmq : ((P.1.drop 1, P.2) :: rest).map pt = .agg [.sl (.lst 32 66 ((P.1.map dg).drop 1)), .sl (.lst 32 n (P.2.map dg))] :: rest.map pt := by
    rw [List.map_cons, pt]; dsimp only; rw [List.length_drop, hP.1, hP.2, List.map_drop]
  have hrl : rest.length = a - 1 := by omega
  have hrl2 : ((P.1.drop 1, P.2) :: rest).length = a := by rw [List.length_cons]; exact hlen
  rw [hmp] at hsg v1
  rw [hmq, hrl2] at v3
  rw [hrl] at v2
  rw [List.length_singleton, hb1] at v1 v2 v3
  simp (implicitDefEqProofs := false) (disch := omega) only [go_sem, ↓reduceIte]
  refine call0 hks ?_
  simp (implicitDefEqProofs := false) (disch := omega) only [go_sem, ↓reduceIte]
  refine call0 (refmany_spec a n) ?_
  simp (implicitDefEqProofs := false) (disch := omega) only [go_sem, ↓reduceIte, tix]
  refine callG false [(0, 3)] [(0, 4)] 5 hsg ?_ ?_
  · simp [keys]
  simp (implicitDefEqProofs := false) (disch := omega) only [go_sem, ↓reduceIte]
  refine callB v1 ?_ ?_
  · simp (implicitDefEqProofs := false) (disch := omega) only [go_sem, ↓reduceIte]
  have etk : (rest.map pt).take (a - 1) = rest.map pt := List.take_of_length_le (by rw [List.length_map]; omega)
  have etd : ((P.1.map dg).drop 1).take 66 = (P.1.map dg).drop 1 := List.take_of_length_le (by rw [List.length_drop, List.length_map]; omega)
  simp (implicitDefEqProofs := false) (disch := omega) only [go_sem, ↓reduceIte, etd]
  refine callB v2 ?_ ?_
  · simp (implicitDefEqProofs := false) (disch := omega) only [go_sem, ↓reduceIte, etk]
    exact .inr (by omega)
  simp (implicitDefEqProofs := false) (disch := omega) only [go_sem, ↓reduceIte, etd]
  refine callB v3 ?_ ?_
  · simp (implicitDefEqProofs := false) (disch := omega) only [go_sem, ↓reduceIte]
  simp (implicitDefEqProofs := false) (disch := omega) only [go_sem, ↓reduceIte]
  refine call0 knows11_spec ?_
  simp (implicitDefEqProofs := false) (disch := omega) only [go_sem, ↓reduceIte]
end Go.Proofs.Ytclkaibkepaebaa
