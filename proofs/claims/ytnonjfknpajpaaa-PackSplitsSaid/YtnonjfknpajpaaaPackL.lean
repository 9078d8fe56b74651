/- The walks of PackRows and PackSplits. -/
import Derived.Test.YtnonjfknpajpaaaSplit
import Derived.Test.YtnonjfknpajpaaaRef01
namespace Go.Proofs.Ytnonjfknpajpaaa
open Go Go.Sy Go.Proofs.Try
set_option maxRecDepth 100000
set_option maxHeartbeats 4000000
set_option linter.unusedSimpArgs false
set_option linter.unusedVariables false
attribute [go_sem] pl10
theorem cat_mem_le {ps : List (List Int)} {p : List Int} (h : p ∈ ps) : p.length ≤ (cat ps).length := by
  obtain ⟨a, b, rfl⟩ := List.append_of_mem h
  simp only [cat, List.flatMap_append, List.flatMap_cons, List.length_append, id]
  omega
theorem rowb_cat (n : Nat) : ∀ ps : List (List Int), (rowb n ps).length = 2 + 2 * ps.length + (cat ps).length
  | [] => by simp [rowb, be_len, cat]
  | p :: ps => by
    have := rowb_cat n ps
    simp only [rowb, cat, List.length_append, be_len, List.flatMap_cons, List.length_cons, id] at this ⊢
    omega
theorem packRows_spec (ps : List (List Int)) (hb : ∀ p ∈ ps, ∀ x ∈ p, 0 ≤ x ∧ x < 256) (hp : ∀ p ∈ ps, p.length ≤ 140737488351232) (hl : ps.length ≤ 9223372036854775807) : FnC Try.prog 10 [.sl (.lst 1 ps.length (ps.map bsl))] [] (.bool true) [] := by
  refine fn0 mix ((100004, []) :: pl10) 0 1 [.tmp 2] Try.func10 rfl (by kernel_rfl) (by kernel_rfl) rfl (by kernel_rfl) (by kernel_rfl) (by simp) ?_
  simp (implicitDefEqProofs := false) (disch := omega) only [go_sem, ↓reduceIte]
  refine call0 (few_spec ps 3000 hl (fun p h => Nat.le_trans (hp p h) (by decide))) ?_
  simp (implicitDefEqProofs := false) (disch := omega) only [go_sem, ↓reduceIte]
  refine br (fun h => ?_) (fun h => ?_)
  · simp only [Bool.and_eq_true, decide_eq_true_eq] at h
    have hw := wsum_eq ps hp ps.length (by omega) (Nat.le_refl _)
    rw [List.take_length] at hw
    have hn : (cat ps).length ≤ 3000 := by omega
    have h6 : ∀ p ∈ ps, p.length ≤ 65535 := fun p hp => by have := cat_mem_le hp; omega
    have h7 : ps.length ≤ 65535 := by omega
    have hR : ∀ x ∈ rowb ps.length ps, 0 ≤ x ∧ x < 256 := fun x hx => by
      unfold rowb at hx
      rcases List.mem_append.1 hx with hx | hx
      · exact be_mem _ _ x hx
      · obtain ⟨p, hp, hx⟩ := List.mem_flatMap.1 hx
        rcases List.mem_append.1 hx with hx | hx
        · exact be_mem _ _ x hx
        · exact hb p hp x hx
    have hRl := rowb_cat ps.length ps
    have hS := split_rowb ps h7 h6
    simp (implicitDefEqProofs := false) (disch := omega) only [go_sem, ↓reduceIte]
    refine callF 1 (prow_spec ps h7 h6) ?_
    simp (implicitDefEqProofs := false) (disch := omega) only [go_sem, ↓reduceIte]
    refine cut 0 [(0, .sl (.lst 1 ps.length (ps.map bsl))), (2, .bool false), (3, .sl (.ints .u8 (rowb ps.length ps).length (rowb ps.length ps))), (4, .int .i64 0)] [] [] [] [0] rfl ?_ ?_ ?_ ?_
    · simp (implicitDefEqProofs := false) (disch := omega) only [go_sem, ↓reduceIte]
    · simp (implicitDefEqProofs := false) (disch := omega) only [go_sem, ↓reduceIte]
    · simp (implicitDefEqProofs := false) (disch := omega) only [go_sem, ↓reduceIte]
    simp (implicitDefEqProofs := false) (disch := omega) only [go_sem, ↓reduceIte]
    refine call0 (split_spec (rowb ps.length ps) (.tup [.sl (.lst 1 ps.length (ps.map bsl)), .int .i64 0]) (by rw [hS]; rfl) hR (by omega)) ?_
    simp (implicitDefEqProofs := false) (disch := omega) only [go_sem, ↓reduceIte]
    refine callF 1 (refrow_spec ps h7 h6) ?_
    simp (implicitDefEqProofs := false) (disch := omega) only [go_sem, ↓reduceIte]
    refine call0 (same_spec ps (by omega)) ?_
    simp (implicitDefEqProofs := false) (disch := omega) only [go_sem, ↓reduceIte]
    refine call0 knows03_spec ?_
    simp (implicitDefEqProofs := false) (disch := omega) only [go_sem, ↓reduceIte]
  · simp (implicitDefEqProofs := false) (disch := omega) only [go_sem, ↓reduceIte]
    refine call0 knows03_spec ?_
    simp (implicitDefEqProofs := false) (disch := omega) only [go_sem, ↓reduceIte]
theorem packSplits_spec (b : List Int) (m : Int) (hm : 0 ≤ m ∧ m < 4294967296) (hb : ∀ x ∈ b, 0 ≤ x ∧ x < 256) (hl : b.length ≤ 9223372036854775807) : FnC Try.prog 11 [.sl (.ints .u8 b.length b), .int .u32 m] [] (.bool true) [] := by
  refine fn0 mix ((100011, []) :: []) 0 2 [.tmp 4] Try.func11 rfl (by kernel_rfl) (by kernel_rfl) rfl (by kernel_rfl) (by kernel_rfl) (by simp) ?_
  simp (implicitDefEqProofs := false) (disch := omega) only [go_sem, ↓reduceIte]
  refine brd (fun h1 => ?_) (fun h1 => ?_)
  · simp (implicitDefEqProofs := false) (disch := omega) only [go_sem, ↓reduceIte]
    refine call0 knows03_spec ?_
    simp (implicitDefEqProofs := false) (disch := omega) only [go_sem, ↓reduceIte]
  obtain ⟨k, rfl⟩ : ∃ k : Nat, m = k := ⟨m.toNat, by omega⟩
  simp (implicitDefEqProofs := false) (disch := omega) only [go_sem, ↓reduceIte]
  refine brd (fun h2 => ?_) (fun h2 => ?_)
  · simp (implicitDefEqProofs := false) (disch := omega) only [go_sem, ↓reduceIte]
    refine call0 knows03_spec ?_
    simp (implicitDefEqProofs := false) (disch := omega) only [go_sem, ↓reduceIte]
  simp (implicitDefEqProofs := false) (disch := omega) only [go_sem, ↓reduceIte]
  rcases hs : split b with _ | ⟨l, rest⟩
  · refine call0 (split_spec b (.tup [.nils, .int .i64 2]) (by rw [hs]; rfl) hb (by omega)) ?_
    simp (implicitDefEqProofs := false) (disch := omega) only [go_sem, ↓reduceIte]
    refine call0 (rsplit_spec b (.tup [.nils, .bool false]) (by rw [hs]; rfl) hb (by omega)) ?_
    simp (implicitDefEqProofs := false) (disch := omega) only [go_sem, ↓reduceIte]
    refine cut 0 [(0, .sl (.ints .u8 b.length b)), (1, .int .u32 k), (4, .bool false)] [] [] [] [] rfl ?_ ?_ ?_ ?_
    · simp (implicitDefEqProofs := false) (disch := omega) only [go_sem, ↓reduceIte]
    · simp (implicitDefEqProofs := false) (disch := omega) only [go_sem, ↓reduceIte]
    · simp (implicitDefEqProofs := false) (disch := omega) only [go_sem, ↓reduceIte]
    simp (implicitDefEqProofs := false) (disch := omega) only [go_sem, ↓reduceIte]
    by_cases h3 : 65535 < k
    · refine callB (prow_long_spec (List.replicate k 0) (by rw [List.length_replicate]; omega) (by rw [List.length_replicate]; omega)) ?_ ?_
      · simp (implicitDefEqProofs := false) (disch := omega) only [go_sem, ↓reduceIte, bsl]
      simp (implicitDefEqProofs := false) (disch := omega) only [go_sem, ↓reduceIte]
      refine brd (fun h4 => ?_) (fun h4 => by omega)
      simp (implicitDefEqProofs := false) (disch := omega) only [go_sem, ↓reduceIte]
      refine call0 knows03_spec ?_
      simp (implicitDefEqProofs := false) (disch := omega) only [go_sem, ↓reduceIte]
    · refine callBF 1 (prow_spec [List.replicate k 0] (by simp) (by intro p hp; rw [List.mem_singleton] at hp; subst hp; rw [List.length_replicate]; omega)) ?_ ?_
      · simp (implicitDefEqProofs := false) (disch := omega) only [go_sem, ↓reduceIte, bsl]
      have e : (rowb 1 [List.replicate k 0]).length = k + 4 := by rw [rowb_cat]; simp [cat]; omega
      have e' : decide ((k : Int) + 4 = (k : Int) + 4) = true := decide_eq_true rfl
      simp (implicitDefEqProofs := false) (disch := omega) only [go_sem, ↓reduceIte, e]
      refine brd (fun h4 => by omega) (fun h4 => ?_)
      simp (implicitDefEqProofs := false) (disch := omega) only [go_sem, ↓reduceIte]
      refine call0 knows03_spec ?_
      simp (implicitDefEqProofs := false) (disch := omega) only [go_sem, ↓reduceIte]
  by_cases hr : rest = []
  · subst hr
    obtain ⟨hrow, hn1, hn2⟩ := rowb_split hb hs
    have hp := prow_spec l hn1 hn2
    rw [hrow] at hp
    refine call0 (split_spec b (.tup [.sl (.lst 1 l.length (l.map bsl)), .int .i64 0]) (by rw [hs, splitR, if_pos rfl]) hb (by omega)) ?_
    simp (implicitDefEqProofs := false) (disch := omega) only [go_sem, ↓reduceIte]
    refine call0 (rsplit_spec b (.tup [.sl (.lst 1 l.length (l.map bsl)), .bool true]) (by rw [hs]; simp [rsplitR]) hb (by omega)) ?_
    simp (implicitDefEqProofs := false) (disch := omega) only [go_sem, ↓reduceIte]
    refine callF 1 hp ?_
    simp (implicitDefEqProofs := false) (disch := omega) only [go_sem, ↓reduceIte]
    refine call0 (same_spec l (by omega)) ?_
    simp (implicitDefEqProofs := false) (disch := omega) only [go_sem, ↓reduceIte]
    refine cut 0 [(0, .sl (.ints .u8 b.length b)), (1, .int .u32 k), (4, .bool false)] [] [] [] [] rfl ?_ ?_ ?_ ?_
    · simp (implicitDefEqProofs := false) (disch := omega) only [go_sem, ↓reduceIte]
    · simp (implicitDefEqProofs := false) (disch := omega) only [go_sem, ↓reduceIte]
    · simp (implicitDefEqProofs := false) (disch := omega) only [go_sem, ↓reduceIte]
    simp (implicitDefEqProofs := false) (disch := omega) only [go_sem, ↓reduceIte]
    by_cases h3 : 65535 < k
    · refine callB (prow_long_spec (List.replicate k 0) (by rw [List.length_replicate]; omega) (by rw [List.length_replicate]; omega)) ?_ ?_
      · simp (implicitDefEqProofs := false) (disch := omega) only [go_sem, ↓reduceIte, bsl]
      simp (implicitDefEqProofs := false) (disch := omega) only [go_sem, ↓reduceIte]
      refine brd (fun h4 => ?_) (fun h4 => by omega)
      simp (implicitDefEqProofs := false) (disch := omega) only [go_sem, ↓reduceIte]
      refine call0 knows03_spec ?_
      simp (implicitDefEqProofs := false) (disch := omega) only [go_sem, ↓reduceIte]
    · refine callBF 1 (prow_spec [List.replicate k 0] (by simp) (by intro p hp; rw [List.mem_singleton] at hp; subst hp; rw [List.length_replicate]; omega)) ?_ ?_
      · simp (implicitDefEqProofs := false) (disch := omega) only [go_sem, ↓reduceIte, bsl]
      have e : (rowb 1 [List.replicate k 0]).length = k + 4 := by rw [rowb_cat]; simp [cat]; omega
      have e' : decide ((k : Int) + 4 = (k : Int) + 4) = true := decide_eq_true rfl
      simp (implicitDefEqProofs := false) (disch := omega) only [go_sem, ↓reduceIte, e]
      refine brd (fun h4 => by omega) (fun h4 => ?_)
      simp (implicitDefEqProofs := false) (disch := omega) only [go_sem, ↓reduceIte]
      refine call0 knows03_spec ?_
      simp (implicitDefEqProofs := false) (disch := omega) only [go_sem, ↓reduceIte]
  · refine call0 (split_spec b (.tup [.nils, .int .i64 2]) (by rw [hs, splitR, if_neg hr]) hb (by omega)) ?_
    simp (implicitDefEqProofs := false) (disch := omega) only [go_sem, ↓reduceIte]
    refine call0 (rsplit_spec b (.tup [.sl (.lst 1 l.length (l.map bsl)), .bool false]) (by rw [hs]; simp [rsplitR, hr]) hb (by omega)) ?_
    simp (implicitDefEqProofs := false) (disch := omega) only [go_sem, ↓reduceIte]
    refine cut 0 [(0, .sl (.ints .u8 b.length b)), (1, .int .u32 k), (4, .bool false)] [] [] [] [] rfl ?_ ?_ ?_ ?_
    · simp (implicitDefEqProofs := false) (disch := omega) only [go_sem, ↓reduceIte]
    · simp (implicitDefEqProofs := false) (disch := omega) only [go_sem, ↓reduceIte]
    · simp (implicitDefEqProofs := false) (disch := omega) only [go_sem, ↓reduceIte]
    simp (implicitDefEqProofs := false) (disch := omega) only [go_sem, ↓reduceIte]
    by_cases h3 : 65535 < k
    · refine callB (prow_long_spec (List.replicate k 0) (by rw [List.length_replicate]; omega) (by rw [List.length_replicate]; omega)) ?_ ?_
      · simp (implicitDefEqProofs := false) (disch := omega) only [go_sem, ↓reduceIte, bsl]
      simp (implicitDefEqProofs := false) (disch := omega) only [go_sem, ↓reduceIte]
      refine brd (fun h4 => ?_) (fun h4 => by omega)
      simp (implicitDefEqProofs := false) (disch := omega) only [go_sem, ↓reduceIte]
      refine call0 knows03_spec ?_
      simp (implicitDefEqProofs := false) (disch := omega) only [go_sem, ↓reduceIte]
    · refine callBF 1 (prow_spec [List.replicate k 0] (by simp) (by intro p hp; rw [List.mem_singleton] at hp; subst hp; rw [List.length_replicate]; omega)) ?_ ?_
      · simp (implicitDefEqProofs := false) (disch := omega) only [go_sem, ↓reduceIte, bsl]
      have e : (rowb 1 [List.replicate k 0]).length = k + 4 := by rw [rowb_cat]; simp [cat]; omega
      have e' : decide ((k : Int) + 4 = (k : Int) + 4) = true := decide_eq_true rfl
      simp (implicitDefEqProofs := false) (disch := omega) only [go_sem, ↓reduceIte, e]
      refine brd (fun h4 => by omega) (fun h4 => ?_)
      simp (implicitDefEqProofs := false) (disch := omega) only [go_sem, ↓reduceIte]
      refine call0 knows03_spec ?_
      simp (implicitDefEqProofs := false) (disch := omega) only [go_sem, ↓reduceIte]
end Go.Proofs.Ytnonjfknpajpaaa
