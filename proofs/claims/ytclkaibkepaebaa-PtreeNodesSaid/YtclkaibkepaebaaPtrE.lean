/- Entries that may not be: too many, or two of one index. -/
import Derived.Test.YtclkaibkepaebaaPtrR
namespace Go.Proofs.Ytclkaibkepaebaa
open Go Go.Sy Go.Proofs.Try
set_option maxRecDepth 100000
set_option maxHeartbeats 8000000
set_option linter.unusedSimpArgs false
set_option linter.unusedVariables false
attribute [go_sem] pl9 pl48
/-- An entry: its index, its commitment. -/
abbrev En := List Int × List Int
def enV (e : En) : AV := .agg [.ints .u8 32 e.1, .ints .u8 32 e.2]
def goodE (e : En) : Prop := goodD e.1 ∧ goodD e.2
theorem getEn {l : List En} {i : Nat} {e : En} (h : l[i]? = some e) (K : AV → Prop) : getP (l.map enV) i K = K (.agg [.ints .u8 32 e.1, .ints .u8 32 e.2]) := getP_map (f := enV) h K
theorem sorted_full (l : List En) (n : Nat) (hn : l.length = n) (h : 256 < n) : FnC Try.prog 97 [.sl (.lst 64 n (l.map enV))] [] (.tup [.nils, .int .i64 3]) [] := by
  refine fn0 mix [] 0 1 [.tmp 2, .tmp 3] Try.func97 rfl (by kernel_rfl) (by kernel_rfl) rfl (by kernel_rfl) (by kernel_rfl) (by simp) ?_
  simp (implicitDefEqProofs := false) (disch := omega) only [go_sem, ↓reduceIte]
  refine brd (fun h1 => ?_) (fun h1 => by omega)
  simp (implicitDefEqProofs := false) (disch := omega) only [go_sem, ↓reduceIte]
/-- The first entry whose index was there. -/
theorem take_next3 {l : List En} {i : Nat} {x : En} (hx : l[i]? = some x) : (l.take (i + 1)).map (·.1) = (l.take i).map (·.1) ++ [x.1] := by rw [List.take_add_one, hx]; simp
theorem first_twiceN (l : List En) : ∀ k, k ≤ l.length → ¬ ((l.take k).map (·.1)).Nodup → ∃ m e, m < l.length ∧ l[m]? = some e ∧ ((l.take m).map (·.1)).Nodup ∧ e.1 ∈ (l.take m).map (·.1)
  | 0, _, h => absurd (by rw [List.take_zero]; exact List.nodup_nil) h
  | k + 1, hk, h => by
    by_cases c : ((l.take k).map (·.1)).Nodup
    · obtain ⟨x, hx⟩ : ∃ x, l[k]? = some x := ⟨_, List.getElem?_eq_getElem (by omega)⟩
      refine ⟨k, x, by omega, hx, c, Classical.byContradiction fun hn => h ?_⟩
      rw [take_next3 hx, List.nodup_append]
      refine ⟨c, by simp, fun a ha b hb hab => ?_⟩
      rw [List.mem_singleton] at hb
      subst hb
      subst hab
      exact hn ha
    · exact first_twiceN l k (by omega) c
theorem first_twice (l : List En) (h : ¬ (l.map (·.1)).Nodup) : ∃ m e, m < l.length ∧ l[m]? = some e ∧ ((l.take m).map (·.1)).Nodup ∧ e.1 ∈ (l.take m).map (·.1) :=
  first_twiceN l l.length (Nat.le_refl _) (by rw [List.take_length]; exact h)
theorem sorted_twice (l : List En) (n : Nat) (hn : l.length = n) (h : n ≤ 256) (hd : ¬ (l.map (·.1)).Nodup) : FnC Try.prog 97 [.sl (.lst 64 n (l.map enV))] [] (.tup [.nils, .int .i64 5]) [] := by
  obtain ⟨m, e, h1, h2, h3, h4⟩ := first_twice l hd
  have hle : (l.map enV).length = n := by rw [List.length_map, hn]
  refine fn0 mix [] 0 1 [.tmp 2, .tmp 3] Try.func97 rfl (by kernel_rfl) (by kernel_rfl) rfl (by kernel_rfl) (by kernel_rfl) (by simp) ?_
  simp (implicitDefEqProofs := false) (disch := omega) only [go_sem, ↓reduceIte]
  refine brd (fun h1 => by omega) (fun h1 => ?_)
  simp (implicitDefEqProofs := false) (disch := omega) only [go_sem, ↓reduceIte]
  refine loop (ι := Nat) 1 (fun i => i ≤ m) (fun i => [(0, .sl (.lst 64 n (l.map enV))), (4, .mp 0), (12, .sl (.lst 64 n (l.map enV))), (13, .int .i64 n), (14, .int .i64 i)]) (fun i => [(0, .map ((l.take i).map (·.1)))]) (fun i => m - i) 0 [(0, 0)] [] (Nat.zero_le _) rfl ?_ ?_ ?_ (fun i hi => ?_)
  · simp (implicitDefEqProofs := false) (disch := omega) only [go_sem, ↓reduceIte]
  · simp (implicitDefEqProofs := false) (disch := omega) only [go_sem, ↓reduceIte]
  · simp (implicitDefEqProofs := false) (disch := omega) only [go_sem, ↓reduceIte, List.take_zero]
  simp (implicitDefEqProofs := false) (disch := omega) only [go_sem, ↓reduceIte]
  refine brd (fun h5 => ?_) (fun h5 => by omega)
  by_cases hm : i = m
  · subst hm
    have g1 := fun K => getEn h2 K
    have hb : decide (e.1 ∈ (l.take i).map (·.1)) = true := decide_eq_true h4
    simp (implicitDefEqProofs := false) (disch := omega) only [go_sem, ↓reduceIte, ↓g1, hle, hb]
    omega
  · obtain ⟨x, hx⟩ : ∃ x, l[i]? = some x := ⟨_, List.getElem?_eq_getElem (by omega)⟩
    have g1 := fun K => getEn hx K
    have hsub : ((l.take (i + 1)).map (·.1)).Nodup := List.Nodup.sublist ((List.take_sublist_take_left (by omega)).map _) h3
    have htk : (l.take (i + 1)).map (·.1) = (l.take i).map (·.1) ++ [x.1] := by rw [List.take_add_one, hx]; simp
    rw [htk, List.nodup_append] at hsub
    have hb : decide (x.1 ∈ (l.take i).map (·.1)) = false := decide_eq_false fun hin => hsub.2.2 _ hin _ (List.mem_singleton.2 rfl) rfl
    simp (implicitDefEqProofs := false) (disch := omega) only [go_sem, ↓reduceIte, ↓g1, hle, hb]
    refine ⟨i + 1, [(0, 0)], [], [], by dsimp only; omega, by dsimp only; omega, rfl, ?_, ?_, ?_⟩ <;> simp (implicitDefEqProofs := false) (disch := omega) only [go_sem, ↓reduceIte, htk]
theorem root_full (l : List En) (n : Nat) (hn : l.length = n) (h : 256 < n) : FnC Try.prog 49 [.sl (.lst 64 n (l.map enV))] [] (.tup [.ints .u8 32 (List.replicate 32 0), .int .i64 3]) [] := by
  refine fn0 mix [] 0 1 [.cell 2 25, .tmp 3] Try.func49 rfl (by kernel_rfl) (by kernel_rfl) rfl (by kernel_rfl) (by kernel_rfl) (by simp) ?_
  simp (implicitDefEqProofs := false) (disch := omega) only [go_sem, ↓reduceIte]
  refine call0 (sorted_full l n hn h) ?_
  simp (implicitDefEqProofs := false) (disch := omega) only [go_sem, ↓reduceIte]
theorem root_twice (l : List En) (n : Nat) (hn : l.length = n) (h : n ≤ 256) (hd : ¬ (l.map (·.1)).Nodup) : FnC Try.prog 49 [.sl (.lst 64 n (l.map enV))] [] (.tup [.ints .u8 32 (List.replicate 32 0), .int .i64 5]) [] := by
  refine fn0 mix [] 0 1 [.cell 2 25, .tmp 3] Try.func49 rfl (by kernel_rfl) (by kernel_rfl) rfl (by kernel_rfl) (by kernel_rfl) (by simp) ?_
  simp (implicitDefEqProofs := false) (disch := omega) only [go_sem, ↓reduceIte]
  refine call0 (sorted_twice l n hn h hd) ?_
  simp (implicitDefEqProofs := false) (disch := omega) only [go_sem, ↓reduceIte]
theorem knows17_spec : FnC Try.prog 48 [] [] (.bool true) [] := by
  have g1 : ∀ K, getP ((empties 257).map dg) 256 K = K (.ints .u8 32 (emptyD 256)) := fun K => getP_map (f := dg) (empties_get (n := 257) (i := 256) (by omega)) K
  have l1 : ((empties 257).map dg).length = 257 := by rw [List.length_map, empties_len]
  have h2 : FnC Try.prog 49 [.sl (.lst 64 2 (List.replicate 2 (.agg [.ints .u8 32 (List.replicate 32 0), .ints .u8 32 (List.replicate 32 0)])))] [] (.tup [.ints .u8 32 (List.replicate 32 0), .int .i64 5]) [] := by
    have h := root_twice (List.replicate 2 (zs, zs)) 2 rfl (by decide) (by decide)
    rw [List.map_replicate] at h
    exact h
  have h3 : FnC Try.prog 49 [.sl (.lst 64 257 (List.replicate 257 (.agg [.ints .u8 32 (List.replicate 32 0), .ints .u8 32 (List.replicate 32 0)])))] [] (.tup [.ints .u8 32 (List.replicate 32 0), .int .i64 3]) [] := by
    have h := root_full (List.replicate 257 (zs, zs)) 257 (by rw [List.length_replicate]) (by decide)
    rw [List.map_replicate] at h
    exact h
  have h4 := bit17_spec (128 :: List.replicate 31 0) 255 ⟨rfl, by decide⟩
  have h5 := bit17_spec (List.replicate 31 0 ++ [1]) 0 ⟨rfl, by decide⟩
  rw [show bitD (128 :: List.replicate 31 0) 255 = 1 by decide] at h4
  rw [show bitD (List.replicate 31 0 ++ [1]) 0 = 1 by decide] at h5
  have dE : decide (emptyD 256 = emptyD 256) = true := decide_eq_true rfl
  refine fn0 mix pl48 0 0 [.tmp 0] Try.func48 rfl (by kernel_rfl) (by kernel_rfl) rfl (by kernel_rfl) (by kernel_rfl) (by simp) ?_
  simp (implicitDefEqProofs := false) (disch := omega) only [go_sem, ↓reduceIte]
  refine call0 root_0 ?_
  simp (implicitDefEqProofs := false) (disch := omega) only [go_sem, ↓reduceIte]
  refine callF 1 empty17_spec ?_
  simp (implicitDefEqProofs := false) (disch := omega) only [go_sem, ↓reduceIte]
  refine callB h2 ?_ ?_
  · simp (implicitDefEqProofs := false) (disch := omega) only [go_sem, ↓reduceIte]
  simp (implicitDefEqProofs := false) (disch := omega) only [go_sem, ↓reduceIte]
  refine callB h3 ?_ ?_
  · simp (implicitDefEqProofs := false) (disch := omega) only [go_sem, ↓reduceIte]
  simp (implicitDefEqProofs := false) (disch := omega) only [go_sem, ↓reduceIte, ↓g1, l1, dE]
  refine call0 h4 ?_
  simp (implicitDefEqProofs := false) (disch := omega) only [go_sem, ↓reduceIte, List.replicate_zero, List.append_nil]
  refine call0 h5 ?_
  simp (implicitDefEqProofs := false) (disch := omega) only [go_sem, ↓reduceIte]
theorem same_empties : FnC Try.prog 33 [.sl (.lst 32 257 ((empties 257).map dg)), .sl (.lst 32 257 ((empties 257).map dg))] [] (.bool true) [] := by
  have h := same08_spec (empties 257) (empties 257) (by rw [empties_len]; decide)
  rw [decide_eq_true rfl, empties_len] at h
  exact h
theorem ptreeNodes_spec (a b : List Int) (ha : goodD a) (hb : goodD b) (k : Int) : FnC Try.prog 9 [.agg [.ints .u8 32 a, .ints .u8 32 b], .int .i64 k] [] (.bool true) [] := by
  have e1 := leafP_good a b
  have d1 : decide (leafP a b = leafP a b) = true := decide_eq_true rfl
  have d2 : decide (nodeL a b = nodeL a b) = true := decide_eq_true rfl
  have d3 : decide (bitD a k = bitD a k) = true := decide_eq_true rfl
  refine fn0 mix pl9 0 2 [.tmp 4] Try.func9 rfl (by kernel_rfl) (by kernel_rfl) rfl (by kernel_rfl) (by kernel_rfl) (by simp) ?_
  simp (implicitDefEqProofs := false) (disch := omega) only [go_sem, ↓reduceIte]
  refine callF 1 empty17_spec ?_
  simp (implicitDefEqProofs := false) (disch := omega) only [go_sem, ↓reduceIte]
  refine callF 1 refempty_spec17 ?_
  simp (implicitDefEqProofs := false) (disch := omega) only [go_sem, ↓reduceIte]
  refine callB same_empties ?_ ?_
  · simp (implicitDefEqProofs := false) (disch := omega) only [go_sem, ↓reduceIte]
  simp (implicitDefEqProofs := false) (disch := omega) only [go_sem, ↓reduceIte]
  refine call0 (leaf_spec17 a b ha hb) ?_
  simp (implicitDefEqProofs := false) (disch := omega) only [go_sem, ↓reduceIte]
  refine call0 (refleaf_spec17 a b ha hb) ?_
  simp (implicitDefEqProofs := false) (disch := omega) only [go_sem, ↓reduceIte, d1]
  refine call0 (node_spec17 a b ha hb) ?_
  simp (implicitDefEqProofs := false) (disch := omega) only [go_sem, ↓reduceIte]
  refine call0 (refnode_spec17 a b ha hb) ?_
  simp (implicitDefEqProofs := false) (disch := omega) only [go_sem, ↓reduceIte, d2]
  refine call0 (bit17_spec a k ha) ?_
  simp (implicitDefEqProofs := false) (disch := omega) only [go_sem, ↓reduceIte]
  refine call0 (refbit_spec17 a k ha) ?_
  simp (implicitDefEqProofs := false) (disch := omega) only [go_sem, ↓reduceIte, d3]
  refine call0 knows17_spec ?_
  simp (implicitDefEqProofs := false) (disch := omega) only [go_sem, ↓reduceIte]
end Go.Proofs.Ytclkaibkepaebaa
