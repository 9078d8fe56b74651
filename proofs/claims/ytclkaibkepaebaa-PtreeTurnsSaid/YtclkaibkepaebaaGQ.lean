/- The root of no entries; what is amiss with entries. -/
import Derived.Test.YtclkaibkepaebaaGP
import Derived.Test.YtclkaibkepaebaaGG
namespace Go.Proofs.Ytclkaibkepaebaa
open Go Go.Sy Go.Proofs.Try
set_option maxRecDepth 100000
set_option maxHeartbeats 8000000
set_option linter.unusedSimpArgs false
set_option linter.unusedVariables false
attribute [go_sem] pl98 pl164 pl182
theorem len64_0 : FnC Try.prog 191 [.int .u64 0] [] (.int .i64 0) [] := by
  refine fn0 mix [] 0 1 [.tmp 2] Try.func191 rfl (by kernel_rfl) (by kernel_rfl) rfl (by kernel_rfl) (by kernel_rfl) (by simp) ?_
  simp (implicitDefEqProofs := false) (disch := omega) only [go_sem, ↓reduceIte]
  exact ⟨by decide +kernel, congrArg (AV.int .i64) (by decide +kernel)⟩
theorem bitsLen_0 : FnC Try.prog 165 [.int .u64 0] [] (.int .i64 0) [] := by
  refine fn0 mix [] 0 1 [.tmp 2] Try.func165 rfl (by kernel_rfl) (by kernel_rfl) rfl (by kernel_rfl) (by kernel_rfl) (by simp) ?_
  simp (implicitDefEqProofs := false) (disch := omega) only [go_sem, ↓reduceIte]
  refine call0 len64_0 ?_
  simp (implicitDefEqProofs := false) (disch := omega) only [go_sem, ↓reduceIte]
theorem insort_0 (g : Nat) : FnC Try.prog 182 [.nils, .int .i64 0, .int .i64 0, .fn (.func g) []] [] (.tup []) [] := by
  refine fn0 mix pl182 0 4 [] Try.func182 rfl (by kernel_rfl) (by kernel_rfl) rfl (by kernel_rfl) (by kernel_rfl) (by simp) ?_
  simp (implicitDefEqProofs := false) (disch := omega) only [go_sem, ↓reduceIte]
  refine loop (ι := Nat) 0 (fun i => i = 0) (fun i => [(2, .int .i64 0), (8, .int .i64 1)]) (fun i => []) (fun i => 0) 0 [] [] rfl rfl ?_ ?_ ?_ (fun i hi => ?_)
  · simp (implicitDefEqProofs := false) (disch := omega) only [go_sem, ↓reduceIte]
  · simp (implicitDefEqProofs := false) (disch := omega) only [go_sem, ↓reduceIte]
  · simp (implicitDefEqProofs := false) (disch := omega) only [go_sem, ↓reduceIte]
  simp (implicitDefEqProofs := false) (disch := omega) only [go_sem, ↓reduceIte]
theorem pdq_0 (g : Nat) : FnC Try.prog 164 [.nils, .int .i64 0, .int .i64 0, .int .i64 0, .fn (.func g) []] [] (.tup []) [] := by
  refine fn0 mix pl164 0 5 [] Try.func164 rfl (by kernel_rfl) (by kernel_rfl) rfl (by kernel_rfl) (by kernel_rfl) (by simp) ?_
  simp (implicitDefEqProofs := false) (disch := omega) only [go_sem, ↓reduceIte]
  refine loop (ι := Nat) 0 (fun i => i = 0) (fun i => [(0, .nils), (1, .int .i64 0), (2, .int .i64 0), (4, .fn (.func g) [])]) (fun i => []) (fun i => 0) 0 [] [] rfl rfl ?_ ?_ ?_ (fun i hi => ?_)
  · simp (implicitDefEqProofs := false) (disch := omega) only [go_sem, ↓reduceIte]
  · simp (implicitDefEqProofs := false) (disch := omega) only [go_sem, ↓reduceIte]
  · simp (implicitDefEqProofs := false) (disch := omega) only [go_sem, ↓reduceIte]
  simp (implicitDefEqProofs := false) (disch := omega) only [go_sem, ↓reduceIte]
  refine call0 (insort_0 g) ?_
  simp (implicitDefEqProofs := false) (disch := omega) only [go_sem, ↓reduceIte]
theorem sortf_0 (g : Nat) : FnC Try.prog 141 [.nils, .fn (.func g) []] [] (.tup []) [] := by
  refine fn0 mix [] 0 2 [] Try.func141 rfl (by kernel_rfl) (by kernel_rfl) rfl (by kernel_rfl) (by kernel_rfl) (by simp) ?_
  simp (implicitDefEqProofs := false) (disch := omega) only [go_sem, ↓reduceIte]
  refine call0 bitsLen_0 ?_
  simp (implicitDefEqProofs := false) (disch := omega) only [go_sem, ↓reduceIte]
  refine call0 (pdq_0 g) ?_
  simp (implicitDefEqProofs := false) (disch := omega) only [go_sem, ↓reduceIte]
theorem clone_0 : FnC Try.prog 140 [.nils] [] .nils [] := by
  refine fn0 mix [] 0 1 [.tmp 2] Try.func140 rfl (by kernel_rfl) (by kernel_rfl) rfl (by kernel_rfl) (by kernel_rfl) (by simp) ?_
  simp (implicitDefEqProofs := false) (disch := omega) only [go_sem, ↓reduceIte]
theorem sorted_0 : FnC Try.prog 97 [.nils] [] (.tup [.nils, .int .i64 0]) [] := by
  refine fn0 mix [] 0 1 [.tmp 2, .tmp 3] Try.func97 rfl (by kernel_rfl) (by kernel_rfl) rfl (by kernel_rfl) (by kernel_rfl) (by simp) ?_
  simp (implicitDefEqProofs := false) (disch := omega) only [go_sem, ↓reduceIte]
  refine loop (ι := Nat) 1 (fun i => i = 0) (fun i => [(0, .nils), (13, .int .i64 0), (14, .int .i64 0)]) (fun i => [(0, .map [])]) (fun i => 0) 0 [(0, 0)] [] rfl rfl ?_ ?_ ?_ (fun i hi => ?_)
  · simp (implicitDefEqProofs := false) (disch := omega) only [go_sem, ↓reduceIte]
  · simp (implicitDefEqProofs := false) (disch := omega) only [go_sem, ↓reduceIte]
  · simp (implicitDefEqProofs := false) (disch := omega) only [go_sem, ↓reduceIte]
  simp (implicitDefEqProofs := false) (disch := omega) only [go_sem, ↓reduceIte]
  refine call0 clone_0 ?_
  simp (implicitDefEqProofs := false) (disch := omega) only [go_sem, ↓reduceIte]
  refine call0 (sortf_0 _) ?_
  simp (implicitDefEqProofs := false) (disch := omega) only [go_sem, ↓reduceIte]
theorem node_0 : FnC Try.prog 98 [.agg [.sl (.lst 32 257 ((empties 257).map dg))], .nils, .int .i64 256] [] (.ints .u8 32 (emptyD 256)) [] := by
  have g1 : ∀ K, getP ((empties 257).map dg) 256 K = K (.ints .u8 32 (emptyD 256)) := fun K => getP_map (f := dg) (empties_get (n := 257) (i := 256) (by omega)) K
  have l1 : ((empties 257).map dg).length = 257 := by rw [List.length_map, empties_len]
  refine fn0 mix pl98 0 3 [.cell 6 25] Try.func98 rfl (by kernel_rfl) (by kernel_rfl) rfl (by kernel_rfl) (by kernel_rfl) (by simp) ?_
  simp (implicitDefEqProofs := false) (disch := omega) only [go_sem, ↓reduceIte, ↓g1, l1]
theorem root_0 : FnC Try.prog 49 [.nils] [] (.tup [.ints .u8 32 (emptyD 256), .int .i64 0]) [] := by
  refine fn0 mix [] 0 1 [.cell 2 25, .tmp 3] Try.func49 rfl (by kernel_rfl) (by kernel_rfl) rfl (by kernel_rfl) (by kernel_rfl) (by simp) ?_
  simp (implicitDefEqProofs := false) (disch := omega) only [go_sem, ↓reduceIte]
  refine call0 sorted_0 ?_
  simp (implicitDefEqProofs := false) (disch := omega) only [go_sem, ↓reduceIte]
  refine callF 1 empty17_spec ?_
  simp (implicitDefEqProofs := false) (disch := omega) only [go_sem, ↓reduceIte]
  refine callB node_0 ?_ ?_
  · simp (implicitDefEqProofs := false) (disch := omega) only [go_sem, ↓reduceIte]
  simp (implicitDefEqProofs := false) (disch := omega) only [go_sem, ↓reduceIte]
theorem climb_zero (index : List Int) : ∀ k, climbR index zs [] (emptyD 0) k = emptyD k
  | 0 => rfl
  | k + 1 => by
    have hs : sideD zs [] k = emptyD k := by
      unfold sideD
      rw [if_neg]
      unfold kb
      have : zs.getD (k / 8) 0 = 0 := by
        by_cases h : k / 8 < 32
        · exact getD_all' (xs := zs) (p := fun x => x = 0) (by decide) (by show k / 8 < zs.length; rw [zs_good.1]; exact h)
        · rw [List.getD, List.getElem?_eq_none (by rw [zs_good.1]; omega)]; rfl
      rw [this]
      simp
    rw [climbR, climbS, hs, climb_zero index k]
    split <;> rfl
theorem knows18_spec : FnC Try.prog 55 [] [] (.bool true) [] := by
  have he := emptyD_good 256
  generalize hE : emptyD 256 = E at *
  have h1 := root_0
  rw [hE] at h1
  have h2 : FnC Try.prog 56 [.ints .u8 32 E, .ints .u8 32 E, .agg [.ints .u8 32 (1 :: List.replicate 31 0), .nils]] [] (.tup [.ints .u8 32 (List.replicate 32 0), .int .i64 2]) [] := by
    have h := climb_bad E E (1 :: List.replicate 31 0) ⟨rfl, by decide⟩ [] 0 rfl (by decide) (by decide)
    refine h.sub [] [] [] rfl ?_ ?_
    · simp (implicitDefEqProofs := false) (disch := omega) only [go_sem, ↓reduceIte]
    · simp (implicitDefEqProofs := false) (disch := omega) only [go_sem, ↓reduceIte]
  have h3 : FnC Try.prog 59 [.ints .u8 32 E, .ints .u8 32 (9 :: List.replicate 31 0), .agg [.ints .u8 32 (List.replicate 32 0), .nils]] [] (.bool true) [] := by
    have h := absent_spec E (9 :: List.replicate 31 0) zs ⟨rfl, by decide⟩ zs_good [] 0 rfl (by decide) (fun d h => by cases h)
    rw [decide_eq_true ⟨by decide, by rw [climb_zero, hE]⟩] at h
    refine h.sub [] [] [] rfl ?_ ?_
    · simp (implicitDefEqProofs := false) (disch := omega) only [go_sem, ↓reduceIte]
      rfl
    · simp (implicitDefEqProofs := false) (disch := omega) only [go_sem, ↓reduceIte]
  refine fn0 mix [] 0 0 [.tmp 0] Try.func55 rfl (by kernel_rfl) (by kernel_rfl) rfl (by kernel_rfl) (by kernel_rfl) (by simp) ?_
  simp (implicitDefEqProofs := false) (disch := omega) only [go_sem, ↓reduceIte]
  refine call0 h1 ?_
  simp (implicitDefEqProofs := false) (disch := omega) only [go_sem, ↓reduceIte]
  refine call0 h2 ?_
  simp (implicitDefEqProofs := false) (disch := omega) only [go_sem, ↓reduceIte]
  refine call0 h3 ?_
  simp (implicitDefEqProofs := false) (disch := omega) only [go_sem, ↓reduceIte]
end Go.Proofs.Ytclkaibkepaebaa
/- Entries that may not be: too many, or two of one index. -/
namespace Go.Proofs.Ytclkaibkepaebaa
open Go Go.Sy Go.Proofs.Try
set_option maxRecDepth 100000
set_option maxHeartbeats 8000000
set_option linter.unusedSimpArgs false
set_option linter.unusedVariables false
attribute [go_sem] pl9 pl48
/-- An entry: its index, its commitment. -/
abbrev En := List Int × List Int
def enV (e : En) : AV := .agg [.ints .u8 32 e.1, .ints .u8 32 e.2]
def goodE (e : En) : Prop := goodD e.1 ∧ goodD e.2
theorem getEn {l : List En} {i : Nat} {e : En} (h : l[i]? = some e) (K : AV → Prop) : getP (l.map enV) i K = K (.agg [.ints .u8 32 e.1, .ints .u8 32 e.2]) := getP_map (f := enV) h K
theorem sorted_full (l : List En) (n : Nat) (hn : l.length = n) (h : 256 < n) : FnC Try.prog 97 [.sl (.lst 64 n (l.map enV))] [] (.tup [.nils, .int .i64 3]) [] := by
  refine fn0 mix [] 0 1 [.tmp 2, .tmp 3] Try.func97 rfl (by kernel_rfl) (by kernel_rfl) rfl (by kernel_rfl) (by kernel_rfl) (by simp) ?_
  simp (implicitDefEqProofs := false) (disch := omega) only [go_sem, ↓reduceIte]
  refine brd (fun h1 => ?_) (fun h1 => by omega)
  simp (implicitDefEqProofs := false) (disch := omega) only [go_sem, ↓reduceIte]
/-- The first entry whose index was there. -/
theorem take_next3 {l : List En} {i : Nat} {x : En} (hx : l[i]? = some x) : (l.take (i + 1)).map (·.1) = (l.take i).map (·.1) ++ [x.1] := by rw [List.take_add_one, hx]; simp
theorem first_twiceN (l : List En) : ∀ k, k ≤ l.length → ¬ ((l.take k).map (·.1)).Nodup → ∃ m e, m < l.length ∧ l[m]? = some e ∧ ((l.take m).map (·.1)).Nodup ∧ e.1 ∈ (l.take m).map (·.1)
  | 0, _, h => absurd (by rw [List.take_zero]; exact List.nodup_nil) h
  | k + 1, hk, h => by
    by_cases c : ((l.take k).map (·.1)).Nodup
    · obtain ⟨x, hx⟩ : ∃ x, l[k]? = some x := ⟨_, List.getElem?_eq_getElem (by omega)⟩
      refine ⟨k, x, by omega, hx, c, Classical.byContradiction fun hn => h ?_⟩
      rw [take_next3 hx, List.nodup_append]
      refine ⟨c, by simp, fun a ha b hb hab => ?_⟩
      rw [List.mem_singleton] at hb
      subst hb
      subst hab
      exact hn ha
    · exact first_twiceN l k (by omega) c
theorem first_twice (l : List En) (h : ¬ (l.map (·.1)).Nodup) : ∃ m e, m < l.length ∧ l[m]? = some e ∧ ((l.take m).map (·.1)).Nodup ∧ e.1 ∈ (l.take m).map (·.1) :=
  first_twiceN l l.length (Nat.le_refl _) (by rw [List.take_length]; exact h)
theorem sorted_twice (l : List En) (n : Nat) (hn : l.length = n) (h : n ≤ 256) (hd : ¬ (l.map (·.1)).Nodup) : FnC Try.prog 97 [.sl (.lst 64 n (l.map enV))] [] (.tup [.nils, .int .i64 5]) [] := by
  obtain ⟨m, e, h1, h2, h3, h4⟩ := first_twice l hd
  have hle : (l.map enV).length = n := by rw [List.length_map, hn]
  refine fn0 mix [] 0 1 [.tmp 2, .tmp 3] Try.func97 rfl (by kernel_rfl) (by kernel_rfl) rfl (by kernel_rfl) (by kernel_rfl) (by simp) ?_
  simp (implicitDefEqProofs := false) (disch := omega) only [go_sem, ↓reduceIte]
  refine brd (fun h1 => by omega) (fun h1 => ?_)
  simp (implicitDefEqProofs := false) (disch := omega) only [go_sem, ↓reduceIte]
  refine loop (ι := Nat) 1 (fun i => i ≤ m) (fun i => [(0, .sl (.lst 64 n (l.map enV))), (4, .mp 0), (12, .sl (.lst 64 n (l.map enV))), (13, .int .i64 n), (14, .int .i64 i)]) (fun i => [(0, .map ((l.take i).map (·.1)))]) (fun i => m - i) 0 [(0, 0)] [] (Nat.zero_le _) rfl ?_ ?_ ?_ (fun i hi => ?_)
  · simp (implicitDefEqProofs := false) (disch := omega) only [go_sem, ↓reduceIte]
  · simp (implicitDefEqProofs := false) (disch := omega) only [go_sem, ↓reduceIte]
  · simp (implicitDefEqProofs := false) (disch := omega) only [go_sem, ↓reduceIte, List.take_zero]
  simp (implicitDefEqProofs := false) (disch := omega) only [go_sem, ↓reduceIte]
  refine brd (fun h5 => ?_) (fun h5 => by omega)
  by_cases hm : i = m
  · subst hm
    have g1 := fun K => getEn h2 K
    have hb : decide (e.1 ∈ (l.take i).map (·.1)) = true := decide_eq_true h4
    simp (implicitDefEqProofs := false) (disch := omega) only [go_sem, ↓reduceIte, ↓g1, hle, hb]
    omega
  · obtain ⟨x, hx⟩ : ∃ x, l[i]? = some x := ⟨_, List.getElem?_eq_getElem (by omega)⟩
    have g1 := fun K => getEn hx K
    have hsub : ((l.take (i + 1)).map (·.1)).Nodup := List.Nodup.sublist ((List.take_sublist_take_left (by omega)).map _) h3
    have htk : (l.take (i + 1)).map (·.1) = (l.take i).map (·.1) ++ [x.1] := by rw [List.take_add_one, hx]; simp
    rw [htk, List.nodup_append] at hsub
    have hb : decide (x.1 ∈ (l.take i).map (·.1)) = false := decide_eq_false fun hin => hsub.2.2 _ hin _ (List.mem_singleton.2 rfl) rfl
    simp (implicitDefEqProofs := false) (disch := omega) only [go_sem, ↓reduceIte, ↓g1, hle, hb]
    refine ⟨i + 1, [(0, 0)], [], [], by dsimp only; omega, by dsimp only; omega, rfl, ?_, ?_, ?_⟩ <;> simp (implicitDefEqProofs := false) (disch := omega) only [go_sem, ↓reduceIte, htk]
theorem root_full (l : List En) (n : Nat) (hn : l.length = n) (h : 256 < n) : FnC Try.prog 49 [.sl (.lst 64 n (l.map enV))] [] (.tup [.ints .u8 32 (List.replicate 32 0), .int .i64 3]) [] := by
  refine fn0 mix [] 0 1 [.cell 2 25, .tmp 3] Try.func49 rfl (by kernel_rfl) (by kernel_rfl) rfl (by kernel_rfl) (by kernel_rfl) (by simp) ?_
  simp (implicitDefEqProofs := false) (disch := omega) only [go_sem, ↓reduceIte]
  refine call0 (sorted_full l n hn h) ?_
  simp (implicitDefEqProofs := false) (disch := omega) only [go_sem, ↓reduceIte]
theorem root_twice (l : List En) (n : Nat) (hn : l.length = n) (h : n ≤ 256) (hd : ¬ (l.map (·.1)).Nodup) : FnC Try.prog 49 [.sl (.lst 64 n (l.map enV))] [] (.tup [.ints .u8 32 (List.replicate 32 0), .int .i64 5]) [] := by
  refine fn0 mix [] 0 1 [.cell 2 25, .tmp 3] Try.func49 rfl (by kernel_rfl) (by kernel_rfl) rfl (by kernel_rfl) (by kernel_rfl) (by simp) ?_
  simp (implicitDefEqProofs := false) (disch := omega) only [go_sem, ↓reduceIte]
  refine call0 (sorted_twice l n hn h hd) ?_
  simp (implicitDefEqProofs := false) (disch := omega) only [go_sem, ↓reduceIte]
theorem knows17_spec : FnC Try.prog 48 [] [] (.bool true) [] := by
  have g1 : ∀ K, getP ((empties 257).map dg) 256 K = K (.ints .u8 32 (emptyD 256)) := fun K => getP_map (f := dg) (empties_get (n := 257) (i := 256) (by omega)) K
  have l1 : ((empties 257).map dg).length = 257 := by rw [List.length_map, empties_len]
  have h2 : FnC Try.prog 49 [.sl (.lst 64 2 (List.replicate 2 (.agg [.ints .u8 32 (List.replicate 32 0), .ints .u8 32 (List.replicate 32 0)])))] [] (.tup [.ints .u8 32 (List.replicate 32 0), .int .i64 5]) [] := by
    have h := root_twice (List.replicate 2 (zs, zs)) 2 rfl (by decide) (by decide)
    rw [List.map_replicate] at h
    exact h
  have h3 : FnC Try.prog 49 [.sl (.lst 64 257 (List.replicate 257 (.agg [.ints .u8 32 (List.replicate 32 0), .ints .u8 32 (List.replicate 32 0)])))] [] (.tup [.ints .u8 32 (List.replicate 32 0), .int .i64 3]) [] := by
    have h := root_full (List.replicate 257 (zs, zs)) 257 (by rw [List.length_replicate]) (by decide)
    rw [List.map_replicate] at h
    exact h
  have h4 := bit17_spec (128 :: List.replicate 31 0) 255 ⟨rfl, by decide⟩
  have h5 := bit17_spec (List.replicate 31 0 ++ [1]) 0 ⟨rfl, by decide⟩
  rw [show bitD (128 :: List.replicate 31 0) 255 = 1 by decide] at h4
  rw [show bitD (List.replicate 31 0 ++ [1]) 0 = 1 by decide] at h5
  have dE : decide (emptyD 256 = emptyD 256) = true := decide_eq_true rfl
  refine fn0 mix pl48 0 0 [.tmp 0] Try.func48 rfl (by kernel_rfl) (by kernel_rfl) rfl (by kernel_rfl) (by kernel_rfl) (by simp) ?_
  simp (implicitDefEqProofs := false) (disch := omega) only [go_sem, ↓reduceIte]
  refine call0 root_0 ?_
  simp (implicitDefEqProofs := false) (disch := omega) only [go_sem, ↓reduceIte]
  refine callF 1 empty17_spec ?_
  simp (implicitDefEqProofs := false) (disch := omega) only [go_sem, ↓reduceIte]
  refine callB h2 ?_ ?_
  · simp (implicitDefEqProofs := false) (disch := omega) only [go_sem, ↓reduceIte]
  simp (implicitDefEqProofs := false) (disch := omega) only [go_sem, ↓reduceIte]
  refine callB h3 ?_ ?_
  · simp (implicitDefEqProofs := false) (disch := omega) only [go_sem, ↓reduceIte]
  simp (implicitDefEqProofs := false) (disch := omega) only [go_sem, ↓reduceIte, ↓g1, l1, dE]
  refine call0 h4 ?_
  simp (implicitDefEqProofs := false) (disch := omega) only [go_sem, ↓reduceIte, List.replicate_zero, List.append_nil]
  refine call0 h5 ?_
  simp (implicitDefEqProofs := false) (disch := omega) only [go_sem, ↓reduceIte]
theorem same_empties : FnC Try.prog 33 [.sl (.lst 32 257 ((empties 257).map dg)), .sl (.lst 32 257 ((empties 257).map dg))] [] (.bool true) [] := by
  have h := same08_spec (empties 257) (empties 257) (by rw [empties_len]; decide)
  rw [decide_eq_true rfl, empties_len] at h
  exact h
theorem ptreeNodes_spec (a b : List Int) (ha : goodD a) (hb : goodD b) (k : Int) : FnC Try.prog 9 [.agg [.ints .u8 32 a, .ints .u8 32 b], .int .i64 k] [] (.bool true) [] := by
  have e1 := leafP_good a b
  have d1 : decide (leafP a b = leafP a b) = true := decide_eq_true rfl
  have d2 : decide (nodeL a b = nodeL a b) = true := decide_eq_true rfl
  have d3 : decide (bitD a k = bitD a k) = true := decide_eq_true rfl
  refine fn0 mix pl9 0 2 [.tmp 4] Try.func9 rfl (by kernel_rfl) (by kernel_rfl) rfl (by kernel_rfl) (by kernel_rfl) (by simp) ?_
  simp (implicitDefEqProofs := false) (disch := omega) only [go_sem, ↓reduceIte]
  refine callF 1 empty17_spec ?_
  simp (implicitDefEqProofs := false) (disch := omega) only [go_sem, ↓reduceIte]
  refine callF 1 refempty_spec17 ?_
  simp (implicitDefEqProofs := false) (disch := omega) only [go_sem, ↓reduceIte]
  refine callB same_empties ?_ ?_
  · simp (implicitDefEqProofs := false) (disch := omega) only [go_sem, ↓reduceIte]
  simp (implicitDefEqProofs := false) (disch := omega) only [go_sem, ↓reduceIte]
  refine call0 (leaf_spec17 a b ha hb) ?_
  simp (implicitDefEqProofs := false) (disch := omega) only [go_sem, ↓reduceIte]
  refine call0 (refleaf_spec17 a b ha hb) ?_
  simp (implicitDefEqProofs := false) (disch := omega) only [go_sem, ↓reduceIte, d1]
  refine call0 (node_spec17 a b ha hb) ?_
  simp (implicitDefEqProofs := false) (disch := omega) only [go_sem, ↓reduceIte]
  refine call0 (refnode_spec17 a b ha hb) ?_
  simp (implicitDefEqProofs := false) (disch := omega) only [go_sem, ↓reduceIte, d2]
  refine call0 (bit17_spec a k ha) ?_
  simp (implicitDefEqProofs := false) (disch := omega) only [go_sem, ↓reduceIte]
  refine call0 (refbit_spec17 a k ha) ?_
  simp (implicitDefEqProofs := false) (disch := omega) only [go_sem, ↓reduceIte, d3]
  refine call0 knows17_spec ?_
  simp (implicitDefEqProofs := false) (disch := omega) only [go_sem, ↓reduceIte]
end Go.Proofs.Ytclkaibkepaebaa
/- Digests as numbers: halves, bits, the place beside. -/
namespace Go.Proofs.Ytclkaibkepaebaa
open Go Go.Sy Go.Proofs.Try
set_option maxRecDepth 100000
set_option linter.unusedSimpArgs false
set_option linter.unusedVariables false
theorem ofb_par {d : List Int} {i : Nat} (h : i < d.length) : ofb (d.take (i + 1)) % 2 = d.getD i 0 % 2 := by
  rw [ofb_succ h]; omega
theorem ofb_half_take {d : List Int} (hd : goodD d) : ∀ i, i ≤ 32 → ofb ((halfD d).take i) = ofb (d.take i) / 2
  | 0, _ => by rw [List.take_zero, List.take_zero]; rfl
  | i + 1, h => by
    have hx : 0 ≤ d.getD i 0 ∧ d.getD i 0 < 256 := getD_all' hd.2 (by rw [hd.1]; omega)
    have h0 := (ofb_lt hd.2 i).1
    rw [ofb_succ (xs := halfD d) (by rw [(halfD_good hd).1]; omega), ofb_succ (xs := d) (by rw [hd.1]; omega), ofb_half_take hd i (by omega), halfD_get d (by omega)]
    unfold hf
    cases i with
    | zero =>
      rw [if_pos rfl, List.take_zero]
      have : ofb [] = 0 := rfl
      rw [this]
      omega
    | succ i =>
      rw [if_neg (by omega), Nat.add_sub_cancel]
      have hp := ofb_par (d := d) (i := i) (by rw [hd.1]; omega)
      omega
theorem take_all {d : List Int} (hd : goodD d) : d.take 32 = d := List.take_of_length_le (by rw [hd.1]; exact Nat.le_refl _)
theorem ofb_halfD {d : List Int} (hd : goodD d) : ofb (halfD d) = ofb d / 2 := by
  have := ofb_half_take hd 32 (Nat.le_refl _)
  rwa [take_all hd, take_all (halfD_good hd)] at this
theorem ofb_pos {d : List Int} (hd : goodD d) : 0 ≤ ofb d := by
  have := (ofb_lt hd.2 32).1
  rwa [take_all hd] at this
theorem ofb_halfs {d : List Int} (hd : goodD d) : ∀ k, ofb (halfs d k) = ofb d / 2 ^ k
  | 0 => by rw [halfs, show (2 : Int) ^ 0 = 1 by decide, Int.ediv_one]
  | k + 1 => by
    rw [halfs, ofb_halfD (halfs_good hd k), ofb_halfs hd k, Int.pow_succ, Int.ediv_ediv_of_nonneg (Int.pow_nonneg (by decide))]
theorem last_par {d : List Int} (hd : goodD d) : d.getD 31 0 % 2 = ofb d % 2 := by
  have := ofb_par (d := d) (i := 31) (by rw [hd.1]; decide)
  rw [take_all hd] at this
  exact this.symm
theorem bitN_0 (d : List Int) : bitN d 0 = d.getD 31 0 % 2 := by
  show (d.getD 31 0 / 2 ^ 0) % 2 = _
  rw [show (2 : Int) ^ 0 = 1 by decide, Int.ediv_one]
theorem bitD_num {d : List Int} (hd : goodD d) {k : Nat} (h : k < 256) : bitD d (k : Int) = (ofb d / 2 ^ k) % 2 := by
  have e0 : bitD d (k : Int) = bitN d k := by
    unfold bitD bitN
    rw [if_pos (by omega), show ((k : Int) / 8).toNat = k / 8 by omega, show ((k : Int) % 8).toNat = k % 8 by omega]
  have hb := bitN_halfs hd k 0 (by omega)
  rw [Nat.zero_add] at hb
  rw [e0, ← hb, bitN_0, last_par (halfs_good hd k), ofb_halfs hd k]
theorem ofb_inj {a b : List Int} (ha : goodD a) (hb : goodD b) (h : ofb a = ofb b) : a = b := by
  rw [← be_ofb 32 a ha.1 ha.2, ← be_ofb 32 b hb.1 hb.2, h]
/-- The place beside one. -/
def besD (d : List Int) : List Int := d.set 31 (if d.getD 31 0 % 2 = 0 then d.getD 31 0 + 1 else d.getD 31 0 - 1)
theorem besD_good {d : List Int} (hd : goodD d) : goodD (besD d) := by
  have hx : 0 ≤ d.getD 31 0 ∧ d.getD 31 0 < 256 := getD_all' hd.2 (by rw [hd.1]; decide)
  refine ⟨by unfold besD; rw [List.length_set]; exact hd.1, fun x h => ?_⟩
  rcases List.mem_or_eq_of_mem_set h with h | h
  · exact hd.2 x h
  · subst h
    split <;> omega
theorem ofb_split {d : List Int} (hd : d.length = 32) : ofb d = ofb (d.take 31) * 256 + d.getD 31 0 := by
  have := ofb_succ (xs := d) (i := 31) (by omega)
  rwa [List.take_of_length_le (by omega)] at this
theorem ofb_besD {d : List Int} (hd : goodD d) : ofb (besD d) = if ofb d % 2 = 0 then ofb d + 1 else ofb d - 1 := by
  have h1 := ofb_split hd.1
  have h2 := ofb_split (besD_good hd).1
  have h3 : (besD d).take 31 = d.take 31 := by unfold besD; rw [List.take_set_of_le (by decide)]
  have h4 : (besD d).getD 31 0 = if d.getD 31 0 % 2 = 0 then d.getD 31 0 + 1 else d.getD 31 0 - 1 := by
    unfold besD
    rw [List.getD, List.getElem?_set_self (by rw [hd.1]; decide)]
    rfl
  have hp := last_par hd
  rw [h3, h4] at h2
  rw [← hp]
  split at h2
  · rename_i c; rw [if_pos c]; omega
  · rename_i c; rw [if_neg c]; omega
end Go.Proofs.Ytclkaibkepaebaa
/- Where sorted entries go over to the right side; the node of sorted entries. -/
namespace Go.Proofs.Ytclkaibkepaebaa
open Go Go.Sy Go.Proofs.Try
set_option maxRecDepth 100000
set_option maxHeartbeats 8000000
set_option linter.unusedSimpArgs false
set_option linter.unusedVariables false

theorem subC_lstlen (sz m : Nat) (es : List AV) (lo len : Nat) (κ : AV → Prop) (h : es.length = m) : subC (.lst sz m es) lo len κ = (lo + len ≤ m ∧ κ (.lst sz len ((es.drop lo).take len))) := by
  rw [subC_lst]
  by_cases e : lo = 0 ∧ len = m
  · obtain ⟨rfl, rfl⟩ := e
    rw [show decide (0 = 0 ∧ len = len) = true from decide_eq_true ⟨rfl, rfl⟩, brC_true, List.drop_zero, List.take_of_length_le (by omega)]
  · rw [decide_eq_false e, brC_false]
/-- Is an entry on the right side, at a level? -/
def rightE (k : Nat) (e : En) : Bool := decide (bitD e.1 (k : Int) = 1)
/-- How many entries stand ahead of the first one on the right side. -/
def cutN (k : Nat) : List En → Nat
  | [] => 0
  | e :: l => if rightE k e = true then 0 else cutN k l + 1
theorem cutN_le (k : Nat) : ∀ l : List En, cutN k l ≤ l.length
  | [] => Nat.le_refl _
  | e :: l => by
    have := cutN_le k l
    rw [cutN, List.length_cons]
    split <;> omega
theorem cutN_before (k : Nat) : ∀ (l : List En) (i : Nat) (e : En), i < cutN k l → l[i]? = some e → rightE k e = false
  | [], i, e, h, _ => by rw [cutN] at h; omega
  | x :: l, i, e, h, hx => by
    rw [cutN] at h
    split at h
    · omega
    · rename_i c
      cases i with
      | zero => cases hx; simpa using c
      | succ i => exact cutN_before k l i e (by omega) hx
theorem cutN_at (k : Nat) : ∀ (l : List En) (e : En), l[cutN k l]? = some e → rightE k e = true
  | [], e, h => by cases h
  | x :: l, e, h => by
    rw [cutN] at h
    split at h
    · rename_i c; cases h; exact c
    · exact cutN_at k l e (by simpa using h)
section
variable (k : Nat) (hk : k < 256)
include hk in
theorem cutB_spec (a b : List Int) (ha : goodD a) : FnC Try.prog 145 [.agg [.ints .u8 32 a, .ints .u8 32 b], .ref 0 []] [(0, .var (.int .i64 ((k : Int) + 1)))] (.bool (rightE k (a, b))) [(0, .var (.int .i64 ((k : Int) + 1)))] := by
  have h := bit17_spec a k ha
  have e : (k : Int) + 1 - 1 = k := by omega
  have er : decide (bitD a k = 1) = rightE k (a, b) := rfl
  refine fnN mix [] 1 2 [.tmp 3] Try.func145 rfl (by kernel_rfl) (by kernel_rfl) rfl (by kernel_rfl) (by kernel_rfl) (by simp) ?_
  simp (implicitDefEqProofs := false) (disch := omega) only [go_sem, ↓reduceIte, e]
  refine call0 h ?_
  simp (implicitDefEqProofs := false) (disch := omega) only [go_sem, ↓reduceIte, er]
  refine ⟨[(0, 0)], [], [], rfl, ?_, ?_, ?_⟩ <;> simp (implicitDefEqProofs := false) (disch := omega) only [go_sem, ↓reduceIte, er]
def idxN (k : Nat) (l : List En) : Int := if cutN k l < l.length then cutN k l else -1
include hk in
theorem index_spec (l : List En) (n : Nat) (hn : l.length = n) (hl : n ≤ 1000) (hg : ∀ e ∈ l, goodE e) :
    FnC Try.prog 144 [.sl (.lst 64 n (l.map enV)), .fn (.func 145) [.ref 0 []]] [(0, .var (.int .i64 ((k : Int) + 1)))] (.int .i64 (idxN k l)) [(0, .var (.int .i64 ((k : Int) + 1)))] := by
  have hle : (l.map enV).length = n := by rw [List.length_map, hn]
  have hc := cutN_le k l
  refine fnN mix [] 1 2 [.tmp 4] Try.func144 rfl (by kernel_rfl) (by kernel_rfl) rfl (by kernel_rfl) (by kernel_rfl) (by simp) ?_
  simp (implicitDefEqProofs := false) (disch := omega) only [go_sem, ↓reduceIte]
  refine loop (ι := Nat) 1 (fun i => i ≤ cutN k l) (fun i => [(0, .sl (.lst 64 n (l.map enV))), (1, .fn (.func 145) [.ref 0 []]), (7, .int .i64 n), (8, .int .i64 i)]) (fun i => [(0, .var (.int .i64 ((k : Int) + 1)))]) (fun i => n - i) 0 [(0, 0)] [] (Nat.zero_le _) rfl ?_ ?_ ?_ (fun i hi => ?_)
  · simp (implicitDefEqProofs := false) (disch := omega) only [go_sem, ↓reduceIte]
  · simp (implicitDefEqProofs := false) (disch := omega) only [go_sem, ↓reduceIte]
  · simp (implicitDefEqProofs := false) (disch := omega) only [go_sem, ↓reduceIte]
  simp (implicitDefEqProofs := false) (disch := omega) only [go_sem, ↓reduceIte]
  refine brd (fun h => ?_) (fun h => ?_)
  · obtain ⟨x, hx⟩ : ∃ x, l[i]? = some x := ⟨_, List.getElem?_eq_getElem (by omega)⟩
    have g1 := fun K => getEn hx K
    have hgx := hg x (List.mem_of_getElem? hx)
    have hb := cutB_spec k hk x.1 x.2 hgx.1
    have ex : (x.1, x.2) = x := rfl
    rw [ex] at hb
    by_cases hm : i = cutN k l
    · subst hm
      rw [cutN_at k l x hx] at hb
      have hidx : idxN k l = (cutN k l : Int) := by unfold idxN; rw [if_pos (by omega)]
      rw [hidx]
      simp (implicitDefEqProofs := false) (disch := omega) only [go_sem, ↓reduceIte, ↓g1, hle]
      refine callG false [(0, 0)] [(0, 0)] 1 hb ?_ ?_
      · simp [keys]
      simp (implicitDefEqProofs := false) (disch := omega) only [go_sem, ↓reduceIte]
      refine ⟨[(0, 0)], [], [], rfl, ?_, ?_, ?_⟩ <;> simp (implicitDefEqProofs := false) (disch := omega) only [go_sem, ↓reduceIte]
    · rw [cutN_before k l i x (by omega) hx] at hb
      simp (implicitDefEqProofs := false) (disch := omega) only [go_sem, ↓reduceIte, ↓g1, hle]
      refine callG false [(0, 0)] [(0, 0)] 1 hb ?_ ?_
      · simp [keys]
      simp (implicitDefEqProofs := false) (disch := omega) only [go_sem, ↓reduceIte]
      refine ⟨i + 1, [(0, 0)], [], [], by dsimp only; omega, by dsimp only; omega, rfl, ?_, ?_, ?_⟩ <;> simp (implicitDefEqProofs := false) (disch := omega) only [go_sem, ↓reduceIte]
  · have hidx : idxN k l = -1 := by unfold idxN; rw [if_neg (by omega)]
    rw [hidx]
    simp (implicitDefEqProofs := false) (disch := omega) only [go_sem, ↓reduceIte]
    refine ⟨[(0, 0)], [], [], rfl, ?_, ?_, ?_⟩ <;> simp (implicitDefEqProofs := false) (disch := omega) only [go_sem, ↓reduceIte]
include hk in
theorem cut_spec (l : List En) (n : Nat) (hn : l.length = n) (hl : n ≤ 1000) (hg : ∀ e ∈ l, goodE e) : FnC Try.prog 101 [.sl (.lst 64 n (l.map enV)), .int .i64 ((k : Int) + 1)] [] (.int .i64 (cutN k l : Nat)) [] := by
  have h := index_spec k hk l n hn hl hg
  have hc := cutN_le k l
  refine fn0 mix [] 0 2 [.tmp 4] Try.func101 rfl (by kernel_rfl) (by kernel_rfl) rfl (by kernel_rfl) (by kernel_rfl) (by simp) ?_
  simp (implicitDefEqProofs := false) (disch := omega) only [go_sem, ↓reduceIte]
  refine callG false [(0, 0)] [(0, 0)] 1 h ?_ ?_
  · simp [keys]
  by_cases c : cutN k l < l.length
  · have hidx : idxN k l = (cutN k l : Int) := by unfold idxN; rw [if_pos c]
    rw [hidx]
    simp (implicitDefEqProofs := false) (disch := omega) only [go_sem, ↓reduceIte]
    refine brd (fun h => by omega) (fun h => ?_)
    simp (implicitDefEqProofs := false) (disch := omega) only [go_sem, ↓reduceIte]
  · have hidx : idxN k l = -1 := by unfold idxN; rw [if_neg c]
    have e : cutN k l = n := by omega
    rw [hidx, e]
    simp (implicitDefEqProofs := false) (disch := omega) only [go_sem, ↓reduceIte]
end
end Go.Proofs.Ytclkaibkepaebaa
/- The node of sorted entries. -/
namespace Go.Proofs.Ytclkaibkepaebaa
open Go Go.Sy Go.Proofs.Try
set_option maxRecDepth 100000
set_option maxHeartbeats 8000000
set_option linter.unusedSimpArgs false
set_option linter.unusedVariables false
attribute [go_sem] pl98
def nodeP : Nat → List En → List Int
  | 0, [] => emptyD 0
  | 0, e :: _ => leafP e.1 e.2
  | k + 1, [] => emptyD (k + 1)
  | k + 1, e :: l => nodeL (nodeP k ((e :: l).take (cutN k (e :: l)))) (nodeP k ((e :: l).drop (cutN k (e :: l))))
theorem nodeP_nil (k : Nat) : nodeP k [] = emptyD k := by cases k <;> rfl
theorem nodeP_succ (k : Nat) {l : List En} (h : l ≠ []) : nodeP (k + 1) l = nodeL (nodeP k (l.take (cutN k l))) (nodeP k (l.drop (cutN k l))) := by
  cases l with
  | nil => exact absurd rfl h
  | cons e l => rfl
theorem nodeP_good : ∀ (k : Nat) (l : List En), goodD (nodeP k l)
  | 0, [] => emptyD_good 0
  | 0, _ :: _ => leafP_good _ _
  | k + 1, [] => emptyD_good _
  | k + 1, _ :: _ => nodeL_good _ _
theorem node_spec : ∀ (k : Nat), k ≤ 256 → ∀ (l : List En) (n : Nat), l.length = n → n ≤ 1000 → (∀ e ∈ l, goodE e) →
    FnC Try.prog 98 [.agg [.sl (.lst 32 257 ((empties 257).map dg))], .sl (.lst 64 n (l.map enV)), .int .i64 (k : Nat)] [] (.ints .u8 32 (nodeP k l)) [] := by
  intro k
  have l1 : ((empties 257).map dg).length = 257 := by rw [List.length_map, empties_len]
  induction k with
  | zero =>
    intro hk l n hn hl hg
    have g1 : ∀ K, getP ((empties 257).map dg) 0 K = K (.ints .u8 32 (emptyD 0)) := fun K => getP_map (f := dg) (empties_get (n := 257) (i := 0) (by omega)) K
    cases l with
    | nil =>
      obtain rfl : n = 0 := hn.symm
      refine fn0 mix pl98 0 3 [.cell 6 25] Try.func98 rfl (by kernel_rfl) (by kernel_rfl) rfl (by kernel_rfl) (by kernel_rfl) (by simp) ?_
      simp (implicitDefEqProofs := false) (disch := omega) only [go_sem, ↓reduceIte, ↓g1, l1, nodeP_nil]
    | cons e l =>
      have g2 : ∀ K, getP ((e :: l).map enV) 0 K = K (.agg [.ints .u8 32 e.1, .ints .u8 32 e.2]) := fun K => getEn (l := e :: l) (i := 0) rfl K
      have hle : ((e :: l).map enV).length = n := by rw [List.length_map, hn]
      have hge := hg e (List.mem_cons_self ..)
      have hn0 : 0 < n := by rw [← hn]; simp
      have d0 : decide ((n : Int) = 0) = false := decide_eq_false (by omega)
      have hlf := leaf_spec17 e.1 e.2 hge.1 hge.2
      rw [show nodeP 0 (e :: l) = leafP e.1 e.2 from rfl]
      generalize (e :: l).map enV = R at *
      refine fn0 mix pl98 0 3 [.cell 6 25] Try.func98 rfl (by kernel_rfl) (by kernel_rfl) rfl (by kernel_rfl) (by kernel_rfl) (by simp) ?_
      simp (implicitDefEqProofs := false) (disch := omega) only [go_sem, ↓reduceIte, d0, ↓g2, hle]
      refine call0 hlf ?_
      simp (implicitDefEqProofs := false) (disch := omega) only [go_sem, ↓reduceIte]
  | succ k ih =>
    intro hk l n hn hl hg
    by_cases h0 : n = 0
    · subst h0
      obtain rfl : l = [] := List.length_eq_zero_iff.1 hn
      have g1 : ∀ K, getP ((empties 257).map dg) (k + 1) K = K (.ints .u8 32 (emptyD (k + 1))) := fun K => getP_map (f := dg) (empties_get (n := 257) (i := k + 1) (by omega)) K
      have ti : ((k : Int) + 1).toNat = k + 1 := by omega
      refine fn0 mix pl98 0 3 [.cell 6 25] Try.func98 rfl (by kernel_rfl) (by kernel_rfl) rfl (by kernel_rfl) (by kernel_rfl) (by simp) ?_
      simp (implicitDefEqProofs := false) (disch := omega) only [go_sem, ↓reduceIte, ti, ↓g1, l1, nodeP_nil]
      omega
    · have hne : l ≠ [] := fun e => h0 (by rw [← hn, e]; rfl)
      have d0 : decide ((n : Int) = 0) = false := decide_eq_false (by omega)
      have d1 : decide ((k : Int) + 1 = 0) = false := decide_eq_false (by omega)
      have e1 : (k : Int) + 1 - 1 = k := by omega
      have hc := cutN_le k l
      have hcut := cut_spec k (by omega) l n hn hl hg
      have h1 := ih (by omega) (l.take (cutN k l)) (cutN k l) (by rw [List.length_take]; omega) (by omega) (fun e h => hg e (List.mem_of_mem_take h))
      have h2 := ih (by omega) (l.drop (cutN k l)) (n - cutN k l) (by rw [List.length_drop, hn]) (by omega) (fun e h => hg e (List.mem_of_mem_drop h))
      have hN := node_spec17 _ _ (nodeP_good k (l.take (cutN k l))) (nodeP_good k (l.drop (cutN k l)))
      rw [← nodeP_succ k hne] at hN
      rw [List.map_take] at h1
      rw [List.map_drop] at h2
      have hle : (l.map enV).length = n := by rw [List.length_map, hn]
      generalize cutN k l = c at *
      generalize l.map enV = R at *
      refine fn0 mix pl98 0 3 [.cell 6 25] Try.func98 rfl (by kernel_rfl) (by kernel_rfl) rfl (by kernel_rfl) (by kernel_rfl) (by simp) ?_
      simp (implicitDefEqProofs := false) (disch := omega) only [go_sem, ↓reduceIte, d0, d1]
      refine call0 hcut ?_
      simp (implicitDefEqProofs := false) (disch := omega) only [go_sem, ↓reduceIte, e1]
      by_cases hcn : c = n
      · have t1 : decide (c = n) = true := decide_eq_true hcn
        have t2 : decide (c = 0 ∧ n - c = n) = false := decide_eq_false (fun h => h0 (by omega))
        rw [show (R.take c) = R from List.take_of_length_le (by omega), hcn] at h1
        have h2' := h2
        rw [hcn] at h2 t2
        subst hcn
        have t3 : (R.drop c).take (c - c) = R.drop c := List.take_of_length_le (by rw [List.length_drop, hle]; exact Nat.le_refl _)
        simp (implicitDefEqProofs := false) (disch := omega) only [go_sem, ↓reduceIte, t1, e1]
        refine call0 h1 ?_
        simp (implicitDefEqProofs := false) (disch := omega) only [go_sem, ↓reduceIte, t2, t3, e1]
        refine call0 h2 ?_
        simp (implicitDefEqProofs := false) (disch := omega) only [go_sem, ↓reduceIte]
        refine call0 hN ?_
        simp (implicitDefEqProofs := false) (disch := omega) only [go_sem, ↓reduceIte]
      · have t1 : decide (c = n) = false := decide_eq_false hcn
        simp (implicitDefEqProofs := false) (disch := omega) only [go_sem, ↓reduceIte, t1, Nat.sub_zero, List.drop_zero, e1]
        refine call0 h1 ?_
        by_cases hc0 : c = 0
        · subst hc0
          have t2 : decide (0 = 0 ∧ n - 0 = n) = true := decide_eq_true ⟨rfl, Nat.sub_zero n⟩
          simp only [Nat.sub_zero, List.drop_zero, List.take_zero] at h2 hN
          simp (implicitDefEqProofs := false) (disch := omega) only [go_sem, ↓reduceIte, t2, e1]
          refine call0 h2 ?_
          simp (implicitDefEqProofs := false) (disch := omega) only [go_sem, ↓reduceIte]
          refine call0 hN ?_
          simp (implicitDefEqProofs := false) (disch := omega) only [go_sem, ↓reduceIte]
        · have t2 : decide (c = 0 ∧ n - c = n) = false := decide_eq_false (fun h => hc0 h.1)
          have t3 : (R.drop c).take (n - c) = R.drop c := List.take_of_length_le (by rw [List.length_drop, hle]; exact Nat.le_refl _)
          simp (implicitDefEqProofs := false) (disch := omega) only [go_sem, ↓reduceIte, t2, t3, e1]
          refine call0 h2 ?_
          simp (implicitDefEqProofs := false) (disch := omega) only [go_sem, ↓reduceIte]
          refine call0 hN ?_
          simp (implicitDefEqProofs := false) (disch := omega) only [go_sem, ↓reduceIte]
end Go.Proofs.Ytclkaibkepaebaa
