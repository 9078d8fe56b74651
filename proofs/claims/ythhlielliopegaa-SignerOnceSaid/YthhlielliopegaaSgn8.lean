/- The walk of SignerOnce. -/
import Derived.Test.YthhlielliopegaaSgn7
import Derived.Test.YthhlielliopegaaPlays
namespace Go.Proofs.Ythhlielliopegaa
open Go Go.Sy Go.Proofs.Try
set_option maxRecDepth 100000
set_option maxHeartbeats 40000000
set_option linter.unusedSimpArgs false
set_option linter.unusedVariables false

structure Dd where
  w : Int
  m : List Int
  n : Int
  k : List Int
def ddV (x : Dd) : AV := .agg [.int .i64 x.w, .sl (.ints .u8 x.m.length x.m), .int .i64 x.n, .sl (.ints .i64 x.k.length x.k)]
theorem few15_spec (l : List Dd) (nl : Nat) (hnl : l.length = nl) (hl : nl ≤ 9223372036854775807) (hb : ∀ x ∈ l, x.m.length ≤ 9223372036854775807 ∧ x.k.length ≤ 9223372036854775807) :
    ∃ r : Bool, FnC Try.prog 13 [.sl (.lst 4 nl (l.map ddV))] [] (.bool r) [] ∧ (r = true → nl ≤ 60 ∧ ∀ x ∈ l, x.m.length ≤ 300 ∧ x.k.length ≤ 20) := by
  have hle : (l.map ddV).length = nl := by rw [List.length_map, hnl]
  by_cases c : ∀ x ∈ l, x.m.length ≤ 300 ∧ x.k.length ≤ 20
  · refine ⟨decide ((nl : Int) ≤ 60), ?_, fun h => ⟨by have := of_decide_eq_true h; omega, c⟩⟩
    refine fn0 mix [] 0 1 [.tmp 2] Try.func13 rfl (by kernel_rfl) (by kernel_rfl) rfl (by kernel_rfl) (by kernel_rfl) (by simp) ?_
    simp (implicitDefEqProofs := false) (disch := omega) only [go_sem, ↓reduceIte]
    refine loop (ι := Nat) 0 (fun i => i ≤ nl) (fun i => [(0, .sl (.lst 4 nl (l.map ddV))), (3, .int .i64 i)]) (fun i => []) (fun i => nl - i) 0 [] [] (Nat.zero_le _) rfl ?_ ?_ ?_ (fun i hi => ?_)
    · simp (implicitDefEqProofs := false) (disch := omega) only [go_sem, ↓reduceIte]
    · simp (implicitDefEqProofs := false) (disch := omega) only [go_sem, ↓reduceIte]
    · simp (implicitDefEqProofs := false) (disch := omega) only [go_sem, ↓reduceIte]
    simp (implicitDefEqProofs := false) (disch := omega) only [go_sem, ↓reduceIte]
    refine brd (fun h => ?_) (fun h => ?_)
    · have hi' : i < l.length := by omega
      have hg : ∀ K, getP (l.map ddV) i K = K (.agg [.int .i64 (l[i]).w, .sl (.ints .u8 (l[i]).m.length (l[i]).m), .int .i64 (l[i]).n, .sl (.ints .i64 (l[i]).k.length (l[i]).k)]) := fun K => getP_map (f := ddV) (List.getElem?_eq_getElem hi') K
      have hc := c _ (List.getElem_mem hi')
      generalize l[i] = x at *
      have d1 : decide (300 < (x.m.length : Int)) = false := decide_eq_false (by omega)
      have d2 : decide (20 < (x.k.length : Int)) = false := decide_eq_false (by omega)
      simp (implicitDefEqProofs := false) (disch := omega) only [go_sem, ↓reduceIte, ↓hg, hle, d1, d2]
      refine ⟨i + 1, [], [], [], by dsimp only; omega, by dsimp only; omega, rfl, ?_, ?_, ?_⟩ <;> simp (implicitDefEqProofs := false) (disch := omega) only [go_sem, ↓reduceIte]
    · simp (implicitDefEqProofs := false) (disch := omega) only [go_sem, ↓reduceIte]
  · refine ⟨false, ?_, fun h => by cases h⟩
    refine fn0 mix [] 0 1 [.tmp 2] Try.func13 rfl (by kernel_rfl) (by kernel_rfl) rfl (by kernel_rfl) (by kernel_rfl) (by simp) ?_
    simp (implicitDefEqProofs := false) (disch := omega) only [go_sem, ↓reduceIte]
    refine loop (ι := Nat) 0 (fun i => i ≤ nl ∧ ∀ j, (h : j < l.length) → j < i → (l[j]).m.length ≤ 300 ∧ (l[j]).k.length ≤ 20) (fun i => [(0, .sl (.lst 4 nl (l.map ddV))), (3, .int .i64 i)]) (fun i => []) (fun i => nl - i) 0 [] [] ⟨Nat.zero_le _, fun j h h' => absurd h' (by omega)⟩ rfl ?_ ?_ ?_ (fun i hi => ?_)
    · simp (implicitDefEqProofs := false) (disch := omega) only [go_sem, ↓reduceIte]
    · simp (implicitDefEqProofs := false) (disch := omega) only [go_sem, ↓reduceIte]
    · simp (implicitDefEqProofs := false) (disch := omega) only [go_sem, ↓reduceIte]
    obtain ⟨hi, hq⟩ := hi
    simp (implicitDefEqProofs := false) (disch := omega) only [go_sem, ↓reduceIte]
    refine brd (fun h => ?_) (fun h => ?_)
    · have hi' : i < l.length := by omega
      have hg : ∀ K, getP (l.map ddV) i K = K (.agg [.int .i64 (l[i]).w, .sl (.ints .u8 (l[i]).m.length (l[i]).m), .int .i64 (l[i]).n, .sl (.ints .i64 (l[i]).k.length (l[i]).k)]) := fun K => getP_map (f := ddV) (List.getElem?_eq_getElem hi') K
      have hbi := hb _ (List.getElem_mem hi')
      have hq' : (l[i]).m.length ≤ 300 → (l[i]).k.length ≤ 20 → ∀ j, (h : j < l.length) → j < i + 1 → (l[j]).m.length ≤ 300 ∧ (l[j]).k.length ≤ 20 := fun h1 h2 j hj hji => by
        by_cases e : j = i
        · subst e; exact ⟨h1, h2⟩
        · exact hq j hj (by omega)
      generalize l[i] = x at *
      simp (implicitDefEqProofs := false) (disch := omega) only [go_sem, ↓reduceIte, ↓hg, hle]
      refine brd (fun h1 => ?_) (fun h1 => ?_)
      · simp (implicitDefEqProofs := false) (disch := omega) only [go_sem, ↓reduceIte]
      simp (implicitDefEqProofs := false) (disch := omega) only [go_sem, ↓reduceIte, ↓hg, hle]
      refine brd (fun h2 => ?_) (fun h2 => ?_)
      · simp (implicitDefEqProofs := false) (disch := omega) only [go_sem, ↓reduceIte]
      simp (implicitDefEqProofs := false) (disch := omega) only [go_sem, ↓reduceIte]
      refine ⟨i + 1, [], [], [], ⟨by omega, hq' (by omega) (by omega)⟩, by dsimp only; omega, rfl, ?_, ?_, ?_⟩ <;> simp (implicitDefEqProofs := false) (disch := omega) only [go_sem, ↓reduceIte]
    · exfalso
      apply c
      intro x hx
      obtain ⟨j, hj, rfl⟩ := List.getElem_of_mem hx
      exact hq j hj (by omega)
end Go.Proofs.Ythhlielliopegaa
