/- The words of planchetlaw01 that know an example; the walk of ShaSums. -/
import Derived.Test.YtnonjfknpajpaaaRefSum
namespace Go.Proofs.Ytnonjfknpajpaaa
open Go Go.Sy Go.Proofs.Try
set_option maxRecDepth 100000
set_option maxHeartbeats 16000000
set_option linter.unusedSimpArgs false
set_option linter.unusedVariables false

theorem ex_map' {α : Type} {f : α → AV} {Q : α → Prop} : ∀ {es : List AV}, (∀ x ∈ es, ∃ a, x = f a ∧ Q a) → ∃ l : List α, es = l.map f ∧ ∀ a ∈ l, Q a
  | [], _ => ⟨[], rfl, by simp⟩
  | e :: es, h => by
    obtain ⟨a, rfl, ha⟩ := h e (by simp)
    obtain ⟨l, rfl, hl⟩ := ex_map' (es := es) (fun x hx => h x (by simp [hx]))
    refine ⟨a :: l, rfl, fun b hb => ?_⟩
    rcases List.mem_cons.1 hb with rfl | hb
    · exact ha
    · exact hl b hb
theorem sum_abc : sumD [97, 98, 99] = [186, 120, 22, 191, 143, 1, 207, 234, 65, 65, 64, 222, 93, 174, 34, 35, 176, 3, 97, 163, 150, 23, 122, 156, 180, 16, 255, 97, 242, 0, 21, 173] := by decide +kernel
theorem sum_none : sumD [] = [227, 176, 196, 66, 152, 252, 28, 20, 154, 251, 244, 200, 153, 111, 185, 36, 39, 174, 65, 228, 100, 155, 147, 76, 164, 149, 153, 27, 120, 82, 184, 85] := by decide +kernel
theorem sums_nil_spec : FnC Try.prog 50 [.nils] [] (.ints .u8 32 (sumD [])) [] := by
  refine fn0 mix [] 0 1 [.cell 2 34] Try.func50 rfl (by kernel_rfl) (by kernel_rfl) rfl (by kernel_rfl) (by kernel_rfl) (by simp) ?_
  simp (implicitDefEqProofs := false) (disch := omega) only [go_sem, ↓reduceIte]
  refine callF 2 new_abs ?_
  simp (implicitDefEqProofs := false) (disch := omega) only [go_sem, ↓reduceIte]
  refine loop (ι := Unit) 3 (fun i => True) (fun i => [(8, .int .i64 0), (9, .int .i64 0), (3, .ref 1 []), (2, .ref 0 [])]) (fun i => [(0, .var (.ints .u8 32 (List.replicate 32 0))), (1, .var (.agg [.ints .u32 8 (hst []), .osl 2 [] 1 0 (hrest []).length, .int .i64 ([] : List Int).length])), (2, .row (.ints .u8 (hrest []).length (hrest [])))]) (fun i => 0) () [(0, 0), (1, 1), (2, 2)] [] trivial rfl ?_ ?_ ?_ (fun i hi => ?_)
  · simp (implicitDefEqProofs := false) (disch := omega) only [go_sem, ↓reduceIte]
  · simp (implicitDefEqProofs := false) (disch := omega) only [go_sem, ↓reduceIte]
  · simp (implicitDefEqProofs := false) (disch := omega) only [go_sem, ↓reduceIte]
  simp (implicitDefEqProofs := false) (disch := omega) only [go_sem, ↓reduceIte]
  refine callG false [(0, 1), (1, 2)] [(0, 1), (1, 3)] 4 (sum_abs [] (by simp) (by decide)) ?_ ?_
  · simp [keys]
  simp (implicitDefEqProofs := false) (disch := omega) only [go_sem, ↓reduceIte]
theorem knows01_spec : FnC Try.prog 49 [] [] (.bool true) [] := by
  have h1 := sums_spec [[97, 98, 99]] (by simp) (by decide) (by decide)
  have e1 : cat [[97, 98, 99]] = [97, 98, 99] := rfl
  rw [e1, sum_abc] at h1
  have h2 := sums_nil_spec
  rw [sum_none] at h2
  refine fn0 mix [] 0 0 [.tmp 0] Try.func49 rfl (by kernel_rfl) (by kernel_rfl) rfl (by kernel_rfl) (by kernel_rfl) (by simp) ?_
  simp (implicitDefEqProofs := false) (disch := omega) only [go_sem, ↓reduceIte]
  refine callB h1 ?_ ?_
  · simp (implicitDefEqProofs := false) (disch := omega) only [go_sem, ↓reduceIte, bsl]
  simp (implicitDefEqProofs := false) (disch := omega) only [go_sem, ↓reduceIte]
  refine call0 h2 ?_
  simp (implicitDefEqProofs := false) (disch := omega) only [go_sem, ↓reduceIte]
theorem shaSums_spec (ps : List (List Int)) (hb : ∀ p ∈ ps, ∀ x ∈ p, 0 ≤ x ∧ x < 256) (hp : ∀ p ∈ ps, p.length ≤ 140737488351232) (hl : ps.length ≤ 9223372036854775807) : FnC Try.prog 12 [.sl (.lst 1 ps.length (ps.map bsl))] [] (.bool true) [] := by
  refine fn0 mix [] 0 1 [.tmp 2] Try.func12 rfl (by kernel_rfl) (by kernel_rfl) rfl (by kernel_rfl) (by kernel_rfl) (by simp) ?_
  simp (implicitDefEqProofs := false) (disch := omega) only [go_sem, ↓reduceIte]
  refine call0 (few_spec ps 3000 hl (fun p h => Nat.le_trans (hp p h) (by decide))) ?_
  simp (implicitDefEqProofs := false) (disch := omega) only [go_sem, ↓reduceIte]
  refine br (fun h => ?_) (fun h => ?_)
  · simp only [Bool.and_eq_true, decide_eq_true_eq] at h
    have hw := wsum_eq ps hp ps.length (by omega) (Nat.le_refl _)
    rw [List.take_length] at hw
    have hn : (cat ps).length ≤ 3000 := by omega
    have hm := cat_mem hb ps.length
    rw [List.take_length] at hm
    simp (implicitDefEqProofs := false) (disch := omega) only [go_sem, ↓reduceIte]
    refine call0 (sums_spec ps hb (by omega) (by omega)) ?_
    simp (implicitDefEqProofs := false) (disch := omega) only [go_sem, ↓reduceIte]
    refine callF 1 (join_spec ps hl (by omega)) ?_
    simp (implicitDefEqProofs := false) (disch := omega) only [go_sem, ↓reduceIte]
    refine callB (refsum_spec (cat ps) hm (by omega)) ?_ ?_
    · simp (implicitDefEqProofs := false) (disch := omega) only [go_sem, ↓reduceIte]
    simp (implicitDefEqProofs := false) (disch := omega) only [go_sem, ↓reduceIte]
    refine call0 knows01_spec ?_
    simp (implicitDefEqProofs := false) (disch := omega) only [go_sem, ↓reduceIte]
  · simp (implicitDefEqProofs := false) (disch := omega) only [go_sem, ↓reduceIte]
    refine call0 knows01_spec ?_
    simp (implicitDefEqProofs := false) (disch := omega) only [go_sem, ↓reduceIte]
end Go.Proofs.Ytnonjfknpajpaaa
