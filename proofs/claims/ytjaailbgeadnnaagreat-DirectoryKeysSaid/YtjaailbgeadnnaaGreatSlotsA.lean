/- Two sectors that keep one text, at any place of the disk: opened. -/
import Derived.Test.YtjaailbgeadnnaaGreatSlots
namespace Go.Proofs.YtjaailbgeadnnaaGreat
open Go Go.Sy Go.Proofs.Tryz
set_option maxRecDepth 100000
set_option maxHeartbeats 8000000
set_option linter.unusedSimpArgs false
set_option linter.unusedVariables false
attribute [go_sem] pl59
abbrev slVA (A : Nat) (S : SS) : AV := .agg [.ref 0 [], .int .i64 A, .int .i64 S.turn, .sl (.ints .u8 S.text.length S.text), .bool S.gone]
abbrev slOA (A i j : Nat) (D : DS) (S : SS) : OO := [(0, .var (dskV i j D)), (1, .var (slVA A S)), (i, .row (.ints .u8 D.b.length D.b)), (j, .row (.lst 2 D.wait.length (D.wait.map wtV)))]
attribute [go_sem] slVA slOA
attribute [simp] slOA
theorem turn_specA (A : Nat) (D : DS) (S : SS) : FnC Tryz.prog 23 [.ref 1 []] (slOA A 2 3 D S) (.int .i64 S.turn) (slOA A 4 5 D S) := by
  refine fnV mix [] 2 4 1 [.tmp 2] Tryz.func23 rfl (by kernel_rfl) (by kernel_rfl) rfl (by kernel_rfl) (by kernel_rfl) (by simp) rfl rfl ?_
  simp (implicitDefEqProofs := false) (disch := omega) only [go_sem, ↓reduceIte]
  refine ⟨[(0, 0), (1, 1), (4, 2), (5, 3)], [], [], rfl, ?_, ?_, ?_⟩ <;> simp (implicitDefEqProofs := false) (disch := omega) only [go_sem, ↓reduceIte]
theorem text_specA (A : Nat) (D : DS) (S : SS) (hl : S.text.length ≤ 100000) : FnC Tryz.prog 22 [.ref 1 []] (slOA A 2 3 D S) (.osl 6 [] 1 0 S.text.length) (slOA A 4 5 D S ++ [(6, .row (.ints .u8 S.text.length S.text))]) := by
  refine fnV mix [] 2 4 1 [.tmp 2] Tryz.func22 rfl (by kernel_rfl) (by kernel_rfl) rfl (by kernel_rfl) (by kernel_rfl) (by simp) rfl rfl ?_
  simp (implicitDefEqProofs := false) (disch := omega) only [go_sem, ↓reduceIte, List.nil_append]
  refine ⟨[(0, 0), (1, 1), (4, 2), (5, 3), (6, 5)], [], [], rfl, ?_, ?_, ?_⟩ <;> simp (implicitDefEqProofs := false) (disch := omega) only [go_sem, ↓reduceIte]
abbrev lkOA (A i j : Nat) (D : DS) (S : SS) : OO := [(0, .var (dskV i j D)), (1, .var (slVA A S)), (2, .var (.ref 0 [])), (3, .var (.int .i64 A)), (4, .var (.ref 1 [])), (i, .row (.ints .u8 D.b.length D.b)), (j, .row (.lst 2 D.wait.length (D.wait.map wtV)))]
attribute [go_sem] lkOA
attribute [simp] lkOA
theorem look_specA (A : Nat) (D : DS) (h : okD D) (ho : D.off = false) (hz : 18 ≤ D.sz) (S : SS) (hS : S.turn ≤ 4611686018427387904) (I : Nat) (hi : thereD D ((A + I : Nat) : Int)) (hb : ∀ x ∈ readB D (A + I), 0 ≤ x ∧ x < 256) :
    FnC Tryz.prog 59 [.int .i64 I, .ref 2 [], .ref 3 [], .ref 4 []] (lkOA A 5 6 D S) (.tup []) (lkOA A 7 8 D (lookS S (readV D.sz (readB D (A + I))))) := by
  obtain ⟨I', e, hI⟩ := there_at h hi
  obtain rfl : A + I = I' := by omega
  have hrl := readB_len h hI
  have k1 := read_ok D h ho (A + I) hi
  have k2 := read_gen D.sz (readB D (A + I)) hz h.sz2 hrl hb
  have hIl : A + I ≤ 32768 := by have := h.bl; have := Nat.le_mul_of_pos_right (A + I) h.sz1; omega
  rw [Int.natCast_add] at k1
  have hr0 : (readV D.sz (readB D (A + I))).1 ≤ 4611686018427387904 := by
    unfold readV
    split
    · rename_i c; dsimp only; omega
    · exact Nat.zero_le _
  have hr1 : (readV D.sz (readB D (A + I))).2.length ≤ 1000 := by
    have := h.sz2
    unfold readV
    split
    · dsimp only; rw [List.length_take, List.length_drop]; omega
    · exact Nat.zero_le _
  unfold lookS
  generalize readV D.sz (readB D (A + I)) = r at *
  obtain ⟨r, x⟩ := r
  dsimp only at k2 hr0 hr1 ⊢
  generalize readB D (A + I) = c at *
  by_cases c0 : r = 0
  · subst c0
    rw [if_pos rfl, if_pos rfl] at k2
    rw [if_neg (by omega)]
    have e1 : decide ((S.turn : Int) < 0) = false := decide_eq_false (by omega)
    refine fnV mix pl59 5 7 4 [] Tryz.func59 rfl (by kernel_rfl) (by kernel_rfl) rfl (by kernel_rfl) (by kernel_rfl) (by simp) rfl rfl ?_
    simp (implicitDefEqProofs := false) (disch := omega) only [go_sem, ↓reduceIte]
    refine callG false [(0, 0), (1, 5), (2, 6)] [(0, 0), (3, 7), (4, 8), (5, 9)] 10 k1 ?_ ?_
    · simp [keys]
    simp (implicitDefEqProofs := false) (disch := omega) only [go_sem, ↓reduceIte]
    refine callB k2 ?_ ?_
    · simp (implicitDefEqProofs := false) (disch := omega) only [go_sem, ↓reduceIte]
    simp (implicitDefEqProofs := false) (disch := omega) only [go_sem, ↓reduceIte, e1]
    refine ⟨[(0, 0), (1, 1), (2, 2), (3, 3), (4, 4), (7, 7), (8, 8)], [], [], rfl, ?_, ?_, ?_⟩ <;> simp (implicitDefEqProofs := false) (disch := omega) only [go_sem, ↓reduceIte]
  · rw [if_neg c0, if_neg c0] at k2
    by_cases c1 : S.turn < r
    · rw [if_pos c1]
      have e1 : decide ((S.turn : Int) < (r : Int)) = true := decide_eq_true (by omega)
      refine fnV mix pl59 5 7 4 [] Tryz.func59 rfl (by kernel_rfl) (by kernel_rfl) rfl (by kernel_rfl) (by kernel_rfl) (by simp) rfl rfl ?_
      simp (implicitDefEqProofs := false) (disch := omega) only [go_sem, ↓reduceIte]
      refine callG false [(0, 0), (1, 5), (2, 6)] [(0, 0), (3, 7), (4, 8), (5, 9)] 10 k1 ?_ ?_
      · simp [keys]
      simp (implicitDefEqProofs := false) (disch := omega) only [go_sem, ↓reduceIte]
      refine callBF 1 k2 ?_ ?_
      · simp (implicitDefEqProofs := false) (disch := omega) only [go_sem, ↓reduceIte]
      simp (implicitDefEqProofs := false) (disch := omega) only [go_sem, ↓reduceIte, e1]
      refine ⟨[(0, 0), (1, 1), (2, 2), (3, 3), (4, 4), (7, 7), (8, 8)], [], [10], rfl, ?_, ?_, ?_⟩ <;> simp (implicitDefEqProofs := false) (disch := omega) only [go_sem, ↓reduceIte]
    · rw [if_neg c1]
      have e1 : decide ((S.turn : Int) < (r : Int)) = false := decide_eq_false (by omega)
      refine fnV mix pl59 5 7 4 [] Tryz.func59 rfl (by kernel_rfl) (by kernel_rfl) rfl (by kernel_rfl) (by kernel_rfl) (by simp) rfl rfl ?_
      simp (implicitDefEqProofs := false) (disch := omega) only [go_sem, ↓reduceIte]
      refine callG false [(0, 0), (1, 5), (2, 6)] [(0, 0), (3, 7), (4, 8), (5, 9)] 10 k1 ?_ ?_
      · simp [keys]
      simp (implicitDefEqProofs := false) (disch := omega) only [go_sem, ↓reduceIte]
      refine callBF 1 k2 ?_ ?_
      · simp (implicitDefEqProofs := false) (disch := omega) only [go_sem, ↓reduceIte]
      simp (implicitDefEqProofs := false) (disch := omega) only [go_sem, ↓reduceIte, e1]
      refine ⟨[(0, 0), (1, 1), (2, 2), (3, 3), (4, 4), (7, 7), (8, 8)], [], [], rfl, ?_, ?_, ?_⟩ <;> simp (implicitDefEqProofs := false) (disch := omega) only [go_sem, ↓reduceIte]
def openSA (A : Nat) (D : DS) : SS := lookS (lookS ⟨0, [], false⟩ (readV D.sz (readB D (A + 0)))) (readV D.sz (readB D (A + 1)))
theorem open_specA (A : Nat) (D : DS) (h : okD D) (ho : D.off = false) (hz : 18 ≤ D.sz) (hi : thereD D ((A + 1 : Nat) : Int)) (hb : ∀ I : Nat, I ≤ 1 → ∀ x ∈ readB D (A + I), 0 ≤ x ∧ x < 256) :
    FnC Tryz.prog 21 [.ref 0 [], .int .i64 A] (dskO 1 2 D) (.tup [.ref 6 [], .int .i64 0]) (dskO 3 4 D ++ [(6, .var (slVA A (openSA A D)))]) := by
  have hi0 : thereD D (0 : Nat) := ⟨by omega, by have := hi.2; omega⟩
  have hi1 : thereD D ((A + 1 : Nat) : Int) := hi
  have hiA : thereD D ((A + 0 : Nat) : Int) := ⟨by omega, by have := hi.2; omega⟩
  have k1 := read_ok D h ho 0 hi0
  have k2 := dsize_spec D
  have k3 := sectors_spec D h
  have h2 := hi.2
  have h3 : D.b.length / D.sz ≤ 32768 := Nat.le_trans (Nat.div_le_self _ _) h.bl
  have hrt : ∀ I, (readV D.sz (readB D I)).1 ≤ 4611686018427387904 := fun I => by
    unfold readV
    split
    · rename_i c; dsimp only; omega
    · exact Nat.zero_le _
  have k4 := look_specA A D h ho hz ⟨0, [], false⟩ (Nat.zero_le _) 0 hiA (hb 0 (by omega))
  have hS1 : (lookS ⟨0, [], false⟩ (readV D.sz (readB D (A + 0)))).turn ≤ 4611686018427387904 := by
    unfold lookS; split
    · exact hrt (A + 0)
    · exact Nat.zero_le _
  have k5 := look_specA A D h ho hz (lookS ⟨0, [], false⟩ (readV D.sz (readB D (A + 0)))) hS1 1 hi1 (hb 1 (by omega))
  unfold openSA
  generalize lookS (lookS ⟨0, [], false⟩ (readV D.sz (readB D (A + 0)))) (readV D.sz (readB D (A + 1))) = S2 at *
  generalize lookS ⟨0, [], false⟩ (readV D.sz (readB D (A + 0))) = S1 at *
  have hszl := h.sz2
  have k4' : FnC Tryz.prog 59 [.int .i64 (0 : Nat), .ref 2 [], .ref 3 [], .ref 4 []] [(0, .var (dskV 5 6 D)), (1, .var (.agg [.ref 0 [], .int .i64 A, .int .i64 0, .nils, .bool false])), (2, .var (.ref 0 [])), (3, .var (.int .i64 A)), (4, .var (.ref 1 [])), (5, .row (.ints .u8 D.b.length D.b)), (6, .row (.lst 2 D.wait.length (D.wait.map wtV)))] (.tup []) (lkOA A 7 8 D S1) := by
    refine k4.sub [(0, 0), (1, 1), (2, 2), (3, 3), (4, 4), (5, 5), (6, 6)] [] [] rfl ?_ ?_
    · simp (implicitDefEqProofs := false) (disch := omega) only [go_sem, ↓reduceIte]
    · simp (implicitDefEqProofs := false) (disch := omega) only [go_sem, ↓reduceIte, List.length_nil]
  have e1 : decide ((D.sz : Int) < 18) = false := decide_eq_false (by omega)
  have e2 : decide (((D.b.length / D.sz : Nat) : Int) - 1 ≤ (A : Int)) = false := decide_eq_false (by omega)
  have e3 : decide ((A : Int) < 0) = false := decide_eq_false (by omega)
  generalize D.b.length / D.sz = q at *
  generalize readB D 0 = c0 at *
  refine fnV mix plOp 1 3 2 [.tmp 4, .tmp 5] Tryz.func21 rfl (by kernel_rfl) (by kernel_rfl) rfl (by kernel_rfl) (by kernel_rfl) (by simp) rfl rfl ?_
  simp (implicitDefEqProofs := false) (disch := omega) only [go_sem, ↓reduceIte]
  refine callG false [(0, 0), (1, 1), (2, 2)] [(0, 0), (3, 5), (4, 6), (5, 7)] 8 k1 ?_ ?_
  · simp [keys]
  simp (implicitDefEqProofs := false) (disch := omega) only [go_sem, ↓reduceIte]
  refine callG false [(0, 0), (1, 5), (2, 6)] [(0, 0), (3, 8), (4, 9)] 10 k2 ?_ ?_
  · simp [keys]
  simp (implicitDefEqProofs := false) (disch := omega) only [go_sem, ↓reduceIte, e1, e3]
  refine callG false [(0, 0), (1, 8), (2, 9)] [(0, 0), (3, 10), (4, 11)] 12 k3 ?_ ?_
  · simp [keys]
  simp (implicitDefEqProofs := false) (disch := omega) only [go_sem, ↓reduceIte, e2, e3]
  refine callG false [(0, 0), (1, 12), (2, 3), (3, 4), (4, 13), (5, 10), (6, 11)] [(0, 0), (1, 12), (2, 3), (3, 4), (4, 13), (7, 14), (8, 15)] 16 k4' ?_ ?_
  · simp [keys]
  simp (implicitDefEqProofs := false) (disch := omega) only [go_sem, ↓reduceIte]
  refine callG false [(0, 0), (1, 12), (2, 3), (3, 4), (4, 13), (5, 14), (6, 15)] [(0, 0), (1, 12), (2, 3), (3, 4), (4, 13), (7, 16), (8, 17)] 18 k5 ?_ ?_
  · simp [keys]
  simp (implicitDefEqProofs := false) (disch := omega) only [go_sem, ↓reduceIte]
  refine ⟨[(0, 0), (3, 16), (4, 17), (6, 12)], [], [], rfl, ?_, ?_, ?_⟩ <;> simp (implicitDefEqProofs := false) (disch := omega) only [go_sem, ↓reduceIte]
end Go.Proofs.YtjaailbgeadnnaaGreat
