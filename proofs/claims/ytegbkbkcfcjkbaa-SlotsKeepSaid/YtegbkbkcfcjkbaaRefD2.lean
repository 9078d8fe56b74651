/- The document's disk: what is done with it. -/
import Derived.Test.YtegbkbkcfcjkbaaRefD
namespace Go.Proofs.Ytegbkbkcfcjkbaa
open Go Go.Sy Go.Proofs.Try
set_option maxRecDepth 100000
set_option maxHeartbeats 8000000
set_option linter.unusedSimpArgs false
set_option linter.unusedVariables false
attribute [go_sem] pl57
theorem leftR_eq {D : DS} (h : D.set = true → 0 ≤ D.left ∧ D.left < 9223372036854775808) : (leftR D = 0) ↔ (D.set = true ∧ D.left = 0) := by
  unfold leftR
  by_cases c : D.set = true
  · rw [if_pos c]; exact ⟨fun e => ⟨c, e⟩, fun e => e.2⟩
  · rw [if_neg c]; exact ⟨fun e => by omega, fun e => absurd e.1 c⟩
theorem comes_spec (ns : Nat) (D : DS) (h : okD D) (hr : okR ns D) : FnC Try.prog 98 [.ref 0 []] (refO 1 2 3 ns D) (.bool (failedD D).1) (refO 4 5 6 ns (failedD D).2) := by
  have hc := refcrash_spec ns D h hr D.keep D.keep.length rfl h.kl
  have hlf := hr.lf
  have hle := leftR_eq hlf
  unfold failedD
  by_cases c : D.set = true ∧ D.left = 0
  · rw [if_pos c]
    have c2 : decide (leftR D = 0) = true := decide_eq_true (hle.2 c)
    refine fnV mix [] 1 4 1 [.tmp 2] Try.func98 rfl (by kernel_rfl) (by kernel_rfl) rfl (by kernel_rfl) (by kernel_rfl) (by simp) rfl rfl ?_
    simp (implicitDefEqProofs := false) (disch := omega) only [go_sem, ↓reduceIte, c2]
    refine callG false [(0, 0), (1, 1), (2, 2), (3, 3)] [(0, 0), (4, 4), (5, 5), (6, 6)] 7 hc ?_ ?_
    · simp [keys]
    simp (implicitDefEqProofs := false) (disch := omega) only [go_sem, ↓reduceIte]
    refine ⟨[(0, 0), (4, 4), (5, 5), (6, 6)], [], [], rfl, ?_, ?_, ?_⟩ <;> simp (implicitDefEqProofs := false) (disch := omega) only [go_sem, ↓reduceIte]
  · rw [if_neg c]
    have c2 : decide (leftR D = 0) = false := decide_eq_false (fun e => c (hle.1 e))
    obtain ⟨sz, b, W, off, set, left, kp⟩ := D
    dsimp only at hlf c
    refine fnV mix [] 1 4 1 [.tmp 2] Try.func98 rfl (by kernel_rfl) (by kernel_rfl) rfl (by kernel_rfl) (by kernel_rfl) (by simp) rfl rfl ?_
    cases set
    · have e1 : leftR ⟨sz, b, W, off, false, left, kp⟩ = -1 := rfl
      have e2 : leftR ⟨sz, b, W, off, false, IntKind.i64.wrap (left - 1), kp⟩ = -1 := rfl
      simp (implicitDefEqProofs := false) (disch := omega) only [go_sem, ↓reduceIte, c2, e1]
      refine ⟨[(0, 0), (4, 1), (5, 2), (6, 3)], [], [], rfl, ?_, ?_, ?_⟩ <;> simp (implicitDefEqProofs := false) (disch := omega) only [go_sem, ↓reduceIte, e1, e2]
    · have hlf := hlf rfl
      have c3 : left ≠ 0 := fun e => c ⟨rfl, e⟩
      have e1 : leftR ⟨sz, b, W, off, true, left, kp⟩ = left := rfl
      have e0 : IntKind.i64.wrap (left - 1) = left - 1 := wrap_i64 (by omega) (by omega)
      have e2 : leftR ⟨sz, b, W, off, true, left - 1, kp⟩ = left - 1 := rfl
      have c4 : decide (0 < left) = true := decide_eq_true (by omega)
      have c5 : decide (left = 0) = false := decide_eq_false c3
      rw [e0]
      simp (implicitDefEqProofs := false) (disch := omega) only [go_sem, ↓reduceIte, c5, c4, e1]
      refine ⟨[(0, 0), (4, 1), (5, 2), (6, 3)], [], [], rfl, ?_, ?_, ?_⟩ <;> simp (implicitDefEqProofs := false) (disch := omega) only [go_sem, ↓reduceIte, e1, e2]
theorem there_ns {ns : Nat} {D : DS} (h : okD D) (hr : okR ns D) (i : Int) : thereD D i ↔ 0 ≤ i ∧ i < (ns : Int) := by
  unfold thereD
  rw [hr.bl, Nat.mul_div_cancel _ h.sz1]
theorem refwrite_off (ns : Nat) (D : DS) (ho : D.off = true) (i : Int) (t : List Int) (n : Nat) : FnC Try.prog 57 [.ref 0 [], .int .i64 i, .sl (.ints .u8 n t)] (refO 1 2 3 ns D) (.int .i64 9) (refO 4 5 6 ns D) := by
  refine fnV mix pl57 1 4 3 [.tmp 6] Try.func57 rfl (by kernel_rfl) (by kernel_rfl) rfl (by kernel_rfl) (by kernel_rfl) (by simp) rfl rfl ?_
  simp (implicitDefEqProofs := false) (disch := omega) only [go_sem, ↓reduceIte, ho]
  refine ⟨[(0, 0), (4, 1), (5, 2), (6, 3)], [], [], rfl, ?_, ?_, ?_⟩ <;> simp (implicitDefEqProofs := false) (disch := omega) only [go_sem, ↓reduceIte, ho]
theorem refwrite_bad (ns : Nat) (D : DS) (h : okD D) (hr : okR ns D) (ho : D.off = false) (i : Int) (t : List Int) (n : Nat) (hnl : n ≤ 9223372036854775807) (hb : ¬ (thereD D i ∧ n = D.sz)) : FnC Try.prog 57 [.ref 0 [], .int .i64 i, .sl (.ints .u8 n t)] (refO 1 2 3 ns D) (.int .i64 1) (refO 4 5 6 ns D) := by
  rw [there_ns h hr] at hb
  refine fnV mix pl57 1 4 3 [.tmp 6] Try.func57 rfl (by kernel_rfl) (by kernel_rfl) rfl (by kernel_rfl) (by kernel_rfl) (by simp) rfl rfl ?_
  by_cases c1 : i < 0
  · have d1 : decide (i < 0) = true := decide_eq_true c1
    simp (implicitDefEqProofs := false) (disch := omega) only [go_sem, ↓reduceIte, ho, d1]
    refine ⟨[(0, 0), (4, 1), (5, 2), (6, 3)], [], [], rfl, ?_, ?_, ?_⟩ <;> simp (implicitDefEqProofs := false) (disch := omega) only [go_sem, ↓reduceIte, ho]
  have d1 : decide (i < 0) = false := decide_eq_false c1
  by_cases c2 : (ns : Int) ≤ i
  · have d2 : decide ((ns : Int) ≤ i) = true := decide_eq_true c2
    simp (implicitDefEqProofs := false) (disch := omega) only [go_sem, ↓reduceIte, ho, d1, d2]
    refine ⟨[(0, 0), (4, 1), (5, 2), (6, 3)], [], [], rfl, ?_, ?_, ?_⟩ <;> simp (implicitDefEqProofs := false) (disch := omega) only [go_sem, ↓reduceIte, ho]
  have d2 : decide ((ns : Int) ≤ i) = false := decide_eq_false c2
  have d3 : decide ((n : Int) = (D.sz : Int)) = false := decide_eq_false (fun e => hb ⟨⟨by omega, by omega⟩, by omega⟩)
  simp (implicitDefEqProofs := false) (disch := omega) only [go_sem, ↓reduceIte, ho, d1, d2, d3]
  refine ⟨[(0, 0), (4, 1), (5, 2), (6, 3)], [], [], rfl, ?_, ?_, ?_⟩ <;> simp (implicitDefEqProofs := false) (disch := omega) only [go_sem, ↓reduceIte, ho]
theorem refwrite_ok (ns : Nat) (D : DS) (h : okD D) (hr : okR ns D) (hw : D.wait.length ≤ 90000) (ho : D.off = false) (I : Nat) (hi : thereD D I) (t : List Int) (ht : t.length = D.sz) :
    FnC Try.prog 57 [.ref 0 [], .int .i64 I, .sl (.ints .u8 D.sz t)] (refO 1 2 3 ns D) (.int .i64 (if (failedD { D with wait := D.wait ++ [(I, t)] }).1 = true then 9 else 0)) (refO 4 5 6 ns (failedD { D with wait := D.wait ++ [(I, t)] }).2) := by
  obtain ⟨I', e, hI⟩ := there_at h hi
  obtain rfl : I = I' := by omega
  have hin := (there_ns h hr I).1 hi
  have hszl := h.sz2
  have hf := comes_spec ns _ (okD_wait h hw hI ht) ⟨hr.n1, hr.bl, hr.lf⟩
  generalize hfd : failedD { D with wait := D.wait ++ [(I, t)] } = R at *
  obtain ⟨R1, R2⟩ := R
  obtain ⟨sz, b, W, off, set, left, kp⟩ := D
  dsimp only at hw ho ht hszl hI
  subst ho
  have d1 : decide ((I : Int) < 0) = false := decide_eq_false (by omega)
  have d2 : decide ((ns : Int) ≤ (I : Int)) = false := decide_eq_false (by omega)
  have el : leftR ⟨sz, b, W ++ [(I, t)], false, set, left, kp⟩ = leftR ⟨sz, b, W, false, set, left, kp⟩ := rfl
  rw [refO, refV, el] at hf
  refine fnV mix pl57 1 4 3 [.tmp 6] Try.func57 rfl (by kernel_rfl) (by kernel_rfl) rfl (by kernel_rfl) (by kernel_rfl) (by simp) rfl rfl ?_
  simp (implicitDefEqProofs := false) (disch := omega) only [go_sem, ↓reduceIte, d1, d2, List.nil_append]
  refine callG false [(0, 0), (1, 1), (2, 5), (3, 7)] [(0, 0), (4, 8), (5, 9), (6, 10)] 11 hf ?_ ?_
  · simp [keys]
  cases R1
  · simp (implicitDefEqProofs := false) (disch := omega) only [go_sem, ↓reduceIte, List.length_append, List.length_singleton, List.map_append, strU, toU, ht]
    refine ⟨[(0, 0), (4, 8), (5, 9), (6, 10)], [], [], rfl, ?_, ?_, ?_⟩ <;> simp (implicitDefEqProofs := false) (disch := omega) only [go_sem, ↓reduceIte]
  · simp (implicitDefEqProofs := false) (disch := omega) only [go_sem, ↓reduceIte, List.length_append, List.length_singleton, List.map_append, strU, toU, ht]
    refine ⟨[(0, 0), (4, 8), (5, 9), (6, 10)], [], [], rfl, ?_, ?_, ?_⟩ <;> simp (implicitDefEqProofs := false) (disch := omega) only [go_sem, ↓reduceIte]
theorem refwrite_spec (ns : Nat) (D : DS) (h : okD D) (hr : okR ns D) (hw : D.wait.length ≤ 90000) (i : Int) (t : List Int) (n : Nat) (hn : t.length = n) (hnl : n ≤ 9223372036854775807) : FnC Try.prog 57 [.ref 0 [], .int .i64 i, .sl (.ints .u8 n t)] (refO 1 2 3 ns D) (.int .i64 (writeD D i t).1) (refO 4 5 6 ns (writeD D i t).2) := by
  unfold writeD
  by_cases ho : D.off = true
  · rw [if_pos ho]
    exact refwrite_off ns D ho i t n
  rw [if_neg ho]
  rw [Bool.not_eq_true] at ho
  by_cases hb : thereD D i ∧ t.length = D.sz
  · rw [if_pos hb]
    obtain ⟨I, rfl, hI⟩ := there_at h hb.1
    rw [Int.toNat_natCast, ← hn, hb.2]
    exact refwrite_ok ns D h hr hw ho I hb.1 t hb.2
  · rw [if_neg hb]
    exact refwrite_bad ns D h hr ho i t n hnl (by rw [← hn]; exact hb)
theorem refboot_spec (ns : Nat) (D : DS) : FnC Try.prog 62 [.ref 0 []] (refO 1 2 3 ns D) (.tup []) (refO 4 5 6 ns (bootD D)) := by
  have e1 : leftR { D with off := false, set := false } = -1 := rfl
  unfold bootD
  refine fnV mix [] 1 4 1 [] Try.func62 rfl (by kernel_rfl) (by kernel_rfl) rfl (by kernel_rfl) (by kernel_rfl) (by simp) rfl rfl ?_
  simp (implicitDefEqProofs := false) (disch := omega) only [go_sem, ↓reduceIte]
  refine ⟨[(0, 0), (4, 1), (5, 2), (6, 3)], [], [], rfl, ?_, ?_, ?_⟩ <;> simp (implicitDefEqProofs := false) (disch := omega) only [go_sem, ↓reduceIte, e1]
theorem reffail_spec (ns : Nat) (D : DS) (after : Int) (ks : List Int) (ha : -9223372036854775808 ≤ after ∧ after < 9223372036854775808) : FnC Try.prog 60 [.ref 0 [], .int .i64 after, .sl (.ints .i64 ks.length ks)] (refO 1 2 3 ns D) (.tup []) (refO 4 5 6 ns (failD D after ks)) := by
  obtain ⟨sz, b, W, off, set, left, kp⟩ := D
  unfold failD
  refine fnV mix [] 1 4 3 [] Try.func60 rfl (by kernel_rfl) (by kernel_rfl) rfl (by kernel_rfl) (by kernel_rfl) (by simp) rfl rfl ?_
  cases off
  case true =>
    rw [if_pos rfl]
    simp (implicitDefEqProofs := false) (disch := omega) only [go_sem, ↓reduceIte]
    refine ⟨[(0, 0), (4, 1), (5, 2), (6, 3)], [], [], rfl, ?_, ?_, ?_⟩ <;> simp (implicitDefEqProofs := false) (disch := omega) only [go_sem, ↓reduceIte]
  rw [if_neg (fun h => by cases h)]
  by_cases c : after < 0
  · have d1 : decide (after < 0) = true := decide_eq_true c
    have d2 : decide (0 ≤ after) = false := decide_eq_false (by omega)
    have e1 : leftR ⟨sz, b, W, false, false, after, ks⟩ = -1 := rfl
    rw [d2]
    simp (implicitDefEqProofs := false) (disch := omega) only [go_sem, ↓reduceIte, d1]
    refine ⟨[(0, 0), (4, 1), (5, 2), (6, 3)], [], [], rfl, ?_, ?_, ?_⟩ <;> simp (implicitDefEqProofs := false) (disch := omega) only [go_sem, ↓reduceIte, e1]
  · have d1 : decide (after < 0) = false := decide_eq_false c
    have d2 : decide (0 ≤ after) = true := decide_eq_true (by omega)
    have e1 : leftR ⟨sz, b, W, false, true, after, ks⟩ = after := rfl
    rw [d2]
    simp (implicitDefEqProofs := false) (disch := omega) only [go_sem, ↓reduceIte, d1]
    refine ⟨[(0, 0), (4, 1), (5, 2), (6, 3)], [], [], rfl, ?_, ?_, ?_⟩ <;> simp (implicitDefEqProofs := false) (disch := omega) only [go_sem, ↓reduceIte, e1]
theorem fail_spec (D : DS) (after : Int) (ks : List Int) (hk : ks.length ≤ 1000000) : FnC Try.prog 32 [.ref 0 [], .int .i64 after, .sl (.ints .i64 ks.length ks)] (dskO 1 2 D) (.tup []) (dskO 3 4 (failD D after ks)) := by
  have hg := gone_spec D
  obtain ⟨sz, b, W, off, set, left, kp⟩ := D
  unfold failD
  refine fnV mix [] 1 3 3 [] Try.func32 rfl (by kernel_rfl) (by kernel_rfl) rfl (by kernel_rfl) (by kernel_rfl) (by simp) rfl rfl ?_
  cases off
  case true =>
    rw [if_pos rfl]
    simp (implicitDefEqProofs := false) (disch := omega) only [go_sem, ↓reduceIte]
    refine callG false [(0, 0), (1, 1), (2, 2)] [(0, 0), (3, 3), (4, 4)] 5 hg ?_ ?_
    · simp [keys]
    simp (implicitDefEqProofs := false) (disch := omega) only [go_sem, ↓reduceIte]
    refine ⟨[(0, 0), (3, 3), (4, 4)], [], [], rfl, ?_, ?_, ?_⟩ <;> simp (implicitDefEqProofs := false) (disch := omega) only [go_sem, ↓reduceIte]
  rw [if_neg (fun h => by cases h)]
  simp (implicitDefEqProofs := false) (disch := omega) only [go_sem, ↓reduceIte]
  refine callG false [(0, 0), (1, 1), (2, 2)] [(0, 0), (3, 3), (4, 4)] 5 hg ?_ ?_
  · simp [keys]
  simp (implicitDefEqProofs := false) (disch := omega) only [go_sem, ↓reduceIte, List.nil_append]
  refine ⟨[(0, 0), (3, 3), (4, 4)], [], [6], rfl, ?_, ?_, ?_⟩ <;> simp (implicitDefEqProofs := false) (disch := omega) only [go_sem, ↓reduceIte]
end Go.Proofs.Ytegbkbkcfcjkbaa
