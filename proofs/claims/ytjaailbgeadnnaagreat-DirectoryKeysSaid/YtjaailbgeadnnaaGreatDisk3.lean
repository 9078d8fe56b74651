/- A disk: a sector written, read; all put on the disk; a new one. -/
import Derived.Test.YtjaailbgeadnnaaGreatDisk2
namespace Go.Proofs.YtjaailbgeadnnaaGreat
open Go Go.Sy Go.Proofs.Tryz
set_option maxRecDepth 100000
set_option maxHeartbeats 8000000
set_option linter.unusedSimpArgs false
set_option linter.unusedVariables false
attribute [go_sem] pl56 pl58 pl86
theorem there_at {D : DS} (h : okD D) {i : Int} (ht : thereD D i) : ∃ I : Nat, i = I ∧ I * D.sz + D.sz ≤ D.b.length := by
  obtain ⟨I, rfl⟩ := Int.eq_ofNat_of_zero_le ht.1
  refine ⟨I, rfl, ?_⟩
  have h2 := ht.2
  have h3 : I < D.b.length / D.sz := by omega
  have h4 := (Nat.le_div_iff_mul_le h.sz1).1 (Nat.succ_le_of_lt h3)
  rw [Nat.succ_mul] at h4
  exact h4
theorem write_off (D : DS) (ho : D.off = true) (i : Int) (t : List Int) (n : Nat) : FnC Tryz.prog 86 [.ref 0 [], .int .i64 i, .sl (.ints .u8 n t)] (dskO 1 2 D) (.int .i64 9) (dskO 3 4 D) := by
  have hg := gone_spec D
  rw [ho] at hg
  refine fnV mix pl86 1 3 3 [.tmp 6] Tryz.func86 rfl (by kernel_rfl) (by kernel_rfl) rfl (by kernel_rfl) (by kernel_rfl) (by simp) rfl rfl ?_
  simp (implicitDefEqProofs := false) (disch := omega) only [go_sem, ↓reduceIte]
  refine callG false [(0, 0), (1, 1), (2, 2)] [(0, 0), (3, 3), (4, 4)] 5 hg ?_ ?_
  · simp [keys]
  simp (implicitDefEqProofs := false) (disch := omega) only [go_sem, ↓reduceIte]
  refine ⟨[(0, 0), (3, 3), (4, 4)], [], [], rfl, ?_, ?_, ?_⟩ <;> simp (implicitDefEqProofs := false) (disch := omega) only [go_sem, ↓reduceIte]
theorem write_arg (D : DS) (h : okD D) (ho : D.off = false) (i : Int) (hi : ¬ thereD D i) (t : List Int) (n : Nat) : FnC Tryz.prog 86 [.ref 0 [], .int .i64 i, .sl (.ints .u8 n t)] (dskO 1 2 D) (.int .i64 1) (dskO 3 4 D) := by
  have hg := gone_spec D
  have hth := there_spec D h i
  rw [ho] at hg
  rw [decide_eq_false hi] at hth
  refine fnV mix pl86 1 3 3 [.tmp 6] Tryz.func86 rfl (by kernel_rfl) (by kernel_rfl) rfl (by kernel_rfl) (by kernel_rfl) (by simp) rfl rfl ?_
  simp (implicitDefEqProofs := false) (disch := omega) only [go_sem, ↓reduceIte]
  refine callG false [(0, 0), (1, 1), (2, 2)] [(0, 0), (3, 3), (4, 4)] 5 hg ?_ ?_
  · simp [keys]
  simp (implicitDefEqProofs := false) (disch := omega) only [go_sem, ↓reduceIte]
  refine callG false [(0, 0), (1, 3), (2, 4)] [(0, 0), (3, 5), (4, 6)] 7 hth ?_ ?_
  · simp [keys]
  simp (implicitDefEqProofs := false) (disch := omega) only [go_sem, ↓reduceIte]
  refine ⟨[(0, 0), (3, 5), (4, 6)], [], [], rfl, ?_, ?_, ?_⟩ <;> simp (implicitDefEqProofs := false) (disch := omega) only [go_sem, ↓reduceIte]
theorem write_len (D : DS) (h : okD D) (ho : D.off = false) (i : Int) (hi : thereD D i) (t : List Int) (n : Nat) (hnl : n ≤ 9223372036854775807) (hn : n ≠ D.sz) : FnC Tryz.prog 86 [.ref 0 [], .int .i64 i, .sl (.ints .u8 n t)] (dskO 1 2 D) (.int .i64 1) (dskO 3 4 D) := by
  have hg := gone_spec D
  have hth := there_spec D h i
  rw [ho] at hg
  rw [decide_eq_true hi] at hth
  have d1 : decide ((n : Int) = (D.sz : Int)) = false := decide_eq_false (by omega)
  refine fnV mix pl86 1 3 3 [.tmp 6] Tryz.func86 rfl (by kernel_rfl) (by kernel_rfl) rfl (by kernel_rfl) (by kernel_rfl) (by simp) rfl rfl ?_
  simp (implicitDefEqProofs := false) (disch := omega) only [go_sem, ↓reduceIte]
  refine callG false [(0, 0), (1, 1), (2, 2)] [(0, 0), (3, 3), (4, 4)] 5 hg ?_ ?_
  · simp [keys]
  simp (implicitDefEqProofs := false) (disch := omega) only [go_sem, ↓reduceIte]
  refine callG false [(0, 0), (1, 3), (2, 4)] [(0, 0), (3, 5), (4, 6)] 7 hth ?_ ?_
  · simp [keys]
  simp (implicitDefEqProofs := false) (disch := omega) only [go_sem, ↓reduceIte, d1]
  refine ⟨[(0, 0), (3, 5), (4, 6)], [], [], rfl, ?_, ?_, ?_⟩ <;> simp (implicitDefEqProofs := false) (disch := omega) only [go_sem, ↓reduceIte]
theorem okD_wait {D : DS} (h : okD D) (hw : D.wait.length ≤ 90000) {I : Nat} {t : List Int} (hI : I * D.sz + D.sz ≤ D.b.length) (ht : t.length = D.sz) : okD { D with wait := D.wait ++ [(I, t)] } :=
  ⟨h.sz1, h.sz2, h.bl, by simp; omega, h.kl, fun w hw => by
    rcases List.mem_append.1 hw with hw | hw
    · exact h.wt w hw
    · rw [List.mem_singleton] at hw; subst hw; exact ⟨hI, ht⟩⟩
theorem write_ok (D : DS) (h : okD D) (hw : D.wait.length ≤ 90000) (ho : D.off = false) (I : Nat) (hi : thereD D I) (t : List Int) (ht : t.length = D.sz) :
    FnC Tryz.prog 86 [.ref 0 [], .int .i64 I, .sl (.ints .u8 D.sz t)] (dskO 1 2 D) (.int .i64 (if (failedD { D with wait := D.wait ++ [(I, t)] }).1 = true then 9 else 0)) (dskO 3 4 (failedD { D with wait := D.wait ++ [(I, t)] }).2) := by
  obtain ⟨I', e, hI⟩ := there_at h hi
  obtain rfl : I = I' := by omega
  have hg := gone_spec D
  have hth := there_spec D h I
  have hszl := h.sz2
  rw [ho] at hg
  rw [decide_eq_true hi] at hth
  have hf := failed_spec _ (okD_wait h hw hI ht)
  generalize hfd : failedD { D with wait := D.wait ++ [(I, t)] } = R at *
  obtain ⟨R1, R2⟩ := R
  obtain ⟨sz, b, W, off, set, left, kp⟩ := D
  dsimp only at hw ho ht hszl hI
  subst ho
  refine fnV mix pl86 1 3 3 [.tmp 6] Tryz.func86 rfl (by kernel_rfl) (by kernel_rfl) rfl (by kernel_rfl) (by kernel_rfl) (by simp) rfl rfl ?_
  simp (implicitDefEqProofs := false) (disch := omega) only [go_sem, ↓reduceIte]
  refine callG false [(0, 0), (1, 1), (2, 2)] [(0, 0), (3, 3), (4, 4)] 5 hg ?_ ?_
  · simp [keys]
  simp (implicitDefEqProofs := false) (disch := omega) only [go_sem, ↓reduceIte]
  refine callG false [(0, 0), (1, 3), (2, 4)] [(0, 0), (3, 5), (4, 6)] 7 hth ?_ ?_
  · simp [keys]
  simp (implicitDefEqProofs := false) (disch := omega) only [go_sem, ↓reduceIte, List.nil_append]
  refine callG false [(0, 0), (1, 5), (2, 10)] [(0, 0), (3, 11), (4, 12)] 13 hf ?_ ?_
  · simp [keys]
  cases R1
  · simp (implicitDefEqProofs := false) (disch := omega) only [go_sem, ↓reduceIte, List.length_append, List.length_singleton, List.map_append, ht]
    refine ⟨[(0, 0), (3, 11), (4, 12)], [], [], rfl, ?_, ?_, ?_⟩ <;> simp (implicitDefEqProofs := false) (disch := omega) only [go_sem, ↓reduceIte]
  · simp (implicitDefEqProofs := false) (disch := omega) only [go_sem, ↓reduceIte, List.length_append, List.length_singleton, List.map_append, ht]
    refine ⟨[(0, 0), (3, 11), (4, 12)], [], [], rfl, ?_, ?_, ?_⟩ <;> simp (implicitDefEqProofs := false) (disch := omega) only [go_sem, ↓reduceIte]
theorem dwrite_spec (D : DS) (h : okD D) (hw : D.wait.length ≤ 90000) (i : Int) (t : List Int) (n : Nat) (hn : t.length = n) (hnl : n ≤ 9223372036854775807) : FnC Tryz.prog 86 [.ref 0 [], .int .i64 i, .sl (.ints .u8 n t)] (dskO 1 2 D) (.int .i64 (writeD D i t).1) (dskO 3 4 (writeD D i t).2) := by
  unfold writeD
  by_cases ho : D.off = true
  · rw [if_pos ho]
    exact write_off D ho i t n
  rw [if_neg ho]
  rw [Bool.not_eq_true] at ho
  by_cases ht : thereD D i
  · by_cases hs : n = D.sz
    · rw [if_pos ⟨ht, by rw [hn]; exact hs⟩]
      obtain ⟨I, rfl, hI⟩ := there_at h ht
      rw [Int.toNat_natCast, hs]
      exact write_ok D h hw ho I ht t (by rw [hn]; exact hs)
    · rw [if_neg (fun h => hs (by rw [← hn]; exact h.2))]
      exact write_len D h ho i ht t n hnl hs
  · rw [if_neg (fun h => ht h.1)]
    exact write_arg D h ho i ht t n
theorem image_spec (D : DS) (h : okD D) : FnC Tryz.prog 62 [.ref 0 []] (dskO 1 2 D) (.osl 5 [] 1 0 D.b.length) (dskO 3 4 D ++ [(5, .row (.ints .u8 D.b.length D.b))]) := by
  have h3 := h.bl
  refine fnV mix [] 1 3 1 [.tmp 2] Tryz.func62 rfl (by kernel_rfl) (by kernel_rfl) rfl (by kernel_rfl) (by kernel_rfl) (by simp) rfl rfl ?_
  simp (implicitDefEqProofs := false) (disch := omega) only [go_sem, ↓reduceIte]
  refine ⟨[(0, 0), (3, 1), (4, 2), (5, 4)], [], [], rfl, ?_, ?_, ?_⟩ <;> simp (implicitDefEqProofs := false) (disch := omega) only [go_sem, ↓reduceIte, List.nil_append]
theorem new_ok (s z : Nat) (h1 : 1 ≤ s) (h2 : s ≤ 64) (h3 : 1 ≤ z) (h4 : z ≤ 512) : FnC Tryz.prog 6 [.int .i64 s, .int .i64 z] [] (.tup [.ref 0 [], .int .i64 0]) (dskO 1 2 ⟨z, List.replicate (s * z) 0, [], false, false, 0, []⟩) := by
  have e1 : (s : Int) * (z : Int) = ((s * z : Nat) : Int) := by simp
  have hsz : s * z ≤ 64 * 512 := Nat.mul_le_mul h2 h4
  generalize hn : s * z = n at *
  refine fnN mix [] 0 2 [.tmp 4, .tmp 5] Tryz.func6 rfl (by kernel_rfl) (by kernel_rfl) rfl (by kernel_rfl) (by kernel_rfl) (by simp) ?_
  simp (implicitDefEqProofs := false) (disch := omega) only [go_sem, ↓reduceIte]
  refine brd (fun g => by omega) (fun g => ?_)
  simp (implicitDefEqProofs := false) (disch := omega) only [go_sem, ↓reduceIte]
  refine brd (fun g => by omega) (fun g => ?_)
  simp (implicitDefEqProofs := false) (disch := omega) only [go_sem, ↓reduceIte]
  refine brd (fun g => by omega) (fun g => ?_)
  simp (implicitDefEqProofs := false) (disch := omega) only [go_sem, ↓reduceIte]
  refine brd (fun g => by omega) (fun g => ?_)
  simp (implicitDefEqProofs := false) (disch := omega) only [go_sem, ↓reduceIte, e1]
  refine ⟨[(0, 1), (1, 0)], [2], [], rfl, ?_, ?_, ?_⟩ <;> simp (implicitDefEqProofs := false) (disch := omega) only [go_sem, ↓reduceIte, List.length_replicate, List.length_nil, List.map_nil]
theorem new_bad (s z : Int) (h : s < 1 ∨ 64 < s ∨ z < 1 ∨ 512 < z) : FnC Tryz.prog 6 [.int .i64 s, .int .i64 z] [] (.tup [.nilp, .int .i64 1]) [] := by
  refine fn0 mix [] 0 2 [.tmp 4, .tmp 5] Tryz.func6 rfl (by kernel_rfl) (by kernel_rfl) rfl (by kernel_rfl) (by kernel_rfl) (by simp) ?_
  simp (implicitDefEqProofs := false) (disch := omega) only [go_sem, ↓reduceIte]
  refine brd (fun g => ?_) (fun g1 => ?_)
  · simp (implicitDefEqProofs := false) (disch := omega) only [go_sem, ↓reduceIte]
  simp (implicitDefEqProofs := false) (disch := omega) only [go_sem, ↓reduceIte]
  refine brd (fun g => ?_) (fun g2 => ?_)
  · simp (implicitDefEqProofs := false) (disch := omega) only [go_sem, ↓reduceIte]
  simp (implicitDefEqProofs := false) (disch := omega) only [go_sem, ↓reduceIte]
  refine brd (fun g => ?_) (fun g3 => ?_)
  · simp (implicitDefEqProofs := false) (disch := omega) only [go_sem, ↓reduceIte]
  simp (implicitDefEqProofs := false) (disch := omega) only [go_sem, ↓reduceIte]
  refine brd (fun g => ?_) (fun g4 => ?_)
  · simp (implicitDefEqProofs := false) (disch := omega) only [go_sem, ↓reduceIte]
  omega
theorem gone_nil : FnC Tryz.prog 93 [.nilp] [] (.bool true) [] := by
  refine fn0 mix [] 0 1 [.tmp 2] Tryz.func93 rfl (by kernel_rfl) (by kernel_rfl) rfl (by kernel_rfl) (by kernel_rfl) (by simp) ?_
  simp (implicitDefEqProofs := false) (disch := omega) only [go_sem, ↓reduceIte]
theorem write_nil : FnC Tryz.prog 86 [.nilp, .int .i64 0, .nils] [] (.int .i64 9) [] := by
  refine fn0 mix pl86 0 3 [.tmp 6] Tryz.func86 rfl (by kernel_rfl) (by kernel_rfl) rfl (by kernel_rfl) (by kernel_rfl) (by simp) ?_
  simp (implicitDefEqProofs := false) (disch := omega) only [go_sem, ↓reduceIte]
  refine call0 gone_nil ?_
  simp (implicitDefEqProofs := false) (disch := omega) only [go_sem, ↓reduceIte]
theorem sectors_nil : FnC Tryz.prog 58 [.nilp] [] (.int .i64 0) [] := by
  refine fn0 mix pl58 0 1 [.tmp 2] Tryz.func58 rfl (by kernel_rfl) (by kernel_rfl) rfl (by kernel_rfl) (by kernel_rfl) (by simp) ?_
  simp (implicitDefEqProofs := false) (disch := omega) only [go_sem, ↓reduceIte]
theorem read_off (D : DS) (ho : D.off = true) (i : Int) : FnC Tryz.prog 56 [.ref 0 [], .int .i64 i] (dskO 1 2 D) (.tup [.nils, .int .i64 9]) (dskO 3 4 D) := by
  have hg := gone_spec D
  rw [ho] at hg
  refine fnV mix pl56 1 3 2 [.tmp 4, .tmp 5] Tryz.func56 rfl (by kernel_rfl) (by kernel_rfl) rfl (by kernel_rfl) (by kernel_rfl) (by simp) rfl rfl ?_
  simp (implicitDefEqProofs := false) (disch := omega) only [go_sem, ↓reduceIte]
  refine callG false [(0, 0), (1, 1), (2, 2)] [(0, 0), (3, 3), (4, 4)] 5 hg ?_ ?_
  · simp [keys]
  simp (implicitDefEqProofs := false) (disch := omega) only [go_sem, ↓reduceIte]
  refine ⟨[(0, 0), (3, 3), (4, 4)], [], [], rfl, ?_, ?_, ?_⟩ <;> simp (implicitDefEqProofs := false) (disch := omega) only [go_sem, ↓reduceIte]
theorem read_arg (D : DS) (h : okD D) (ho : D.off = false) (i : Int) (hi : ¬ thereD D i) : FnC Tryz.prog 56 [.ref 0 [], .int .i64 i] (dskO 1 2 D) (.tup [.nils, .int .i64 1]) (dskO 3 4 D) := by
  have hg := gone_spec D
  have hth := there_spec D h i
  rw [ho] at hg
  rw [decide_eq_false hi] at hth
  refine fnV mix pl56 1 3 2 [.tmp 4, .tmp 5] Tryz.func56 rfl (by kernel_rfl) (by kernel_rfl) rfl (by kernel_rfl) (by kernel_rfl) (by simp) rfl rfl ?_
  simp (implicitDefEqProofs := false) (disch := omega) only [go_sem, ↓reduceIte]
  refine callG false [(0, 0), (1, 1), (2, 2)] [(0, 0), (3, 3), (4, 4)] 5 hg ?_ ?_
  · simp [keys]
  simp (implicitDefEqProofs := false) (disch := omega) only [go_sem, ↓reduceIte]
  refine callG false [(0, 0), (1, 3), (2, 4)] [(0, 0), (3, 5), (4, 6)] 7 hth ?_ ?_
  · simp [keys]
  simp (implicitDefEqProofs := false) (disch := omega) only [go_sem, ↓reduceIte]
  refine ⟨[(0, 0), (3, 5), (4, 6)], [], [], rfl, ?_, ?_, ?_⟩ <;> simp (implicitDefEqProofs := false) (disch := omega) only [go_sem, ↓reduceIte]
end Go.Proofs.YtjaailbgeadnnaaGreat
