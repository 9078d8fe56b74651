/- The document's disk: all is put on it, read, imaged, restored; a new one. -/
import Derived.Test.YthhlielliopegaaRefD2
namespace Go.Proofs.Ythhlielliopegaa
open Go Go.Sy Go.Proofs.Try
set_option maxRecDepth 100000
set_option maxHeartbeats 8000000
set_option linter.unusedSimpArgs false
set_option linter.unusedVariables false

theorem chunks_whole {sz ns : Nat} {b t : List Int} {at' : Nat} (hb : b.length = ns * sz) (ha : at' < ns) (ht : t.length = sz) : chunks sz ns (putB sz b at' t sz) = (chunks sz ns b).set at' t := by
  rw [chunks_put hb ha ht (Nat.le_refl _), List.take_of_length_le (by omega), List.drop_eq_nil_of_le (by rw [chunk_len hb ha]; exact Nat.le_refl _), List.append_nil]
theorem chunks_flat (sz ns : Nat) (b : List Int) (hb : b.length = ns * sz) : ∀ k, k ≤ ns → ((chunks sz ns b).take k).flatten = b.take (k * sz) := by
  intro k
  induction k with
  | zero => intro _; simp
  | succ k ih =>
    intro hk
    rw [take_next' (chunks_get (show k < ns by omega)), List.flatten_append, ih (by omega)]
    simp only [List.flatten_cons, List.flatten_nil, List.append_nil]
    unfold chunk
    rw [Nat.succ_mul, ← List.take_add]
def restD (D : DS) (t : List Int) : DS := { D with b := t, wait := [] }
theorem restore_spec (D : DS) (h : okD D) (t : List Int) (n : Nat) (hn : t.length = n) (hnl : n ≤ 9223372036854775807) : FnC Try.prog 17 [.ref 0 [], .sl (.ints .u8 n t)] (dskO 1 2 D) (.int .i64 (if n = D.b.length then 0 else 1)) (dskO 3 4 (if n = D.b.length then restD D t else D)) := by
  have h3 := h.bl
  unfold restD
  by_cases c : n = D.b.length
  · rw [if_pos c, if_pos c]
    obtain ⟨sz, b, W, off, set, left, kp⟩ := D
    dsimp only at c h3
    obtain ⟨nb, hnb⟩ : ∃ k, k = b.length := ⟨_, rfl⟩
    have d1 : decide ((n : Int) = (b.length : Int)) = true := decide_eq_true (by omega)
    refine fnV mix [] 1 3 2 [.tmp 4] Try.func17 rfl (by kernel_rfl) (by kernel_rfl) rfl (by kernel_rfl) (by kernel_rfl) (by simp) rfl rfl ?_
    by_cases c0 : n = 0
    · have eb : b = [] := List.eq_nil_of_length_eq_zero (by omega)
      have et : t = [] := List.eq_nil_of_length_eq_zero (by omega)
      subst eb; subst et
      simp only [List.length_nil] at hn
      subst hn
      simp (implicitDefEqProofs := false) (disch := omega) only [go_sem, ↓reduceIte, List.length_nil]
      refine ⟨[(0, 0), (3, 1)], [4], [], rfl, ?_, ?_, ?_⟩ <;> simp (implicitDefEqProofs := false) (disch := omega) only [go_sem, ↓reduceIte, List.length_nil, List.map_nil]
    · have c1 : ¬ b.length = 0 := by omega
      have f1 : b.drop n = [] := List.drop_eq_nil_of_le (by omega)
      simp (implicitDefEqProofs := false) (disch := omega) only [go_sem, ↓reduceIte, d1, c0, c1, ← c]
      refine ⟨[(0, 0), (3, 1)], [4], [], rfl, ?_, ?_, ?_⟩ <;> simp (implicitDefEqProofs := false) (disch := omega) only [go_sem, ↓reduceIte, List.length_nil, List.map_nil, f1, List.append_nil, List.nil_append, hn]
  · rw [if_neg c, if_neg c]
    have d1 : decide ((n : Int) = (D.b.length : Int)) = false := decide_eq_false (by omega)
    refine fnV mix [] 1 3 2 [.tmp 4] Try.func17 rfl (by kernel_rfl) (by kernel_rfl) rfl (by kernel_rfl) (by kernel_rfl) (by simp) rfl rfl ?_
    simp (implicitDefEqProofs := false) (disch := omega) only [go_sem, ↓reduceIte, d1]
    refine ⟨[(0, 0), (3, 1), (4, 2)], [], [], rfl, ?_, ?_, ?_⟩ <;> simp (implicitDefEqProofs := false) (disch := omega) only [go_sem, ↓reduceIte]
end Go.Proofs.Ythhlielliopegaa
