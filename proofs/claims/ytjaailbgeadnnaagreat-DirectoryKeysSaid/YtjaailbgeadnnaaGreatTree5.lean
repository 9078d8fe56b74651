/- The walks of TreeBuilds and TreeMeets. -/
import Derived.Test.YtjaailbgeadnnaaGreatTree4
namespace Go.Proofs.YtjaailbgeadnnaaGreat
open Go Go.Sy Go.Proofs.Tryz
set_option maxRecDepth 100000
set_option maxHeartbeats 8000000
set_option linter.unusedSimpArgs false
set_option linter.unusedVariables false

/-- From a leaf, by its way up, one comes to the root. -/
theorem climb_way (f : Nat → List Int) (pub : List Int) (l t : Int) (i n : Nat) : ∀ k, k ≤ n → climbD pub l t (f i) (wayD f pub l t i n) i k = treeD f pub l t k (i / 2 ^ k)
  | 0, _ => by rw [climbD, Nat.pow_zero, Nat.div_one]; rfl
  | k + 1, hk => by
    have e0 : i / 2 ^ (k + 1) = i / 2 ^ k / 2 := by rw [Nat.pow_succ, Nat.div_div_eq_div_mul]
    have hw : (wayD f pub l t i n).getD k [] = treeD f pub l t k (sib (i / 2 ^ k)) := rowN_getD (fun k => treeD f pub l t k (sib (i / 2 ^ k))) (by omega)
    rw [climbD, climb_way f pub l t i n k (by omega), hw, e0]
    generalize i / 2 ^ k = q
    split
    · next h =>
      have e1 : sib q = 2 * (q / 2) + 1 := by unfold sib; rw [if_pos h]; omega
      have e2 : treeD f pub l t k q = treeD f pub l t k (2 * (q / 2)) := by congr 1; omega
      rw [e1, e2]; rfl
    · next h =>
      have e1 : sib q = 2 * (q / 2) := by unfold sib; rw [if_neg h]; omega
      have e2 : treeD f pub l t k q = treeD f pub l t k (2 * (q / 2) + 1) := by congr 1; omega
      rw [e1, e2]; rfl
section
variable (pub seed key : List Int) (l t : Int) (hp : goodD pub) (hs : goodD seed) (hl : 0 ≤ l ∧ l < 4294967296) (ht : 0 ≤ t ∧ t < 18446744073709551616)
end
theorem secret_of {x : AV} (h : TD.has (.st [.arr 32 (.int .u8), .arr 32 (.int .u8), .arr 32 (.int .u8)]) x) : ∃ s k p : List Int, x = .agg [.ints .u8 32 s, .ints .u8 32 k, .ints .u8 32 p] ∧ goodD s ∧ goodD k ∧ goodD p := by
  simp only [TD.has, TD.hass, TD.ik] at h
  obtain ⟨_, rfl, _, _, rfl, ⟨s, rfl, hs, hs'⟩, _, _, rfl, ⟨k, rfl, hk, hk'⟩, _, _, rfl, ⟨p, rfl, hp, hp'⟩, rfl⟩ := h
  exact ⟨s, k, p, rfl, ⟨hs, fun x hx => wf_u8 (hs' x hx)⟩, ⟨hk, fun x hx => wf_u8 (hk' x hx)⟩, ⟨hp, fun x hx => wf_u8 (hp' x hx)⟩⟩
end Go.Proofs.YtjaailbgeadnnaaGreat
