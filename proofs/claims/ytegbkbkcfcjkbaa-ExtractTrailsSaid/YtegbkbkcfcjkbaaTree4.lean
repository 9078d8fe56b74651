/- The contracts of planchetref10's Rows, Way and Build. -/
import Derived.Test.YtegbkbkcfcjkbaaTree3
namespace Go.Proofs.Ytegbkbkcfcjkbaa
open Go Go.Sy Go.Proofs.Try
set_option maxRecDepth 100000
set_option maxHeartbeats 8000000
set_option linter.unusedSimpArgs false
set_option linter.unusedVariables false

theorem pf_dg : ∀ ds : List (List Int), AV.pf.pfs (ds.map dg) = true
  | [] => rfl
  | d :: ds => by rw [List.map_cons, AV.pf.pfs, pf_dg ds]; rfl
/-- A row of a tree, as an element of a list of rows. -/
def rsl (r : List (List Int)) : AV := .sl (.lst 32 r.length (r.map dg))
def rowD (f : Nat → List Int) (pub : List Int) (l t : Int) (n k : Nat) : List (List Int) := rowN (fun i => treeD f pub l t k i) (pw (n - k))
def rowsD (f : Nat → List Int) (pub : List Int) (l t : Int) (n : Nat) : Nat → List (List (List Int))
  | 0 => []
  | k + 1 => rowsD f pub l t n k ++ [rowD f pub l t n k]
theorem rowD_len (f : Nat → List Int) (pub : List Int) (l t : Int) (n k : Nat) : (rowD f pub l t n k).length = pw (n - k) := rowN_len _ _
theorem rowsD_len (f : Nat → List Int) (pub : List Int) (l t : Int) (n : Nat) : ∀ k, (rowsD f pub l t n k).length = k
  | 0 => rfl
  | k + 1 => by simp [rowsD, rowsD_len f pub l t n k]
theorem rowsD_at (f : Nat → List Int) (pub : List Int) (l t : Int) (n : Nat) : ∀ (m k : Nat), k < m → (rowsD f pub l t n m)[k]? = some (rowD f pub l t n k)
  | m + 1, k, h => by
    rw [rowsD]
    by_cases e : k = m
    · subst e; rw [List.getElem?_append_right (by rw [rowsD_len]; omega), rowsD_len, Nat.sub_self]; rfl
    · rw [List.getElem?_append_left (by rw [rowsD_len]; omega)]; exact rowsD_at f pub l t n m k (by omega)
theorem pw_half {m : Nat} (h : 1 ≤ m) : pw m = 2 * pw (m - 1) := by
  obtain ⟨k, rfl⟩ : ∃ k, m = k + 1 := ⟨m - 1, by omega⟩
  have := pw_succ k
  rw [Nat.add_sub_cancel]
  omega
section
variable (pub seed key : List Int) (l t : Int) (hp : goodD pub) (hs : goodD seed) (hl : 0 ≤ l ∧ l < 4294967296) (ht : 0 ≤ t ∧ t < 18446744073709551616)
end
section
variable (pub seed key : List Int) (l t : Int) (hp : goodD pub) (hs : goodD seed) (hl : 0 ≤ l ∧ l < 4294967296) (ht : 0 ≤ t ∧ t < 18446744073709551616)
end
end Go.Proofs.Ytegbkbkcfcjkbaa
