/- The contracts of the package chain and of planchetref07; the walks of ChainRuns and ChainJoins. -/
import Derived.Test.YtegbkbkcfcjkbaaKeyed
namespace Go.Proofs.Ytegbkbkcfcjkbaa
open Go Go.Sy Go.Proofs.Try
set_option maxRecDepth 100000
set_option maxHeartbeats 8000000
set_option linter.unusedSimpArgs false
set_option linter.unusedVariables false

/-- An address of a chain: the step, and what it is for. -/
def adr (ws : List Int) (j w : Int) : List Int := ((ws.set 5 (ws.getD 5 0)).set 6 j).set 7 w
theorem adr_len {ws : List Int} (h : ws.length = 8) (j w : Int) : (adr ws j w).length = 8 := by simp [adr, h]
theorem adr_mem {ws : List Int} (h : ws.length = 8) (hw : ∀ w ∈ ws, 0 ≤ w ∧ w < 4294967296) {j w : Int} (hj : 0 ≤ j ∧ j < 4294967296) (hw' : 0 ≤ w ∧ w < 4294967296) : ∀ x ∈ adr ws j w, 0 ≤ x ∧ x < 4294967296 := by
  have h5 := getD_all' hw (show 5 < ws.length by omega)
  intro x hx
  rcases List.mem_or_eq_of_mem_set hx with hx | rfl
  · rcases List.mem_or_eq_of_mem_set hx with hx | rfl
    · rcases List.mem_or_eq_of_mem_set hx with hx | rfl
      · exact hw x hx
      · exact h5
    · exact hj
  · exact hw'
def stepD (pub ws x : List Int) (j : Int) : List Int := ofD 0 (ofD 3 pub (bytesA (adr ws j 0))) (maskD x (ofD 3 pub (bytesA (adr ws j 1))))
theorem stepD_len (pub ws x : List Int) (j : Int) : (stepD pub ws x j).length = 32 := ofD_len _ _ _
theorem stepD_mem (pub ws x : List Int) (j : Int) : ∀ y ∈ stepD pub ws x j, 0 ≤ y ∧ y < 256 := ofD_mem _ _ _
/-- A run: so many steps from one on. -/
def runD (pub ws x : List Int) (i : Int) : Nat → List Int
  | 0 => x
  | n + 1 => stepD pub ws (runD pub ws x i n) (i + n)
theorem runD_len {x : List Int} (h : x.length = 32) (pub ws : List Int) (i : Int) : ∀ n, (runD pub ws x i n).length = 32
  | 0 => h
  | n + 1 => stepD_len _ _ _ _
theorem runD_mem {x : List Int} (h : ∀ y ∈ x, 0 ≤ y ∧ y < 256) (pub ws : List Int) (i : Int) : ∀ n, ∀ y ∈ runD pub ws x i n, 0 ≤ y ∧ y < 256
  | 0 => h
  | n + 1 => stepD_mem _ _ _ _
theorem runD_join (pub ws x : List Int) (i : Int) (k : Nat) : ∀ n, runD pub ws (runD pub ws x i k) (i + k) n = runD pub ws x i (k + n)
  | 0 => rfl
  | n + 1 => by
    rw [← Nat.add_assoc, runD, runD, runD_join pub ws x i k n]
    congr 1
    omega
def seven : List Int := 7 :: List.replicate 31 0
theorem seven_run : (runD (List.replicate 32 0) (List.replicate 8 0) seven 0 1 = seven) = False := by rw [eq_iff_iff, iff_false]; decide +kernel
theorem zero_mem32 (n : Nat) : ∀ x ∈ List.replicate n (0 : Int), 0 ≤ x ∧ x < 4294967296 := by intro x hx; rw [List.mem_replicate] at hx; omega
theorem tmod_nat {a b : Int} (ha : 0 ≤ a) (hb : 0 < b) : ∃ k : Nat, a.tmod b = k ∧ (k : Int) < b := by
  have h1 := Int.tmod_nonneg b ha
  have h2 := Int.tmod_lt_of_pos a hb
  exact ⟨(a.tmod b).toNat, by omega, by omega⟩
end Go.Proofs.Ytegbkbkcfcjkbaa
