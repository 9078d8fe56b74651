/- The contracts of the package wots and of planchetref08; the walks of its laws. -/
import Derived.Test.YtegbkbkcfcjkbaaLtree
import Derived.Test.YtegbkbkcfcjkbaaDigits
namespace Go.Proofs.Ytegbkbkcfcjkbaa
open Go Go.Sy Go.Proofs.Try
set_option maxRecDepth 100000
set_option maxHeartbeats 8000000
set_option linter.unusedSimpArgs false
set_option linter.unusedVariables false

def rowN (f : Nat → List Int) (n : Nat) : List (List Int) := (List.range n).map f
theorem rowN_len (f : Nat → List Int) (n : Nat) : (rowN f n).length = n := by simp [rowN]
theorem rowN_succ (f : Nat → List Int) (n : Nat) : rowN f (n + 1) = rowN f n ++ [f n] := by simp [rowN, List.range_succ]
theorem rowN_at (f : Nat → List Int) {n i : Nat} (h : i < n) : (rowN f n)[i]? = some (f i) := by simp [rowN, h]
theorem rowN_congr {f g : Nat → List Int} {n : Nat} (h : ∀ i, i < n → f i = g i) : rowN f n = rowN g n := List.map_congr_left fun i hi => h i (List.mem_range.1 hi)
theorem rowN_good {f : Nat → List Int} {n : Nat} (h : ∀ i, i < n → goodD (f i)) : ∀ d ∈ rowN f n, goodD d := by
  intro d hd
  obtain ⟨i, hi, rfl⟩ := List.mem_map.1 hd
  exact h i (List.mem_range.1 hi)
theorem rowN_getD (f : Nat → List Int) {n i : Nat} (h : i < n) : (rowN f n).getD i [] = f i := by simp [List.getD, rowN_at f h]
/-- A secret part. -/
def secD (seed ws : List Int) (i : Nat) : List Int := ofD 3 seed (bytesA (adrL ws i 0))
theorem secD_good (seed ws : List Int) (i : Nat) : goodD (secD seed ws i) := ofD_good _ _ _
theorem runD_good {x : List Int} (h : goodD x) (pub ws : List Int) (i : Int) (n : Nat) : goodD (runD pub ws x i n) := ⟨runD_len h.1 _ _ _ _, runD_mem h.2 _ _ _ _⟩
def pubD (seed pub ws : List Int) (i : Nat) : List Int := runD pub (adrL ws i 0) (secD seed ws i) 0 15
def dgt (m : List Int) (i : Nat) : Nat := ((digs m).getD i 0).toNat
def signD (m seed pub ws : List Int) (i : Nat) : List Int := runD pub (adrL ws i 0) (secD seed ws i) 0 (dgt m i)
def leadD (l : List (List Int)) (m pub ws : List Int) (i : Nat) : List Int := runD pub (adrL ws i 0) (l.getD i []) (dgt m i) (15 - dgt m i)
theorem dgt_int {m : List Int} (hm : goodD m) {i : Nat} (h : i < 67) : (digs m).getD i 0 = (dgt m i : Int) ∧ dgt m i ≤ 15 := by
  have hl := digs_len hm.1
  have hx := getD_all' (digs_mem hm.2) (show i < (digs m).length by omega)
  unfold dgt
  omega
theorem pubD_good (seed pub ws : List Int) (i : Nat) : goodD (pubD seed pub ws i) := runD_good (secD_good _ _ _) _ _ _ _
theorem signD_good (m seed pub ws : List Int) (i : Nat) : goodD (signD m seed pub ws i) := runD_good (secD_good _ _ _) _ _ _ _
theorem lead_sign {m : List Int} (hm : goodD m) (seed pub ws : List Int) {i : Nat} (h : i < 67) : leadD (rowN (signD m seed pub ws) 67) m pub ws i = pubD seed pub ws i := by
  have hd := (dgt_int hm h).2
  have j := runD_join pub (adrL ws i 0) (secD seed ws i) 0 (dgt m i) (15 - dgt m i)
  unfold leadD pubD
  rw [rowN_getD _ h, signD]
  rw [Int.zero_add] at j
  rw [j]
  congr 1; omega
section
variable (seed pub m ws : List Int) (hs : goodD seed) (hp : goodD pub) (hm : goodD m) (hw : goodW ws)
end
end Go.Proofs.Ytegbkbkcfcjkbaa
/- The walks of WotsKeys, WotsSigns, WotsLeads and WotsMeets. -/
namespace Go.Proofs.Ytegbkbkcfcjkbaa
open Go Go.Sy Go.Proofs.Try
set_option maxRecDepth 100000
set_option maxHeartbeats 8000000
set_option linter.unusedSimpArgs false
set_option linter.unusedVariables false

theorem rep_getD (n i : Nat) (x : Int) (h : i < n) : (List.replicate n x).getD i 0 = x := by simp [List.getD, List.getElem?_replicate, h]
section
variable (seed pub m ws : List Int) (hs : goodD seed) (hp : goodD pub) (hm : goodD m) (hw : goodW ws)
end
def zs : List Int := List.replicate 32 0
def zw : List Int := List.replicate 8 0
theorem zs_good : goodD zs := ⟨rfl, by decide⟩
theorem zw_good : goodW zw := ⟨rfl, by decide⟩
theorem sign_0 : signD zs zs zs zw 0 = secD zs zw 0 := by
  unfold signD; rw [show dgt zs 0 = 0 by decide +kernel]; rfl
theorem sign_63 : signD zs zs zs zw 63 = secD zs zw 63 := by
  unfold signD; rw [show dgt zs 63 = 0 by decide +kernel]; rfl
theorem sign_66 : signD zs zs zs zw 66 = secD zs zw 66 := by
  unfold signD; rw [show dgt zs 66 = 0 by decide +kernel]; rfl
theorem sign_64 : (signD zs zs zs zw 64 = secD zs zw 64) = False := by
  rw [eq_iff_iff, iff_false]; decide +kernel
end Go.Proofs.Ytegbkbkcfcjkbaa
