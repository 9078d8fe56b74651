/- The walks of WotsKeys, WotsSigns, WotsLeads and WotsMeets. -/
import Derived.Test.YtegbkbkcfcjkbaaWots
namespace Go.Proofs.Ytegbkbkcfcjkbaa
open Go Go.Sy Go.Proofs.Try
set_option maxRecDepth 100000
set_option maxHeartbeats 8000000
set_option linter.unusedSimpArgs false
set_option linter.unusedVariables false

theorem rep_getD (n i : Nat) (x : Int) (h : i < n) : (List.replicate n x).getD i 0 = x := by simp [List.getD, List.getElem?_replicate, h]
section
variable (seed pub m ws : List Int) (hs : goodD seed) (hp : goodD pub) (hm : goodD m) (hw : goodW ws)
end
def zs : List Int := List.replicate 32 0
def zw : List Int := List.replicate 8 0
theorem zs_good : goodD zs := ⟨rfl, by decide⟩
theorem zw_good : goodW zw := ⟨rfl, by decide⟩
theorem sign_0 : signD zs zs zs zw 0 = secD zs zw 0 := by
  unfold signD; rw [show dgt zs 0 = 0 by decide +kernel]; rfl
theorem sign_63 : signD zs zs zs zw 63 = secD zs zw 63 := by
  unfold signD; rw [show dgt zs 63 = 0 by decide +kernel]; rfl
theorem sign_66 : signD zs zs zs zw 66 = secD zs zw 66 := by
  unfold signD; rw [show dgt zs 66 = 0 by decide +kernel]; rfl
theorem sign_64 : (signD zs zs zs zw 64 = secD zs zw 64) = False := by
  rw [eq_iff_iff, iff_false]; decide +kernel
end Go.Proofs.Ytegbkbkcfcjkbaa
