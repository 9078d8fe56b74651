/- The walks of WotsKeys, WotsSigns, WotsLeads and WotsMeets. -/
import Derived.Test.YthhlielliopegaaGreatWots
namespace Go.Proofs.YthhlielliopegaaGreat
open Go Go.Sy Go.Proofs.Tryz
set_option maxRecDepth 100000
set_option maxHeartbeats 8000000
set_option linter.unusedSimpArgs false
set_option linter.unusedVariables false
attribute [go_sem] pl37
theorem rep_getD (n i : Nat) (x : Int) (h : i < n) : (List.replicate n x).getD i 0 = x := by simp [List.getD, List.getElem?_replicate, h]
section
variable (seed pub m ws : List Int) (hs : goodD seed) (hp : goodD pub) (hm : goodD m) (hw : goodW ws)
include hp hm hw in
theorem refwfrom_spec (l : List (List Int)) (hl : l.length = 67) (hg : ∀ d ∈ l, goodD d) : FnC Tryz.prog 37 [.sl (.lst 32 67 (l.map dg)), .ints .u8 32 m, .ints .u8 32 pub, .ints .u32 8 ws] [] (.osl 0 [] 32 0 67) [(0, .row (.lst 32 67 ((rowN (leadD l m pub ws) 67).map dg)))] := by
  have hdl := digs_len hm.1
  have h := refruns_spec pub ws hp hw l (digs m) (List.replicate 67 15) hl hg hdl (by simp) (fun i hi => by
    rw [rep_getD _ _ _ hi]
    have := dgt_int hm hi
    omega)
  have e : rowN (fun i => runD pub (adrL ws i 0) (l.getD i []) ((digs m).getD i 0) ((List.replicate 67 (15 : Int)).getD i 0 - (digs m).getD i 0).toNat) 67 = rowN (leadD l m pub ws) 67 := rowN_congr fun i hi => by
    obtain ⟨d1, d2⟩ := dgt_int hm hi
    rw [rep_getD _ _ _ hi, d1]
    show runD pub (adrL ws i 0) (l.getD i []) (dgt m i) ((15 : Int) - dgt m i).toNat = _
    unfold leadD
    congr 1; omega
  rw [e] at h
  have ho := refof_spec m hm.1 hm.2
  rw [rdigs_eq hm.1 hm.2] at ho
  refine fnN mix pl37 0 4 [.tmp 8] Tryz.func37 rfl (by kernel_rfl) (by kernel_rfl) rfl (by kernel_rfl) (by kernel_rfl) (by simp) ?_
  simp (implicitDefEqProofs := false) (disch := omega) only [go_sem, ↓reduceIte]
  refine callF 1 ho ?_
  simp (implicitDefEqProofs := false) (disch := omega) only [go_sem, ↓reduceIte]
  refine callF 1 (all08_spec 15) ?_
  simp (implicitDefEqProofs := false) (disch := omega) only [go_sem, ↓reduceIte]
  refine callBF 1 h ?_ ?_
  · simp (implicitDefEqProofs := false) (disch := omega) only [go_sem, ↓reduceIte]
  simp (implicitDefEqProofs := false) (disch := omega) only [go_sem, ↓reduceIte]
  refine ⟨[(0, 5)], [], [], rfl, ?_, ?_, ?_⟩ <;> simp (implicitDefEqProofs := false) (disch := omega) only [go_sem, ↓reduceIte]
end
def zs : List Int := List.replicate 32 0
def zw : List Int := List.replicate 8 0
theorem zs_good : goodD zs := ⟨rfl, by decide⟩
theorem zw_good : goodW zw := ⟨rfl, by decide⟩
theorem sign_0 : signD zs zs zs zw 0 = secD zs zw 0 := by
  unfold signD; rw [show dgt zs 0 = 0 by decide +kernel]; rfl
theorem sign_63 : signD zs zs zs zw 63 = secD zs zw 63 := by
  unfold signD; rw [show dgt zs 63 = 0 by decide +kernel]; rfl
theorem sign_66 : signD zs zs zs zw 66 = secD zs zw 66 := by
  unfold signD; rw [show dgt zs 66 = 0 by decide +kernel]; rfl
theorem sign_64 : (signD zs zs zs zw 64 = secD zs zw 64) = False := by
  rw [eq_iff_iff, iff_false]; decide +kernel
end Go.Proofs.YthhlielliopegaaGreat
