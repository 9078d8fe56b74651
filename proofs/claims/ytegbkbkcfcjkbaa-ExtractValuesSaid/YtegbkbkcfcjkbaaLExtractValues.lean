/- The statement ExtractValues: if one commitment comes of two unlike values, two unlike texts with one sum are told; else none. No condition. -/
import Derived.Test.YtegbkbkcfcjkbaaRows
import Derived.Test.YtegbkbkcfcjkbaaLI
import Derived.Test.YtegbkbkcfcjkbaaExtr4
namespace Go.Proofs.Ytegbkbkcfcjkbaa.ExtractValues
open Go Go.Sy Go.Proofs.Try
set_option linter.unusedVariables false
set_option linter.unusedSimpArgs false
def tds : List TD := [.arr 32 (.int .u8), .arr 32 (.int .u8), .arr 32 (.int .u8), .sl 1 (.int .u8), .sl 1 (.int .u8)]
theorem spec (vs : List AV) (h : TD.hass tds vs) : FnC Try.prog 7 vs [] (.bool true) [] := by
  simp only [tds, TD.hass, TD.has, TD.ik, TD.cs, TD.css] at h
  obtain ⟨_, _, rfl, ⟨c, rfl, hc, hc'⟩, _, _, rfl, ⟨s, rfl, hs, hs'⟩, _, _, rfl, ⟨o, rfl, ho, ho'⟩, _, _, rfl, ⟨v, rfl, _, hvl, hv⟩, _, _, rfl, ⟨m, rfl, _, hml, hm⟩, rfl⟩ := h
  exact extractValues_spec c s o v m ⟨hs, fun x h => wf_u8 (hs' x h)⟩ ⟨ho, fun x h => wf_u8 (ho' x h)⟩ (fun x h => wf_u8 (hv x h)) (fun x h => wf_u8 (hm x h)) hvl hml
set_option maxRecDepth 100000 in
theorem lifted (os : Os) (started : os.Started) (H : Type) (enc : TypeId × Value → H) :
    ReturnsInHanded {} Try.checked os 7 .any (Rows.extractValuesSpec.pre6 enc Try.prog Try.f7 Rows.extractValuesRow.domain false) (Rows.extractValuesSpec.post enc Try.prog Try.f7 false true false false) :=
  returnsInHanded_of_change_sized (C := Try.checked) (by kernel_rfl) started (by kernel_rfl) Try.func7
    (ChangeSpec.witness6 (enc := enc) (C := Try.checked) false ⟨#[], #[.agg (Array.replicate 32 (.int .u8 0)), .agg (Array.replicate 32 (.int .u8 0)), .agg (Array.replicate 32 (.int .u8 0)), .slice none 0 0, .slice none 0 0], []⟩ 8 (by kernel_rfl) (by kernel_rfl) (by kernel_rfl) (by kernel_rfl))
    (fun W base args ds gs before hval hW _ hsz _ => law_calls (tds := tds) (by kernel_rfl) (by kernel_rfl) (by kernel_rfl) rfl (fun ds hl => by match ds, hl with | [_, _, _, _, _], _ => rfl) (tb := 4) rfl (by kernel_rfl) spec hval hW hsz)
theorem over : Rows.extractValuesRow.holds Try.pinned (OpenSpec.ofChange Rows.extractValuesSpec) :=
  OpenClaim.holds_of_wide 7 Try.f7 rfl rfl rfl rfl rfl rfl rfl ⟨rfl, rfl, rfl, rfl, rfl⟩ rfl rfl rfl rfl rfl (by kernel_rfl) Try.func7 (by kernel_rfl)
    (of_decide_eq_true (by kernel_rfl)) (by unfold Func.isWrapper; first | (rw [if_pos (by decide +kernel)]; kernel_rfl) | (rw [if_neg (by decide +kernel)]; exact ⟨rfl, rfl⟩))
    (fun os started H enc _ => lifted os started H enc)
end Go.Proofs.Ytegbkbkcfcjkbaa.ExtractValues
namespace Go.Proofs.Ytegbkbkcfcjkbaa
theorem extractValues_holds : Rows.ExtractValuesSaid := ExtractValues.over
#print axioms extractValues_holds
end Go.Proofs.Ytegbkbkcfcjkbaa
