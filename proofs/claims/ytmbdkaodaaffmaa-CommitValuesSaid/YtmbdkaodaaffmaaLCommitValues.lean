/- The statement CommitValues: the commitment and the salt of any key, index and value, and whether any ones belong together, are what the document says, or the error is told; and what came of a key opens. No condition. -/
import Derived.Test.YtmbdkaodaaffmaaRows
import Derived.Test.YtmbdkaodaaffmaaLI
import Derived.Test.YtmbdkaodaaffmaaCommitL
namespace Go.Proofs.Ytmbdkaodaaffmaa.CommitValues
open Go Go.Sy Go.Proofs.Try
set_option linter.unusedVariables false
set_option linter.unusedSimpArgs false
def tds : List TD := [.arr 32 (.int .u8), .arr 32 (.int .u8), .arr 32 (.int .u8), .sl 1 (.int .u8)]
theorem spec (vs : List AV) (h : TD.hass tds vs) : FnC Try.prog 6 vs [] (.bool true) [] := by
  simp only [tds, TD.hass, TD.has, TD.ik, TD.cs, TD.css] at h
  obtain ⟨_, _, rfl, ⟨k, rfl, hk, hk'⟩, _, _, rfl, ⟨i, rfl, hi, hi'⟩, _, _, rfl, ⟨o, rfl, ho, ho'⟩, _, _, rfl, ⟨m, rfl, _, hl, hm⟩, rfl⟩ := h
  exact commitValues_spec k i o m hk (fun x hx => wf_u8 (hk' x hx)) hi (fun x hx => wf_u8 (hi' x hx)) ho (fun x hx => wf_u8 (ho' x hx)) (fun x hx => wf_u8 (hm x hx)) hl
set_option maxRecDepth 100000 in
theorem lifted (os : Os) (started : os.Started) (H : Type) (enc : TypeId × Value → H) :
    ReturnsInHanded {} Try.checked os 6 .any (Rows.commitValuesSpec.pre6 enc Try.prog Try.f6 Rows.commitValuesRow.domain false) (Rows.commitValuesSpec.post enc Try.prog Try.f6 false true false false) :=
  returnsInHanded_of_change_sized (C := Try.checked) (by kernel_rfl) started (by kernel_rfl) Try.func6
    (ChangeSpec.witness6 (enc := enc) (C := Try.checked) false ⟨#[], #[.agg (Array.replicate 32 (.int .u8 0)), .agg (Array.replicate 32 (.int .u8 0)), .agg (Array.replicate 32 (.int .u8 0)), .slice none 0 0], []⟩ 8 (by kernel_rfl) (by kernel_rfl) (by kernel_rfl) (by kernel_rfl))
    (fun W base args ds gs before hval hW _ hsz _ => law_calls (tds := tds) (by kernel_rfl) (by kernel_rfl) (by kernel_rfl) rfl (fun ds hl => by match ds, hl with | [_, _, _, _], _ => rfl) (tb := 4) rfl (by kernel_rfl) spec hval hW hsz)
theorem over : Rows.commitValuesRow.holds Try.pinned (OpenSpec.ofChange Rows.commitValuesSpec) :=
  OpenClaim.holds_of_wide 6 Try.f6 rfl rfl rfl rfl rfl rfl rfl ⟨rfl, rfl, rfl, rfl, rfl⟩ rfl rfl rfl rfl rfl (by kernel_rfl) Try.func6 (by kernel_rfl)
    (of_decide_eq_true (by kernel_rfl)) (by unfold Func.isWrapper; first | (rw [if_pos (by decide +kernel)]; kernel_rfl) | (rw [if_neg (by decide +kernel)]; exact ⟨rfl, rfl⟩))
    (fun os started H enc _ => lifted os started H enc)
end Go.Proofs.Ytmbdkaodaaffmaa.CommitValues
namespace Go.Proofs.Ytmbdkaodaaffmaa
theorem commitValues_holds : Rows.CommitValuesSaid := CommitValues.over
#print axioms commitValues_holds
end Go.Proofs.Ytmbdkaodaaffmaa
