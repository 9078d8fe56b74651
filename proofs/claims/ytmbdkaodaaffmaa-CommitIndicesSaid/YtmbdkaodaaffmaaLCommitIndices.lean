/- The statement CommitIndices: the index and the nonce of any key, name and version, and whether any ones belong together, are what the document says, or the error is told; and what came of a key opens. No condition. -/
import Derived.Test.YtmbdkaodaaffmaaRows
import Derived.Test.YtmbdkaodaaffmaaLI
import Derived.Test.YtmbdkaodaaffmaaCommitL
namespace Go.Proofs.Ytmbdkaodaaffmaa.CommitIndices
open Go Go.Sy Go.Proofs.Try
set_option linter.unusedVariables false
set_option linter.unusedSimpArgs false
def tds : List TD := [.arr 32 (.int .u8), .arr 32 (.int .u8), .arr 32 (.int .u8), .sl 1 (.int .u8), .int .i64]
theorem spec (vs : List AV) (h : TD.hass tds vs) : FnC Try.prog 5 vs [] (.bool true) [] := by
  simp only [tds, TD.hass, TD.has, TD.ik, TD.cs, TD.css] at h
  obtain ⟨_, _, rfl, ⟨k, rfl, hk, hk'⟩, _, _, rfl, ⟨i, rfl, hi, _⟩, _, _, rfl, ⟨o, rfl, ho, ho'⟩, _, _, rfl, ⟨m, rfl, _, hl, hm⟩, _, _, rfl, ⟨v, rfl, _⟩, rfl⟩ := h
  exact commitIndices_spec k i o m v hk (fun x hx => wf_u8 (hk' x hx)) hi ho (fun x hx => wf_u8 (ho' x hx)) (fun x hx => wf_u8 (hm x hx)) hl
set_option maxRecDepth 100000 in
theorem lifted (os : Os) (started : os.Started) (H : Type) (enc : TypeId × Value → H) :
    ReturnsInHanded {} Try.checked os 5 .any (Rows.commitIndicesSpec.pre6 enc Try.prog Try.f5 Rows.commitIndicesRow.domain false) (Rows.commitIndicesSpec.post enc Try.prog Try.f5 false true false false) :=
  returnsInHanded_of_change_sized (C := Try.checked) (by kernel_rfl) started (by kernel_rfl) Try.func5
    (ChangeSpec.witness6 (enc := enc) (C := Try.checked) false ⟨#[], #[.agg (Array.replicate 32 (.int .u8 0)), .agg (Array.replicate 32 (.int .u8 0)), .agg (Array.replicate 32 (.int .u8 0)), .slice none 0 0, .int .i64 0], []⟩ 8 (by kernel_rfl) (by kernel_rfl) (by kernel_rfl) (by kernel_rfl))
    (fun W base args ds gs before hval hW _ hsz _ => law_calls (tds := tds) (by kernel_rfl) (by kernel_rfl) (by kernel_rfl) rfl (fun ds hl => by match ds, hl with | [_, _, _, _, _], _ => rfl) (tb := 4) rfl (by kernel_rfl) spec hval hW hsz)
theorem over : Rows.commitIndicesRow.holds Try.pinned (OpenSpec.ofChange Rows.commitIndicesSpec) :=
  OpenClaim.holds_of_wide 5 Try.f5 rfl rfl rfl rfl rfl rfl rfl ⟨rfl, rfl, rfl, rfl, rfl⟩ rfl rfl rfl rfl rfl (by kernel_rfl) Try.func5 (by kernel_rfl)
    (of_decide_eq_true (by kernel_rfl)) (by unfold Func.isWrapper; first | (rw [if_pos (by decide +kernel)]; kernel_rfl) | (rw [if_neg (by decide +kernel)]; exact ⟨rfl, rfl⟩))
    (fun os started H enc _ => lifted os started H enc)
end Go.Proofs.Ytmbdkaodaaffmaa.CommitIndices
namespace Go.Proofs.Ytmbdkaodaaffmaa
theorem commitIndices_holds : Rows.CommitIndicesSaid := CommitIndices.over
#print axioms commitIndices_holds
end Go.Proofs.Ytmbdkaodaaffmaa
