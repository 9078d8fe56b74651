/- The statement WotsMeets: a digest's signature leads to the open parts. No condition. -/
import Derived.Test.YtmbdkaodaaffmaaRows
import Derived.Test.YtmbdkaodaaffmaaLI
import Derived.Test.YtmbdkaodaaffmaaWotsL
namespace Go.Proofs.Ytmbdkaodaaffmaa.WotsMeets
open Go Go.Sy Go.Proofs.Try
set_option linter.unusedVariables false
set_option linter.unusedSimpArgs false
def tds : List TD := [.arr 32 (.int .u8), .arr 32 (.int .u8), .arr 32 (.int .u8), .arr 8 (.int .u32)]
theorem spec (vs : List AV) (h : TD.hass tds vs) : FnC Try.prog 10 vs [] (.bool true) [] := by
  simp only [tds, TD.hass, TD.has, TD.ik, TD.cs, TD.css] at h
  obtain ⟨_, _, rfl, ⟨m, rfl, hm, hm'⟩, _, _, rfl, ⟨s, rfl, hs, hs'⟩, _, _, rfl, ⟨p, rfl, hp, hp'⟩, _, _, rfl, ⟨ws, rfl, hw, hw'⟩, rfl⟩ := h
  exact wotsMeets_spec m s p ws ⟨hm, fun x hx => wf_u8 (hm' x hx)⟩ ⟨hs, fun x hx => wf_u8 (hs' x hx)⟩ ⟨hp, fun x hx => wf_u8 (hp' x hx)⟩ ⟨hw, fun x hx => wf_u32 (hw' x hx)⟩
set_option maxRecDepth 100000 in
theorem lifted (os : Os) (started : os.Started) (H : Type) (enc : TypeId × Value → H) :
    ReturnsInHanded {} Try.checked os 10 .any (Rows.wotsMeetsSpec.pre6 enc Try.prog Try.f10 Rows.wotsMeetsRow.domain false) (Rows.wotsMeetsSpec.post enc Try.prog Try.f10 false true false false) :=
  returnsInHanded_of_change_sized (C := Try.checked) (by kernel_rfl) started (by kernel_rfl) Try.func10
    (ChangeSpec.witness6 (enc := enc) (C := Try.checked) false ⟨#[], #[.agg (Array.replicate 32 (.int .u8 0)), .agg (Array.replicate 32 (.int .u8 0)), .agg (Array.replicate 32 (.int .u8 0)), .agg (Array.replicate 8 (.int .u32 0))], []⟩ 8 (by kernel_rfl) (by kernel_rfl) (by kernel_rfl) (by kernel_rfl))
    (fun W base args ds gs before hval hW _ hsz _ => law_calls (tds := tds) (by kernel_rfl) (by kernel_rfl) (by kernel_rfl) rfl (fun ds hl => by match ds, hl with | [_, _, _, _], _ => rfl) (tb := 4) rfl (by kernel_rfl) spec hval hW hsz)
theorem over : Rows.wotsMeetsRow.holds Try.pinned (OpenSpec.ofChange Rows.wotsMeetsSpec) :=
  OpenClaim.holds_of_wide 10 Try.f10 rfl rfl rfl rfl rfl rfl rfl ⟨rfl, rfl, rfl, rfl, rfl⟩ rfl rfl rfl rfl rfl (by kernel_rfl) Try.func10 (by kernel_rfl)
    (of_decide_eq_true (by kernel_rfl)) (by unfold Func.isWrapper; first | (rw [if_pos (by decide +kernel)]; kernel_rfl) | (rw [if_neg (by decide +kernel)]; exact ⟨rfl, rfl⟩))
    (fun os started H enc _ => lifted os started H enc)
end Go.Proofs.Ytmbdkaodaaffmaa.WotsMeets
namespace Go.Proofs.Ytmbdkaodaaffmaa
theorem wotsMeets_holds : Rows.WotsMeetsSaid := WotsMeets.over
#print axioms wotsMeets_holds
end Go.Proofs.Ytmbdkaodaaffmaa
