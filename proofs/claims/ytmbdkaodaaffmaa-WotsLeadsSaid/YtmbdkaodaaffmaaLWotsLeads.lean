/- The statement WotsLeads: what any parts lead to is what the document says, or the error is told. No condition. -/
import Derived.Test.YtmbdkaodaaffmaaRows
import Derived.Test.YtmbdkaodaaffmaaLI
import Derived.Test.YtmbdkaodaaffmaaWotsL
namespace Go.Proofs.Ytmbdkaodaaffmaa.WotsLeads
open Go Go.Sy Go.Proofs.Try
set_option linter.unusedVariables false
set_option linter.unusedSimpArgs false
def tds : List TD := [.sl 32 (.arr 32 (.int .u8)), .arr 32 (.int .u8), .arr 32 (.int .u8), .arr 8 (.int .u32)]
theorem spec (vs : List AV) (h : TD.hass tds vs) : FnC Try.prog 8 vs [] (.bool true) [] := by
  simp only [tds, TD.hass, TD.has, TD.ik, TD.cs, TD.css] at h
  obtain ⟨_, _, rfl, ⟨es, rfl, _, hl, he⟩, _, _, rfl, ⟨m, rfl, hm, hm'⟩, _, _, rfl, ⟨p, rfl, hp, hp'⟩, _, _, rfl, ⟨ws, rfl, hw, hw'⟩, rfl⟩ := h
  obtain ⟨ds, rfl, hd⟩ := ex_map' (f := dg) (Q := goodD) (es := es) (fun x hx => by
    obtain ⟨xs, rfl, h1, h2⟩ := he x hx
    exact ⟨xs, rfl, h1, fun y hy => wf_u8 (h2 y hy)⟩)
  rw [List.length_map] at hl
  have := wotsLeads_spec ds m p ws hd ⟨hm, fun x hx => wf_u8 (hm' x hx)⟩ ⟨hp, fun x hx => wf_u8 (hp' x hx)⟩ ⟨hw, fun x hx => wf_u32 (hw' x hx)⟩ hl
  simpa using this
set_option maxRecDepth 100000 in
theorem lifted (os : Os) (started : os.Started) (H : Type) (enc : TypeId × Value → H) :
    ReturnsInHanded {} Try.checked os 8 .any (Rows.wotsLeadsSpec.pre6 enc Try.prog Try.f8 Rows.wotsLeadsRow.domain false) (Rows.wotsLeadsSpec.post enc Try.prog Try.f8 false true false false) :=
  returnsInHanded_of_change_sized (C := Try.checked) (by kernel_rfl) started (by kernel_rfl) Try.func8
    (ChangeSpec.witness6 (enc := enc) (C := Try.checked) false ⟨#[], #[.slice none 0 0, .agg (Array.replicate 32 (.int .u8 0)), .agg (Array.replicate 32 (.int .u8 0)), .agg (Array.replicate 8 (.int .u32 0))], []⟩ 8 (by kernel_rfl) (by kernel_rfl) (by kernel_rfl) (by kernel_rfl))
    (fun W base args ds gs before hval hW _ hsz _ => law_calls (tds := tds) (by kernel_rfl) (by kernel_rfl) (by kernel_rfl) rfl (fun ds hl => by match ds, hl with | [_, _, _, _], _ => rfl) (tb := 4) rfl (by kernel_rfl) spec hval hW hsz)
theorem over : Rows.wotsLeadsRow.holds Try.pinned (OpenSpec.ofChange Rows.wotsLeadsSpec) :=
  OpenClaim.holds_of_wide 8 Try.f8 rfl rfl rfl rfl rfl rfl rfl ⟨rfl, rfl, rfl, rfl, rfl⟩ rfl rfl rfl rfl rfl (by kernel_rfl) Try.func8 (by kernel_rfl)
    (of_decide_eq_true (by kernel_rfl)) (by unfold Func.isWrapper; first | (rw [if_pos (by decide +kernel)]; kernel_rfl) | (rw [if_neg (by decide +kernel)]; exact ⟨rfl, rfl⟩))
    (fun os started H enc _ => lifted os started H enc)
end Go.Proofs.Ytmbdkaodaaffmaa.WotsLeads
namespace Go.Proofs.Ytmbdkaodaaffmaa
theorem wotsLeads_holds : Rows.WotsLeadsSaid := WotsLeads.over
#print axioms wotsLeads_holds
end Go.Proofs.Ytmbdkaodaaffmaa
