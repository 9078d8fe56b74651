/- The statement LtreeFew: of one digest an L-tree comes to that; of two they are joined; of three the third one comes in a level higher; and what was handed in stays. No condition. -/
import Derived.Test.YtmbdkaodaaffmaaRows
import Derived.Test.YtmbdkaodaaffmaaLI
import Derived.Test.YtmbdkaodaaffmaaLtree
namespace Go.Proofs.Ytmbdkaodaaffmaa.LtreeFew
open Go Go.Sy Go.Proofs.Try
set_option linter.unusedVariables false
set_option linter.unusedSimpArgs false
def tds : List TD := [.arr 32 (.int .u8), .arr 32 (.int .u8), .arr 32 (.int .u8), .arr 32 (.int .u8), .arr 8 (.int .u32)]
theorem spec (vs : List AV) (h : TD.hass tds vs) : FnC Try.prog 4 vs [] (.bool true) [] := by
  simp only [tds, TD.hass, TD.has, TD.ik, TD.cs, TD.css] at h
  obtain ⟨_, _, rfl, ⟨a, rfl, ha, ha'⟩, _, _, rfl, ⟨b, rfl, hb, hb'⟩, _, _, rfl, ⟨c, rfl, hc, hc'⟩, _, _, rfl, ⟨p, rfl, hp, hp'⟩, _, _, rfl, ⟨ws, rfl, hw, hw'⟩, rfl⟩ := h
  exact ltreeFew_spec a b c p ws ⟨ha, fun x hx => wf_u8 (ha' x hx)⟩ ⟨hb, fun x hx => wf_u8 (hb' x hx)⟩ ⟨hc, fun x hx => wf_u8 (hc' x hx)⟩ ⟨hp, fun x hx => wf_u8 (hp' x hx)⟩ ⟨hw, fun x hx => wf_u32 (hw' x hx)⟩
set_option maxRecDepth 100000 in
theorem lifted (os : Os) (started : os.Started) (H : Type) (enc : TypeId × Value → H) :
    ReturnsInHanded {} Try.checked os 4 .any (Rows.ltreeFewSpec.pre6 enc Try.prog Try.f4 Rows.ltreeFewRow.domain false) (Rows.ltreeFewSpec.post enc Try.prog Try.f4 false true false false) :=
  returnsInHanded_of_change_sized (C := Try.checked) (by kernel_rfl) started (by kernel_rfl) Try.func4
    (ChangeSpec.witness6 (enc := enc) (C := Try.checked) false ⟨#[], #[.agg (Array.replicate 32 (.int .u8 0)), .agg (Array.replicate 32 (.int .u8 0)), .agg (Array.replicate 32 (.int .u8 0)), .agg (Array.replicate 32 (.int .u8 0)), .agg (Array.replicate 8 (.int .u32 0))], []⟩ 8 (by kernel_rfl) (by kernel_rfl) (by kernel_rfl) (by kernel_rfl))
    (fun W base args ds gs before hval hW _ hsz _ => law_calls (tds := tds) (by kernel_rfl) (by kernel_rfl) (by kernel_rfl) rfl (fun ds hl => by match ds, hl with | [_, _, _, _, _], _ => rfl) (tb := 4) rfl (by kernel_rfl) spec hval hW hsz)
theorem over : Rows.ltreeFewRow.holds Try.pinned (OpenSpec.ofChange Rows.ltreeFewSpec) :=
  OpenClaim.holds_of_wide 4 Try.f4 rfl rfl rfl rfl rfl rfl rfl ⟨rfl, rfl, rfl, rfl, rfl⟩ rfl rfl rfl rfl rfl (by kernel_rfl) Try.func4 (by kernel_rfl)
    (of_decide_eq_true (by kernel_rfl)) (by unfold Func.isWrapper; first | (rw [if_pos (by decide +kernel)]; kernel_rfl) | (rw [if_neg (by decide +kernel)]; exact ⟨rfl, rfl⟩))
    (fun os started H enc _ => lifted os started H enc)
end Go.Proofs.Ytmbdkaodaaffmaa.LtreeFew
namespace Go.Proofs.Ytmbdkaodaaffmaa
theorem ltreeFew_holds : Rows.LtreeFewSaid := LtreeFew.over
#print axioms ltreeFew_holds
end Go.Proofs.Ytmbdkaodaaffmaa
