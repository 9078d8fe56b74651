/- The statement LtreeMakes: two digests, joined, and what any digests' L-tree comes to, are what the document says, or the error is told. No condition. -/
import Derived.Test.YtmbdkaodaaffmaaRows
import Derived.Test.YtmbdkaodaaffmaaLI
import Derived.Test.YtmbdkaodaaffmaaLtree
namespace Go.Proofs.Ytmbdkaodaaffmaa.LtreeMakes
open Go Go.Sy Go.Proofs.Try
set_option linter.unusedVariables false
set_option linter.unusedSimpArgs false
def tds : List TD := [.sl 32 (.arr 32 (.int .u8)), .arr 32 (.int .u8), .arr 8 (.int .u32)]
theorem spec (vs : List AV) (h : TD.hass tds vs) : FnC Try.prog 3 vs [] (.bool true) [] := by
  simp only [tds, TD.hass, TD.has, TD.ik, TD.cs, TD.css] at h
  obtain ⟨_, _, rfl, ⟨es, rfl, _, hl, he⟩, _, _, rfl, ⟨p, rfl, hp, hp'⟩, _, _, rfl, ⟨ws, rfl, hw, hw'⟩, rfl⟩ := h
  obtain ⟨ds, rfl, hd⟩ := ex_map' (f := dg) (Q := goodD) (es := es) (fun x hx => by
    obtain ⟨xs, rfl, h1, h2⟩ := he x hx
    exact ⟨xs, rfl, h1, fun y hy => wf_u8 (h2 y hy)⟩)
  rw [List.length_map] at hl
  have := ltreeMakes_spec p ws ds ⟨hp, fun x hx => wf_u8 (hp' x hx)⟩ ⟨hw, fun x hx => wf_u32 (hw' x hx)⟩ hd hl
  simpa using this
set_option maxRecDepth 100000 in
theorem lifted (os : Os) (started : os.Started) (H : Type) (enc : TypeId × Value → H) :
    ReturnsInHanded {} Try.checked os 3 .any (Rows.ltreeMakesSpec.pre6 enc Try.prog Try.f3 Rows.ltreeMakesRow.domain false) (Rows.ltreeMakesSpec.post enc Try.prog Try.f3 false true false false) :=
  returnsInHanded_of_change_sized (C := Try.checked) (by kernel_rfl) started (by kernel_rfl) Try.func3
    (ChangeSpec.witness6 (enc := enc) (C := Try.checked) false ⟨#[], #[.slice none 0 0, .agg (Array.replicate 32 (.int .u8 0)), .agg (Array.replicate 8 (.int .u32 0))], []⟩ 8 (by kernel_rfl) (by kernel_rfl) (by kernel_rfl) (by kernel_rfl))
    (fun W base args ds gs before hval hW _ hsz _ => law_calls (tds := tds) (by kernel_rfl) (by kernel_rfl) (by kernel_rfl) rfl (fun ds hl => by match ds, hl with | [_, _, _], _ => rfl) (tb := 4) rfl (by kernel_rfl) spec hval hW hsz)
theorem over : Rows.ltreeMakesRow.holds Try.pinned (OpenSpec.ofChange Rows.ltreeMakesSpec) :=
  OpenClaim.holds_of_wide 3 Try.f3 rfl rfl rfl rfl rfl rfl rfl ⟨rfl, rfl, rfl, rfl, rfl⟩ rfl rfl rfl rfl rfl (by kernel_rfl) Try.func3 (by kernel_rfl)
    (of_decide_eq_true (by kernel_rfl)) (by unfold Func.isWrapper; first | (rw [if_pos (by decide +kernel)]; kernel_rfl) | (rw [if_neg (by decide +kernel)]; exact ⟨rfl, rfl⟩))
    (fun os started H enc _ => lifted os started H enc)
end Go.Proofs.Ytmbdkaodaaffmaa.LtreeMakes
namespace Go.Proofs.Ytmbdkaodaaffmaa
theorem ltreeMakes_holds : Rows.LtreeMakesSaid := LtreeMakes.over
#print axioms ltreeMakes_holds
end Go.Proofs.Ytmbdkaodaaffmaa
