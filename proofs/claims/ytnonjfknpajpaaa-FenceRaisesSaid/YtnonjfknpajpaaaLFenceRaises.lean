/- The statement FenceRaises: what a fence's marks become, raised by any ones, one behind the other, is what the document says. No condition. -/
import Derived.Test.YtnonjfknpajpaaaRows
import Derived.Test.YtnonjfknpajpaaaR1
import Derived.Test.YtnonjfknpajpaaaFence
namespace Go.Proofs.Ytnonjfknpajpaaa.FenceRaises
open Go Go.Sy Go.Proofs.Try
set_option linter.unusedVariables false
set_option linter.unusedSimpArgs false
def tds : List TD := [.sl 24 (.st [.int .i64, .int .i64, .int .i64])]
theorem spec (vs : List AV) (h : TD.hass tds vs) : FnC Try.prog 6 vs [] (.bool true) [] := by
  simp only [tds, TD.hass, TD.has, TD.ik, TD.cs, TD.css] at h
  obtain ⟨_, _, rfl, ⟨es, rfl, _, hl, he⟩, rfl⟩ := h
  obtain ⟨ms, rfl, _⟩ := ex_map (f := mkm) (Q := fun _ => True) (es := es) (fun x hx => by
    obtain ⟨_, rfl, _, _, rfl, ⟨a, rfl, _⟩, _, _, rfl, ⟨b, rfl, _⟩, _, _, rfl, ⟨c, rfl, _⟩, rfl⟩ := he x hx
    exact ⟨(a, b, c), rfl, trivial⟩)
  have := raises_spec ms (by rw [List.length_map] at hl; exact hl)
  simpa using this
set_option maxRecDepth 100000 in
theorem lifted (os : Os) (started : os.Started) (H : Type) (enc : TypeId × Value → H) :
    ReturnsInHanded {} Try.checked os 6 .any (Rows.fenceRaisesSpec.pre6 enc Try.prog Try.f6 Rows.fenceRaisesRow.domain false) (Rows.fenceRaisesSpec.post enc Try.prog Try.f6 false true false false) :=
  returnsInHanded_of_change_sized (C := Try.checked) (by kernel_rfl) started (by kernel_rfl) Try.func6
    (ChangeSpec.witness6 (enc := enc) (C := Try.checked) false ⟨#[], #[.slice none 0 0], []⟩ 8 (by kernel_rfl) (by kernel_rfl) (by kernel_rfl) (by kernel_rfl))
    (fun W base args ds gs before hval hW _ hsz _ => law_calls (tds := tds) (by kernel_rfl) (by kernel_rfl) (by kernel_rfl) rfl (fun ds hl => by match ds, hl with | [_], _ => rfl) (tb := 4) rfl (by kernel_rfl) spec hval hW hsz)
theorem over : Rows.fenceRaisesRow.holds Try.pinned (OpenSpec.ofChange Rows.fenceRaisesSpec) :=
  OpenClaim.holds_of_wide 6 Try.f6 rfl rfl rfl rfl rfl rfl rfl ⟨rfl, rfl, rfl, rfl, rfl⟩ rfl rfl rfl rfl rfl (by kernel_rfl) Try.func6 (by kernel_rfl)
    (of_decide_eq_true (by kernel_rfl)) (by unfold Func.isWrapper; first | (rw [if_pos (by decide +kernel)]; kernel_rfl) | (rw [if_neg (by decide +kernel)]; exact ⟨rfl, rfl⟩))
    (fun os started H enc _ => lifted os started H enc)
end Go.Proofs.Ytnonjfknpajpaaa.FenceRaises
namespace Go.Proofs.Ytnonjfknpajpaaa
theorem fenceRaises_holds : Rows.FenceRaisesSaid := FenceRaises.over
#print axioms fenceRaises_holds
end Go.Proofs.Ytnonjfknpajpaaa
