/- The statement PackSplits: any bytes are split as the document says, or the error is told; and what is split is written as those bytes. No condition. -/
import Derived.Test.YtnonjfknpajpaaaRows
import Derived.Test.YtnonjfknpajpaaaLI
import Derived.Test.YtnonjfknpajpaaaPackL
namespace Go.Proofs.Ytnonjfknpajpaaa.PackSplits
open Go Go.Sy Go.Proofs.Try
set_option linter.unusedVariables false
set_option linter.unusedSimpArgs false
def tds : List TD := [.sl 1 (.int .u8), .int .u32]
theorem spec (vs : List AV) (h : TD.hass tds vs) : FnC Try.prog 11 vs [] (.bool true) [] := by
  simp only [tds, TD.hass, TD.has, TD.ik, TD.cs, TD.css] at h
  obtain ⟨_, _, rfl, ⟨b, rfl, _, hl, hb⟩, _, _, rfl, ⟨m, rfl, hm⟩, rfl⟩ := h
  exact packSplits_spec b m (wf_u32 hm) (fun x hx => wf_u8 (hb x hx)) hl
set_option maxRecDepth 100000 in
theorem lifted (os : Os) (started : os.Started) (H : Type) (enc : TypeId × Value → H) :
    ReturnsInHanded {} Try.checked os 11 .any (Rows.packSplitsSpec.pre6 enc Try.prog Try.f11 Rows.packSplitsRow.domain false) (Rows.packSplitsSpec.post enc Try.prog Try.f11 false true false false) :=
  returnsInHanded_of_change_sized (C := Try.checked) (by kernel_rfl) started (by kernel_rfl) Try.func11
    (ChangeSpec.witness6 (enc := enc) (C := Try.checked) false ⟨#[], #[.slice none 0 0, .int .u32 0], []⟩ 8 (by kernel_rfl) (by kernel_rfl) (by kernel_rfl) (by kernel_rfl))
    (fun W base args ds gs before hval hW _ hsz _ => law_calls (tds := tds) (by kernel_rfl) (by kernel_rfl) (by kernel_rfl) rfl (fun ds hl => by match ds, hl with | [_, _], _ => rfl) (tb := 4) rfl (by kernel_rfl) spec hval hW hsz)
theorem over : Rows.packSplitsRow.holds Try.pinned (OpenSpec.ofChange Rows.packSplitsSpec) :=
  OpenClaim.holds_of_wide 11 Try.f11 rfl rfl rfl rfl rfl rfl rfl ⟨rfl, rfl, rfl, rfl, rfl⟩ rfl rfl rfl rfl rfl (by kernel_rfl) Try.func11 (by kernel_rfl)
    (of_decide_eq_true (by kernel_rfl)) (by unfold Func.isWrapper; first | (rw [if_pos (by decide +kernel)]; kernel_rfl) | (rw [if_neg (by decide +kernel)]; exact ⟨rfl, rfl⟩))
    (fun os started H enc _ => lifted os started H enc)
end Go.Proofs.Ytnonjfknpajpaaa.PackSplits
namespace Go.Proofs.Ytnonjfknpajpaaa
theorem packSplits_holds : Rows.PackSplitsSaid := PackSplits.over
#print axioms packSplits_holds
end Go.Proofs.Ytnonjfknpajpaaa
