/- The statement ShaParts: in whatever parts a text is summed, its sum is the same. No condition. -/
import Derived.Test.YtnonjfknpajpaaaRows
import Derived.Test.YtnonjfknpajpaaaLI
import Derived.Test.YtnonjfknpajpaaaShaP
namespace Go.Proofs.Ytnonjfknpajpaaa.ShaParts
open Go Go.Sy Go.Proofs.Try
set_option linter.unusedVariables false
set_option linter.unusedSimpArgs false
def tds : List TD := [.sl 1 (.int .u8), .int .u16, .int .u16]
theorem spec (vs : List AV) (h : TD.hass tds vs) : FnC Try.prog 14 vs [] (.bool true) [] := by
  simp only [tds, TD.hass, TD.has, TD.ik, TD.cs, TD.css] at h
  obtain ⟨_, _, rfl, ⟨b, rfl, _, hl, hb⟩, _, _, rfl, ⟨m, rfl, hm⟩, _, _, rfl, ⟨n, rfl, hn⟩, rfl⟩ := h
  exact shaParts_spec b m n (wf_u16 hm) (wf_u16 hn) (fun x hx => wf_u8 (hb x hx)) hl
set_option maxRecDepth 100000 in
theorem lifted (os : Os) (started : os.Started) (H : Type) (enc : TypeId × Value → H) :
    ReturnsInHanded {} Try.checked os 14 .any (Rows.shaPartsSpec.pre6 enc Try.prog Try.f14 Rows.shaPartsRow.domain false) (Rows.shaPartsSpec.post enc Try.prog Try.f14 false true false false) :=
  returnsInHanded_of_change_sized (C := Try.checked) (by kernel_rfl) started (by kernel_rfl) Try.func14
    (ChangeSpec.witness6 (enc := enc) (C := Try.checked) false ⟨#[], #[.slice none 0 0, .int .u16 0, .int .u16 0], []⟩ 8 (by kernel_rfl) (by kernel_rfl) (by kernel_rfl) (by kernel_rfl))
    (fun W base args ds gs before hval hW _ hsz _ => law_calls (tds := tds) (by kernel_rfl) (by kernel_rfl) (by kernel_rfl) rfl (fun ds hl => by match ds, hl with | [_, _, _], _ => rfl) (tb := 4) rfl (by kernel_rfl) spec hval hW hsz)
theorem over : Rows.shaPartsRow.holds Try.pinned (OpenSpec.ofChange Rows.shaPartsSpec) :=
  OpenClaim.holds_of_wide 14 Try.f14 rfl rfl rfl rfl rfl rfl rfl ⟨rfl, rfl, rfl, rfl, rfl⟩ rfl rfl rfl rfl rfl (by kernel_rfl) Try.func14 (by kernel_rfl)
    (of_decide_eq_true (by kernel_rfl)) (by unfold Func.isWrapper; first | (rw [if_pos (by decide +kernel)]; kernel_rfl) | (rw [if_neg (by decide +kernel)]; exact ⟨rfl, rfl⟩))
    (fun os started H enc _ => lifted os started H enc)
end Go.Proofs.Ytnonjfknpajpaaa.ShaParts
namespace Go.Proofs.Ytnonjfknpajpaaa
theorem shaParts_holds : Rows.ShaPartsSaid := ShaParts.over
#print axioms shaParts_holds
end Go.Proofs.Ytnonjfknpajpaaa
