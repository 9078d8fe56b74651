/- The statement DigitsOf: a digest's digits are what the document says; and what numbers lack to 15 is told. No condition. -/
import Derived.Test.YtnonjfknpajpaaaRows
import Derived.Test.YtnonjfknpajpaaaR1
import Derived.Test.YtnonjfknpajpaaaDigits
namespace Go.Proofs.Ytnonjfknpajpaaa.DigitsOf
open Go Go.Sy Go.Proofs.Try
set_option linter.unusedVariables false
set_option linter.unusedSimpArgs false
def tds : List TD := [.arr 32 (.int .u8), .sl 8 (.int .i64)]
theorem spec (vs : List AV) (h : TD.hass tds vs) : FnC Try.prog 4 vs [] (.bool true) [] := by
  simp only [tds, TD.hass, TD.has, TD.ik, TD.cs, TD.css] at h
  obtain ⟨_, _, rfl, ⟨d, rfl, hd, hb⟩, _, _, rfl, ⟨l, rfl, _, hl, _⟩, rfl⟩ := h
  exact digitsOf_spec d l hd (fun x hx => wf_u8 (hb x hx)) hl
set_option maxRecDepth 100000 in
theorem lifted (os : Os) (started : os.Started) (H : Type) (enc : TypeId × Value → H) :
    ReturnsInHanded {} Try.checked os 4 .any (Rows.digitsOfSpec.pre6 enc Try.prog Try.f4 Rows.digitsOfRow.domain false) (Rows.digitsOfSpec.post enc Try.prog Try.f4 false true false false) :=
  returnsInHanded_of_change_sized (C := Try.checked) (by kernel_rfl) started (by kernel_rfl) Try.func4
    (ChangeSpec.witness6 (enc := enc) (C := Try.checked) false ⟨#[], #[.agg (Array.replicate 32 (.int .u8 0)), .slice none 0 0], []⟩ 8 (by kernel_rfl) (by kernel_rfl) (by kernel_rfl) (by kernel_rfl))
    (fun W base args ds gs before hval hW _ hsz _ => law_calls (tds := tds) (by kernel_rfl) (by kernel_rfl) (by kernel_rfl) rfl (fun ds hl => by match ds, hl with | [_, _], _ => rfl) (tb := 4) rfl (by kernel_rfl) spec hval hW hsz)
theorem over : Rows.digitsOfRow.holds Try.pinned (OpenSpec.ofChange Rows.digitsOfSpec) :=
  OpenClaim.holds_of_wide 4 Try.f4 rfl rfl rfl rfl rfl rfl rfl ⟨rfl, rfl, rfl, rfl, rfl⟩ rfl rfl rfl rfl rfl (by kernel_rfl) Try.func4 (by kernel_rfl)
    (of_decide_eq_true (by kernel_rfl)) (by unfold Func.isWrapper; first | (rw [if_pos (by decide +kernel)]; kernel_rfl) | (rw [if_neg (by decide +kernel)]; exact ⟨rfl, rfl⟩))
    (fun os started H enc _ => lifted os started H enc)
end Go.Proofs.Ytnonjfknpajpaaa.DigitsOf
namespace Go.Proofs.Ytnonjfknpajpaaa
theorem digitsOf_holds : Rows.DigitsOfSaid := DigitsOf.over
#print axioms digitsOf_holds
end Go.Proofs.Ytnonjfknpajpaaa
