/- The statement DigitsApart: of two unlike digests each has a digit that is less than the other one's in its place. No condition. -/
import Derived.Test.YtnonjfknpajpaaaRows
import Derived.Test.YtnonjfknpajpaaaR1
import Derived.Test.YtnonjfknpajpaaaDigits
namespace Go.Proofs.Ytnonjfknpajpaaa.DigitsApart
open Go Go.Sy Go.Proofs.Try
set_option linter.unusedVariables false
set_option linter.unusedSimpArgs false
def tds : List TD := [.arr 32 (.int .u8), .arr 32 (.int .u8)]
theorem spec (vs : List AV) (h : TD.hass tds vs) : FnC Try.prog 5 vs [] (.bool true) [] := by
  simp only [tds, TD.hass, TD.has, TD.ik, TD.cs, TD.css] at h
  obtain ⟨_, _, rfl, ⟨a, rfl, ha, ha'⟩, _, _, rfl, ⟨b, rfl, hb, hb'⟩, rfl⟩ := h
  exact digitsApart_spec a b ha hb (fun x hx => wf_u8 (ha' x hx)) (fun x hx => wf_u8 (hb' x hx))
set_option maxRecDepth 100000 in
theorem lifted (os : Os) (started : os.Started) (H : Type) (enc : TypeId × Value → H) :
    ReturnsInHanded {} Try.checked os 5 .any (Rows.digitsApartSpec.pre6 enc Try.prog Try.f5 Rows.digitsApartRow.domain false) (Rows.digitsApartSpec.post enc Try.prog Try.f5 false true false false) :=
  returnsInHanded_of_change_sized (C := Try.checked) (by kernel_rfl) started (by kernel_rfl) Try.func5
    (ChangeSpec.witness6 (enc := enc) (C := Try.checked) false ⟨#[], #[.agg (Array.replicate 32 (.int .u8 0)), .agg (Array.replicate 32 (.int .u8 0))], []⟩ 8 (by kernel_rfl) (by kernel_rfl) (by kernel_rfl) (by kernel_rfl))
    (fun W base args ds gs before hval hW _ hsz _ => law_calls (tds := tds) (by kernel_rfl) (by kernel_rfl) (by kernel_rfl) rfl (fun ds hl => by match ds, hl with | [_, _], _ => rfl) (tb := 4) rfl (by kernel_rfl) spec hval hW hsz)
theorem over : Rows.digitsApartRow.holds Try.pinned (OpenSpec.ofChange Rows.digitsApartSpec) :=
  OpenClaim.holds_of_wide 5 Try.f5 rfl rfl rfl rfl rfl rfl rfl ⟨rfl, rfl, rfl, rfl, rfl⟩ rfl rfl rfl rfl rfl (by kernel_rfl) Try.func5 (by kernel_rfl)
    (of_decide_eq_true (by kernel_rfl)) (by unfold Func.isWrapper; first | (rw [if_pos (by decide +kernel)]; kernel_rfl) | (rw [if_neg (by decide +kernel)]; exact ⟨rfl, rfl⟩))
    (fun os started H enc _ => lifted os started H enc)
end Go.Proofs.Ytnonjfknpajpaaa.DigitsApart
namespace Go.Proofs.Ytnonjfknpajpaaa
theorem digitsApart_holds : Rows.DigitsApartSaid := DigitsApart.over
#print axioms digitsApart_holds
end Go.Proofs.Ytnonjfknpajpaaa
