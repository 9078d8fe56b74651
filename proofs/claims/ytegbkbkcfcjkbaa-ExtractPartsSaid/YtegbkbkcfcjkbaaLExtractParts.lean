/- The statement ExtractParts: where two trails part is what the document says. No condition. -/
import Derived.Test.YtegbkbkcfcjkbaaRows
import Derived.Test.YtegbkbkcfcjkbaaLI
import Derived.Test.YtegbkbkcfcjkbaaExtr5
namespace Go.Proofs.Ytegbkbkcfcjkbaa.ExtractParts
open Go Go.Sy Go.Proofs.Try
set_option linter.unusedVariables false
set_option linter.unusedSimpArgs false
def tds : List TD := [.sl 24 (.sl 1 (.int .u8)), .sl 24 (.sl 1 (.int .u8))]
theorem spec (vs : List AV) (h : TD.hass tds vs) : FnC Try.prog 5 vs [] (.bool true) [] := by
  simp only [tds, TD.hass, TD.has, TD.ik, TD.cs, TD.css] at h
  obtain ⟨_, _, rfl, ⟨es, rfl, _, hl, he⟩, _, _, rfl, ⟨es', rfl, _, hl', he'⟩, rfl⟩ := h
  obtain ⟨ps, rfl, hps⟩ := ex_map' (f := bsl) (Q := fun p => p.length * 1 ≤ reachBytes ∧ ∀ x ∈ p, (Lit.int .u8 x).wf = true) (es := es) (fun x hx => by
    obtain ⟨xs, rfl, h1, _, h2⟩ := he x hx
    exact ⟨xs, rfl, h1, h2⟩)
  obtain ⟨ps', rfl, hps'⟩ := ex_map' (f := bsl) (Q := fun p => p.length * 1 ≤ reachBytes ∧ ∀ x ∈ p, (Lit.int .u8 x).wf = true) (es := es') (fun x hx => by
    obtain ⟨xs, rfl, h1, _, h2⟩ := he' x hx
    exact ⟨xs, rfl, h1, h2⟩)
  rw [List.length_map] at hl hl'
  have := extractParts_spec ps ps' (fun p h x hx => wf_u8 ((hps p h).2 x hx)) (fun p h => by have := (hps p h).1; unfold reachBytes at this; omega) hl (fun p h x hx => wf_u8 ((hps' p h).2 x hx)) (fun p h => by have := (hps' p h).1; unfold reachBytes at this; omega) hl'
  simpa using this
set_option maxRecDepth 100000 in
theorem lifted (os : Os) (started : os.Started) (H : Type) (enc : TypeId × Value → H) :
    ReturnsInHanded {} Try.checked os 5 .any (Rows.extractPartsSpec.pre6 enc Try.prog Try.f5 Rows.extractPartsRow.domain false) (Rows.extractPartsSpec.post enc Try.prog Try.f5 false true false false) :=
  returnsInHanded_of_change_sized (C := Try.checked) (by kernel_rfl) started (by kernel_rfl) Try.func5
    (ChangeSpec.witness6 (enc := enc) (C := Try.checked) false ⟨#[], #[.slice none 0 0, .slice none 0 0], []⟩ 8 (by kernel_rfl) (by kernel_rfl) (by kernel_rfl) (by kernel_rfl))
    (fun W base args ds gs before hval hW _ hsz _ => law_calls (tds := tds) (by kernel_rfl) (by kernel_rfl) (by kernel_rfl) rfl (fun ds hl => by match ds, hl with | [_, _], _ => rfl) (tb := 4) rfl (by kernel_rfl) spec hval hW hsz)
theorem over : Rows.extractPartsRow.holds Try.pinned (OpenSpec.ofChange Rows.extractPartsSpec) :=
  OpenClaim.holds_of_wide 5 Try.f5 rfl rfl rfl rfl rfl rfl rfl ⟨rfl, rfl, rfl, rfl, rfl⟩ rfl rfl rfl rfl rfl (by kernel_rfl) Try.func5 (by kernel_rfl)
    (of_decide_eq_true (by kernel_rfl)) (by unfold Func.isWrapper; first | (rw [if_pos (by decide +kernel)]; kernel_rfl) | (rw [if_neg (by decide +kernel)]; exact ⟨rfl, rfl⟩))
    (fun os started H enc _ => lifted os started H enc)
end Go.Proofs.Ytegbkbkcfcjkbaa.ExtractParts
namespace Go.Proofs.Ytegbkbkcfcjkbaa
theorem extractParts_holds : Rows.ExtractPartsSaid := ExtractParts.over
#print axioms extractParts_holds
end Go.Proofs.Ytegbkbkcfcjkbaa
