/- The statement ExtractTexts: if two unlike texts hold at one place of one log, two unlike texts with one sum are told; else none. No condition. -/
import Derived.Test.YtegbkbkcfcjkbaaRows
import Derived.Test.YtegbkbkcfcjkbaaLI
import Derived.Test.YtegbkbkcfcjkbaaExtr4
import Derived.Test.YtegbkbkcfcjkbaaTree5
namespace Go.Proofs.Ytegbkbkcfcjkbaa.ExtractTexts
open Go Go.Sy Go.Proofs.Try
set_option linter.unusedVariables false
set_option linter.unusedSimpArgs false
def tds : List TD := [.arr 32 (.int .u8), .int .i64, .int .i64, .sl 1 (.int .u8), .sl 1 (.int .u8), .sl 32 (.arr 32 (.int .u8)), .sl 32 (.arr 32 (.int .u8))]
theorem spec (vs : List AV) (h : TD.hass tds vs) : FnC Try.prog 8 vs [] (.bool true) [] := by
  simp only [tds, TD.hass, TD.has, TD.ik, TD.cs, TD.css] at h
  obtain ⟨_, _, rfl, ⟨d, rfl, hd, hd'⟩, _, _, rfl, ⟨n, rfl, hn⟩, _, _, rfl, ⟨i, rfl, hi⟩, _, _, rfl, ⟨a, rfl, _, hal, ha⟩, _, _, rfl, ⟨b, rfl, _, hbl, hb⟩, _, _, rfl, hw, _, _, rfl, hw', rfl⟩ := h
  obtain ⟨W, rfl, hg, hWl⟩ := digests_of hw
  obtain ⟨W', rfl, hg', hWl'⟩ := digests_of hw'
  exact extractTexts_spec d a b n i W W' ⟨hd, fun x h => wf_u8 (hd' x h)⟩ (fun x h => wf_u8 (ha x h)) (fun x h => wf_u8 (hb x h)) hg hg' hal hbl hWl hWl'
set_option maxRecDepth 100000 in
theorem lifted (os : Os) (started : os.Started) (H : Type) (enc : TypeId × Value → H) :
    ReturnsInHanded {} Try.checked os 8 .any (Rows.extractTextsSpec.pre6 enc Try.prog Try.f8 Rows.extractTextsRow.domain false) (Rows.extractTextsSpec.post enc Try.prog Try.f8 false true false false) :=
  returnsInHanded_of_change_sized (C := Try.checked) (by kernel_rfl) started (by kernel_rfl) Try.func8
    (ChangeSpec.witness6 (enc := enc) (C := Try.checked) false ⟨#[], #[.agg (Array.replicate 32 (.int .u8 0)), .int .i64 0, .int .i64 0, .slice none 0 0, .slice none 0 0, .slice none 0 0, .slice none 0 0], []⟩ 8 (by kernel_rfl) (by kernel_rfl) (by kernel_rfl) (by kernel_rfl))
    (fun W base args ds gs before hval hW _ hsz _ => law_calls (tds := tds) (by kernel_rfl) (by kernel_rfl) (by kernel_rfl) rfl (fun ds hl => by match ds, hl with | [_, _, _, _, _, _, _], _ => rfl) (tb := 4) rfl (by kernel_rfl) spec hval hW hsz)
theorem over : Rows.extractTextsRow.holds Try.pinned (OpenSpec.ofChange Rows.extractTextsSpec) :=
  OpenClaim.holds_of_wide 8 Try.f8 rfl rfl rfl rfl rfl rfl rfl ⟨rfl, rfl, rfl, rfl, rfl⟩ rfl rfl rfl rfl rfl (by kernel_rfl) Try.func8 (by kernel_rfl)
    (of_decide_eq_true (by kernel_rfl)) (by unfold Func.isWrapper; first | (rw [if_pos (by decide +kernel)]; kernel_rfl) | (rw [if_neg (by decide +kernel)]; exact ⟨rfl, rfl⟩))
    (fun os started H enc _ => lifted os started H enc)
end Go.Proofs.Ytegbkbkcfcjkbaa.ExtractTexts
namespace Go.Proofs.Ytegbkbkcfcjkbaa
theorem extractTexts_holds : Rows.ExtractTextsSaid := ExtractTexts.over
#print axioms extractTexts_holds
end Go.Proofs.Ytegbkbkcfcjkbaa
