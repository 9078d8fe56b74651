/- The statement ExtractLogs: if two unlike roots of one number of texts are both beginnings of one log, two unlike texts with one sum are told; else none. No condition. -/
import Derived.Test.YtegbkbkcfcjkbaaRows
import Derived.Test.YtegbkbkcfcjkbaaLI
import Derived.Test.YtegbkbkcfcjkbaaExtr5
import Derived.Test.YtegbkbkcfcjkbaaTree5
namespace Go.Proofs.Ytegbkbkcfcjkbaa.ExtractLogs
open Go Go.Sy Go.Proofs.Try
set_option linter.unusedVariables false
set_option linter.unusedSimpArgs false
def tds : List TD := [.arr 32 (.int .u8), .int .i64, .int .i64, .arr 32 (.int .u8), .arr 32 (.int .u8), .sl 32 (.arr 32 (.int .u8)), .sl 32 (.arr 32 (.int .u8))]
theorem spec (vs : List AV) (h : TD.hass tds vs) : FnC Try.prog 9 vs [] (.bool true) [] := by
  simp only [tds, TD.hass, TD.has, TD.ik, TD.cs, TD.css] at h
  obtain ⟨_, _, rfl, ⟨d, rfl, hd, hd'⟩, _, _, rfl, ⟨n, rfl, hn⟩, _, _, rfl, ⟨m, rfl, hm⟩, _, _, rfl, ⟨a, rfl, ha, ha'⟩, _, _, rfl, ⟨b, rfl, hb, hb'⟩, _, _, rfl, hw, _, _, rfl, hw', rfl⟩ := h
  obtain ⟨W, rfl, hg, hWl⟩ := digests_of hw
  obtain ⟨W', rfl, hg', hWl'⟩ := digests_of hw'
  exact extractLogs_spec d a b n m W W' ⟨hd, fun x h => wf_u8 (hd' x h)⟩ ⟨ha, fun x h => wf_u8 (ha' x h)⟩ ⟨hb, fun x h => wf_u8 (hb' x h)⟩ hg hg' hWl hWl'
set_option maxRecDepth 100000 in
theorem lifted (os : Os) (started : os.Started) (H : Type) (enc : TypeId × Value → H) :
    ReturnsInHanded {} Try.checked os 9 .any (Rows.extractLogsSpec.pre6 enc Try.prog Try.f9 Rows.extractLogsRow.domain false) (Rows.extractLogsSpec.post enc Try.prog Try.f9 false true false false) :=
  returnsInHanded_of_change_sized (C := Try.checked) (by kernel_rfl) started (by kernel_rfl) Try.func9
    (ChangeSpec.witness6 (enc := enc) (C := Try.checked) false ⟨#[], #[.agg (Array.replicate 32 (.int .u8 0)), .int .i64 0, .int .i64 0, .agg (Array.replicate 32 (.int .u8 0)), .agg (Array.replicate 32 (.int .u8 0)), .slice none 0 0, .slice none 0 0], []⟩ 8 (by kernel_rfl) (by kernel_rfl) (by kernel_rfl) (by kernel_rfl))
    (fun W base args ds gs before hval hW _ hsz _ => law_calls (tds := tds) (by kernel_rfl) (by kernel_rfl) (by kernel_rfl) rfl (fun ds hl => by match ds, hl with | [_, _, _, _, _, _, _], _ => rfl) (tb := 4) rfl (by kernel_rfl) spec hval hW hsz)
theorem over : Rows.extractLogsRow.holds Try.pinned (OpenSpec.ofChange Rows.extractLogsSpec) :=
  OpenClaim.holds_of_wide 9 Try.f9 rfl rfl rfl rfl rfl rfl rfl ⟨rfl, rfl, rfl, rfl, rfl⟩ rfl rfl rfl rfl rfl (by kernel_rfl) Try.func9 (by kernel_rfl)
    (of_decide_eq_true (by kernel_rfl)) (by unfold Func.isWrapper; first | (rw [if_pos (by decide +kernel)]; kernel_rfl) | (rw [if_neg (by decide +kernel)]; exact ⟨rfl, rfl⟩))
    (fun os started H enc _ => lifted os started H enc)
end Go.Proofs.Ytegbkbkcfcjkbaa.ExtractLogs
namespace Go.Proofs.Ytegbkbkcfcjkbaa
theorem extractLogs_holds : Rows.ExtractLogsSaid := ExtractLogs.over
#print axioms extractLogs_holds
end Go.Proofs.Ytegbkbkcfcjkbaa
