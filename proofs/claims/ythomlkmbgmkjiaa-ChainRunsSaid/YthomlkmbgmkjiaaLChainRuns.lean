/- The statement ChainRuns: a run from any step, any steps, is what the document says, or the error is told. No condition. -/
import Derived.Test.YthomlkmbgmkjiaaRows
import Derived.Test.YthomlkmbgmkjiaaLI
import Derived.Test.YthomlkmbgmkjiaaChain
namespace Go.Proofs.Ythomlkmbgmkjiaa.ChainRuns
open Go Go.Sy Go.Proofs.Try
set_option linter.unusedVariables false
set_option linter.unusedSimpArgs false
def tds : List TD := [.arr 32 (.int .u8), .int .i64, .int .i64, .arr 32 (.int .u8), .arr 8 (.int .u32)]
theorem spec (vs : List AV) (h : TD.hass tds vs) : FnC Try.prog 13 vs [] (.bool true) [] := by
  simp only [tds, TD.hass, TD.has, TD.ik, TD.cs, TD.css] at h
  obtain ⟨_, _, rfl, ⟨x, rfl, hx, hx'⟩, _, _, rfl, ⟨i, rfl, hi⟩, _, _, rfl, ⟨n, rfl, hn⟩, _, _, rfl, ⟨p, rfl, hp, hp'⟩, _, _, rfl, ⟨ws, rfl, hl, hw⟩, rfl⟩ := h
  exact chainRuns_spec x p ws i n (wf_i64 hi) hx (fun y hy => wf_u8 (hx' y hy)) hp (fun y hy => wf_u8 (hp' y hy)) hl (fun y hy => wf_u32 (hw y hy))
set_option maxRecDepth 100000 in
theorem lifted (os : Os) (started : os.Started) (H : Type) (enc : TypeId × Value → H) :
    ReturnsInHanded {} Try.checked os 13 .any (Rows.chainRunsSpec.pre6 enc Try.prog Try.f13 Rows.chainRunsRow.domain false) (Rows.chainRunsSpec.post enc Try.prog Try.f13 false true false false) :=
  returnsInHanded_of_change_sized (C := Try.checked) (by kernel_rfl) started (by kernel_rfl) Try.func13
    (ChangeSpec.witness6 (enc := enc) (C := Try.checked) false ⟨#[], #[.agg (Array.replicate 32 (.int .u8 0)), .int .i64 0, .int .i64 0, .agg (Array.replicate 32 (.int .u8 0)), .agg (Array.replicate 8 (.int .u32 0))], []⟩ 8 (by kernel_rfl) (by kernel_rfl) (by kernel_rfl) (by kernel_rfl))
    (fun W base args ds gs before hval hW _ hsz _ => law_calls (tds := tds) (by kernel_rfl) (by kernel_rfl) (by kernel_rfl) rfl (fun ds hl => by match ds, hl with | [_, _, _, _, _], _ => rfl) (tb := 4) rfl (by kernel_rfl) spec hval hW hsz)
theorem over : Rows.chainRunsRow.holds Try.pinned (OpenSpec.ofChange Rows.chainRunsSpec) :=
  OpenClaim.holds_of_wide 13 Try.f13 rfl rfl rfl rfl rfl rfl rfl ⟨rfl, rfl, rfl, rfl, rfl⟩ rfl rfl rfl rfl rfl (by kernel_rfl) Try.func13 (by kernel_rfl)
    (of_decide_eq_true (by kernel_rfl)) (by unfold Func.isWrapper; first | (rw [if_pos (by decide +kernel)]; kernel_rfl) | (rw [if_neg (by decide +kernel)]; exact ⟨rfl, rfl⟩))
    (fun os started H enc _ => lifted os started H enc)
end Go.Proofs.Ythomlkmbgmkjiaa.ChainRuns
namespace Go.Proofs.Ythomlkmbgmkjiaa
theorem chainRuns_holds : Rows.ChainRunsSaid := ChainRuns.over
#print axioms chainRuns_holds
end Go.Proofs.Ythomlkmbgmkjiaa
