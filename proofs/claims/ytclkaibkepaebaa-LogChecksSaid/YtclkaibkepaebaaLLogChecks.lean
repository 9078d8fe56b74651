/- The statement LogChecks: whether any way could be that of a text, or that from a beginning, is what the document says. No condition. -/
import Derived.Test.YtclkaibkepaebaaRows
import Derived.Test.YtclkaibkepaebaaLI
import Derived.Test.YtclkaibkepaebaaLog8
namespace Go.Proofs.Ytclkaibkepaebaa.LogChecks
open Go Go.Sy Go.Proofs.Try
set_option linter.unusedVariables false
set_option linter.unusedSimpArgs false
def tds : List TD := [.arr 32 (.int .u8), .arr 32 (.int .u8), .int .i64, .int .i64, .sl 1 (.int .u8), .sl 32 (.arr 32 (.int .u8))]
theorem spec (vs : List AV) (h : TD.hass tds vs) : FnC Try.prog 7 vs [] (.bool true) [] := by
  simp only [tds, TD.hass, TD.has, TD.ik, TD.cs, TD.css] at h
  obtain ⟨_, _, rfl, ⟨a, rfl, ha, ha'⟩, _, _, rfl, ⟨b, rfl, hb, hb'⟩, _, _, rfl, ⟨m, rfl, hm⟩, _, _, rfl, ⟨n, rfl, hn⟩, _, _, rfl, ⟨t, rfl, _, htl, ht⟩, _, _, rfl, hw, rfl⟩ := h
  obtain ⟨W, rfl, hg, hWl⟩ := digests_of hw
  exact logChecks_spec a b t m n W ⟨ha, fun x h => wf_u8 (ha' x h)⟩ ⟨hb, fun x h => wf_u8 (hb' x h)⟩ (fun x h => wf_u8 (ht x h)) hg htl hWl
set_option maxRecDepth 100000 in
theorem lifted (os : Os) (started : os.Started) (H : Type) (enc : TypeId × Value → H) :
    ReturnsInHanded {} Try.checked os 7 .any (Rows.logChecksSpec.pre6 enc Try.prog Try.f7 Rows.logChecksRow.domain false) (Rows.logChecksSpec.post enc Try.prog Try.f7 false true false false) :=
  returnsInHanded_of_change_sized (C := Try.checked) (by kernel_rfl) started (by kernel_rfl) Try.func7
    (ChangeSpec.witness6 (enc := enc) (C := Try.checked) false ⟨#[], #[.agg (Array.replicate 32 (.int .u8 0)), .agg (Array.replicate 32 (.int .u8 0)), .int .i64 0, .int .i64 0, .slice none 0 0, .slice none 0 0], []⟩ 8 (by kernel_rfl) (by kernel_rfl) (by kernel_rfl) (by kernel_rfl))
    (fun W base args ds gs before hval hW _ hsz _ => law_calls (tds := tds) (by kernel_rfl) (by kernel_rfl) (by kernel_rfl) rfl (fun ds hl => by match ds, hl with | [_, _, _, _, _, _], _ => rfl) (tb := 4) rfl (by kernel_rfl) spec hval hW hsz)
theorem over : Rows.logChecksRow.holds Try.pinned (OpenSpec.ofChange Rows.logChecksSpec) :=
  OpenClaim.holds_of_wide 7 Try.f7 rfl rfl rfl rfl rfl rfl rfl ⟨rfl, rfl, rfl, rfl, rfl⟩ rfl rfl rfl rfl rfl (by kernel_rfl) Try.func7 (by kernel_rfl)
    (of_decide_eq_true (by kernel_rfl)) (by unfold Func.isWrapper; first | (rw [if_pos (by decide +kernel)]; kernel_rfl) | (rw [if_neg (by decide +kernel)]; exact ⟨rfl, rfl⟩))
    (fun os started H enc _ => lifted os started H enc)
end Go.Proofs.Ytclkaibkepaebaa.LogChecks
namespace Go.Proofs.Ytclkaibkepaebaa
theorem logChecks_holds : Rows.LogChecksSaid := LogChecks.over
#print axioms logChecks_holds
end Go.Proofs.Ytclkaibkepaebaa
