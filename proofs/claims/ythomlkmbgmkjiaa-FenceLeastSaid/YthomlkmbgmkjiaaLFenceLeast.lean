/- The statement FenceLeast: the least marks stand at least as high as both, and each that does stands at least as high as they; the order, and the grouping, make no difference. No condition. -/
import Derived.Test.YthomlkmbgmkjiaaRows
import Derived.Test.YthomlkmbgmkjiaaLI
import Derived.Test.YthomlkmbgmkjiaaFence2
namespace Go.Proofs.Ythomlkmbgmkjiaa.FenceLeast
open Go Go.Sy Go.Proofs.Try
set_option linter.unusedVariables false
set_option linter.unusedSimpArgs false
def tds : List TD := [.st [.int .i64, .int .i64, .int .i64], .st [.int .i64, .int .i64, .int .i64], .st [.int .i64, .int .i64, .int .i64]]
theorem spec (vs : List AV) (h : TD.hass tds vs) : FnC Try.prog 3 vs [] (.bool true) [] := by
  simp only [tds, TD.hass, TD.has, TD.ik, TD.cs, TD.css] at h
  obtain ⟨_, _, rfl, ⟨_, rfl, _, _, rfl, ⟨a0, rfl, _⟩, _, _, rfl, ⟨a1, rfl, _⟩, _, _, rfl, ⟨a2, rfl, _⟩, rfl⟩, _, _, rfl, ⟨_, rfl, _, _, rfl, ⟨b0, rfl, _⟩, _, _, rfl, ⟨b1, rfl, _⟩, _, _, rfl, ⟨b2, rfl, _⟩, rfl⟩, _, _, rfl, ⟨_, rfl, _, _, rfl, ⟨c0, rfl, _⟩, _, _, rfl, ⟨c1, rfl, _⟩, _, _, rfl, ⟨c2, rfl, _⟩, rfl⟩, rfl⟩ := h
  exact fenceLeast_spec _ _ _ _ _ _ _ _ _
set_option maxRecDepth 100000 in
theorem lifted (os : Os) (started : os.Started) (H : Type) (enc : TypeId × Value → H) :
    ReturnsInHanded {} Try.checked os 3 .any (Rows.fenceLeastSpec.pre6 enc Try.prog Try.f3 Rows.fenceLeastRow.domain false) (Rows.fenceLeastSpec.post enc Try.prog Try.f3 false true false false) :=
  returnsInHanded_of_change_sized (C := Try.checked) (by kernel_rfl) started (by kernel_rfl) Try.func3
    (ChangeSpec.witness6 (enc := enc) (C := Try.checked) false ⟨#[], #[.agg #[.int .i64 0, .int .i64 0, .int .i64 0], .agg #[.int .i64 0, .int .i64 0, .int .i64 0], .agg #[.int .i64 0, .int .i64 0, .int .i64 0]], []⟩ 8 (by kernel_rfl) (by kernel_rfl) (by kernel_rfl) (by kernel_rfl))
    (fun W base args ds gs before hval hW _ hsz _ => law_calls (tds := tds) (by kernel_rfl) (by kernel_rfl) (by kernel_rfl) rfl (fun ds hl => by match ds, hl with | [_, _, _], _ => rfl) (tb := 4) rfl (by kernel_rfl) spec hval hW hsz)
theorem over : Rows.fenceLeastRow.holds Try.pinned (OpenSpec.ofChange Rows.fenceLeastSpec) :=
  OpenClaim.holds_of_wide 3 Try.f3 rfl rfl rfl rfl rfl rfl rfl ⟨rfl, rfl, rfl, rfl, rfl⟩ rfl rfl rfl rfl rfl (by kernel_rfl) Try.func3 (by kernel_rfl)
    (of_decide_eq_true (by kernel_rfl)) (by unfold Func.isWrapper; first | (rw [if_pos (by decide +kernel)]; kernel_rfl) | (rw [if_neg (by decide +kernel)]; exact ⟨rfl, rfl⟩))
    (fun os started H enc _ => lifted os started H enc)
end Go.Proofs.Ythomlkmbgmkjiaa.FenceLeast
namespace Go.Proofs.Ythomlkmbgmkjiaa
theorem fenceLeast_holds : Rows.FenceLeastSaid := FenceLeast.over
#print axioms fenceLeast_holds
end Go.Proofs.Ythomlkmbgmkjiaa
