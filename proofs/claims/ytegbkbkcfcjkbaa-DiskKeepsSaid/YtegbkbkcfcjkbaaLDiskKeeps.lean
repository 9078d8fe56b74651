/- The statement DiskKeeps: what was synced is read, whatever is written behind it, and the power fails; a sector that was written since has a first part of that, as the list says. No condition. -/
import Derived.Test.YtegbkbkcfcjkbaaRows
import Derived.Test.YtegbkbkcfcjkbaaLI
import Derived.Test.YtegbkbkcfcjkbaaDisk5
namespace Go.Proofs.Ytegbkbkcfcjkbaa.DiskKeeps
open Go Go.Sy Go.Proofs.Try
set_option linter.unusedVariables false
set_option linter.unusedSimpArgs false
def tds : List TD := [.int .u8, .int .u8, .int .u8, .sl 1 (.int .u8), .sl 1 (.int .u8), .int .i64]
theorem spec (vs : List AV) (h : TD.hass tds vs) : FnC Try.prog 3 vs [] (.bool true) [] := by
  simp only [tds, TD.hass, TD.has, TD.ik, TD.cs, TD.css] at h
  obtain ⟨_, _, rfl, ⟨s, rfl, hs⟩, _, _, rfl, ⟨z, rfl, hz⟩, _, _, rfl, ⟨i, rfl, hi⟩, _, _, rfl, ⟨a, rfl, hal, _, ha⟩, _, _, rfl, ⟨b, rfl, hbl, _, hb⟩, _, _, rfl, ⟨n, rfl, hn⟩, rfl⟩ := h
  exact diskKeeps_spec s z i a b n (wf_u8 hs) (wf_u8 hz) (wf_u8 hi) (by unfold reachBytes at hal; omega) (by unfold reachBytes at hbl; omega)
set_option maxRecDepth 100000 in
theorem lifted (os : Os) (started : os.Started) (H : Type) (enc : TypeId × Value → H) :
    ReturnsInHanded {} Try.checked os 3 .any (Rows.diskKeepsSpec.pre6 enc Try.prog Try.f3 Rows.diskKeepsRow.domain false) (Rows.diskKeepsSpec.post enc Try.prog Try.f3 false true false false) :=
  returnsInHanded_of_change_sized (C := Try.checked) (by kernel_rfl) started (by kernel_rfl) Try.func3
    (ChangeSpec.witness6 (enc := enc) (C := Try.checked) false ⟨#[], #[.int .u8 0, .int .u8 0, .int .u8 0, .slice none 0 0, .slice none 0 0, .int .i64 0], []⟩ 8 (by kernel_rfl) (by kernel_rfl) (by kernel_rfl) (by kernel_rfl))
    (fun W base args ds gs before hval hW _ hsz _ => law_calls (tds := tds) (by kernel_rfl) (by kernel_rfl) (by kernel_rfl) rfl (fun ds hl => by match ds, hl with | [_, _, _, _, _, _], _ => rfl) (tb := 4) rfl (by kernel_rfl) spec hval hW hsz)
theorem over : Rows.diskKeepsRow.holds Try.pinned (OpenSpec.ofChange Rows.diskKeepsSpec) :=
  OpenClaim.holds_of_wide 3 Try.f3 rfl rfl rfl rfl rfl rfl rfl ⟨rfl, rfl, rfl, rfl, rfl⟩ rfl rfl rfl rfl rfl (by kernel_rfl) Try.func3 (by kernel_rfl)
    (of_decide_eq_true (by kernel_rfl)) (by unfold Func.isWrapper; first | (rw [if_pos (by decide +kernel)]; kernel_rfl) | (rw [if_neg (by decide +kernel)]; exact ⟨rfl, rfl⟩))
    (fun os started H enc _ => lifted os started H enc)
end Go.Proofs.Ytegbkbkcfcjkbaa.DiskKeeps
namespace Go.Proofs.Ytegbkbkcfcjkbaa
theorem diskKeeps_holds : Rows.DiskKeepsSaid := DiskKeeps.over
#print axioms diskKeeps_holds
end Go.Proofs.Ytegbkbkcfcjkbaa
