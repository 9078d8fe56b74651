/- The statement TreeMeets: from each leaf, by its way up, one comes to the root, which is one, whatever leaf is asked for. No condition. -/
import Derived.Test.YtmbdkaodaaffmaaRows
import Derived.Test.YtmbdkaodaaffmaaLI
import Derived.Test.YtmbdkaodaaffmaaTree5
namespace Go.Proofs.Ytmbdkaodaaffmaa.TreeMeets
open Go Go.Sy Go.Proofs.Try
set_option linter.unusedVariables false
set_option linter.unusedSimpArgs false
def tds : List TD := [.st [.arr 32 (.int .u8), .arr 32 (.int .u8), .arr 32 (.int .u8)], .int .u32, .int .u64, .int .u8, .int .u8, .int .u8]
theorem spec (vs : List AV) (h : TD.hass tds vs) : FnC Try.prog 13 vs [] (.bool true) [] := by
  simp only [tds, TD.hass, TD.has, TD.ik, TD.cs, TD.css] at h
  obtain ⟨_, _, rfl, hx, _, _, rfl, ⟨l, rfl, hl⟩, _, _, rfl, ⟨t, rfl, ht⟩, _, _, rfl, ⟨n, rfl, hn⟩, _, _, rfl, ⟨a, rfl, ha⟩, _, _, rfl, ⟨b, rfl, hb⟩, rfl⟩ := h
  obtain ⟨s, k, p, rfl, hs, hk, hp⟩ := secret_of hx
  exact treeMeets_spec p s k l t hp hs (wf_u32 hl) n a b (wf_u8 hn) (wf_u8 ha) (wf_u8 hb)
set_option maxRecDepth 100000 in
theorem lifted (os : Os) (started : os.Started) (H : Type) (enc : TypeId × Value → H) :
    ReturnsInHanded {} Try.checked os 13 .any (Rows.treeMeetsSpec.pre6 enc Try.prog Try.f13 Rows.treeMeetsRow.domain false) (Rows.treeMeetsSpec.post enc Try.prog Try.f13 false true false false) :=
  returnsInHanded_of_change_sized (C := Try.checked) (by kernel_rfl) started (by kernel_rfl) Try.func13
    (ChangeSpec.witness6 (enc := enc) (C := Try.checked) false ⟨#[], #[.agg #[.int .u8 0, .int .u8 0, .int .u8 0, .int .u8 0, .int .u8 0, .int .u8 0, .int .u8 0, .int .u8 0, .int .u8 0, .int .u8 0, .int .u8 0, .int .u8 0, .int .u8 0, .int .u8 0, .int .u8 0, .int .u8 0, .int .u8 0, .int .u8 0, .int .u8 0, .int .u8 0, .int .u8 0, .int .u8 0, .int .u8 0, .int .u8 0, .int .u8 0, .int .u8 0, .int .u8 0, .int .u8 0, .int .u8 0, .int .u8 0, .int .u8 0, .int .u8 0, .int .u8 0, .int .u8 0, .int .u8 0, .int .u8 0, .int .u8 0, .int .u8 0, .int .u8 0, .int .u8 0, .int .u8 0, .int .u8 0, .int .u8 0, .int .u8 0, .int .u8 0, .int .u8 0, .int .u8 0, .int .u8 0, .int .u8 0, .int .u8 0, .int .u8 0, .int .u8 0, .int .u8 0, .int .u8 0, .int .u8 0, .int .u8 0, .int .u8 0, .int .u8 0, .int .u8 0, .int .u8 0, .int .u8 0, .int .u8 0, .int .u8 0, .int .u8 0, .int .u8 0, .int .u8 0, .int .u8 0, .int .u8 0, .int .u8 0, .int .u8 0, .int .u8 0, .int .u8 0, .int .u8 0, .int .u8 0, .int .u8 0, .int .u8 0, .int .u8 0, .int .u8 0, .int .u8 0, .int .u8 0, .int .u8 0, .int .u8 0, .int .u8 0, .int .u8 0, .int .u8 0, .int .u8 0, .int .u8 0, .int .u8 0, .int .u8 0, .int .u8 0, .int .u8 0, .int .u8 0, .int .u8 0, .int .u8 0, .int .u8 0, .int .u8 0], .int .u32 0, .int .u64 0, .int .u8 0, .int .u8 0, .int .u8 0], []⟩ 8 (by kernel_rfl) (by kernel_rfl) (by kernel_rfl) (by kernel_rfl))
    (fun W base args ds gs before hval hW _ hsz _ => law_calls (tds := tds) (by kernel_rfl) (by kernel_rfl) (by kernel_rfl) rfl (fun ds hl => by match ds, hl with | [_, _, _, _, _, _], _ => rfl) (tb := 4) rfl (by kernel_rfl) spec hval hW hsz)
theorem over : Rows.treeMeetsRow.holds Try.pinned (OpenSpec.ofChange Rows.treeMeetsSpec) :=
  OpenClaim.holds_of_wide 13 Try.f13 rfl rfl rfl rfl rfl rfl rfl ⟨rfl, rfl, rfl, rfl, rfl⟩ rfl rfl rfl rfl rfl (by kernel_rfl) Try.func13 (by kernel_rfl)
    (of_decide_eq_true (by kernel_rfl)) (by unfold Func.isWrapper; first | (rw [if_pos (by decide +kernel)]; kernel_rfl) | (rw [if_neg (by decide +kernel)]; exact ⟨rfl, rfl⟩))
    (fun os started H enc _ => lifted os started H enc)
end Go.Proofs.Ytmbdkaodaaffmaa.TreeMeets
namespace Go.Proofs.Ytmbdkaodaaffmaa
theorem treeMeets_holds : Rows.TreeMeetsSaid := TreeMeets.over
#print axioms treeMeets_holds
end Go.Proofs.Ytmbdkaodaaffmaa
