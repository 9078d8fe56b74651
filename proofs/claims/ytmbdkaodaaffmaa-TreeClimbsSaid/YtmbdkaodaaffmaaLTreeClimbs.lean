/- The statement TreeClimbs: where one comes to from any digest, by any way, is what the document says, or the error is told. No condition. -/
import Derived.Test.YtmbdkaodaaffmaaRows
import Derived.Test.YtmbdkaodaaffmaaLI
import Derived.Test.YtmbdkaodaaffmaaTreeC
namespace Go.Proofs.Ytmbdkaodaaffmaa.TreeClimbs
open Go Go.Sy Go.Proofs.Try
set_option linter.unusedVariables false
set_option linter.unusedSimpArgs false
def tds : List TD := [.arr 32 (.int .u8), .sl 32 (.arr 32 (.int .u8)), .int .i64, .arr 32 (.int .u8), .int .u32, .int .u64]
theorem spec (vs : List AV) (h : TD.hass tds vs) : FnC Try.prog 12 vs [] (.bool true) [] := by
  simp only [tds, TD.hass, TD.has, TD.ik, TD.cs, TD.css] at h
  obtain ⟨_, _, rfl, ⟨x, rfl, hx, hx'⟩, _, _, rfl, hy, _, _, rfl, ⟨i, rfl, hi⟩, _, _, rfl, ⟨p, rfl, hp, hp'⟩, _, _, rfl, ⟨l, rfl, hl⟩, _, _, rfl, ⟨t, rfl, ht⟩, rfl⟩ := h
  obtain ⟨ds, rfl, hd, hdl⟩ := digests_of hy
  exact treeClimbs_spec x p ds i l t ⟨hx, fun x h => wf_u8 (hx' x h)⟩ ⟨hp, fun x h => wf_u8 (hp' x h)⟩ hd hdl (wf_i64 hi).2 (wf_u32 hl) (u64_of ht)
set_option maxRecDepth 100000 in
theorem lifted (os : Os) (started : os.Started) (H : Type) (enc : TypeId × Value → H) :
    ReturnsInHanded {} Try.checked os 12 .any (Rows.treeClimbsSpec.pre6 enc Try.prog Try.f12 Rows.treeClimbsRow.domain false) (Rows.treeClimbsSpec.post enc Try.prog Try.f12 false true false false) :=
  returnsInHanded_of_change_sized (C := Try.checked) (by kernel_rfl) started (by kernel_rfl) Try.func12
    (ChangeSpec.witness6 (enc := enc) (C := Try.checked) false ⟨#[], #[.agg (Array.replicate 32 (.int .u8 0)), .slice none 0 0, .int .i64 0, .agg (Array.replicate 32 (.int .u8 0)), .int .u32 0, .int .u64 0], []⟩ 8 (by kernel_rfl) (by kernel_rfl) (by kernel_rfl) (by kernel_rfl))
    (fun W base args ds gs before hval hW _ hsz _ => law_calls (tds := tds) (by kernel_rfl) (by kernel_rfl) (by kernel_rfl) rfl (fun ds hl => by match ds, hl with | [_, _, _, _, _, _], _ => rfl) (tb := 4) rfl (by kernel_rfl) spec hval hW hsz)
theorem over : Rows.treeClimbsRow.holds Try.pinned (OpenSpec.ofChange Rows.treeClimbsSpec) :=
  OpenClaim.holds_of_wide 12 Try.f12 rfl rfl rfl rfl rfl rfl rfl ⟨rfl, rfl, rfl, rfl, rfl⟩ rfl rfl rfl rfl rfl (by kernel_rfl) Try.func12 (by kernel_rfl)
    (of_decide_eq_true (by kernel_rfl)) (by unfold Func.isWrapper; first | (rw [if_pos (by decide +kernel)]; kernel_rfl) | (rw [if_neg (by decide +kernel)]; exact ⟨rfl, rfl⟩))
    (fun os started H enc _ => lifted os started H enc)
end Go.Proofs.Ytmbdkaodaaffmaa.TreeClimbs
namespace Go.Proofs.Ytmbdkaodaaffmaa
theorem treeClimbs_holds : Rows.TreeClimbsSaid := TreeClimbs.over
#print axioms treeClimbs_holds
end Go.Proofs.Ytmbdkaodaaffmaa
