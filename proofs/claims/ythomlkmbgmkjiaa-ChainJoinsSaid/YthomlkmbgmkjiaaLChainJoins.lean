/- The statement ChainJoins: a run on from where another one ended is the run of both. No condition. -/
import Derived.Test.YthomlkmbgmkjiaaRows
import Derived.Test.YthomlkmbgmkjiaaLI
import Derived.Test.YthomlkmbgmkjiaaChain
namespace Go.Proofs.Ythomlkmbgmkjiaa.ChainJoins
open Go Go.Sy Go.Proofs.Try
set_option linter.unusedVariables false
set_option linter.unusedSimpArgs false
def tds : List TD := [.arr 32 (.int .u8), .int .u8, .int .u8, .int .u8, .arr 32 (.int .u8), .arr 8 (.int .u32)]
theorem spec (vs : List AV) (h : TD.hass tds vs) : FnC Try.prog 14 vs [] (.bool true) [] := by
  simp only [tds, TD.hass, TD.has, TD.ik, TD.cs, TD.css] at h
  obtain ⟨_, _, rfl, ⟨x, rfl, hx, hx'⟩, _, _, rfl, ⟨a, rfl, ha⟩, _, _, rfl, ⟨b, rfl, hb⟩, _, _, rfl, ⟨c, rfl, hc⟩, _, _, rfl, ⟨p, rfl, hp, hp'⟩, _, _, rfl, ⟨ws, rfl, hl, hw⟩, rfl⟩ := h
  exact chainJoins_spec x p ws a b c (wf_u8 ha) (wf_u8 hb) (wf_u8 hc) hx (fun y hy => wf_u8 (hx' y hy)) hp (fun y hy => wf_u8 (hp' y hy)) hl (fun y hy => wf_u32 (hw y hy))
set_option maxRecDepth 100000 in
theorem lifted (os : Os) (started : os.Started) (H : Type) (enc : TypeId × Value → H) :
    ReturnsInHanded {} Try.checked os 14 .any (Rows.chainJoinsSpec.pre6 enc Try.prog Try.f14 Rows.chainJoinsRow.domain false) (Rows.chainJoinsSpec.post enc Try.prog Try.f14 false true false false) :=
  returnsInHanded_of_change_sized (C := Try.checked) (by kernel_rfl) started (by kernel_rfl) Try.func14
    (ChangeSpec.witness6 (enc := enc) (C := Try.checked) false ⟨#[], #[.agg (Array.replicate 32 (.int .u8 0)), .int .u8 0, .int .u8 0, .int .u8 0, .agg (Array.replicate 32 (.int .u8 0)), .agg (Array.replicate 8 (.int .u32 0))], []⟩ 8 (by kernel_rfl) (by kernel_rfl) (by kernel_rfl) (by kernel_rfl))
    (fun W base args ds gs before hval hW _ hsz _ => law_calls (tds := tds) (by kernel_rfl) (by kernel_rfl) (by kernel_rfl) rfl (fun ds hl => by match ds, hl with | [_, _, _, _, _, _], _ => rfl) (tb := 4) rfl (by kernel_rfl) spec hval hW hsz)
theorem over : Rows.chainJoinsRow.holds Try.pinned (OpenSpec.ofChange Rows.chainJoinsSpec) :=
  OpenClaim.holds_of_wide 14 Try.f14 rfl rfl rfl rfl rfl rfl rfl ⟨rfl, rfl, rfl, rfl, rfl⟩ rfl rfl rfl rfl rfl (by kernel_rfl) Try.func14 (by kernel_rfl)
    (of_decide_eq_true (by kernel_rfl)) (by unfold Func.isWrapper; first | (rw [if_pos (by decide +kernel)]; kernel_rfl) | (rw [if_neg (by decide +kernel)]; exact ⟨rfl, rfl⟩))
    (fun os started H enc _ => lifted os started H enc)
end Go.Proofs.Ythomlkmbgmkjiaa.ChainJoins
namespace Go.Proofs.Ythomlkmbgmkjiaa
theorem chainJoins_holds : Rows.ChainJoinsSaid := ChainJoins.over
#print axioms chainJoins_holds
end Go.Proofs.Ythomlkmbgmkjiaa
