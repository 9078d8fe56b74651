/- The statement KeyedSums: the sums of a key with one digest, two, a text, and an address, are what the document says. No condition. -/
import Derived.Test.YthomlkmbgmkjiaaRows
import Derived.Test.YthomlkmbgmkjiaaLI
import Derived.Test.YthomlkmbgmkjiaaKeyed
namespace Go.Proofs.Ythomlkmbgmkjiaa.KeyedSums
open Go Go.Sy Go.Proofs.Try
set_option linter.unusedVariables false
set_option linter.unusedSimpArgs false
def tds : List TD := [.arr 32 (.int .u8), .arr 32 (.int .u8), .arr 32 (.int .u8), .sl 1 (.int .u8), .arr 8 (.int .u32)]
theorem spec (vs : List AV) (h : TD.hass tds vs) : FnC Try.prog 12 vs [] (.bool true) [] := by
  simp only [tds, TD.hass, TD.has, TD.ik, TD.cs, TD.css] at h
  obtain ⟨_, _, rfl, ⟨k, rfl, hk, hk'⟩, _, _, rfl, ⟨a, rfl, ha, ha'⟩, _, _, rfl, ⟨b, rfl, hb, hb'⟩, _, _, rfl, ⟨m, rfl, _, hm, hm'⟩, _, _, rfl, ⟨ws, rfl, hl, hw⟩, rfl⟩ := h
  exact keyedSums_spec k a b m ws hk ha hb (fun x hx => wf_u8 (hk' x hx)) (fun x hx => wf_u8 (ha' x hx)) (fun x hx => wf_u8 (hb' x hx)) (fun x hx => wf_u8 (hm' x hx)) hm hl (fun x hx => wf_u32 (hw x hx))
set_option maxRecDepth 100000 in
theorem lifted (os : Os) (started : os.Started) (H : Type) (enc : TypeId × Value → H) :
    ReturnsInHanded {} Try.checked os 12 .any (Rows.keyedSumsSpec.pre6 enc Try.prog Try.f12 Rows.keyedSumsRow.domain false) (Rows.keyedSumsSpec.post enc Try.prog Try.f12 false true false false) :=
  returnsInHanded_of_change_sized (C := Try.checked) (by kernel_rfl) started (by kernel_rfl) Try.func12
    (ChangeSpec.witness6 (enc := enc) (C := Try.checked) false ⟨#[], #[.agg (Array.replicate 32 (.int .u8 0)), .agg (Array.replicate 32 (.int .u8 0)), .agg (Array.replicate 32 (.int .u8 0)), .slice none 0 0, .agg (Array.replicate 8 (.int .u32 0))], []⟩ 8 (by kernel_rfl) (by kernel_rfl) (by kernel_rfl) (by kernel_rfl))
    (fun W base args ds gs before hval hW _ hsz _ => law_calls (tds := tds) (by kernel_rfl) (by kernel_rfl) (by kernel_rfl) rfl (fun ds hl => by match ds, hl with | [_, _, _, _, _], _ => rfl) (tb := 4) rfl (by kernel_rfl) spec hval hW hsz)
theorem over : Rows.keyedSumsRow.holds Try.pinned (OpenSpec.ofChange Rows.keyedSumsSpec) :=
  OpenClaim.holds_of_wide 12 Try.f12 rfl rfl rfl rfl rfl rfl rfl ⟨rfl, rfl, rfl, rfl, rfl⟩ rfl rfl rfl rfl rfl (by kernel_rfl) Try.func12 (by kernel_rfl)
    (of_decide_eq_true (by kernel_rfl)) (by unfold Func.isWrapper; first | (rw [if_pos (by decide +kernel)]; kernel_rfl) | (rw [if_neg (by decide +kernel)]; exact ⟨rfl, rfl⟩))
    (fun os started H enc _ => lifted os started H enc)
end Go.Proofs.Ythomlkmbgmkjiaa.KeyedSums
namespace Go.Proofs.Ythomlkmbgmkjiaa
theorem keyedSums_holds : Rows.KeyedSumsSaid := KeyedSums.over
#print axioms keyedSums_holds
end Go.Proofs.Ythomlkmbgmkjiaa
