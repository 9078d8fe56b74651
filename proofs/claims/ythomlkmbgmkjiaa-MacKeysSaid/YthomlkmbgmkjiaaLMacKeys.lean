/- The statement MacKeys: a key with bytes 0 behind it, up to 64 bytes, makes the same codes; a key of more than 64 bytes those that its sum makes. No condition. -/
import Derived.Test.YthomlkmbgmkjiaaRows
import Derived.Test.YthomlkmbgmkjiaaLI
import Derived.Test.YthomlkmbgmkjiaaMacL
namespace Go.Proofs.Ythomlkmbgmkjiaa.MacKeys
open Go Go.Sy Go.Proofs.Try
set_option linter.unusedVariables false
set_option linter.unusedSimpArgs false
def tds : List TD := [.sl 1 (.int .u8), .sl 1 (.int .u8), .int .u8]
theorem spec (vs : List AV) (h : TD.hass tds vs) : FnC Try.prog 11 vs [] (.bool true) [] := by
  simp only [tds, TD.hass, TD.has, TD.ik, TD.cs, TD.css] at h
  obtain ⟨_, _, rfl, ⟨k, rfl, _, hkl, hk⟩, _, _, rfl, ⟨t, rfl, _, htl, ht⟩, _, _, rfl, ⟨m, rfl, hm⟩, rfl⟩ := h
  exact macKeys_spec k t m (fun x hx => wf_u8 (hk x hx)) (fun x hx => wf_u8 (ht x hx)) (wf_u8 hm) hkl htl
set_option maxRecDepth 100000 in
theorem lifted (os : Os) (started : os.Started) (H : Type) (enc : TypeId × Value → H) :
    ReturnsInHanded {} Try.checked os 11 .any (Rows.macKeysSpec.pre6 enc Try.prog Try.f11 Rows.macKeysRow.domain false) (Rows.macKeysSpec.post enc Try.prog Try.f11 false true false false) :=
  returnsInHanded_of_change_sized (C := Try.checked) (by kernel_rfl) started (by kernel_rfl) Try.func11
    (ChangeSpec.witness6 (enc := enc) (C := Try.checked) false ⟨#[], #[.slice none 0 0, .slice none 0 0, .int .u8 0], []⟩ 8 (by kernel_rfl) (by kernel_rfl) (by kernel_rfl) (by kernel_rfl))
    (fun W base args ds gs before hval hW _ hsz _ => law_calls (tds := tds) (by kernel_rfl) (by kernel_rfl) (by kernel_rfl) rfl (fun ds hl => by match ds, hl with | [_, _, _], _ => rfl) (tb := 4) rfl (by kernel_rfl) spec hval hW hsz)
theorem over : Rows.macKeysRow.holds Try.pinned (OpenSpec.ofChange Rows.macKeysSpec) :=
  OpenClaim.holds_of_wide 11 Try.f11 rfl rfl rfl rfl rfl rfl rfl ⟨rfl, rfl, rfl, rfl, rfl⟩ rfl rfl rfl rfl rfl (by kernel_rfl) Try.func11 (by kernel_rfl)
    (of_decide_eq_true (by kernel_rfl)) (by unfold Func.isWrapper; first | (rw [if_pos (by decide +kernel)]; kernel_rfl) | (rw [if_neg (by decide +kernel)]; exact ⟨rfl, rfl⟩))
    (fun os started H enc _ => lifted os started H enc)
end Go.Proofs.Ythomlkmbgmkjiaa.MacKeys
namespace Go.Proofs.Ythomlkmbgmkjiaa
theorem macKeys_holds : Rows.MacKeysSaid := MacKeys.over
#print axioms macKeys_holds
end Go.Proofs.Ythomlkmbgmkjiaa
