/- The statement MacCodes: the code of any parts with any key is what the document says of them, one behind the other; and whether two texts are alike is told. No condition. -/
import Derived.Test.YthomlkmbgmkjiaaRows
import Derived.Test.YthomlkmbgmkjiaaLI
import Derived.Test.YthomlkmbgmkjiaaMacL
namespace Go.Proofs.Ythomlkmbgmkjiaa.MacCodes
open Go Go.Sy Go.Proofs.Try
set_option linter.unusedVariables false
set_option linter.unusedSimpArgs false
def tds : List TD := [.sl 1 (.int .u8), .sl 24 (.sl 1 (.int .u8)), .sl 1 (.int .u8)]
theorem spec (vs : List AV) (h : TD.hass tds vs) : FnC Try.prog 10 vs [] (.bool true) [] := by
  simp only [tds, TD.hass, TD.has, TD.ik, TD.cs, TD.css] at h
  obtain ⟨_, _, rfl, ⟨k, rfl, _, hkl, hk⟩, _, _, rfl, ⟨es, rfl, _, hl, he⟩, _, _, rfl, ⟨b, rfl, _, hbl, hb⟩, rfl⟩ := h
  obtain ⟨ps, rfl, hp⟩ := ex_map' (f := bsl) (Q := fun p => p.length * 1 ≤ reachBytes ∧ ∀ x ∈ p, (Lit.int .u8 x).wf = true) (es := es) (fun x hx => by
    obtain ⟨xs, rfl, h1, _, h2⟩ := he x hx
    exact ⟨xs, rfl, h1, h2⟩)
  rw [List.length_map] at hl
  have := macCodes_spec k b ps (fun x hx => wf_u8 (hk x hx)) (fun x hx => wf_u8 (hb x hx)) (fun p h x hx => wf_u8 ((hp p h).2 x hx)) hkl hbl (fun p h => by have := (hp p h).1; unfold reachBytes at this; omega) hl
  simpa using this
set_option maxRecDepth 100000 in
theorem lifted (os : Os) (started : os.Started) (H : Type) (enc : TypeId × Value → H) :
    ReturnsInHanded {} Try.checked os 10 .any (Rows.macCodesSpec.pre6 enc Try.prog Try.f10 Rows.macCodesRow.domain false) (Rows.macCodesSpec.post enc Try.prog Try.f10 false true false false) :=
  returnsInHanded_of_change_sized (C := Try.checked) (by kernel_rfl) started (by kernel_rfl) Try.func10
    (ChangeSpec.witness6 (enc := enc) (C := Try.checked) false ⟨#[], #[.slice none 0 0, .slice none 0 0, .slice none 0 0], []⟩ 8 (by kernel_rfl) (by kernel_rfl) (by kernel_rfl) (by kernel_rfl))
    (fun W base args ds gs before hval hW _ hsz _ => law_calls (tds := tds) (by kernel_rfl) (by kernel_rfl) (by kernel_rfl) rfl (fun ds hl => by match ds, hl with | [_, _, _], _ => rfl) (tb := 4) rfl (by kernel_rfl) spec hval hW hsz)
theorem over : Rows.macCodesRow.holds Try.pinned (OpenSpec.ofChange Rows.macCodesSpec) :=
  OpenClaim.holds_of_wide 10 Try.f10 rfl rfl rfl rfl rfl rfl rfl ⟨rfl, rfl, rfl, rfl, rfl⟩ rfl rfl rfl rfl rfl (by kernel_rfl) Try.func10 (by kernel_rfl)
    (of_decide_eq_true (by kernel_rfl)) (by unfold Func.isWrapper; first | (rw [if_pos (by decide +kernel)]; kernel_rfl) | (rw [if_neg (by decide +kernel)]; exact ⟨rfl, rfl⟩))
    (fun os started H enc _ => lifted os started H enc)
end Go.Proofs.Ythomlkmbgmkjiaa.MacCodes
namespace Go.Proofs.Ythomlkmbgmkjiaa
theorem macCodes_holds : Rows.MacCodesSaid := MacCodes.over
#print axioms macCodes_holds
end Go.Proofs.Ythomlkmbgmkjiaa
