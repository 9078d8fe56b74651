/- The statement SlotsKeep: on a disk that was all 0: whatever fails while texts are replaced, the slots, opened again, have the text that was there ahead of the failure, or the new one; the new one, if that was told. No condition. -/
import Derived.Test.YtegbkbkcfcjkbaaRows
import Derived.Test.YtegbkbkcfcjkbaaLI
import Derived.Test.YtegbkbkcfcjkbaaSlots4
namespace Go.Proofs.Ytegbkbkcfcjkbaa.SlotsKeep
open Go Go.Sy Go.Proofs.Try
set_option linter.unusedVariables false
set_option linter.unusedSimpArgs false
def tds : List TD := [.sl 72 (.st [.sl 1 (.int .u8), .bool, .int .i64, .sl 8 (.int .i64), .bool])]
theorem spec (vs : List AV) (h : TD.hass tds vs) : FnC Try.prog 6 vs [] (.bool true) [] := by
  simp only [tds, TD.hass, TD.has, TD.ik, TD.cs, TD.css] at h
  obtain ⟨_, _, rfl, ⟨es, rfl, _, hl, he⟩, rfl⟩ := h
  obtain ⟨l, rfl, hd⟩ := ex_map' (f := sdV) (Q := fun x => x.b.length ≤ 9223372036854775807 ∧ x.k.length ≤ 9223372036854775807 ∧ ∀ y ∈ x.b, 0 ≤ y ∧ y < 256) (es := es) (fun x hx => by
    obtain ⟨_, rfl, _, _, rfl, ⟨b, rfl, _, hbl, hb⟩, _, _, rfl, ⟨c, rfl⟩, _, _, rfl, ⟨a, rfl, _⟩, _, _, rfl, ⟨k, rfl, _, hkl, _⟩, _, _, rfl, ⟨g, rfl⟩, rfl⟩ := he x hx
    exact ⟨⟨b, c, a, k, g⟩, rfl, hbl, hkl, fun y h => wf_u8 (hb y h)⟩)
  rw [List.length_map] at hl
  have := slotsKeep_spec l hl hd
  simpa using this
set_option maxRecDepth 100000 in
theorem lifted (os : Os) (started : os.Started) (H : Type) (enc : TypeId × Value → H) :
    ReturnsInHanded {} Try.checked os 6 .any (Rows.slotsKeepSpec.pre6 enc Try.prog Try.f6 Rows.slotsKeepRow.domain false) (Rows.slotsKeepSpec.post enc Try.prog Try.f6 false true false false) :=
  returnsInHanded_of_change_sized (C := Try.checked) (by kernel_rfl) started (by kernel_rfl) Try.func6
    (ChangeSpec.witness6 (enc := enc) (C := Try.checked) false ⟨#[], #[.slice none 0 0], []⟩ 8 (by kernel_rfl) (by kernel_rfl) (by kernel_rfl) (by kernel_rfl))
    (fun W base args ds gs before hval hW _ hsz _ => law_calls (tds := tds) (by kernel_rfl) (by kernel_rfl) (by kernel_rfl) rfl (fun ds hl => by match ds, hl with | [_], _ => rfl) (tb := 4) rfl (by kernel_rfl) spec hval hW hsz)
theorem over : Rows.slotsKeepRow.holds Try.pinned (OpenSpec.ofChange Rows.slotsKeepSpec) :=
  OpenClaim.holds_of_wide 6 Try.f6 rfl rfl rfl rfl rfl rfl rfl ⟨rfl, rfl, rfl, rfl, rfl⟩ rfl rfl rfl rfl rfl (by kernel_rfl) Try.func6 (by kernel_rfl)
    (of_decide_eq_true (by kernel_rfl)) (by unfold Func.isWrapper; first | (rw [if_pos (by decide +kernel)]; kernel_rfl) | (rw [if_neg (by decide +kernel)]; exact ⟨rfl, rfl⟩))
    (fun os started H enc _ => lifted os started H enc)
end Go.Proofs.Ytegbkbkcfcjkbaa.SlotsKeep
namespace Go.Proofs.Ytegbkbkcfcjkbaa
theorem slotsKeep_holds : Rows.SlotsKeepSaid := SlotsKeep.over
#print axioms slotsKeep_holds
end Go.Proofs.Ytegbkbkcfcjkbaa
