/- The statement DiskPlays: what any deeds come to on a disk is what the document says. No condition. -/
import Derived.Test.YtegbkbkcfcjkbaaRows
import Derived.Test.YtegbkbkcfcjkbaaLI
import Derived.Test.YtegbkbkcfcjkbaaPlays2
namespace Go.Proofs.Ytegbkbkcfcjkbaa.DiskPlays
open Go Go.Sy Go.Proofs.Try
set_option linter.unusedVariables false
set_option linter.unusedSimpArgs false
def tds : List TD := [.int .i64, .int .i64, .sl 64 (.st [.int .i64, .int .i64, .sl 1 (.int .u8), .sl 8 (.int .i64)])]
theorem spec (vs : List AV) (h : TD.hass tds vs) : FnC Try.prog 4 vs [] (.bool true) [] := by
  simp only [tds, TD.hass, TD.has, TD.ik, TD.cs, TD.css] at h
  obtain ⟨_, _, rfl, ⟨s, rfl, hs⟩, _, _, rfl, ⟨z, rfl, hz⟩, _, _, rfl, ⟨es, rfl, _, hl, he⟩, rfl⟩ := h
  obtain ⟨l, rfl, hd⟩ := ex_map' (f := deV) (Q := fun x => x.b.length ≤ 9223372036854775807 ∧ x.k.length ≤ 9223372036854775807 ∧ -9223372036854775808 ≤ x.n ∧ x.n < 9223372036854775808) (es := es) (fun x hx => by
    obtain ⟨_, rfl, _, _, rfl, ⟨w, rfl, _⟩, _, _, rfl, ⟨n, rfl, hn⟩, _, _, rfl, ⟨b, rfl, _, hbl, _⟩, _, _, rfl, ⟨k, rfl, _, hkl, _⟩, rfl⟩ := he x hx
    exact ⟨⟨w, n, b, k⟩, rfl, hbl, hkl, (wf_i64 hn).1, (wf_i64 hn).2⟩)
  rw [List.length_map] at hl
  have := diskPlays_spec s z l (wf_i64 hs).2 (wf_i64 hz).2 hl hd
  simpa using this
set_option maxRecDepth 100000 in
theorem lifted (os : Os) (started : os.Started) (H : Type) (enc : TypeId × Value → H) :
    ReturnsInHanded {} Try.checked os 4 .any (Rows.diskPlaysSpec.pre6 enc Try.prog Try.f4 Rows.diskPlaysRow.domain false) (Rows.diskPlaysSpec.post enc Try.prog Try.f4 false true false false) :=
  returnsInHanded_of_change_sized (C := Try.checked) (by kernel_rfl) started (by kernel_rfl) Try.func4
    (ChangeSpec.witness6 (enc := enc) (C := Try.checked) false ⟨#[], #[.int .i64 0, .int .i64 0, .slice none 0 0], []⟩ 8 (by kernel_rfl) (by kernel_rfl) (by kernel_rfl) (by kernel_rfl))
    (fun W base args ds gs before hval hW _ hsz _ => law_calls (tds := tds) (by kernel_rfl) (by kernel_rfl) (by kernel_rfl) rfl (fun ds hl => by match ds, hl with | [_, _, _], _ => rfl) (tb := 4) rfl (by kernel_rfl) spec hval hW hsz)
theorem over : Rows.diskPlaysRow.holds Try.pinned (OpenSpec.ofChange Rows.diskPlaysSpec) :=
  OpenClaim.holds_of_wide 4 Try.f4 rfl rfl rfl rfl rfl rfl rfl ⟨rfl, rfl, rfl, rfl, rfl⟩ rfl rfl rfl rfl rfl (by kernel_rfl) Try.func4 (by kernel_rfl)
    (of_decide_eq_true (by kernel_rfl)) (by unfold Func.isWrapper; first | (rw [if_pos (by decide +kernel)]; kernel_rfl) | (rw [if_neg (by decide +kernel)]; exact ⟨rfl, rfl⟩))
    (fun os started H enc _ => lifted os started H enc)
end Go.Proofs.Ytegbkbkcfcjkbaa.DiskPlays
namespace Go.Proofs.Ytegbkbkcfcjkbaa
theorem diskPlays_holds : Rows.DiskPlaysSaid := DiskPlays.over
#print axioms diskPlays_holds
end Go.Proofs.Ytegbkbkcfcjkbaa
