/- The statement PackNumbers: a number's bytes, and the number of bytes, are what the document says, or the error is told; and a number of eight bytes is read as it was. No condition. -/
import Derived.Test.YtnonjfknpajpaaaRows
import Derived.Test.YtnonjfknpajpaaaR1
import Derived.Test.YtnonjfknpajpaaaPack
namespace Go.Proofs.Ytnonjfknpajpaaa.PackNumbers
open Go Go.Sy Go.Proofs.Try
set_option linter.unusedVariables false
set_option linter.unusedSimpArgs false
def tds : List TD := [.int .u64, .int .i64, .sl 1 (.int .u8)]
theorem spec (vs : List AV) (h : TD.hass tds vs) : FnC Try.prog 8 vs [] (.bool true) [] := by
  simp only [tds, TD.hass, TD.has, TD.ik, TD.cs, TD.css] at h
  obtain ⟨_, _, rfl, ⟨n, rfl, hn⟩, _, _, rfl, ⟨size, rfl, _⟩, _, _, rfl, ⟨b, rfl, _, hl, hb⟩, rfl⟩ := h
  exact packNumbers_spec n size b (wf_u64 hn).1 (wf_u64 hn).2 hl (fun x hx => wf_u8 (hb x hx))
set_option maxRecDepth 100000 in
theorem lifted (os : Os) (started : os.Started) (H : Type) (enc : TypeId × Value → H) :
    ReturnsInHanded {} Try.checked os 8 .any (Rows.packNumbersSpec.pre6 enc Try.prog Try.f8 Rows.packNumbersRow.domain false) (Rows.packNumbersSpec.post enc Try.prog Try.f8 false true false false) :=
  returnsInHanded_of_change_sized (C := Try.checked) (by kernel_rfl) started (by kernel_rfl) Try.func8
    (ChangeSpec.witness6 (enc := enc) (C := Try.checked) false ⟨#[], #[.int .u64 0, .int .i64 0, .slice none 0 0], []⟩ 8 (by kernel_rfl) (by kernel_rfl) (by kernel_rfl) (by kernel_rfl))
    (fun W base args ds gs before hval hW _ hsz _ => law_calls (tds := tds) (by kernel_rfl) (by kernel_rfl) (by kernel_rfl) rfl (fun ds hl => by match ds, hl with | [_, _, _], _ => rfl) (tb := 4) rfl (by kernel_rfl) spec hval hW hsz)
theorem over : Rows.packNumbersRow.holds Try.pinned (OpenSpec.ofChange Rows.packNumbersSpec) :=
  OpenClaim.holds_of_wide 8 Try.f8 rfl rfl rfl rfl rfl rfl rfl ⟨rfl, rfl, rfl, rfl, rfl⟩ rfl rfl rfl rfl rfl (by kernel_rfl) Try.func8 (by kernel_rfl)
    (of_decide_eq_true (by kernel_rfl)) (by unfold Func.isWrapper; first | (rw [if_pos (by decide +kernel)]; kernel_rfl) | (rw [if_neg (by decide +kernel)]; exact ⟨rfl, rfl⟩))
    (fun os started H enc _ => lifted os started H enc)
end Go.Proofs.Ytnonjfknpajpaaa.PackNumbers
namespace Go.Proofs.Ytnonjfknpajpaaa
theorem packNumbers_holds : Rows.PackNumbersSaid := PackNumbers.over
#print axioms packNumbers_holds
end Go.Proofs.Ytnonjfknpajpaaa
