/- The statement AdrsMakes: addresses of each type, with words 5 and 6, and word 7, and their bytes, are what the document says. No condition. -/
import Derived.Test.YtnonjfknpajpaaaRows
import Derived.Test.YtnonjfknpajpaaaR1
import Derived.Test.YtnonjfknpajpaaaAdrs2
namespace Go.Proofs.Ytnonjfknpajpaaa.AdrsMakes
open Go Go.Sy Go.Proofs.Try
set_option linter.unusedVariables false
set_option linter.unusedSimpArgs false
def tds : List TD := [.int .u32, .int .u64, .int .u32, .arr 8 (.int .u32), .int .u32]
theorem eight {xs : List Int} (h : xs.length = 8) : ∃ a b c d e f g i, xs = [a, b, c, d, e, f, g, i] := by
  match xs, h with
  | [a, b, c, d, e, f, g, i], _ => exact ⟨a, b, c, d, e, f, g, i, rfl⟩
theorem spec (vs : List AV) (h : TD.hass tds vs) : FnC Try.prog 7 vs [] (.bool true) [] := by
  simp only [tds, TD.hass, TD.has, TD.ik, TD.cs, TD.css] at h
  obtain ⟨_, _, rfl, ⟨l, rfl, _⟩, _, _, rfl, ⟨t, rfl, ht⟩, _, _, rfl, ⟨f, rfl, _⟩, _, _, rfl, ⟨a, rfl, ha, hw⟩, _, _, rfl, ⟨w, rfl, _⟩, rfl⟩ := h
  obtain ⟨a0, a1, a2, a3, a4, a5, a6, a7, rfl⟩ := eight ha
  exact adrsMakes_spec l t f a0 a1 a2 a3 a4 a5 a6 a7 w (wf_u64 ht).1 (wf_u64 ht).2 (fun x hx => wf_u32 (hw x hx))
set_option maxRecDepth 100000 in
theorem lifted (os : Os) (started : os.Started) (H : Type) (enc : TypeId × Value → H) :
    ReturnsInHanded {} Try.checked os 7 .any (Rows.adrsMakesSpec.pre6 enc Try.prog Try.f7 Rows.adrsMakesRow.domain false) (Rows.adrsMakesSpec.post enc Try.prog Try.f7 false true false false) :=
  returnsInHanded_of_change_sized (C := Try.checked) (by kernel_rfl) started (by kernel_rfl) Try.func7
    (ChangeSpec.witness6 (enc := enc) (C := Try.checked) false ⟨#[], #[.int .u32 0, .int .u64 0, .int .u32 0, .agg (Array.replicate 8 (.int .u32 0)), .int .u32 0], []⟩ 8 (by kernel_rfl) (by kernel_rfl) (by kernel_rfl) (by kernel_rfl))
    (fun W base args ds gs before hval hW _ hsz _ => law_calls (tds := tds) (by kernel_rfl) (by kernel_rfl) (by kernel_rfl) rfl (fun ds hl => by match ds, hl with | [_, _, _, _, _], _ => rfl) (tb := 4) rfl (by kernel_rfl) spec hval hW hsz)
theorem over : Rows.adrsMakesRow.holds Try.pinned (OpenSpec.ofChange Rows.adrsMakesSpec) :=
  OpenClaim.holds_of_wide 7 Try.f7 rfl rfl rfl rfl rfl rfl rfl ⟨rfl, rfl, rfl, rfl, rfl⟩ rfl rfl rfl rfl rfl (by kernel_rfl) Try.func7 (by kernel_rfl)
    (of_decide_eq_true (by kernel_rfl)) (by unfold Func.isWrapper; first | (rw [if_pos (by decide +kernel)]; kernel_rfl) | (rw [if_neg (by decide +kernel)]; exact ⟨rfl, rfl⟩))
    (fun os started H enc _ => lifted os started H enc)
end Go.Proofs.Ytnonjfknpajpaaa.AdrsMakes
namespace Go.Proofs.Ytnonjfknpajpaaa
theorem adrsMakes_holds : Rows.AdrsMakesSaid := AdrsMakes.over
#print axioms adrsMakes_holds
end Go.Proofs.Ytnonjfknpajpaaa
