/- The statement ExtractTrails: the trail of any side, of any text at a place of a log, and of any log that grows, is what the document says, or there is none. No condition. -/
import Derived.Test.YtegbkbkcfcjkbaaRows
import Derived.Test.YtegbkbkcfcjkbaaGG
import Derived.Test.YtegbkbkcfcjkbaaExtr11
namespace Go.Proofs.Ytegbkbkcfcjkbaa.ExtractTrails
open Go Go.Sy Go.Proofs.Try
set_option linter.unusedVariables false
set_option linter.unusedSimpArgs false
def tds : List TD := [.arr 32 (.int .u8), .st [.bool, .arr 32 (.int .u8), .st [.arr 32 (.int .u8), .sl 32 (.arr 32 (.int .u8))]], .int .i64, .int .i64, .sl 1 (.int .u8), .sl 32 (.arr 32 (.int .u8))]
theorem spec (vs : List AV) (h : TD.hass tds vs) : FnC Try.prog 10 vs [] (.bool true) [] := by
  simp only [tds, TD.hass, TD.has, TD.ik, TD.cs, TD.css] at h
  obtain ⟨_, _, rfl, ⟨i, rfl, hi, hi'⟩, _, _, rfl, ha, _, _, rfl, ⟨m, rfl, _⟩, _, _, rfl, ⟨n, rfl, _⟩, _, _, rfl, ⟨t, rfl, _, htl, ht⟩, _, _, rfl, hwy, rfl⟩ := h
  obtain ⟨_, rfl, _, _, rfl, ⟨p, rfl⟩, _, _, rfl, ⟨c, rfl, hc, hc'⟩, _, _, rfl, hp, rfl⟩ := ha
  obtain ⟨_, rfl, _, _, rfl, ⟨k, rfl, hk, hk'⟩, _, _, rfl, hw, rfl⟩ := hp
  obtain ⟨W, rfl, hWg, hWl⟩ := digests_of hw
  obtain ⟨way, rfl, hyg, hyl⟩ := digests_of hwy
  have g : ∀ {x : List Int}, x.length = 32 → (∀ y ∈ x, (Lit.int .u8 y).wf = true) → goodD x := fun h h' => ⟨h, fun x hx => wf_u8 (h' x hx)⟩
  have := extractTrails_spec i (g hi hi') p c k (g hc hc') (g hk hk') W way hWg hyg t (fun x h => wf_u8 (ht x h)) m n hWl hyl htl
  simpa using this
set_option maxRecDepth 100000 in
theorem lifted (os : Os) (started : os.Started) (H : Type) (enc : TypeId × Value → H) :
    ReturnsInHanded {} Try.checked os 10 .any (Rows.extractTrailsSpec.pre6 enc Try.prog Try.f10 Rows.extractTrailsRow.domain false) (Rows.extractTrailsSpec.post enc Try.prog Try.f10 false true false false) :=
  returnsInHanded_of_change_sized (C := Try.checked) (by kernel_rfl) started (by kernel_rfl) Try.func10
    (ChangeSpec.witness6 (enc := enc) (C := Try.checked) false ⟨#[], #[.agg (Array.replicate 32 (.int .u8 0)), .agg #[.bool false, .int .u8 0, .int .u8 0, .int .u8 0, .int .u8 0, .int .u8 0, .int .u8 0, .int .u8 0, .int .u8 0, .int .u8 0, .int .u8 0, .int .u8 0, .int .u8 0, .int .u8 0, .int .u8 0, .int .u8 0, .int .u8 0, .int .u8 0, .int .u8 0, .int .u8 0, .int .u8 0, .int .u8 0, .int .u8 0, .int .u8 0, .int .u8 0, .int .u8 0, .int .u8 0, .int .u8 0, .int .u8 0, .int .u8 0, .int .u8 0, .int .u8 0, .int .u8 0, .int .u8 0, .int .u8 0, .int .u8 0, .int .u8 0, .int .u8 0, .int .u8 0, .int .u8 0, .int .u8 0, .int .u8 0, .int .u8 0, .int .u8 0, .int .u8 0, .int .u8 0, .int .u8 0, .int .u8 0, .int .u8 0, .int .u8 0, .int .u8 0, .int .u8 0, .int .u8 0, .int .u8 0, .int .u8 0, .int .u8 0, .int .u8 0, .int .u8 0, .int .u8 0, .int .u8 0, .int .u8 0, .int .u8 0, .int .u8 0, .int .u8 0, .int .u8 0, .slice none 0 0], .int .i64 0, .int .i64 0, .slice none 0 0, .slice none 0 0], []⟩ 8 (by kernel_rfl) (by kernel_rfl) (by kernel_rfl) (by kernel_rfl))
    (fun W base args ds gs before hval hW _ hsz _ => law_calls (tds := tds) (by kernel_rfl) (by kernel_rfl) (by kernel_rfl) rfl (fun ds hl => by match ds, hl with | [_, _, _, _, _, _], _ => rfl) (tb := 4) rfl (by kernel_rfl) spec hval hW hsz)
theorem over : Rows.extractTrailsRow.holds Try.pinned (OpenSpec.ofChange Rows.extractTrailsSpec) :=
  OpenClaim.holds_of_wide 10 Try.f10 rfl rfl rfl rfl rfl rfl rfl ⟨rfl, rfl, rfl, rfl, rfl⟩ rfl rfl rfl rfl rfl (by kernel_rfl) Try.func10 (by kernel_rfl)
    (of_decide_eq_true (by kernel_rfl)) (by unfold Func.isWrapper; first | (rw [if_pos (by decide +kernel)]; kernel_rfl) | (rw [if_neg (by decide +kernel)]; exact ⟨rfl, rfl⟩))
    (fun os started H enc _ => lifted os started H enc)
end Go.Proofs.Ytegbkbkcfcjkbaa.ExtractTrails
namespace Go.Proofs.Ytegbkbkcfcjkbaa
theorem extractTrails_holds : Rows.ExtractTrailsSaid := ExtractTrails.over
#print axioms extractTrails_holds
end Go.Proofs.Ytegbkbkcfcjkbaa
