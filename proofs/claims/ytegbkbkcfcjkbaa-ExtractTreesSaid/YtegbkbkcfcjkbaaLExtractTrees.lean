/- The statement ExtractTrees: if two proofs under one root, of one index, are accepted, and say two things, two unlike texts with one sum are told; else none. No condition. -/
import Derived.Test.YtegbkbkcfcjkbaaRows
import Derived.Test.YtegbkbkcfcjkbaaGG
import Derived.Test.YtegbkbkcfcjkbaaExtr7
namespace Go.Proofs.Ytegbkbkcfcjkbaa.ExtractTrees
open Go Go.Sy Go.Proofs.Try
set_option linter.unusedVariables false
set_option linter.unusedSimpArgs false
def tds : List TD := [.arr 32 (.int .u8), .arr 32 (.int .u8), .st [.bool, .arr 32 (.int .u8), .st [.arr 32 (.int .u8), .sl 32 (.arr 32 (.int .u8))]], .st [.bool, .arr 32 (.int .u8), .st [.arr 32 (.int .u8), .sl 32 (.arr 32 (.int .u8))]]]
theorem spec (vs : List AV) (h : TD.hass tds vs) : FnC Try.prog 11 vs [] (.bool true) [] := by
  simp only [tds, TD.hass, TD.has, TD.ik, TD.cs, TD.css] at h
  obtain ⟨_, _, rfl, ⟨r, rfl, hr, hr'⟩, _, _, rfl, ⟨i, rfl, hi, hi'⟩, _, _, rfl, ha, _, _, rfl, hb, rfl⟩ := h
  obtain ⟨_, rfl, _, _, rfl, ⟨p, rfl⟩, _, _, rfl, ⟨c, rfl, hc, hc'⟩, _, _, rfl, hp, rfl⟩ := ha
  obtain ⟨_, rfl, _, _, rfl, ⟨k, rfl, hk, hk'⟩, _, _, rfl, hw, rfl⟩ := hp
  obtain ⟨_, rfl, _, _, rfl, ⟨p2, rfl⟩, _, _, rfl, ⟨c2, rfl, hc2, hc2'⟩, _, _, rfl, hp2, rfl⟩ := hb
  obtain ⟨_, rfl, _, _, rfl, ⟨k2, rfl, hk2, hk2'⟩, _, _, rfl, hw2, rfl⟩ := hp2
  obtain ⟨W, rfl, hWg, hWl⟩ := digests_of hw
  obtain ⟨W2, rfl, hWg2, hWl2⟩ := digests_of hw2
  have g : ∀ {x : List Int}, x.length = 32 → (∀ y ∈ x, (Lit.int .u8 y).wf = true) → goodD x := fun h h' => ⟨h, fun x hx => wf_u8 (h' x hx)⟩
  have := extractTrees_spec r i (g hi hi') p p2 c c2 k k2 (g hc hc') (g hc2 hc2') (g hk hk') (g hk2 hk2') W W2 hWg hWg2 hWl hWl2
  simpa using this
set_option maxRecDepth 100000 in
theorem lifted (os : Os) (started : os.Started) (H : Type) (enc : TypeId × Value → H) :
    ReturnsInHanded {} Try.checked os 11 .any (Rows.extractTreesSpec.pre6 enc Try.prog Try.f11 Rows.extractTreesRow.domain false) (Rows.extractTreesSpec.post enc Try.prog Try.f11 false true false false) :=
  returnsInHanded_of_change_sized (C := Try.checked) (by kernel_rfl) started (by kernel_rfl) Try.func11
    (ChangeSpec.witness6 (enc := enc) (C := Try.checked) false ⟨#[], #[.agg (Array.replicate 32 (.int .u8 0)), .agg (Array.replicate 32 (.int .u8 0)), .agg #[.bool false, .int .u8 0, .int .u8 0, .int .u8 0, .int .u8 0, .int .u8 0, .int .u8 0, .int .u8 0, .int .u8 0, .int .u8 0, .int .u8 0, .int .u8 0, .int .u8 0, .int .u8 0, .int .u8 0, .int .u8 0, .int .u8 0, .int .u8 0, .int .u8 0, .int .u8 0, .int .u8 0, .int .u8 0, .int .u8 0, .int .u8 0, .int .u8 0, .int .u8 0, .int .u8 0, .int .u8 0, .int .u8 0, .int .u8 0, .int .u8 0, .int .u8 0, .int .u8 0, .int .u8 0, .int .u8 0, .int .u8 0, .int .u8 0, .int .u8 0, .int .u8 0, .int .u8 0, .int .u8 0, .int .u8 0, .int .u8 0, .int .u8 0, .int .u8 0, .int .u8 0, .int .u8 0, .int .u8 0, .int .u8 0, .int .u8 0, .int .u8 0, .int .u8 0, .int .u8 0, .int .u8 0, .int .u8 0, .int .u8 0, .int .u8 0, .int .u8 0, .int .u8 0, .int .u8 0, .int .u8 0, .int .u8 0, .int .u8 0, .int .u8 0, .int .u8 0, .slice none 0 0], .agg #[.bool false, .int .u8 0, .int .u8 0, .int .u8 0, .int .u8 0, .int .u8 0, .int .u8 0, .int .u8 0, .int .u8 0, .int .u8 0, .int .u8 0, .int .u8 0, .int .u8 0, .int .u8 0, .int .u8 0, .int .u8 0, .int .u8 0, .int .u8 0, .int .u8 0, .int .u8 0, .int .u8 0, .int .u8 0, .int .u8 0, .int .u8 0, .int .u8 0, .int .u8 0, .int .u8 0, .int .u8 0, .int .u8 0, .int .u8 0, .int .u8 0, .int .u8 0, .int .u8 0, .int .u8 0, .int .u8 0, .int .u8 0, .int .u8 0, .int .u8 0, .int .u8 0, .int .u8 0, .int .u8 0, .int .u8 0, .int .u8 0, .int .u8 0, .int .u8 0, .int .u8 0, .int .u8 0, .int .u8 0, .int .u8 0, .int .u8 0, .int .u8 0, .int .u8 0, .int .u8 0, .int .u8 0, .int .u8 0, .int .u8 0, .int .u8 0, .int .u8 0, .int .u8 0, .int .u8 0, .int .u8 0, .int .u8 0, .int .u8 0, .int .u8 0, .int .u8 0, .slice none 0 0]], []⟩ 8 (by kernel_rfl) (by kernel_rfl) (by kernel_rfl) (by kernel_rfl))
    (fun W base args ds gs before hval hW _ hsz _ => law_calls (tds := tds) (by kernel_rfl) (by kernel_rfl) (by kernel_rfl) rfl (fun ds hl => by match ds, hl with | [_, _, _, _], _ => rfl) (tb := 4) rfl (by kernel_rfl) spec hval hW hsz)
theorem over : Rows.extractTreesRow.holds Try.pinned (OpenSpec.ofChange Rows.extractTreesSpec) :=
  OpenClaim.holds_of_wide 11 Try.f11 rfl rfl rfl rfl rfl rfl rfl ⟨rfl, rfl, rfl, rfl, rfl⟩ rfl rfl rfl rfl rfl (by kernel_rfl) Try.func11 (by kernel_rfl)
    (of_decide_eq_true (by kernel_rfl)) (by unfold Func.isWrapper; first | (rw [if_pos (by decide +kernel)]; kernel_rfl) | (rw [if_neg (by decide +kernel)]; exact ⟨rfl, rfl⟩))
    (fun os started H enc _ => lifted os started H enc)
end Go.Proofs.Ytegbkbkcfcjkbaa.ExtractTrees
namespace Go.Proofs.Ytegbkbkcfcjkbaa
theorem extractTrees_holds : Rows.ExtractTreesSaid := ExtractTrees.over
#print axioms extractTrees_holds
end Go.Proofs.Ytegbkbkcfcjkbaa
