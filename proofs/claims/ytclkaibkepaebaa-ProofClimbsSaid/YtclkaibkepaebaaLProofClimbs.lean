/- The statement ProofClimbs: where one comes to from any digest by any proof, and what that shows of any root, is what the document says, or the error is told. No condition. -/
import Derived.Test.YtclkaibkepaebaaRows
import Derived.Test.YtclkaibkepaebaaGG
import Derived.Test.YtclkaibkepaebaaPrfC
namespace Go.Proofs.Ytclkaibkepaebaa.ProofClimbs
open Go Go.Sy Go.Proofs.Try
set_option linter.unusedVariables false
set_option linter.unusedSimpArgs false
def tds : List TD := [.arr 32 (.int .u8), .arr 32 (.int .u8), .arr 32 (.int .u8), .st [.arr 32 (.int .u8), .sl 32 (.arr 32 (.int .u8))]]
theorem spec (vs : List AV) (h : TD.hass tds vs) : FnC Try.prog 13 vs [] (.bool true) [] := by
  simp only [tds, TD.hass, TD.has, TD.ik, TD.cs, TD.css] at h
  obtain ⟨_, _, rfl, ⟨x, rfl, hx, hx'⟩, _, _, rfl, ⟨i, rfl, hi, hi'⟩, _, _, rfl, ⟨r, rfl, hr, hr'⟩, _, _, rfl, hp, rfl⟩ := h
  obtain ⟨_, rfl, _, _, rfl, ⟨k, rfl, hk, hk'⟩, _, _, rfl, hw, rfl⟩ := hp
  obtain ⟨W, rfl, hWg, hWl⟩ := digests_of hw
  have g : ∀ {x : List Int}, x.length = 32 → (∀ y ∈ x, (Lit.int .u8 y).wf = true) → goodD x := fun h h' => ⟨h, fun x hx => wf_u8 (h' x hx)⟩
  have := proofClimbs_spec x i r k (g hx hx') (g hi hi') (g hk hk') W hWg hWl
  simpa using this
set_option maxRecDepth 100000 in
theorem lifted (os : Os) (started : os.Started) (H : Type) (enc : TypeId × Value → H) :
    ReturnsInHanded {} Try.checked os 13 .any (Rows.proofClimbsSpec.pre6 enc Try.prog Try.f13 Rows.proofClimbsRow.domain false) (Rows.proofClimbsSpec.post enc Try.prog Try.f13 false true false false) :=
  returnsInHanded_of_change_sized (C := Try.checked) (by kernel_rfl) started (by kernel_rfl) Try.func13
    (ChangeSpec.witness6 (enc := enc) (C := Try.checked) false ⟨#[], #[.agg (Array.replicate 32 (.int .u8 0)), .agg (Array.replicate 32 (.int .u8 0)), .agg (Array.replicate 32 (.int .u8 0)), .agg #[.int .u8 0, .int .u8 0, .int .u8 0, .int .u8 0, .int .u8 0, .int .u8 0, .int .u8 0, .int .u8 0, .int .u8 0, .int .u8 0, .int .u8 0, .int .u8 0, .int .u8 0, .int .u8 0, .int .u8 0, .int .u8 0, .int .u8 0, .int .u8 0, .int .u8 0, .int .u8 0, .int .u8 0, .int .u8 0, .int .u8 0, .int .u8 0, .int .u8 0, .int .u8 0, .int .u8 0, .int .u8 0, .int .u8 0, .int .u8 0, .int .u8 0, .int .u8 0, .slice none 0 0]], []⟩ 8 (by kernel_rfl) (by kernel_rfl) (by kernel_rfl) (by kernel_rfl))
    (fun W base args ds gs before hval hW _ hsz _ => law_calls (tds := tds) (by kernel_rfl) (by kernel_rfl) (by kernel_rfl) rfl (fun ds hl => by match ds, hl with | [_, _, _, _], _ => rfl) (tb := 4) rfl (by kernel_rfl) spec hval hW hsz)
theorem over : Rows.proofClimbsRow.holds Try.pinned (OpenSpec.ofChange Rows.proofClimbsSpec) :=
  OpenClaim.holds_of_wide 13 Try.f13 rfl rfl rfl rfl rfl rfl rfl ⟨rfl, rfl, rfl, rfl, rfl⟩ rfl rfl rfl rfl rfl (by kernel_rfl) Try.func13 (by kernel_rfl)
    (of_decide_eq_true (by kernel_rfl)) (by unfold Func.isWrapper; first | (rw [if_pos (by decide +kernel)]; kernel_rfl) | (rw [if_neg (by decide +kernel)]; exact ⟨rfl, rfl⟩))
    (fun os started H enc _ => lifted os started H enc)
end Go.Proofs.Ytclkaibkepaebaa.ProofClimbs
namespace Go.Proofs.Ytclkaibkepaebaa
theorem proofClimbs_holds : Rows.ProofClimbsSaid := ProofClimbs.over
#print axioms proofClimbs_holds
end Go.Proofs.Ytclkaibkepaebaa
