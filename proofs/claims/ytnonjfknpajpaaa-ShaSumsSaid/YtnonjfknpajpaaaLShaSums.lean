/- The statement ShaSums: the sum of any parts is the document's of them, one behind the other. No condition. -/
import Derived.Test.YtnonjfknpajpaaaRows
import Derived.Test.YtnonjfknpajpaaaR1
import Derived.Test.YtnonjfknpajpaaaShaLaw
namespace Go.Proofs.Ytnonjfknpajpaaa.ShaSums
open Go Go.Sy Go.Proofs.Try
set_option linter.unusedVariables false
set_option linter.unusedSimpArgs false
def tds : List TD := [.sl 24 (.sl 1 (.int .u8))]
theorem spec (vs : List AV) (h : TD.hass tds vs) : FnC Try.prog 12 vs [] (.bool true) [] := by
  simp only [tds, TD.hass, TD.has, TD.ik, TD.cs, TD.css] at h
  obtain ⟨_, _, rfl, ⟨es, rfl, _, hl, he⟩, rfl⟩ := h
  obtain ⟨ps, rfl, hp⟩ := ex_map' (f := bsl) (Q := fun p => p.length * 1 ≤ reachBytes ∧ ∀ x ∈ p, (Lit.int .u8 x).wf = true) (es := es) (fun x hx => by
    obtain ⟨xs, rfl, h1, _, h2⟩ := he x hx
    exact ⟨xs, rfl, h1, h2⟩)
  rw [List.length_map] at hl
  have := shaSums_spec ps (fun p h x hx => wf_u8 ((hp p h).2 x hx)) (fun p h => by have := (hp p h).1; unfold reachBytes at this; omega) hl
  simpa using this
set_option maxRecDepth 100000 in
theorem lifted (os : Os) (started : os.Started) (H : Type) (enc : TypeId × Value → H) :
    ReturnsInHanded {} Try.checked os 12 .any (Rows.shaSumsSpec.pre6 enc Try.prog Try.f12 Rows.shaSumsRow.domain false) (Rows.shaSumsSpec.post enc Try.prog Try.f12 false true false false) :=
  returnsInHanded_of_change_sized (C := Try.checked) (by kernel_rfl) started (by kernel_rfl) Try.func12
    (ChangeSpec.witness6 (enc := enc) (C := Try.checked) false ⟨#[], #[.slice none 0 0], []⟩ 8 (by kernel_rfl) (by kernel_rfl) (by kernel_rfl) (by kernel_rfl))
    (fun W base args ds gs before hval hW _ hsz _ => law_calls (tds := tds) (by kernel_rfl) (by kernel_rfl) (by kernel_rfl) rfl (fun ds hl => by match ds, hl with | [_], _ => rfl) (tb := 4) rfl (by kernel_rfl) spec hval hW hsz)
theorem over : Rows.shaSumsRow.holds Try.pinned (OpenSpec.ofChange Rows.shaSumsSpec) :=
  OpenClaim.holds_of_wide 12 Try.f12 rfl rfl rfl rfl rfl rfl rfl ⟨rfl, rfl, rfl, rfl, rfl⟩ rfl rfl rfl rfl rfl (by kernel_rfl) Try.func12 (by kernel_rfl)
    (of_decide_eq_true (by kernel_rfl)) (by unfold Func.isWrapper; first | (rw [if_pos (by decide +kernel)]; kernel_rfl) | (rw [if_neg (by decide +kernel)]; exact ⟨rfl, rfl⟩))
    (fun os started H enc _ => lifted os started H enc)
end Go.Proofs.Ytnonjfknpajpaaa.ShaSums
namespace Go.Proofs.Ytnonjfknpajpaaa
theorem shaSums_holds : Rows.ShaSumsSaid := ShaSums.over
#print axioms shaSums_holds
end Go.Proofs.Ytnonjfknpajpaaa
