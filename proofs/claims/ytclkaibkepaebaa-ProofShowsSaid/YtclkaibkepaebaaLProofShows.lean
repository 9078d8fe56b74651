/- The statement ProofShows: what is proved of entries shows, of an index that is there, that its commitment is; of any other one, that it is absent. No condition. -/
import Derived.Test.YtclkaibkepaebaaRows
import Derived.Test.YtclkaibkepaebaaGG
import Derived.Test.YtclkaibkepaebaaPrfS
namespace Go.Proofs.Ytclkaibkepaebaa.ProofShows
open Go Go.Sy Go.Proofs.Try
set_option linter.unusedVariables false
set_option linter.unusedSimpArgs false
def tds : List TD := [.sl 64 (.st [.arr 32 (.int .u8), .arr 32 (.int .u8)]), .arr 32 (.int .u8)]
theorem spec (vs : List AV) (h : TD.hass tds vs) : FnC Try.prog 14 vs [] (.bool true) [] := by
  simp only [tds, TD.hass, TD.has, TD.ik, TD.cs, TD.css] at h
  obtain ⟨_, _, rfl, hl, _, _, rfl, ⟨i, rfl, hi, hi'⟩, rfl⟩ := h
  obtain ⟨l, rfl, hg, hb⟩ := ens_of hl
  exact proofShows_spec l l.length rfl hb hg i ⟨hi, fun x hx => wf_u8 (hi' x hx)⟩
set_option maxRecDepth 100000 in
theorem lifted (os : Os) (started : os.Started) (H : Type) (enc : TypeId × Value → H) :
    ReturnsInHanded {} Try.checked os 14 .any (Rows.proofShowsSpec.pre6 enc Try.prog Try.f14 Rows.proofShowsRow.domain false) (Rows.proofShowsSpec.post enc Try.prog Try.f14 false true false false) :=
  returnsInHanded_of_change_sized (C := Try.checked) (by kernel_rfl) started (by kernel_rfl) Try.func14
    (ChangeSpec.witness6 (enc := enc) (C := Try.checked) false ⟨#[], #[.slice none 0 0, .agg (Array.replicate 32 (.int .u8 0))], []⟩ 8 (by kernel_rfl) (by kernel_rfl) (by kernel_rfl) (by kernel_rfl))
    (fun W base args ds gs before hval hW _ hsz _ => law_calls (tds := tds) (by kernel_rfl) (by kernel_rfl) (by kernel_rfl) rfl (fun ds hl => by match ds, hl with | [_, _], _ => rfl) (tb := 4) rfl (by kernel_rfl) spec hval hW hsz)
theorem over : Rows.proofShowsRow.holds Try.pinned (OpenSpec.ofChange Rows.proofShowsSpec) :=
  OpenClaim.holds_of_wide 14 Try.f14 rfl rfl rfl rfl rfl rfl rfl ⟨rfl, rfl, rfl, rfl, rfl⟩ rfl rfl rfl rfl rfl (by kernel_rfl) Try.func14 (by kernel_rfl)
    (of_decide_eq_true (by kernel_rfl)) (by unfold Func.isWrapper; first | (rw [if_pos (by decide +kernel)]; kernel_rfl) | (rw [if_neg (by decide +kernel)]; exact ⟨rfl, rfl⟩))
    (fun os started H enc _ => lifted os started H enc)
end Go.Proofs.Ytclkaibkepaebaa.ProofShows
namespace Go.Proofs.Ytclkaibkepaebaa
theorem proofShows_holds : Rows.ProofShowsSaid := ProofShows.over
#print axioms proofShows_holds
end Go.Proofs.Ytclkaibkepaebaa
