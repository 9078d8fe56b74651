/- The statement SignerAll: without failures a key of total n deals with n - 1 unlike messages, one by one, from 0 on, tells ErrSpent then, and rolls over with the last index; the next key does likewise; and each message that is dealt with twice, one time behind the other, gets the same. No condition. -/
import Derived.Test.YthhlielliopegaaRows
import Derived.Test.YthhlielliopegaaLI
import Derived.Test.YthhlielliopegaaSgn6
namespace Go.Proofs.Ythhlielliopegaa.SignerAll
open Go Go.Sy Go.Proofs.Try
set_option linter.unusedVariables false
set_option linter.unusedSimpArgs false
def tds : List TD := [.int .u8, .int .u8]
theorem spec (vs : List AV) (h : TD.hass tds vs) : FnC Try.prog 3 vs [] (.bool true) [] := by
  simp only [tds, TD.hass, TD.has, TD.ik, TD.cs, TD.css] at h
  obtain ⟨_, _, rfl, ⟨tv, rfl, ht⟩, _, _, rfl, ⟨bv, rfl, hb⟩, rfl⟩ := h
  exact signerAll_spec tv bv (wf_u8 ht) (wf_u8 hb)
set_option maxRecDepth 100000 in
theorem lifted (os : Os) (started : os.Started) (H : Type) (enc : TypeId × Value → H) :
    ReturnsInHanded {} Try.checked os 3 .any (Rows.signerAllSpec.pre6 enc Try.prog Try.f3 Rows.signerAllRow.domain false) (Rows.signerAllSpec.post enc Try.prog Try.f3 false true false false) :=
  returnsInHanded_of_change_sized (C := Try.checked) (by kernel_rfl) started (by kernel_rfl) Try.func3
    (ChangeSpec.witness6 (enc := enc) (C := Try.checked) false ⟨#[], #[.int .u8 0, .int .u8 0], []⟩ 8 (by kernel_rfl) (by kernel_rfl) (by kernel_rfl) (by kernel_rfl))
    (fun W base args ds gs before hval hW _ hsz _ => law_calls (tds := tds) (by kernel_rfl) (by kernel_rfl) (by kernel_rfl) rfl (fun ds hl => by match ds, hl with | [_, _], _ => rfl) (tb := 4) rfl (by kernel_rfl) spec hval hW hsz)
theorem over : Rows.signerAllRow.holds Try.pinned (OpenSpec.ofChange Rows.signerAllSpec) :=
  OpenClaim.holds_of_wide 3 Try.f3 rfl rfl rfl rfl rfl rfl rfl ⟨rfl, rfl, rfl, rfl, rfl⟩ rfl rfl rfl rfl rfl (by kernel_rfl) Try.func3 (by kernel_rfl)
    (of_decide_eq_true (by kernel_rfl)) (by unfold Func.isWrapper; first | (rw [if_pos (by decide +kernel)]; kernel_rfl) | (rw [if_neg (by decide +kernel)]; exact ⟨rfl, rfl⟩))
    (fun os started H enc _ => lifted os started H enc)
end Go.Proofs.Ythhlielliopegaa.SignerAll
namespace Go.Proofs.Ythhlielliopegaa
theorem signerAll_holds : Rows.SignerAllSaid := SignerAll.over
#print axioms signerAll_holds
end Go.Proofs.Ythhlielliopegaa
