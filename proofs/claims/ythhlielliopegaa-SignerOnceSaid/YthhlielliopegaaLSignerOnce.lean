/- The statement SignerOnce: NO INDEX OF A KEY IS EVER TOLD FOR TWO MESSAGES: whatever fails, wherever, and whatever older image of the disk is restored; with each opening at most as many indices are lost as the batch. No condition. -/
import Derived.Test.YthhlielliopegaaRows
import Derived.Test.YthhlielliopegaaLI
import Derived.Test.YthhlielliopegaaSgn9
namespace Go.Proofs.Ythhlielliopegaa.SignerOnce
open Go Go.Sy Go.Proofs.Try
set_option linter.unusedVariables false
set_option linter.unusedSimpArgs false
def tds : List TD := [.int .u16, .int .u8, .sl 64 (.st [.int .i64, .sl 1 (.int .u8), .int .i64, .sl 8 (.int .i64)])]
theorem spec (vs : List AV) (h : TD.hass tds vs) : FnC Try.prog 4 vs [] (.bool true) [] := by
  simp only [tds, TD.hass, TD.has, TD.ik, TD.cs, TD.css] at h
  obtain ⟨_, _, rfl, ⟨tv, rfl, ht⟩, _, _, rfl, ⟨bv, rfl, hb⟩, _, _, rfl, ⟨es, rfl, _, hl, he⟩, rfl⟩ := h
  obtain ⟨l, rfl, hd⟩ := ex_map' (f := ddV) (Q := fun x => x.m.length ≤ 9223372036854775807 ∧ x.k.length ≤ 9223372036854775807 ∧ ∀ y ∈ x.m, 0 ≤ y ∧ y < 256) (es := es) (fun x hx => by
    obtain ⟨_, rfl, _, _, rfl, ⟨w, rfl, _⟩, _, _, rfl, ⟨m, rfl, _, hbl, hb⟩, _, _, rfl, ⟨n, rfl, _⟩, _, _, rfl, ⟨k, rfl, _, hkl, _⟩, rfl⟩ := he x hx
    exact ⟨⟨w, m, n, k⟩, rfl, hbl, hkl, fun y h => wf_u8 (hb y h)⟩)
  rw [List.length_map] at hl
  have := signerOnce_spec tv bv (wf_u16 ht) (wf_u8 hb) l hl hd
  simpa using this
set_option maxRecDepth 100000 in
theorem lifted (os : Os) (started : os.Started) (H : Type) (enc : TypeId × Value → H) :
    ReturnsInHanded {} Try.checked os 4 .any (Rows.signerOnceSpec.pre6 enc Try.prog Try.f4 Rows.signerOnceRow.domain false) (Rows.signerOnceSpec.post enc Try.prog Try.f4 false true false false) :=
  returnsInHanded_of_change_sized (C := Try.checked) (by kernel_rfl) started (by kernel_rfl) Try.func4
    (ChangeSpec.witness6 (enc := enc) (C := Try.checked) false ⟨#[], #[.int .u16 0, .int .u8 0, .slice none 0 0], []⟩ 8 (by kernel_rfl) (by kernel_rfl) (by kernel_rfl) (by kernel_rfl))
    (fun W base args ds gs before hval hW _ hsz _ => law_calls (tds := tds) (by kernel_rfl) (by kernel_rfl) (by kernel_rfl) rfl (fun ds hl => by match ds, hl with | [_, _, _], _ => rfl) (tb := 4) rfl (by kernel_rfl) spec hval hW hsz)
theorem over : Rows.signerOnceRow.holds Try.pinned (OpenSpec.ofChange Rows.signerOnceSpec) :=
  OpenClaim.holds_of_wide 4 Try.f4 rfl rfl rfl rfl rfl rfl rfl ⟨rfl, rfl, rfl, rfl, rfl⟩ rfl rfl rfl rfl rfl (by kernel_rfl) Try.func4 (by kernel_rfl)
    (of_decide_eq_true (by kernel_rfl)) (by unfold Func.isWrapper; first | (rw [if_pos (by decide +kernel)]; kernel_rfl) | (rw [if_neg (by decide +kernel)]; exact ⟨rfl, rfl⟩))
    (fun os started H enc _ => lifted os started H enc)
end Go.Proofs.Ythhlielliopegaa.SignerOnce
namespace Go.Proofs.Ythhlielliopegaa
theorem signerOnce_holds : Rows.SignerOnceSaid := SignerOnce.over
#print axioms signerOnce_holds
end Go.Proofs.Ythhlielliopegaa
