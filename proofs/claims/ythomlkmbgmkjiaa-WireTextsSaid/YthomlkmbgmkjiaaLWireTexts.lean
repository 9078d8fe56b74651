/- The statement WireTexts: the texts of any head, epoch and next key are what the document says; heads of numbers from 0 on have one text just if they are alike; and no head has a next key's. No condition. -/
import Derived.Test.YthomlkmbgmkjiaaRows
import Derived.Test.YthomlkmbgmkjiaaLI
import Derived.Test.YthomlkmbgmkjiaaWire2
namespace Go.Proofs.Ythomlkmbgmkjiaa.WireTexts
open Go Go.Sy Go.Proofs.Try
set_option linter.unusedVariables false
set_option linter.unusedSimpArgs false
def tds : List TD := [.st [.int .i64, .int .i64, .arr 32 (.int .u8), .arr 32 (.int .u8)], .st [.int .i64, .int .i64, .arr 32 (.int .u8), .arr 32 (.int .u8)], .st [.st [.int .i64, .int .i64], .arr 32 (.int .u8), .arr 32 (.int .u8)]]
theorem spec (vs : List AV) (h : TD.hass tds vs) : FnC Try.prog 5 vs [] (.bool true) [] := by
  simp only [tds, TD.hass, TD.has, TD.ik, TD.cs, TD.css] at h
  obtain ⟨_, _, rfl, ⟨_, rfl, _, _, rfl, ⟨k, rfl, hk⟩, _, _, rfl, ⟨e, rfl, he⟩, _, _, rfl, ⟨t, rfl, ht, bt⟩, _, _, rfl, ⟨l, rfl, hl, bl⟩, rfl⟩, _, _, rfl, ⟨_, rfl, _, _, rfl, ⟨k', rfl, hk'⟩, _, _, rfl, ⟨e', rfl, he'⟩, _, _, rfl, ⟨t', rfl, ht', bt'⟩, _, _, rfl, ⟨l', rfl, hl', bl'⟩, rfl⟩, _, _, rfl, ⟨_, rfl, _, _, rfl, ⟨_, rfl, _, _, rfl, ⟨a, rfl, _⟩, _, _, rfl, ⟨b, rfl, _⟩, rfl⟩, _, _, rfl, ⟨r, rfl, hr, br⟩, _, _, rfl, ⟨p, rfl, hp, bp⟩, rfl⟩, rfl⟩ := h
  exact wireTexts_spec k e k' e' a b t l t' l' r p (wf_i64 hk) (wf_i64 he) (wf_i64 hk') (wf_i64 he') ht ht' hl hl' (fun x hx => wf_u8 (bt x hx)) (fun x hx => wf_u8 (bl x hx)) (fun x hx => wf_u8 (bt' x hx)) (fun x hx => wf_u8 (bl' x hx)) (fun x hx => wf_u8 (br x hx)) (fun x hx => wf_u8 (bp x hx))
set_option maxRecDepth 100000 in
theorem lifted (os : Os) (started : os.Started) (H : Type) (enc : TypeId × Value → H) :
    ReturnsInHanded {} Try.checked os 5 .any (Rows.wireTextsSpec.pre6 enc Try.prog Try.f5 Rows.wireTextsRow.domain false) (Rows.wireTextsSpec.post enc Try.prog Try.f5 false true false false) :=
  returnsInHanded_of_change_sized (C := Try.checked) (by kernel_rfl) started (by kernel_rfl) Try.func5
    (ChangeSpec.witness6 (enc := enc) (C := Try.checked) false ⟨#[], #[.agg #[.int .i64 0, .int .i64 0, .int .u8 0, .int .u8 0, .int .u8 0, .int .u8 0, .int .u8 0, .int .u8 0, .int .u8 0, .int .u8 0, .int .u8 0, .int .u8 0, .int .u8 0, .int .u8 0, .int .u8 0, .int .u8 0, .int .u8 0, .int .u8 0, .int .u8 0, .int .u8 0, .int .u8 0, .int .u8 0, .int .u8 0, .int .u8 0, .int .u8 0, .int .u8 0, .int .u8 0, .int .u8 0, .int .u8 0, .int .u8 0, .int .u8 0, .int .u8 0, .int .u8 0, .int .u8 0, .int .u8 0, .int .u8 0, .int .u8 0, .int .u8 0, .int .u8 0, .int .u8 0, .int .u8 0, .int .u8 0, .int .u8 0, .int .u8 0, .int .u8 0, .int .u8 0, .int .u8 0, .int .u8 0, .int .u8 0, .int .u8 0, .int .u8 0, .int .u8 0, .int .u8 0, .int .u8 0, .int .u8 0, .int .u8 0, .int .u8 0, .int .u8 0, .int .u8 0, .int .u8 0, .int .u8 0, .int .u8 0, .int .u8 0, .int .u8 0, .int .u8 0, .int .u8 0], .agg #[.int .i64 0, .int .i64 0, .int .u8 0, .int .u8 0, .int .u8 0, .int .u8 0, .int .u8 0, .int .u8 0, .int .u8 0, .int .u8 0, .int .u8 0, .int .u8 0, .int .u8 0, .int .u8 0, .int .u8 0, .int .u8 0, .int .u8 0, .int .u8 0, .int .u8 0, .int .u8 0, .int .u8 0, .int .u8 0, .int .u8 0, .int .u8 0, .int .u8 0, .int .u8 0, .int .u8 0, .int .u8 0, .int .u8 0, .int .u8 0, .int .u8 0, .int .u8 0, .int .u8 0, .int .u8 0, .int .u8 0, .int .u8 0, .int .u8 0, .int .u8 0, .int .u8 0, .int .u8 0, .int .u8 0, .int .u8 0, .int .u8 0, .int .u8 0, .int .u8 0, .int .u8 0, .int .u8 0, .int .u8 0, .int .u8 0, .int .u8 0, .int .u8 0, .int .u8 0, .int .u8 0, .int .u8 0, .int .u8 0, .int .u8 0, .int .u8 0, .int .u8 0, .int .u8 0, .int .u8 0, .int .u8 0, .int .u8 0, .int .u8 0, .int .u8 0, .int .u8 0, .int .u8 0], .agg #[.int .i64 0, .int .i64 0, .int .u8 0, .int .u8 0, .int .u8 0, .int .u8 0, .int .u8 0, .int .u8 0, .int .u8 0, .int .u8 0, .int .u8 0, .int .u8 0, .int .u8 0, .int .u8 0, .int .u8 0, .int .u8 0, .int .u8 0, .int .u8 0, .int .u8 0, .int .u8 0, .int .u8 0, .int .u8 0, .int .u8 0, .int .u8 0, .int .u8 0, .int .u8 0, .int .u8 0, .int .u8 0, .int .u8 0, .int .u8 0, .int .u8 0, .int .u8 0, .int .u8 0, .int .u8 0, .int .u8 0, .int .u8 0, .int .u8 0, .int .u8 0, .int .u8 0, .int .u8 0, .int .u8 0, .int .u8 0, .int .u8 0, .int .u8 0, .int .u8 0, .int .u8 0, .int .u8 0, .int .u8 0, .int .u8 0, .int .u8 0, .int .u8 0, .int .u8 0, .int .u8 0, .int .u8 0, .int .u8 0, .int .u8 0, .int .u8 0, .int .u8 0, .int .u8 0, .int .u8 0, .int .u8 0, .int .u8 0, .int .u8 0, .int .u8 0, .int .u8 0, .int .u8 0]], []⟩ 8 (by kernel_rfl) (by kernel_rfl) (by kernel_rfl) (by kernel_rfl))
    (fun W base args ds gs before hval hW _ hsz _ => law_calls (tds := tds) (by kernel_rfl) (by kernel_rfl) (by kernel_rfl) rfl (fun ds hl => by match ds, hl with | [_, _, _], _ => rfl) (tb := 4) rfl (by kernel_rfl) spec hval hW hsz)
theorem over : Rows.wireTextsRow.holds Try.pinned (OpenSpec.ofChange Rows.wireTextsSpec) :=
  OpenClaim.holds_of_wide 5 Try.f5 rfl rfl rfl rfl rfl rfl rfl ⟨rfl, rfl, rfl, rfl, rfl⟩ rfl rfl rfl rfl rfl (by kernel_rfl) Try.func5 (by kernel_rfl)
    (of_decide_eq_true (by kernel_rfl)) (by unfold Func.isWrapper; first | (rw [if_pos (by decide +kernel)]; kernel_rfl) | (rw [if_neg (by decide +kernel)]; exact ⟨rfl, rfl⟩))
    (fun os started H enc _ => lifted os started H enc)
end Go.Proofs.Ythomlkmbgmkjiaa.WireTexts
namespace Go.Proofs.Ythomlkmbgmkjiaa
theorem wireTexts_holds : Rows.WireTextsSaid := WireTexts.over
#print axioms wireTexts_holds
end Go.Proofs.Ythomlkmbgmkjiaa
