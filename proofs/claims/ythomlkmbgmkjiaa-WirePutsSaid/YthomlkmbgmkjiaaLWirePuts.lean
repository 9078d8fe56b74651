/- The statement WirePuts: the bytes of any signature of any shape are what the document says, or the error is told; and they are read as it was. No condition. -/
import Derived.Test.YthomlkmbgmkjiaaRows
import Derived.Test.YthomlkmbgmkjiaaLI
import Derived.Test.YthomlkmbgmkjiaaWireL
namespace Go.Proofs.Ythomlkmbgmkjiaa.WirePuts
open Go Go.Sy Go.Proofs.Try
set_option linter.unusedVariables false
set_option linter.unusedSimpArgs false
def tds : List TD := [.st [.int .i64, .int .i64], .st [.int .i64, .arr 32 (.int .u8), .sl 48 (.st [.sl 32 (.arr 32 (.int .u8)), .sl 32 (.arr 32 (.int .u8))])]]
theorem spec (vs : List AV) (h : TD.hass tds vs) : FnC Try.prog 6 vs [] (.bool true) [] := by
  simp only [tds, TD.hass, TD.has, TD.ik, TD.cs, TD.css] at h
  obtain ⟨_, _, rfl, ⟨_, rfl, _, _, rfl, ⟨a, rfl, _⟩, _, _, rfl, ⟨b, rfl, _⟩, rfl⟩, _, _, rfl, ⟨_, rfl, _, _, rfl, ⟨i, rfl, _⟩, _, _, rfl, ⟨r, rfl, hr, br⟩, _, _, rfl, ⟨es, rfl, _, hl, he⟩, rfl⟩, rfl⟩ := h
  obtain ⟨ps, rfl, hg⟩ := ex_map' (f := pt) (Q := goodP) (es := es) (fun x hx => part_of (b1 := 32) (b2 := 32) (by simpa only [TD.has, TD.hass, TD.ik, TD.cs, TD.css] using he x hx))
  rw [List.length_map] at hl
  have := wirePuts_spec a b i r ps hr (fun x hx => wf_u8 (br x hx)) hg hl
  simpa using this
set_option maxRecDepth 100000 in
theorem lifted (os : Os) (started : os.Started) (H : Type) (enc : TypeId × Value → H) :
    ReturnsInHanded {} Try.checked os 6 .any (Rows.wirePutsSpec.pre6 enc Try.prog Try.f6 Rows.wirePutsRow.domain false) (Rows.wirePutsSpec.post enc Try.prog Try.f6 false true false false) :=
  returnsInHanded_of_change_sized (C := Try.checked) (by kernel_rfl) started (by kernel_rfl) Try.func6
    (ChangeSpec.witness6 (enc := enc) (C := Try.checked) false ⟨#[], #[.agg #[.int .i64 0, .int .i64 0], .agg #[.int .i64 0, .int .u8 0, .int .u8 0, .int .u8 0, .int .u8 0, .int .u8 0, .int .u8 0, .int .u8 0, .int .u8 0, .int .u8 0, .int .u8 0, .int .u8 0, .int .u8 0, .int .u8 0, .int .u8 0, .int .u8 0, .int .u8 0, .int .u8 0, .int .u8 0, .int .u8 0, .int .u8 0, .int .u8 0, .int .u8 0, .int .u8 0, .int .u8 0, .int .u8 0, .int .u8 0, .int .u8 0, .int .u8 0, .int .u8 0, .int .u8 0, .int .u8 0, .int .u8 0, .slice none 0 0]], []⟩ 8 (by kernel_rfl) (by kernel_rfl) (by kernel_rfl) (by kernel_rfl))
    (fun W base args ds gs before hval hW _ hsz _ => law_calls (tds := tds) (by kernel_rfl) (by kernel_rfl) (by kernel_rfl) rfl (fun ds hl => by match ds, hl with | [_, _], _ => rfl) (tb := 4) rfl (by kernel_rfl) spec hval hW hsz)
theorem over : Rows.wirePutsRow.holds Try.pinned (OpenSpec.ofChange Rows.wirePutsSpec) :=
  OpenClaim.holds_of_wide 6 Try.f6 rfl rfl rfl rfl rfl rfl rfl ⟨rfl, rfl, rfl, rfl, rfl⟩ rfl rfl rfl rfl rfl (by kernel_rfl) Try.func6 (by kernel_rfl)
    (of_decide_eq_true (by kernel_rfl)) (by unfold Func.isWrapper; first | (rw [if_pos (by decide +kernel)]; kernel_rfl) | (rw [if_neg (by decide +kernel)]; exact ⟨rfl, rfl⟩))
    (fun os started H enc _ => lifted os started H enc)
end Go.Proofs.Ythomlkmbgmkjiaa.WirePuts
namespace Go.Proofs.Ythomlkmbgmkjiaa
theorem wirePuts_holds : Rows.WirePutsSaid := WirePuts.over
#print axioms wirePuts_holds
end Go.Proofs.Ythomlkmbgmkjiaa
