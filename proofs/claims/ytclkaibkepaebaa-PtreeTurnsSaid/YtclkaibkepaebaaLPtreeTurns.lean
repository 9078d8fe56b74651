/- The statement PtreeTurns: the order of entries makes no difference; and what was handed in stays. No condition. -/
import Derived.Test.YtclkaibkepaebaaRows
import Derived.Test.YtclkaibkepaebaaGG
import Derived.Test.YtclkaibkepaebaaPtrTn
namespace Go.Proofs.Ytclkaibkepaebaa.PtreeTurns
open Go Go.Sy Go.Proofs.Try
set_option linter.unusedVariables false
set_option linter.unusedSimpArgs false
def tds : List TD := [.sl 64 (.st [.arr 32 (.int .u8), .arr 32 (.int .u8)]), .int .u8, .arr 32 (.int .u8)]
theorem spec (vs : List AV) (h : TD.hass tds vs) : FnC Try.prog 12 vs [] (.bool true) [] := by
  simp only [tds, TD.hass, TD.has, TD.ik, TD.cs, TD.css] at h
  obtain ⟨_, _, rfl, hl, _, _, rfl, ⟨a, rfl, ha⟩, _, _, rfl, ⟨i, rfl, hi, hi'⟩, rfl⟩ := h
  obtain ⟨l, rfl, hg, hb⟩ := ens_of hl
  exact ptreeTurns_spec l l.length rfl hb hg a (wf_u8 ha) i ⟨hi, fun x hx => wf_u8 (hi' x hx)⟩
set_option maxRecDepth 100000 in
theorem lifted (os : Os) (started : os.Started) (H : Type) (enc : TypeId × Value → H) :
    ReturnsInHanded {} Try.checked os 12 .any (Rows.ptreeTurnsSpec.pre6 enc Try.prog Try.f12 Rows.ptreeTurnsRow.domain false) (Rows.ptreeTurnsSpec.post enc Try.prog Try.f12 false true false false) :=
  returnsInHanded_of_change_sized (C := Try.checked) (by kernel_rfl) started (by kernel_rfl) Try.func12
    (ChangeSpec.witness6 (enc := enc) (C := Try.checked) false ⟨#[], #[.slice none 0 0, .int .u8 0, .agg (Array.replicate 32 (.int .u8 0))], []⟩ 8 (by kernel_rfl) (by kernel_rfl) (by kernel_rfl) (by kernel_rfl))
    (fun W base args ds gs before hval hW _ hsz _ => law_calls (tds := tds) (by kernel_rfl) (by kernel_rfl) (by kernel_rfl) rfl (fun ds hl => by match ds, hl with | [_, _, _], _ => rfl) (tb := 4) rfl (by kernel_rfl) spec hval hW hsz)
theorem over : Rows.ptreeTurnsRow.holds Try.pinned (OpenSpec.ofChange Rows.ptreeTurnsSpec) :=
  OpenClaim.holds_of_wide 12 Try.f12 rfl rfl rfl rfl rfl rfl rfl ⟨rfl, rfl, rfl, rfl, rfl⟩ rfl rfl rfl rfl rfl (by kernel_rfl) Try.func12 (by kernel_rfl)
    (of_decide_eq_true (by kernel_rfl)) (by unfold Func.isWrapper; first | (rw [if_pos (by decide +kernel)]; kernel_rfl) | (rw [if_neg (by decide +kernel)]; exact ⟨rfl, rfl⟩))
    (fun os started H enc _ => lifted os started H enc)
end Go.Proofs.Ytclkaibkepaebaa.PtreeTurns
namespace Go.Proofs.Ytclkaibkepaebaa
theorem ptreeTurns_holds : Rows.PtreeTurnsSaid := PtreeTurns.over
#print axioms ptreeTurns_holds
end Go.Proofs.Ytclkaibkepaebaa
