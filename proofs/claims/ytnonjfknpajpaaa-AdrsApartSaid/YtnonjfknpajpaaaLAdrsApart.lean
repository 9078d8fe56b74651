/- The statement planchetlaw04.AdrsApart: addresses are alike just if their types, layers, trees, leaves, words and purposes are. No condition. -/
import Derived.Test.YtnonjfknpajpaaaRows
import Derived.Test.YtnonjfknpajpaaaR1
import Derived.Test.YtnonjfknpajpaaaAdrs
namespace Go.Proofs.Ytnonjfknpajpaaa.AdrsApart
open Go Go.Sy Go.Proofs.Try
set_option linter.unusedVariables false
def tds : List TD := [.int .u64, .int .u64, .arr 5 (.int .u32), .arr 5 (.int .u32)]
theorem five {xs : List Int} (h : xs.length = 5) : ∃ a b c d e, xs = [a, b, c, d, e] := by
  match xs, h with
  | [a, b, c, d, e], _ => exact ⟨a, b, c, d, e, rfl⟩
theorem spec (vs : List AV) (h : TD.hass tds vs) : FnC Try.prog 3 vs [] (.bool true) [] := by
  simp only [tds, TD.hass, TD.has, TD.ik] at h
  obtain ⟨_, _, rfl, ⟨t, rfl, ht⟩, _, _, rfl, ⟨o, rfl, ho⟩, _, _, rfl, ⟨x, rfl, hx, _⟩, _, _, rfl, ⟨y, rfl, hy, _⟩, rfl⟩ := h
  obtain ⟨a0, a1, a2, a3, a4, rfl⟩ := five hx
  obtain ⟨b0, b1, b2, b3, b4, rfl⟩ := five hy
  exact apart_spec t o a0 a1 a2 a3 a4 b0 b1 b2 b3 b4 ht ho
set_option maxRecDepth 100000 in
theorem lifted (os : Os) (started : os.Started) (H : Type) (enc : TypeId × Value → H) :
    ReturnsInHanded {} Try.checked os 3 .any (Rows.adrsApartSpec.pre6 enc Try.prog Try.f3 Rows.adrsApartRow.domain false) (Rows.adrsApartSpec.post enc Try.prog Try.f3 false true false false) :=
  returnsInHanded_of_change_sized (C := Try.checked) (by kernel_rfl) started (by kernel_rfl) Try.func3
    (ChangeSpec.witness6 (enc := enc) (C := Try.checked) false ⟨#[], #[.int .u64 0, .int .u64 0, .agg (Array.replicate 5 (.int .u32 0)), .agg (Array.replicate 5 (.int .u32 0))], []⟩ 8 (by kernel_rfl) (by kernel_rfl) (by kernel_rfl) (by kernel_rfl))
    (fun W base args ds gs before hval hW _ hsz _ => law_calls (tds := tds) (by kernel_rfl) (by kernel_rfl) (by kernel_rfl) rfl (fun ds hl => by match ds, hl with | [_, _, _, _], _ => rfl) (tb := 4) rfl (by kernel_rfl) spec hval hW hsz)
theorem over : Rows.adrsApartRow.holds Try.pinned (OpenSpec.ofChange Rows.adrsApartSpec) :=
  OpenClaim.holds_of_wide 3 Try.f3 rfl rfl rfl rfl rfl rfl rfl ⟨rfl, rfl, rfl, rfl, rfl⟩ rfl rfl rfl rfl rfl (by kernel_rfl) Try.func3 (by kernel_rfl)
    (of_decide_eq_true (by kernel_rfl)) (by unfold Func.isWrapper; first | (rw [if_pos (by decide +kernel)]; kernel_rfl) | (rw [if_neg (by decide +kernel)]; exact ⟨rfl, rfl⟩))
    (fun os started H enc _ => lifted os started H enc)
end Go.Proofs.Ytnonjfknpajpaaa.AdrsApart
namespace Go.Proofs.Ytnonjfknpajpaaa
theorem adrsApart_holds : Rows.AdrsApartSaid := AdrsApart.over
#print axioms adrsApart_holds
end Go.Proofs.Ytnonjfknpajpaaa
