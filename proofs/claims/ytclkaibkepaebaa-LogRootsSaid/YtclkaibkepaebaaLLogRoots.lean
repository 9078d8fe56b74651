/- The statement LogRoots: a log's root, the way of any place, and the way from any beginning, are what the document says, or the error is told. No condition. -/
import Derived.Test.YtclkaibkepaebaaRows
import Derived.Test.YtclkaibkepaebaaLI
import Derived.Test.YtclkaibkepaebaaLog3
namespace Go.Proofs.Ytclkaibkepaebaa.LogRoots
open Go Go.Sy Go.Proofs.Try
set_option linter.unusedVariables false
set_option linter.unusedSimpArgs false
def tds : List TD := [.sl 24 (.sl 1 (.int .u8)), .int .i64, .int .i64]
theorem spec (vs : List AV) (h : TD.hass tds vs) : FnC Try.prog 6 vs [] (.bool true) [] := by
  simp only [tds, TD.hass, TD.has, TD.ik, TD.cs, TD.css] at h
  obtain ⟨_, _, rfl, ⟨es, rfl, _, hl, he⟩, _, _, rfl, ⟨i, rfl, hi⟩, _, _, rfl, ⟨m, rfl, hm⟩, rfl⟩ := h
  obtain ⟨ps, rfl, hps⟩ := ex_map' (f := bsl) (Q := fun p => p.length * 1 ≤ reachBytes ∧ ∀ x ∈ p, (Lit.int .u8 x).wf = true) (es := es) (fun x hx => by
    obtain ⟨xs, rfl, h1, _, h2⟩ := he x hx
    exact ⟨xs, rfl, h1, h2⟩)
  rw [List.length_map] at hl
  have := logRoots_spec ps i m (wf_i64 hi).2 (fun p h x hx => wf_u8 ((hps p h).2 x hx)) (fun p h => by have := (hps p h).1; unfold reachBytes at this; omega) hl
  simpa using this
set_option maxRecDepth 100000 in
theorem lifted (os : Os) (started : os.Started) (H : Type) (enc : TypeId × Value → H) :
    ReturnsInHanded {} Try.checked os 6 .any (Rows.logRootsSpec.pre6 enc Try.prog Try.f6 Rows.logRootsRow.domain false) (Rows.logRootsSpec.post enc Try.prog Try.f6 false true false false) :=
  returnsInHanded_of_change_sized (C := Try.checked) (by kernel_rfl) started (by kernel_rfl) Try.func6
    (ChangeSpec.witness6 (enc := enc) (C := Try.checked) false ⟨#[], #[.slice none 0 0, .int .i64 0, .int .i64 0], []⟩ 8 (by kernel_rfl) (by kernel_rfl) (by kernel_rfl) (by kernel_rfl))
    (fun W base args ds gs before hval hW _ hsz _ => law_calls (tds := tds) (by kernel_rfl) (by kernel_rfl) (by kernel_rfl) rfl (fun ds hl => by match ds, hl with | [_, _, _], _ => rfl) (tb := 4) rfl (by kernel_rfl) spec hval hW hsz)
theorem over : Rows.logRootsRow.holds Try.pinned (OpenSpec.ofChange Rows.logRootsSpec) :=
  OpenClaim.holds_of_wide 6 Try.f6 rfl rfl rfl rfl rfl rfl rfl ⟨rfl, rfl, rfl, rfl, rfl⟩ rfl rfl rfl rfl rfl (by kernel_rfl) Try.func6 (by kernel_rfl)
    (of_decide_eq_true (by kernel_rfl)) (by unfold Func.isWrapper; first | (rw [if_pos (by decide +kernel)]; kernel_rfl) | (rw [if_neg (by decide +kernel)]; exact ⟨rfl, rfl⟩))
    (fun os started H enc _ => lifted os started H enc)
end Go.Proofs.Ytclkaibkepaebaa.LogRoots
namespace Go.Proofs.Ytclkaibkepaebaa
theorem logRoots_holds : Rows.LogRootsSaid := LogRoots.over
#print axioms logRoots_holds
end Go.Proofs.Ytclkaibkepaebaa
