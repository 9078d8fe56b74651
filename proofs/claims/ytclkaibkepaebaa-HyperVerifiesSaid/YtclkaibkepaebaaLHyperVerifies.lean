/- The statement HyperVerifies: whether any signature holds for any key and text is what the document says. No condition. -/
import Derived.Test.YtclkaibkepaebaaRows
import Derived.Test.YtclkaibkepaebaaLI
import Derived.Test.YtclkaibkepaebaaHyper4
namespace Go.Proofs.Ytclkaibkepaebaa.HyperVerifies
open Go Go.Sy Go.Proofs.Try
set_option linter.unusedVariables false
set_option linter.unusedSimpArgs false
def tds : List TD := [.st [.st [.int .i64, .int .i64], .arr 32 (.int .u8), .arr 32 (.int .u8)], .st [.int .i64, .arr 32 (.int .u8), .sl 48 (.st [.sl 32 (.arr 32 (.int .u8)), .sl 32 (.arr 32 (.int .u8))])], .sl 24 (.sl 1 (.int .u8))]
theorem spec (vs : List AV) (h : TD.hass tds vs) : FnC Try.prog 4 vs [] (.bool true) [] := by
  simp only [tds, TD.hass, TD.has, TD.ik, TD.cs, TD.css] at h
  obtain ⟨_, _, rfl, hk, _, _, rfl, hsg, _, _, rfl, ⟨es, rfl, _, hl, he⟩, rfl⟩ := h
  obtain ⟨_, rfl, _, _, rfl, ⟨_, rfl, _, _, rfl, ⟨a, rfl, _⟩, _, _, rfl, ⟨b, rfl, _⟩, rfl⟩, _, _, rfl, ⟨t, rfl, ht, ht'⟩, _, _, rfl, ⟨p, rfl, hp, hp'⟩, rfl⟩ := hk
  obtain ⟨_, rfl, _, _, rfl, ⟨i, rfl, hi⟩, _, _, rfl, ⟨r, rfl, hr, hr'⟩, _, _, rfl, ⟨fs, rfl, _, hfl, hf⟩, rfl⟩ := hsg
  obtain ⟨ps, rfl, hps⟩ := ex_map' (f := bsl) (Q := fun p => p.length * 1 ≤ reachBytes ∧ ∀ x ∈ p, (Lit.int .u8 x).wf = true) (es := es) (fun x hx => by
    obtain ⟨xs, rfl, h1, _, h2⟩ := he x hx
    exact ⟨xs, rfl, h1, h2⟩)
  obtain ⟨sg, rfl, hg⟩ := ex_map' (f := pt) (Q := goodPt) (es := fs) (fun x hx => part_has (b1 := 32) (b2 := 32) (by simpa only [TD.has, TD.hass, TD.ik, TD.cs, TD.css] using hf x hx))
  rw [List.length_map] at hl hfl
  have := hyperVerifies_spec t p r ⟨ht, fun x hx => wf_u8 (ht' x hx)⟩ ⟨hp, fun x hx => wf_u8 (hp' x hx)⟩ ⟨hr, fun x hx => wf_u8 (hr' x hx)⟩ a b i sg ps hg hfl (wf_i64 hi).2 (fun p h x hx => wf_u8 ((hps p h).2 x hx)) (fun p h => by have := (hps p h).1; unfold reachBytes at this; omega) hl
  simpa using this
set_option maxRecDepth 100000 in
theorem lifted (os : Os) (started : os.Started) (H : Type) (enc : TypeId × Value → H) :
    ReturnsInHanded {} Try.checked os 4 .any (Rows.hyperVerifiesSpec.pre6 enc Try.prog Try.f4 Rows.hyperVerifiesRow.domain false) (Rows.hyperVerifiesSpec.post enc Try.prog Try.f4 false true false false) :=
  returnsInHanded_of_change_sized (C := Try.checked) (by kernel_rfl) started (by kernel_rfl) Try.func4
    (ChangeSpec.witness6 (enc := enc) (C := Try.checked) false ⟨#[], #[.agg #[.int .i64 0, .int .i64 0, .int .u8 0, .int .u8 0, .int .u8 0, .int .u8 0, .int .u8 0, .int .u8 0, .int .u8 0, .int .u8 0, .int .u8 0, .int .u8 0, .int .u8 0, .int .u8 0, .int .u8 0, .int .u8 0, .int .u8 0, .int .u8 0, .int .u8 0, .int .u8 0, .int .u8 0, .int .u8 0, .int .u8 0, .int .u8 0, .int .u8 0, .int .u8 0, .int .u8 0, .int .u8 0, .int .u8 0, .int .u8 0, .int .u8 0, .int .u8 0, .int .u8 0, .int .u8 0, .int .u8 0, .int .u8 0, .int .u8 0, .int .u8 0, .int .u8 0, .int .u8 0, .int .u8 0, .int .u8 0, .int .u8 0, .int .u8 0, .int .u8 0, .int .u8 0, .int .u8 0, .int .u8 0, .int .u8 0, .int .u8 0, .int .u8 0, .int .u8 0, .int .u8 0, .int .u8 0, .int .u8 0, .int .u8 0, .int .u8 0, .int .u8 0, .int .u8 0, .int .u8 0, .int .u8 0, .int .u8 0, .int .u8 0, .int .u8 0, .int .u8 0, .int .u8 0], .agg #[.int .i64 0, .int .u8 0, .int .u8 0, .int .u8 0, .int .u8 0, .int .u8 0, .int .u8 0, .int .u8 0, .int .u8 0, .int .u8 0, .int .u8 0, .int .u8 0, .int .u8 0, .int .u8 0, .int .u8 0, .int .u8 0, .int .u8 0, .int .u8 0, .int .u8 0, .int .u8 0, .int .u8 0, .int .u8 0, .int .u8 0, .int .u8 0, .int .u8 0, .int .u8 0, .int .u8 0, .int .u8 0, .int .u8 0, .int .u8 0, .int .u8 0, .int .u8 0, .int .u8 0, .slice none 0 0], .slice none 0 0], []⟩ 8 (by kernel_rfl) (by kernel_rfl) (by kernel_rfl) (by kernel_rfl))
    (fun W base args ds gs before hval hW _ hsz _ => law_calls (tds := tds) (by kernel_rfl) (by kernel_rfl) (by kernel_rfl) rfl (fun ds hl => by match ds, hl with | [_, _, _], _ => rfl) (tb := 4) rfl (by kernel_rfl) spec hval hW hsz)
theorem over : Rows.hyperVerifiesRow.holds Try.pinned (OpenSpec.ofChange Rows.hyperVerifiesSpec) :=
  OpenClaim.holds_of_wide 4 Try.f4 rfl rfl rfl rfl rfl rfl rfl ⟨rfl, rfl, rfl, rfl, rfl⟩ rfl rfl rfl rfl rfl (by kernel_rfl) Try.func4 (by kernel_rfl)
    (of_decide_eq_true (by kernel_rfl)) (by unfold Func.isWrapper; first | (rw [if_pos (by decide +kernel)]; kernel_rfl) | (rw [if_neg (by decide +kernel)]; exact ⟨rfl, rfl⟩))
    (fun os started H enc _ => lifted os started H enc)
end Go.Proofs.Ytclkaibkepaebaa.HyperVerifies
namespace Go.Proofs.Ytclkaibkepaebaa
theorem hyperVerifies_holds : Rows.HyperVerifiesSaid := HyperVerifies.over
#print axioms hyperVerifies_holds
end Go.Proofs.Ytclkaibkepaebaa
