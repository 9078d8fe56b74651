/- The statement VerifyAnswers: whether any answer shows what a name stands for, and all that it stood for, is what the document says. No condition. -/
import Derived.Test.YthhlielliopegaaGreatRows
import Derived.Test.YthhlielliopegaaGreatGG
import Derived.Test.YthhlielliopegaaGreatAnswers2
namespace Go.Proofs.YthhlielliopegaaGreat.VerifyAnswers
open Go Go.Sy Go.Proofs.Tryz
set_option linter.unusedVariables false
set_option linter.unusedSimpArgs false
def tds : List TD := [.arr 32 (.int .u8), .sl 1 (.int .u8), .st [.sl 152 (.st [.int .i64, .sl 1 (.int .u8), .arr 32 (.int .u8), .arr 32 (.int .u8), .st [.arr 32 (.int .u8), .sl 32 (.arr 32 (.int .u8))]]), .arr 32 (.int .u8), .st [.arr 32 (.int .u8), .sl 32 (.arr 32 (.int .u8))]]]
theorem spec (vs : List AV) (h : TD.hass tds vs) : FnC Tryz.prog 3 vs [] (.bool true) [] := by
  simp only [tds, TD.hass, TD.has, TD.ik, TD.cs, TD.css] at h
  obtain ⟨_, _, rfl, ⟨t, rfl, ht, ht'⟩, _, _, rfl, ⟨nm, rfl, _, hnl, hnm⟩, _, _, rfl, ha, rfl⟩ := h
  obtain ⟨_, rfl, _, _, rfl, ⟨fs, rfl, _, hfl, hf⟩, _, _, rfl, ⟨nx, rfl, hx, hx'⟩, _, _, rfl, hp, rfl⟩ := ha
  obtain ⟨_, rfl, _, _, rfl, ⟨kn, rfl, hk, hk'⟩, _, _, rfl, hw, rfl⟩ := hp
  obtain ⟨W, rfl, hWg, hWl⟩ := digests_of hw
  obtain ⟨l, rfl, hl⟩ := ex_map' (f := shAV) (Q := goodSV) (es := fs) (fun x hx => sv_has (b1 := 1) (b2 := 32) (by simpa only [TD.has, TD.hass, TD.ik, TD.cs, TD.css] using hf x hx))
  rw [List.length_map] at hfl
  have g : ∀ {x : List Int}, x.length = 32 → (∀ y ∈ x, (Lit.int .u8 y).wf = true) → goodD x := fun h h' => ⟨h, fun x hx => wf_u8 (h' x hx)⟩
  have := verifyAnswers_spec t nm nm.length rfl (fun x h => wf_u8 (hnm x h)) l hl nx kn (g hx hx') (g hk hk') W hWl hWg hfl hnl
  simpa using this
set_option maxRecDepth 100000 in
theorem lifted (os : Os) (started : os.Started) (H : Type) (enc : TypeId × Value → H) :
    ReturnsInHanded {} Tryz.checked os 3 .any (Rows.verifyAnswersSpec.pre6 enc Tryz.prog Tryz.f3 Rows.verifyAnswersRow.domain false) (Rows.verifyAnswersSpec.post enc Tryz.prog Tryz.f3 false true false false) :=
  returnsInHanded_of_change_sized (C := Tryz.checked) (by kernel_rfl) started (by kernel_rfl) Tryz.func3
    (ChangeSpec.witness6 (enc := enc) (C := Tryz.checked) false ⟨#[], #[.agg (Array.replicate 32 (.int .u8 0)), .slice none 0 0, .agg #[.slice none 0 0, .int .u8 0, .int .u8 0, .int .u8 0, .int .u8 0, .int .u8 0, .int .u8 0, .int .u8 0, .int .u8 0, .int .u8 0, .int .u8 0, .int .u8 0, .int .u8 0, .int .u8 0, .int .u8 0, .int .u8 0, .int .u8 0, .int .u8 0, .int .u8 0, .int .u8 0, .int .u8 0, .int .u8 0, .int .u8 0, .int .u8 0, .int .u8 0, .int .u8 0, .int .u8 0, .int .u8 0, .int .u8 0, .int .u8 0, .int .u8 0, .int .u8 0, .int .u8 0, .int .u8 0, .int .u8 0, .int .u8 0, .int .u8 0, .int .u8 0, .int .u8 0, .int .u8 0, .int .u8 0, .int .u8 0, .int .u8 0, .int .u8 0, .int .u8 0, .int .u8 0, .int .u8 0, .int .u8 0, .int .u8 0, .int .u8 0, .int .u8 0, .int .u8 0, .int .u8 0, .int .u8 0, .int .u8 0, .int .u8 0, .int .u8 0, .int .u8 0, .int .u8 0, .int .u8 0, .int .u8 0, .int .u8 0, .int .u8 0, .int .u8 0, .int .u8 0, .slice none 0 0]], []⟩ 8 (by kernel_rfl) (by kernel_rfl) (by kernel_rfl) (by kernel_rfl))
    (fun W base args ds gs before hval hW _ hsz _ => law_calls (tds := tds) (by kernel_rfl) (by kernel_rfl) (by kernel_rfl) rfl (fun ds hl => by match ds, hl with | [_, _, _], _ => rfl) (tb := 4) rfl (by kernel_rfl) spec hval hW hsz)
theorem over : Rows.verifyAnswersRow.holds Tryz.pinned (OpenSpec.ofChange Rows.verifyAnswersSpec) :=
  OpenClaim.holds_of_wide 3 Tryz.f3 rfl rfl rfl rfl rfl rfl rfl ⟨rfl, rfl, rfl, rfl, rfl⟩ rfl rfl rfl rfl rfl (by kernel_rfl) Tryz.func3 (by kernel_rfl)
    (of_decide_eq_true (by kernel_rfl)) (by unfold Func.isWrapper; first | (rw [if_pos (by decide +kernel)]; kernel_rfl) | (rw [if_neg (by decide +kernel)]; exact ⟨rfl, rfl⟩))
    (fun os started H enc _ => lifted os started H enc)
end Go.Proofs.YthhlielliopegaaGreat.VerifyAnswers
namespace Go.Proofs.YthhlielliopegaaGreat
theorem verifyAnswers_holds : Rows.VerifyAnswersSaid := VerifyAnswers.over
#print axioms verifyAnswers_holds
end Go.Proofs.YthhlielliopegaaGreat
