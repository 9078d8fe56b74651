/- The statement VerifyHeads: whether any signature holds for any key and head, or next key, and whether any way leads from one head's log to another one's, is what the document says. No condition. -/
import Derived.Test.YthhlielliopegaaGreatRows
import Derived.Test.YthhlielliopegaaGreatLI
import Derived.Test.YthhlielliopegaaGreatHeads
namespace Go.Proofs.YthhlielliopegaaGreat.VerifyHeads
open Go Go.Sy Go.Proofs.Tryz
set_option linter.unusedVariables false
set_option linter.unusedSimpArgs false
def tds : List TD := [.st [.st [.int .i64, .int .i64], .arr 32 (.int .u8), .arr 32 (.int .u8)], .st [.int .i64, .int .i64, .arr 32 (.int .u8), .arr 32 (.int .u8)], .st [.int .i64, .int .i64, .arr 32 (.int .u8), .arr 32 (.int .u8)], .st [.int .i64, .arr 32 (.int .u8), .sl 48 (.st [.sl 32 (.arr 32 (.int .u8)), .sl 32 (.arr 32 (.int .u8))])], .sl 32 (.arr 32 (.int .u8))]
theorem spec (vs : List AV) (h : TD.hass tds vs) : FnC Tryz.prog 4 vs [] (.bool true) [] := by
  simp only [tds, TD.hass, TD.has, TD.ik, TD.cs, TD.css] at h
  obtain ⟨_, _, rfl, hk, _, _, rfl, hh, _, _, rfl, ho, _, _, rfl, hsg, _, _, rfl, hw, rfl⟩ := h
  obtain ⟨_, rfl, _, _, rfl, ⟨_, rfl, _, _, rfl, ⟨a, rfl, _⟩, _, _, rfl, ⟨b, rfl, _⟩, rfl⟩, _, _, rfl, ⟨t, rfl, ht, ht'⟩, _, _, rfl, ⟨p, rfl, hp, hp'⟩, rfl⟩ := hk
  obtain ⟨_, rfl, _, _, rfl, ⟨k1, rfl, _⟩, _, _, rfl, ⟨e1, rfl, _⟩, _, _, rfl, ⟨t1, rfl, h1, h1'⟩, _, _, rfl, ⟨l1, rfl, h2, h2'⟩, rfl⟩ := hh
  obtain ⟨_, rfl, _, _, rfl, ⟨k2, rfl, _⟩, _, _, rfl, ⟨e2, rfl, _⟩, _, _, rfl, ⟨t2, rfl, h3, h3'⟩, _, _, rfl, ⟨l2, rfl, h4, h4'⟩, rfl⟩ := ho
  obtain ⟨_, rfl, _, _, rfl, ⟨i, rfl, hi⟩, _, _, rfl, ⟨r, rfl, hr, hr'⟩, _, _, rfl, ⟨fs, rfl, _, hfl, hf⟩, rfl⟩ := hsg
  obtain ⟨sg, rfl, hg⟩ := ex_map' (f := pt) (Q := goodPt) (es := fs) (fun x hx => part_has (b1 := 32) (b2 := 32) (by simpa only [TD.has, TD.hass, TD.ik, TD.cs, TD.css] using hf x hx))
  rw [List.length_map] at hfl
  obtain ⟨W, rfl, hWg, hWl⟩ := digests_of hw
  have g : ∀ {x : List Int}, x.length = 32 → (∀ y ∈ x, (Lit.int .u8 y).wf = true) → goodD x := fun h h' => ⟨h, fun x hx => wf_u8 (h' x hx)⟩
  have := verifyHeads_spec t p r (g ht ht') (g hp hp') (g hr hr') a b i sg hg hfl (wf_i64 hi).2 k1 e1 k2 e2 t1 l1 t2 l2 (g h1 h1') (g h2 h2') (g h3 h3') (g h4 h4') W hWg hWl
  simpa using this
set_option maxRecDepth 100000 in
theorem lifted (os : Os) (started : os.Started) (H : Type) (enc : TypeId × Value → H) :
    ReturnsInHanded {} Tryz.checked os 4 .any (Rows.verifyHeadsSpec.pre6 enc Tryz.prog Tryz.f4 Rows.verifyHeadsRow.domain false) (Rows.verifyHeadsSpec.post enc Tryz.prog Tryz.f4 false true false false) :=
  returnsInHanded_of_change_sized (C := Tryz.checked) (by kernel_rfl) started (by kernel_rfl) Tryz.func4
    (ChangeSpec.witness6 (enc := enc) (C := Tryz.checked) false ⟨#[], #[.agg #[.int .i64 0, .int .i64 0, .int .u8 0, .int .u8 0, .int .u8 0, .int .u8 0, .int .u8 0, .int .u8 0, .int .u8 0, .int .u8 0, .int .u8 0, .int .u8 0, .int .u8 0, .int .u8 0, .int .u8 0, .int .u8 0, .int .u8 0, .int .u8 0, .int .u8 0, .int .u8 0, .int .u8 0, .int .u8 0, .int .u8 0, .int .u8 0, .int .u8 0, .int .u8 0, .int .u8 0, .int .u8 0, .int .u8 0, .int .u8 0, .int .u8 0, .int .u8 0, .int .u8 0, .int .u8 0, .int .u8 0, .int .u8 0, .int .u8 0, .int .u8 0, .int .u8 0, .int .u8 0, .int .u8 0, .int .u8 0, .int .u8 0, .int .u8 0, .int .u8 0, .int .u8 0, .int .u8 0, .int .u8 0, .int .u8 0, .int .u8 0, .int .u8 0, .int .u8 0, .int .u8 0, .int .u8 0, .int .u8 0, .int .u8 0, .int .u8 0, .int .u8 0, .int .u8 0, .int .u8 0, .int .u8 0, .int .u8 0, .int .u8 0, .int .u8 0, .int .u8 0, .int .u8 0], .agg #[.int .i64 0, .int .i64 0, .int .u8 0, .int .u8 0, .int .u8 0, .int .u8 0, .int .u8 0, .int .u8 0, .int .u8 0, .int .u8 0, .int .u8 0, .int .u8 0, .int .u8 0, .int .u8 0, .int .u8 0, .int .u8 0, .int .u8 0, .int .u8 0, .int .u8 0, .int .u8 0, .int .u8 0, .int .u8 0, .int .u8 0, .int .u8 0, .int .u8 0, .int .u8 0, .int .u8 0, .int .u8 0, .int .u8 0, .int .u8 0, .int .u8 0, .int .u8 0, .int .u8 0, .int .u8 0, .int .u8 0, .int .u8 0, .int .u8 0, .int .u8 0, .int .u8 0, .int .u8 0, .int .u8 0, .int .u8 0, .int .u8 0, .int .u8 0, .int .u8 0, .int .u8 0, .int .u8 0, .int .u8 0, .int .u8 0, .int .u8 0, .int .u8 0, .int .u8 0, .int .u8 0, .int .u8 0, .int .u8 0, .int .u8 0, .int .u8 0, .int .u8 0, .int .u8 0, .int .u8 0, .int .u8 0, .int .u8 0, .int .u8 0, .int .u8 0, .int .u8 0, .int .u8 0], .agg #[.int .i64 0, .int .i64 0, .int .u8 0, .int .u8 0, .int .u8 0, .int .u8 0, .int .u8 0, .int .u8 0, .int .u8 0, .int .u8 0, .int .u8 0, .int .u8 0, .int .u8 0, .int .u8 0, .int .u8 0, .int .u8 0, .int .u8 0, .int .u8 0, .int .u8 0, .int .u8 0, .int .u8 0, .int .u8 0, .int .u8 0, .int .u8 0, .int .u8 0, .int .u8 0, .int .u8 0, .int .u8 0, .int .u8 0, .int .u8 0, .int .u8 0, .int .u8 0, .int .u8 0, .int .u8 0, .int .u8 0, .int .u8 0, .int .u8 0, .int .u8 0, .int .u8 0, .int .u8 0, .int .u8 0, .int .u8 0, .int .u8 0, .int .u8 0, .int .u8 0, .int .u8 0, .int .u8 0, .int .u8 0, .int .u8 0, .int .u8 0, .int .u8 0, .int .u8 0, .int .u8 0, .int .u8 0, .int .u8 0, .int .u8 0, .int .u8 0, .int .u8 0, .int .u8 0, .int .u8 0, .int .u8 0, .int .u8 0, .int .u8 0, .int .u8 0, .int .u8 0, .int .u8 0], .agg #[.int .i64 0, .int .u8 0, .int .u8 0, .int .u8 0, .int .u8 0, .int .u8 0, .int .u8 0, .int .u8 0, .int .u8 0, .int .u8 0, .int .u8 0, .int .u8 0, .int .u8 0, .int .u8 0, .int .u8 0, .int .u8 0, .int .u8 0, .int .u8 0, .int .u8 0, .int .u8 0, .int .u8 0, .int .u8 0, .int .u8 0, .int .u8 0, .int .u8 0, .int .u8 0, .int .u8 0, .int .u8 0, .int .u8 0, .int .u8 0, .int .u8 0, .int .u8 0, .int .u8 0, .slice none 0 0], .slice none 0 0], []⟩ 8 (by kernel_rfl) (by kernel_rfl) (by kernel_rfl) (by kernel_rfl))
    (fun W base args ds gs before hval hW _ hsz _ => law_calls (tds := tds) (by kernel_rfl) (by kernel_rfl) (by kernel_rfl) rfl (fun ds hl => by match ds, hl with | [_, _, _, _, _], _ => rfl) (tb := 4) rfl (by kernel_rfl) spec hval hW hsz)
theorem over : Rows.verifyHeadsRow.holds Tryz.pinned (OpenSpec.ofChange Rows.verifyHeadsSpec) :=
  OpenClaim.holds_of_wide 4 Tryz.f4 rfl rfl rfl rfl rfl rfl rfl ⟨rfl, rfl, rfl, rfl, rfl⟩ rfl rfl rfl rfl rfl (by kernel_rfl) Tryz.func4 (by kernel_rfl)
    (of_decide_eq_true (by kernel_rfl)) (by unfold Func.isWrapper; first | (rw [if_pos (by decide +kernel)]; kernel_rfl) | (rw [if_neg (by decide +kernel)]; exact ⟨rfl, rfl⟩))
    (fun os started H enc _ => lifted os started H enc)
end Go.Proofs.YthhlielliopegaaGreat.VerifyHeads
namespace Go.Proofs.YthhlielliopegaaGreat
theorem verifyHeads_holds : Rows.VerifyHeadsSaid := VerifyHeads.over
#print axioms verifyHeads_holds
end Go.Proofs.YthhlielliopegaaGreat
