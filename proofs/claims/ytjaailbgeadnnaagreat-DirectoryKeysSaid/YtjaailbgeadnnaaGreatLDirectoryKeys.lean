/- The statement DirectoryKeys: the secret of any key number, and its key, are what the document says. No condition. -/
import Derived.Test.YtjaailbgeadnnaaGreatRows
import Derived.Test.YtjaailbgeadnnaaGreatGG
import Derived.Test.YtjaailbgeadnnaaGreatDirK2
namespace Go.Proofs.YtjaailbgeadnnaaGreat.DirectoryKeys
open Go Go.Sy Go.Proofs.Tryz
set_option linter.unusedVariables false
set_option linter.unusedSimpArgs false
def tds : List TD := [.st [.st [.int .i64, .int .i64], .int .i64, .arr 32 (.int .u8), .arr 32 (.int .u8)], .int .i64]
theorem spec (vs : List AV) (h : TD.hass tds vs) : FnC Tryz.prog 3 vs [] (.bool true) [] := by
  simp only [tds, TD.hass, TD.has, TD.ik, TD.cs, TD.css] at h
  obtain ⟨_, _, rfl, hc, _, _, rfl, ⟨k, rfl, _⟩, rfl⟩ := h
  obtain ⟨_, rfl, _, _, rfl, hs, _, _, rfl, ⟨b, rfl, _⟩, _, _, rfl, ⟨ma, rfl, hm, hm'⟩, _, _, rfl, ⟨na, rfl, hn, hn'⟩, rfl⟩ := hc
  obtain ⟨_, rfl, _, _, rfl, ⟨a, rfl, _⟩, _, _, rfl, ⟨n, rfl, _⟩, rfl⟩ := hs
  exact directoryKeys_spec a n b ma na ⟨hm, fun x hx => wf_u8 (hm' x hx)⟩ ⟨hn, fun x hx => wf_u8 (hn' x hx)⟩ k
set_option maxRecDepth 100000 in
theorem lifted (os : Os) (started : os.Started) (H : Type) (enc : TypeId × Value → H) :
    ReturnsInHanded {} Tryz.checked os 3 .any (Rows.directoryKeysSpec.pre6 enc Tryz.prog Tryz.f3 Rows.directoryKeysRow.domain false) (Rows.directoryKeysSpec.post enc Tryz.prog Tryz.f3 false true false false) :=
  returnsInHanded_of_change_sized (C := Tryz.checked) (by kernel_rfl) started (by kernel_rfl) Tryz.func3
    (ChangeSpec.witness6 (enc := enc) (C := Tryz.checked) false ⟨#[], #[.agg #[.int .i64 0, .int .i64 0, .int .i64 0, .int .u8 0, .int .u8 0, .int .u8 0, .int .u8 0, .int .u8 0, .int .u8 0, .int .u8 0, .int .u8 0, .int .u8 0, .int .u8 0, .int .u8 0, .int .u8 0, .int .u8 0, .int .u8 0, .int .u8 0, .int .u8 0, .int .u8 0, .int .u8 0, .int .u8 0, .int .u8 0, .int .u8 0, .int .u8 0, .int .u8 0, .int .u8 0, .int .u8 0, .int .u8 0, .int .u8 0, .int .u8 0, .int .u8 0, .int .u8 0, .int .u8 0, .int .u8 0, .int .u8 0, .int .u8 0, .int .u8 0, .int .u8 0, .int .u8 0, .int .u8 0, .int .u8 0, .int .u8 0, .int .u8 0, .int .u8 0, .int .u8 0, .int .u8 0, .int .u8 0, .int .u8 0, .int .u8 0, .int .u8 0, .int .u8 0, .int .u8 0, .int .u8 0, .int .u8 0, .int .u8 0, .int .u8 0, .int .u8 0, .int .u8 0, .int .u8 0, .int .u8 0, .int .u8 0, .int .u8 0, .int .u8 0, .int .u8 0, .int .u8 0, .int .u8 0], .int .i64 0], []⟩ 8 (by kernel_rfl) (by kernel_rfl) (by kernel_rfl) (by kernel_rfl))
    (fun W base args ds gs before hval hW _ hsz _ => law_calls (tds := tds) (by kernel_rfl) (by kernel_rfl) (by kernel_rfl) rfl (fun ds hl => by match ds, hl with | [_, _], _ => rfl) (tb := 4) rfl (by kernel_rfl) spec hval hW hsz)
theorem over : Rows.directoryKeysRow.holds Tryz.pinned (OpenSpec.ofChange Rows.directoryKeysSpec) :=
  OpenClaim.holds_of_wide 3 Tryz.f3 rfl rfl rfl rfl rfl rfl rfl ⟨rfl, rfl, rfl, rfl, rfl⟩ rfl rfl rfl rfl rfl (by kernel_rfl) Tryz.func3 (by kernel_rfl)
    (of_decide_eq_true (by kernel_rfl)) (by unfold Func.isWrapper; first | (rw [if_pos (by decide +kernel)]; kernel_rfl) | (rw [if_neg (by decide +kernel)]; exact ⟨rfl, rfl⟩))
    (fun os started H enc _ => lifted os started H enc)
end Go.Proofs.YtjaailbgeadnnaaGreat.DirectoryKeys
namespace Go.Proofs.YtjaailbgeadnnaaGreat
theorem directoryKeys_holds : Rows.DirectoryKeysSaid := DirectoryKeys.over
#print axioms directoryKeys_holds
end Go.Proofs.YtjaailbgeadnnaaGreat
