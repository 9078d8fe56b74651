/- The statement TopBinds: whatever is accepted under one root, of one name, version and nonce, as two unlike values: two unlike texts with one sum are found in that alone; and so are they where a version is shown, and it is shown, too, that there is none; and an epoch is published, and accepted. No condition. -/
import Derived.Test.YtololahjocfbeaaGreatRows
import Derived.Test.YtololahjocfbeaaGreatD11
import Derived.Test.YtololahjocfbeaaGreatD30
import Derived.Test.YtololahjocfbeaaGreatD52
import Derived.Test.YtololahjocfbeaaGreatD51
namespace Go.Proofs.YtololahjocfbeaaGreat.TopBinds
open Go Go.Sy Go.Proofs.Tryz
set_option linter.unusedVariables false
set_option linter.unusedSimpArgs false
def tds : List TD := [.arr 32 (.int .u8), .sl 1 (.int .u8), .st [.int .i64, .sl 1 (.int .u8), .arr 32 (.int .u8), .arr 32 (.int .u8), .st [.arr 32 (.int .u8), .sl 32 (.arr 32 (.int .u8))]], .st [.int .i64, .sl 1 (.int .u8), .arr 32 (.int .u8), .arr 32 (.int .u8), .st [.arr 32 (.int .u8), .sl 32 (.arr 32 (.int .u8))]]]
theorem spec (vs : List AV) (h : TD.hass tds vs) : FnC Tryz.prog 8 vs [] (.bool true) [] := by
  simp only [tds, TD.hass, TD.has, TD.ik, TD.cs, TD.css] at h
  obtain ⟨_, _, rfl, ⟨t, rfl, ht, ht'⟩, _, _, rfl, ⟨nm, rfl, _, hnl, hnm⟩, _, _, rfl, hx, _, _, rfl, hy, rfl⟩ := h
  obtain ⟨_, rfl, _, _, rfl, ⟨v1, rfl, _⟩, _, _, rfl, ⟨a1, rfl, _, hal1, ham1⟩, _, _, rfl, ⟨n1, rfl, hn1, hn1'⟩, _, _, rfl, ⟨s1, rfl, hs1, hs1'⟩, _, _, rfl, hp1, rfl⟩ := hx
  obtain ⟨_, rfl, _, _, rfl, ⟨v2, rfl, _⟩, _, _, rfl, ⟨a2, rfl, _, hal2, ham2⟩, _, _, rfl, ⟨n2, rfl, hn2, hn2'⟩, _, _, rfl, ⟨s2, rfl, hs2, hs2'⟩, _, _, rfl, hp2, rfl⟩ := hy
  obtain ⟨_, rfl, _, _, rfl, ⟨k1, rfl, hk1, hk1'⟩, _, _, rfl, hw1, rfl⟩ := hp1
  obtain ⟨_, rfl, _, _, rfl, ⟨k2, rfl, hk2, hk2'⟩, _, _, rfl, hw2, rfl⟩ := hp2
  obtain ⟨W1, rfl, hg1, hWl1⟩ := digests_of hw1
  obtain ⟨W2, rfl, hg2, hWl2⟩ := digests_of hw2
  have g : ∀ {x : List Int}, x.length = 32 → (∀ y ∈ x, (Lit.int .u8 y).wf = true) → goodD x := fun h h' => ⟨h, fun x hx => wf_u8 (h' x hx)⟩
  have := topBinds_walk t nm nm.length rfl hnl (fun x h => wf_u8 (hnm x h)) ⟨v1, a1, n1, s1, k1, W1⟩ ⟨v2, a2, n2, s2, k2, W2⟩ ⟨fun x h => wf_u8 (ham1 x h), g hn1 hn1', g hs1 hs1', g hk1 hk1', hg1, hWl1⟩ ⟨fun x h => wf_u8 (ham2 x h), g hn2 hn2', g hs2 hs2', g hk2 hk2', hg2, hWl2⟩ hal1 hal2 works_spec
  simpa using this
set_option maxRecDepth 100000 in
theorem lifted (os : Os) (started : os.Started) (H : Type) (enc : TypeId × Value → H) :
    ReturnsInHanded {} Tryz.checked os 8 .any (Rows.topBindsSpec.pre6 enc Tryz.prog Tryz.f8 Rows.topBindsRow.domain false) (Rows.topBindsSpec.post enc Tryz.prog Tryz.f8 false true false false) :=
  returnsInHanded_of_change_sized (C := Tryz.checked) (by kernel_rfl) started (by kernel_rfl) Tryz.func8
    (ChangeSpec.witness6 (enc := enc) (C := Tryz.checked) false ⟨#[], #[.agg (Array.replicate 32 (.int .u8 0)), .slice none 0 0, .agg #[.int .i64 0, .slice none 0 0, .int .u8 0, .int .u8 0, .int .u8 0, .int .u8 0, .int .u8 0, .int .u8 0, .int .u8 0, .int .u8 0, .int .u8 0, .int .u8 0, .int .u8 0, .int .u8 0, .int .u8 0, .int .u8 0, .int .u8 0, .int .u8 0, .int .u8 0, .int .u8 0, .int .u8 0, .int .u8 0, .int .u8 0, .int .u8 0, .int .u8 0, .int .u8 0, .int .u8 0, .int .u8 0, .int .u8 0, .int .u8 0, .int .u8 0, .int .u8 0, .int .u8 0, .int .u8 0, .int .u8 0, .int .u8 0, .int .u8 0, .int .u8 0, .int .u8 0, .int .u8 0, .int .u8 0, .int .u8 0, .int .u8 0, .int .u8 0, .int .u8 0, .int .u8 0, .int .u8 0, .int .u8 0, .int .u8 0, .int .u8 0, .int .u8 0, .int .u8 0, .int .u8 0, .int .u8 0, .int .u8 0, .int .u8 0, .int .u8 0, .int .u8 0, .int .u8 0, .int .u8 0, .int .u8 0, .int .u8 0, .int .u8 0, .int .u8 0, .int .u8 0, .int .u8 0, .int .u8 0, .int .u8 0, .int .u8 0, .int .u8 0, .int .u8 0, .int .u8 0, .int .u8 0, .int .u8 0, .int .u8 0, .int .u8 0, .int .u8 0, .int .u8 0, .int .u8 0, .int .u8 0, .int .u8 0, .int .u8 0, .int .u8 0, .int .u8 0, .int .u8 0, .int .u8 0, .int .u8 0, .int .u8 0, .int .u8 0, .int .u8 0, .int .u8 0, .int .u8 0, .int .u8 0, .int .u8 0, .int .u8 0, .int .u8 0, .int .u8 0, .int .u8 0, .slice none 0 0], .agg #[.int .i64 0, .slice none 0 0, .int .u8 0, .int .u8 0, .int .u8 0, .int .u8 0, .int .u8 0, .int .u8 0, .int .u8 0, .int .u8 0, .int .u8 0, .int .u8 0, .int .u8 0, .int .u8 0, .int .u8 0, .int .u8 0, .int .u8 0, .int .u8 0, .int .u8 0, .int .u8 0, .int .u8 0, .int .u8 0, .int .u8 0, .int .u8 0, .int .u8 0, .int .u8 0, .int .u8 0, .int .u8 0, .int .u8 0, .int .u8 0, .int .u8 0, .int .u8 0, .int .u8 0, .int .u8 0, .int .u8 0, .int .u8 0, .int .u8 0, .int .u8 0, .int .u8 0, .int .u8 0, .int .u8 0, .int .u8 0, .int .u8 0, .int .u8 0, .int .u8 0, .int .u8 0, .int .u8 0, .int .u8 0, .int .u8 0, .int .u8 0, .int .u8 0, .int .u8 0, .int .u8 0, .int .u8 0, .int .u8 0, .int .u8 0, .int .u8 0, .int .u8 0, .int .u8 0, .int .u8 0, .int .u8 0, .int .u8 0, .int .u8 0, .int .u8 0, .int .u8 0, .int .u8 0, .int .u8 0, .int .u8 0, .int .u8 0, .int .u8 0, .int .u8 0, .int .u8 0, .int .u8 0, .int .u8 0, .int .u8 0, .int .u8 0, .int .u8 0, .int .u8 0, .int .u8 0, .int .u8 0, .int .u8 0, .int .u8 0, .int .u8 0, .int .u8 0, .int .u8 0, .int .u8 0, .int .u8 0, .int .u8 0, .int .u8 0, .int .u8 0, .int .u8 0, .int .u8 0, .int .u8 0, .int .u8 0, .int .u8 0, .int .u8 0, .int .u8 0, .int .u8 0, .slice none 0 0]], []⟩ 8 (by kernel_rfl) (by kernel_rfl) (by kernel_rfl) (by kernel_rfl))
    (fun W base args ds gs before hval hW _ hsz _ => law_calls (tds := tds) (by kernel_rfl) (by kernel_rfl) (by kernel_rfl) rfl (fun ds hl => by match ds, hl with | [_, _, _, _], _ => rfl) (tb := 4) rfl (by kernel_rfl) spec hval hW hsz)
theorem j1 : (Rows.topBindsRow.inPlace == Tryz.prog.inPlace 8) = true := by kernel_rfl
theorem j2 : (Rows.topBindsRow.unfollowed == Tryz.prog.unfollowed 8) = true := by kernel_rfl
theorem j3 : (Rows.topBindsRow.recurses == Tryz.prog.recurses 8) = true := by kernel_rfl
theorem j4 : (Rows.topBindsRow.named == Tryz.prog.varsNamed 8) = true := by kernel_rfl
theorem j5 : laidOutB Tryz.prog = true := by kernel_rfl
theorem j6 : mapsRowed Tryz.prog = true := by kernel_rfl
theorem j7 : (Rows.topBindsRow.plainKeys == Tryz.prog.plainKeys) = true := by kernel_rfl
theorem j8 : Tryz.prog.stopsHeard = true := by kernel_rfl
theorem j9 : Tryz.prog.mayEnter = true := by kernel_rfl
theorem joined : joinedFacts Tryz.prog 8 Tryz.f8 Rows.topBindsSpec Rows.topBindsRow = true := by
  unfold joinedFacts
  rw [j1, j2, j3, j4, j5, j6, j7, j8, j9]
  kernel_rfl
theorem over : Rows.topBindsRow.holds Tryz.pinned (OpenSpec.ofChange Rows.topBindsSpec) :=
  OpenClaim.holds_of_wide 8 Tryz.f8 rfl rfl rfl rfl rfl rfl rfl ⟨rfl, rfl, rfl, rfl, rfl⟩ rfl rfl rfl rfl rfl (by kernel_rfl) Tryz.func8 joined
    (of_decide_eq_true (by kernel_rfl)) (by unfold Func.isWrapper; first | (rw [if_pos (by decide +kernel)]; kernel_rfl) | (rw [if_neg (by decide +kernel)]; exact ⟨rfl, rfl⟩))
    (fun os started H enc _ => lifted os started H enc)
end Go.Proofs.YtololahjocfbeaaGreat.TopBinds
namespace Go.Proofs.YtololahjocfbeaaGreat
theorem topBinds_holds : Rows.TopBindsSaid := TopBinds.over
#print axioms topBinds_holds
end Go.Proofs.YtololahjocfbeaaGreat
