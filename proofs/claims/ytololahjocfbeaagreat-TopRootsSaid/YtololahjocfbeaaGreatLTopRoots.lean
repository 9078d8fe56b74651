/- The statement TopRoots: whatever is accepted as two unlike logs of one epoch, from which one log grew: two unlike texts with one sum are found in that alone; and an epoch is published, and accepted. No condition. -/
import Derived.Test.YtololahjocfbeaaGreatRows
import Derived.Test.YtololahjocfbeaaGreatC09
import Derived.Test.YtololahjocfbeaaGreatC26
import Derived.Test.YtololahjocfbeaaGreatC40
import Derived.Test.YtololahjocfbeaaGreatC42
namespace Go.Proofs.YtololahjocfbeaaGreat.TopRoots
open Go Go.Sy Go.Proofs.Tryz
set_option linter.unusedVariables false
set_option linter.unusedSimpArgs false
def tds : List TD := [.st [.int .i64, .int .i64, .arr 32 (.int .u8), .arr 32 (.int .u8)], .st [.int .i64, .int .i64, .arr 32 (.int .u8), .arr 32 (.int .u8)], .st [.int .i64, .int .i64, .arr 32 (.int .u8), .arr 32 (.int .u8)], .sl 32 (.arr 32 (.int .u8)), .sl 32 (.arr 32 (.int .u8))]
theorem spec (vs : List AV) (h : TD.hass tds vs) : FnC Tryz.prog 7 vs [] (.bool true) [] := by
  simp only [tds, TD.hass, TD.has, TD.ik, TD.cs, TD.css] at h
  obtain ⟨_, _, rfl, hk, _, _, rfl, hh, _, _, rfl, ho, _, _, rfl, hw, _, _, rfl, hw', rfl⟩ := h
  obtain ⟨_, rfl, _, _, rfl, ⟨k1, rfl, _⟩, _, _, rfl, ⟨e1, rfl, _⟩, _, _, rfl, ⟨t1, rfl, h1, h1'⟩, _, _, rfl, ⟨l1, rfl, h2, h2'⟩, rfl⟩ := hk
  obtain ⟨_, rfl, _, _, rfl, ⟨k2, rfl, _⟩, _, _, rfl, ⟨e2, rfl, _⟩, _, _, rfl, ⟨t2, rfl, h3, h3'⟩, _, _, rfl, ⟨l2, rfl, h4, h4'⟩, rfl⟩ := hh
  obtain ⟨_, rfl, _, _, rfl, ⟨k3, rfl, _⟩, _, _, rfl, ⟨e3, rfl, _⟩, _, _, rfl, ⟨t3, rfl, h5, h5'⟩, _, _, rfl, ⟨l3, rfl, h6, h6'⟩, rfl⟩ := ho
  obtain ⟨W, rfl, hg, hWl⟩ := digests_of hw
  obtain ⟨W', rfl, hg', hWl'⟩ := digests_of hw'
  have g : ∀ {x : List Int}, x.length = 32 → (∀ y ∈ x, (Lit.int .u8 y).wf = true) → goodD x := fun h h' => ⟨h, fun x hx => wf_u8 (h' x hx)⟩
  have := topRoots_walk k1 e1 k2 e2 k3 e3 t1 l1 t2 l2 t3 l3 (g h2 h2') (g h4 h4') (g h6 h6') W W' hg hg' hWl hWl' works_spec
  simpa using this
set_option maxRecDepth 100000 in
theorem lifted (os : Os) (started : os.Started) (H : Type) (enc : TypeId × Value → H) :
    ReturnsInHanded {} Tryz.checked os 7 .any (Rows.topRootsSpec.pre6 enc Tryz.prog Tryz.f7 Rows.topRootsRow.domain false) (Rows.topRootsSpec.post enc Tryz.prog Tryz.f7 false true false false) :=
  returnsInHanded_of_change_sized (C := Tryz.checked) (by kernel_rfl) started (by kernel_rfl) Tryz.func7
    (ChangeSpec.witness6 (enc := enc) (C := Tryz.checked) false ⟨#[], #[.agg #[.int .i64 0, .int .i64 0, .int .u8 0, .int .u8 0, .int .u8 0, .int .u8 0, .int .u8 0, .int .u8 0, .int .u8 0, .int .u8 0, .int .u8 0, .int .u8 0, .int .u8 0, .int .u8 0, .int .u8 0, .int .u8 0, .int .u8 0, .int .u8 0, .int .u8 0, .int .u8 0, .int .u8 0, .int .u8 0, .int .u8 0, .int .u8 0, .int .u8 0, .int .u8 0, .int .u8 0, .int .u8 0, .int .u8 0, .int .u8 0, .int .u8 0, .int .u8 0, .int .u8 0, .int .u8 0, .int .u8 0, .int .u8 0, .int .u8 0, .int .u8 0, .int .u8 0, .int .u8 0, .int .u8 0, .int .u8 0, .int .u8 0, .int .u8 0, .int .u8 0, .int .u8 0, .int .u8 0, .int .u8 0, .int .u8 0, .int .u8 0, .int .u8 0, .int .u8 0, .int .u8 0, .int .u8 0, .int .u8 0, .int .u8 0, .int .u8 0, .int .u8 0, .int .u8 0, .int .u8 0, .int .u8 0, .int .u8 0, .int .u8 0, .int .u8 0, .int .u8 0, .int .u8 0], .agg #[.int .i64 0, .int .i64 0, .int .u8 0, .int .u8 0, .int .u8 0, .int .u8 0, .int .u8 0, .int .u8 0, .int .u8 0, .int .u8 0, .int .u8 0, .int .u8 0, .int .u8 0, .int .u8 0, .int .u8 0, .int .u8 0, .int .u8 0, .int .u8 0, .int .u8 0, .int .u8 0, .int .u8 0, .int .u8 0, .int .u8 0, .int .u8 0, .int .u8 0, .int .u8 0, .int .u8 0, .int .u8 0, .int .u8 0, .int .u8 0, .int .u8 0, .int .u8 0, .int .u8 0, .int .u8 0, .int .u8 0, .int .u8 0, .int .u8 0, .int .u8 0, .int .u8 0, .int .u8 0, .int .u8 0, .int .u8 0, .int .u8 0, .int .u8 0, .int .u8 0, .int .u8 0, .int .u8 0, .int .u8 0, .int .u8 0, .int .u8 0, .int .u8 0, .int .u8 0, .int .u8 0, .int .u8 0, .int .u8 0, .int .u8 0, .int .u8 0, .int .u8 0, .int .u8 0, .int .u8 0, .int .u8 0, .int .u8 0, .int .u8 0, .int .u8 0, .int .u8 0, .int .u8 0], .agg #[.int .i64 0, .int .i64 0, .int .u8 0, .int .u8 0, .int .u8 0, .int .u8 0, .int .u8 0, .int .u8 0, .int .u8 0, .int .u8 0, .int .u8 0, .int .u8 0, .int .u8 0, .int .u8 0, .int .u8 0, .int .u8 0, .int .u8 0, .int .u8 0, .int .u8 0, .int .u8 0, .int .u8 0, .int .u8 0, .int .u8 0, .int .u8 0, .int .u8 0, .int .u8 0, .int .u8 0, .int .u8 0, .int .u8 0, .int .u8 0, .int .u8 0, .int .u8 0, .int .u8 0, .int .u8 0, .int .u8 0, .int .u8 0, .int .u8 0, .int .u8 0, .int .u8 0, .int .u8 0, .int .u8 0, .int .u8 0, .int .u8 0, .int .u8 0, .int .u8 0, .int .u8 0, .int .u8 0, .int .u8 0, .int .u8 0, .int .u8 0, .int .u8 0, .int .u8 0, .int .u8 0, .int .u8 0, .int .u8 0, .int .u8 0, .int .u8 0, .int .u8 0, .int .u8 0, .int .u8 0, .int .u8 0, .int .u8 0, .int .u8 0, .int .u8 0, .int .u8 0, .int .u8 0], .slice none 0 0, .slice none 0 0], []⟩ 8 (by kernel_rfl) (by kernel_rfl) (by kernel_rfl) (by kernel_rfl))
    (fun W base args ds gs before hval hW _ hsz _ => law_calls (tds := tds) (by kernel_rfl) (by kernel_rfl) (by kernel_rfl) rfl (fun ds hl => by match ds, hl with | [_, _, _, _, _], _ => rfl) (tb := 4) rfl (by kernel_rfl) spec hval hW hsz)
theorem j1 : (Rows.topRootsRow.inPlace == Tryz.prog.inPlace 7) = true := by kernel_rfl
theorem j2 : (Rows.topRootsRow.unfollowed == Tryz.prog.unfollowed 7) = true := by kernel_rfl
theorem j3 : (Rows.topRootsRow.recurses == Tryz.prog.recurses 7) = true := by kernel_rfl
theorem j4 : (Rows.topRootsRow.named == Tryz.prog.varsNamed 7) = true := by kernel_rfl
theorem j5 : laidOutB Tryz.prog = true := by kernel_rfl
theorem j6 : mapsRowed Tryz.prog = true := by kernel_rfl
theorem j7 : (Rows.topRootsRow.plainKeys == Tryz.prog.plainKeys) = true := by kernel_rfl
theorem j8 : Tryz.prog.stopsHeard = true := by kernel_rfl
theorem j9 : Tryz.prog.mayEnter = true := by kernel_rfl
theorem joined : joinedFacts Tryz.prog 7 Tryz.f7 Rows.topRootsSpec Rows.topRootsRow = true := by
  unfold joinedFacts
  rw [j1, j2, j3, j4, j5, j6, j7, j8, j9]
  kernel_rfl
theorem over : Rows.topRootsRow.holds Tryz.pinned (OpenSpec.ofChange Rows.topRootsSpec) :=
  OpenClaim.holds_of_wide 7 Tryz.f7 rfl rfl rfl rfl rfl rfl rfl ⟨rfl, rfl, rfl, rfl, rfl⟩ rfl rfl rfl rfl rfl (by kernel_rfl) Tryz.func7 joined
    (of_decide_eq_true (by kernel_rfl)) (by unfold Func.isWrapper; first | (rw [if_pos (by decide +kernel)]; kernel_rfl) | (rw [if_neg (by decide +kernel)]; exact ⟨rfl, rfl⟩))
    (fun os started H enc _ => lifted os started H enc)
end Go.Proofs.YtololahjocfbeaaGreat.TopRoots
namespace Go.Proofs.YtololahjocfbeaaGreat
theorem topRoots_holds : Rows.TopRootsSaid := TopRoots.over
#print axioms topRoots_holds
end Go.Proofs.YtololahjocfbeaaGreat
