/- The statement KeyedMessages: what a message, in any parts, is signed by is what the document says; and masked twice a digest is what it was. No condition. -/
import Derived.Test.YthomlkmbgmkjiaaRows
import Derived.Test.YthomlkmbgmkjiaaLI
import Derived.Test.YthomlkmbgmkjiaaKeyed
namespace Go.Proofs.Ythomlkmbgmkjiaa.KeyedMessages
open Go Go.Sy Go.Proofs.Try
set_option linter.unusedVariables false
set_option linter.unusedSimpArgs false
def tds : List TD := [.arr 32 (.int .u8), .arr 32 (.int .u8), .int .u64, .sl 24 (.sl 1 (.int .u8))]
theorem spec (vs : List AV) (h : TD.hass tds vs) : FnC Try.prog 8 vs [] (.bool true) [] := by
  simp only [tds, TD.hass, TD.has, TD.ik, TD.cs, TD.css] at h
  obtain ⟨_, _, rfl, ⟨r, rfl, hr, hr'⟩, _, _, rfl, ⟨t, rfl, ht, ht'⟩, _, _, rfl, ⟨i, rfl, hi⟩, _, _, rfl, ⟨es, rfl, _, hl, he⟩, rfl⟩ := h
  obtain ⟨ps, rfl, hp⟩ := ex_map' (f := bsl) (Q := fun p => p.length * 1 ≤ reachBytes ∧ ∀ x ∈ p, (Lit.int .u8 x).wf = true) (es := es) (fun x hx => by
    obtain ⟨xs, rfl, h1, _, h2⟩ := he x hx
    exact ⟨xs, rfl, h1, h2⟩)
  rw [List.length_map] at hl
  have := keyedMessages_spec r t i ps hr (fun x hx => wf_u8 (hr' x hx)) ht (fun x hx => wf_u8 (ht' x hx)) (wf_u64 hi) (fun p h x hx => wf_u8 ((hp p h).2 x hx)) (fun p h => by have := (hp p h).1; unfold reachBytes at this; omega) hl
  simpa using this
set_option maxRecDepth 100000 in
theorem lifted (os : Os) (started : os.Started) (H : Type) (enc : TypeId × Value → H) :
    ReturnsInHanded {} Try.checked os 8 .any (Rows.keyedMessagesSpec.pre6 enc Try.prog Try.f8 Rows.keyedMessagesRow.domain false) (Rows.keyedMessagesSpec.post enc Try.prog Try.f8 false true false false) :=
  returnsInHanded_of_change_sized (C := Try.checked) (by kernel_rfl) started (by kernel_rfl) Try.func8
    (ChangeSpec.witness6 (enc := enc) (C := Try.checked) false ⟨#[], #[.agg (Array.replicate 32 (.int .u8 0)), .agg (Array.replicate 32 (.int .u8 0)), .int .u64 0, .slice none 0 0], []⟩ 8 (by kernel_rfl) (by kernel_rfl) (by kernel_rfl) (by kernel_rfl))
    (fun W base args ds gs before hval hW _ hsz _ => law_calls (tds := tds) (by kernel_rfl) (by kernel_rfl) (by kernel_rfl) rfl (fun ds hl => by match ds, hl with | [_, _, _, _], _ => rfl) (tb := 4) rfl (by kernel_rfl) spec hval hW hsz)
theorem over : Rows.keyedMessagesRow.holds Try.pinned (OpenSpec.ofChange Rows.keyedMessagesSpec) :=
  OpenClaim.holds_of_wide 8 Try.f8 rfl rfl rfl rfl rfl rfl rfl ⟨rfl, rfl, rfl, rfl, rfl⟩ rfl rfl rfl rfl rfl (by kernel_rfl) Try.func8 (by kernel_rfl)
    (of_decide_eq_true (by kernel_rfl)) (by unfold Func.isWrapper; first | (rw [if_pos (by decide +kernel)]; kernel_rfl) | (rw [if_neg (by decide +kernel)]; exact ⟨rfl, rfl⟩))
    (fun os started H enc _ => lifted os started H enc)
end Go.Proofs.Ythomlkmbgmkjiaa.KeyedMessages
namespace Go.Proofs.Ythomlkmbgmkjiaa
theorem keyedMessages_holds : Rows.KeyedMessagesSaid := KeyedMessages.over
#print axioms keyedMessages_holds
end Go.Proofs.Ythomlkmbgmkjiaa
