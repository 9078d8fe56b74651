/- Whether any answer shows what a name stands for, and all that it stood for. -/
import Derived.Test.YthhlielliopegaaGreatAnswers
namespace Go.Proofs.YthhlielliopegaaGreat
open Go Go.Sy Go.Proofs.Tryz
set_option maxRecDepth 100000
set_option maxHeartbeats 8000000
set_option linter.unusedSimpArgs false
set_option linter.unusedVariables false

def fewV (x : SV) : Prop := x.val.length ≤ 200 ∧ x.W.length ≤ 300
instance (x : SV) : Decidable (fewV x) := by unfold fewV; infer_instance
theorem first_not {p : Nat → Prop} [DecidablePred p] : ∀ {k : Nat}, ¬ (∀ i, i < k → p i) → ∃ m, m < k ∧ ¬ p m ∧ ∀ i, i < m → p i
  | 0, h => absurd (fun i hi => by omega) h
  | k + 1, h => by
    by_cases hk : ∀ i, i < k → p i
    · refine ⟨k, by omega, fun hp => h fun i hi => ?_, hk⟩
      by_cases e : i = k
      · exact e ▸ hp
      · exact hk i (by omega)
    · obtain ⟨m, h1, h2⟩ := first_not hk
      exact ⟨m, by omega, h2⟩
def fewAll (l : List SV) (W : List (List Int)) : Prop := (∀ i, i < l.length → fewV (l.getD i default)) ∧ l.length ≤ 4 ∧ W.length ≤ 300
theorem few_ok (l : List SV) (next known : List Int) (W : List (List Int)) (h : fewAll l W) : FnC Tryz.prog 5 [aAV l next known W] [] (.bool true) [] := by
  obtain ⟨h1, h2, h3⟩ := h
  refine fn0 mix [] 0 1 [.tmp 2] Tryz.func5 rfl (by kernel_rfl) (by kernel_rfl) rfl (by kernel_rfl) (by kernel_rfl) (by simp) ?_
  simp (implicitDefEqProofs := false) (disch := omega) only [go_sem, ↓reduceIte]
  refine loop (ι := Nat) 1 (fun i => i ≤ l.length) (fun i => [(1, .ref 0 []), (3, .int .i64 i)]) (fun i => [(0, .var (aAV l next known W))]) (fun i => l.length - i) 0 [(0, 0)] [] (Nat.zero_le _) rfl ?_ ?_ ?_ (fun i hi => ?_)
  · simp (implicitDefEqProofs := false) (disch := omega) only [go_sem, ↓reduceIte]
  · simp (implicitDefEqProofs := false) (disch := omega) only [go_sem, ↓reduceIte]
  · simp (implicitDefEqProofs := false) (disch := omega) only [go_sem, ↓reduceIte]
  simp (implicitDefEqProofs := false) (disch := omega) only [go_sem, ↓reduceIte]
  refine brd (fun h => ?_) (fun h => ?_)
  · have hi' : i < l.length := by omega
    obtain ⟨q1, q2⟩ := h1 i hi'
    have g1 := fun K => getSV hi' K
    have l1 : (l.map shAV).length = l.length := List.length_map ..
    have d1 : decide ((200 : Int) < ((l.getD i default).val.length : Int)) = false := decide_eq_false (by omega)
    have d2 : decide ((300 : Int) < ((l.getD i default).W.length : Int)) = false := decide_eq_false (by omega)
    simp (implicitDefEqProofs := false) (disch := omega) only [go_sem, ↓reduceIte, ↓g1, l1, d1, d2]
    refine ⟨i + 1, [(0, 0)], [], [], by dsimp only; omega, by dsimp only; omega, rfl, ?_, ?_, ?_⟩ <;> simp (implicitDefEqProofs := false) (disch := omega) only [go_sem, ↓reduceIte]
  obtain rfl : i = l.length := by omega
  have d1 : decide ((l.length : Int) ≤ 4) = true := decide_eq_true (by omega)
  have d2 : decide ((W.length : Int) ≤ 300) = true := decide_eq_true (by omega)
  simp (implicitDefEqProofs := false) (disch := omega) only [go_sem, ↓reduceIte, d1, d2]
theorem few_bad (l : List SV) (next known : List Int) (W : List (List Int)) (hll : l.length ≤ 9223372036854775807) (h : ¬ fewAll l W) : FnC Tryz.prog 5 [aAV l next known W] [] (.bool false) [] := by
  by_cases ha : ∀ i, i < l.length → fewV (l.getD i default)
  · refine fn0 mix [] 0 1 [.tmp 2] Tryz.func5 rfl (by kernel_rfl) (by kernel_rfl) rfl (by kernel_rfl) (by kernel_rfl) (by simp) ?_
    simp (implicitDefEqProofs := false) (disch := omega) only [go_sem, ↓reduceIte]
    refine loop (ι := Nat) 1 (fun i => i ≤ l.length) (fun i => [(1, .ref 0 []), (3, .int .i64 i)]) (fun i => [(0, .var (aAV l next known W))]) (fun i => l.length - i) 0 [(0, 0)] [] (Nat.zero_le _) rfl ?_ ?_ ?_ (fun i hi => ?_)
    · simp (implicitDefEqProofs := false) (disch := omega) only [go_sem, ↓reduceIte]
    · simp (implicitDefEqProofs := false) (disch := omega) only [go_sem, ↓reduceIte]
    · simp (implicitDefEqProofs := false) (disch := omega) only [go_sem, ↓reduceIte]
    simp (implicitDefEqProofs := false) (disch := omega) only [go_sem, ↓reduceIte]
    refine brd (fun h => ?_) (fun h => ?_)
    · have hi' : i < l.length := by omega
      obtain ⟨q1, q2⟩ := ha i hi'
      have g1 := fun K => getSV hi' K
      have l1 : (l.map shAV).length = l.length := List.length_map ..
      have d1 : decide ((200 : Int) < ((l.getD i default).val.length : Int)) = false := decide_eq_false (by omega)
      have d2 : decide ((300 : Int) < ((l.getD i default).W.length : Int)) = false := decide_eq_false (by omega)
      simp (implicitDefEqProofs := false) (disch := omega) only [go_sem, ↓reduceIte, ↓g1, l1, d1, d2]
      refine ⟨i + 1, [(0, 0)], [], [], by dsimp only; omega, by dsimp only; omega, rfl, ?_, ?_, ?_⟩ <;> simp (implicitDefEqProofs := false) (disch := omega) only [go_sem, ↓reduceIte]
    obtain rfl : i = l.length := by omega
    by_cases h4 : l.length ≤ 4
    · have h5 : ¬ W.length ≤ 300 := fun h5 => ‹¬ fewAll l W› ⟨ha, h4, h5⟩
      have d1 : decide ((l.length : Int) ≤ 4) = true := decide_eq_true (by omega)
      have d2 : decide ((W.length : Int) ≤ 300) = false := decide_eq_false (by omega)
      simp (implicitDefEqProofs := false) (disch := omega) only [go_sem, ↓reduceIte, d1, d2]
    · have d1 : decide ((l.length : Int) ≤ 4) = false := decide_eq_false (by omega)
      simp (implicitDefEqProofs := false) (disch := omega) only [go_sem, ↓reduceIte, d1]
  · obtain ⟨m, hml, hbm, ham⟩ := first_not ha
    refine fn0 mix [] 0 1 [.tmp 2] Tryz.func5 rfl (by kernel_rfl) (by kernel_rfl) rfl (by kernel_rfl) (by kernel_rfl) (by simp) ?_
    simp (implicitDefEqProofs := false) (disch := omega) only [go_sem, ↓reduceIte]
    refine loop (ι := Nat) 1 (fun i => i ≤ m) (fun i => [(1, .ref 0 []), (3, .int .i64 i)]) (fun i => [(0, .var (aAV l next known W))]) (fun i => m - i) 0 [(0, 0)] [] (Nat.zero_le _) rfl ?_ ?_ ?_ (fun i hi => ?_)
    · simp (implicitDefEqProofs := false) (disch := omega) only [go_sem, ↓reduceIte]
    · simp (implicitDefEqProofs := false) (disch := omega) only [go_sem, ↓reduceIte]
    · simp (implicitDefEqProofs := false) (disch := omega) only [go_sem, ↓reduceIte]
    simp (implicitDefEqProofs := false) (disch := omega) only [go_sem, ↓reduceIte]
    refine brd (fun h => ?_) (fun h => by omega)
    have hi' : i < l.length := by omega
    have g1 := fun K => getSV hi' K
    have l1 : (l.map shAV).length = l.length := List.length_map ..
    by_cases e : i = m
    · subst e
      by_cases q1 : (l.getD i default).val.length ≤ 200
      · have q2 : ¬ (l.getD i default).W.length ≤ 300 := fun q2 => hbm ⟨q1, q2⟩
        have d1 : decide ((200 : Int) < ((l.getD i default).val.length : Int)) = false := decide_eq_false (by omega)
        have d2 : decide ((300 : Int) < ((l.getD i default).W.length : Int)) = true := decide_eq_true (by omega)
        simp (implicitDefEqProofs := false) (disch := omega) only [go_sem, ↓reduceIte, ↓g1, l1, d1, d2]
        exact hi'
      · have d1 : decide ((200 : Int) < ((l.getD i default).val.length : Int)) = true := decide_eq_true (by omega)
        simp (implicitDefEqProofs := false) (disch := omega) only [go_sem, ↓reduceIte, ↓g1, l1, d1]
        exact hi'
    · obtain ⟨q1, q2⟩ := ham i (by omega)
      have d1 : decide ((200 : Int) < ((l.getD i default).val.length : Int)) = false := decide_eq_false (by omega)
      have d2 : decide ((300 : Int) < ((l.getD i default).W.length : Int)) = false := decide_eq_false (by omega)
      simp (implicitDefEqProofs := false) (disch := omega) only [go_sem, ↓reduceIte, ↓g1, l1, d1, d2]
      refine ⟨i + 1, [(0, 0)], [], [], by dsimp only; omega, by dsimp only; omega, rfl, ?_, ?_, ?_⟩ <;> simp (implicitDefEqProofs := false) (disch := omega) only [go_sem, ↓reduceIte]
theorem bff : (false == false) = true := rfl
theorem btt : (true == true) = true := rfl
def lkB (tree name : List Int) (l : List SV) (i : Nat) : Bool := decide (l.length ≤ 1) && allV tree name (fun _ _ => true) l i
def hsB (tree name : List Int) (l : List SV) (i : Nat) : Bool := allV tree name ordH l i
theorem lkB_succ {tree name : List Int} {l : List SV} {i : Nat} {b1 b2 : Bool} (h1 : lkB tree name l i = b1) (h2 : decide (isShown tree name (l.getD i default)) = b2) : lkB tree name l (i + 1) = (b1 && b2) := by
  rw [← h1, ← h2]
  unfold lkB
  rw [allV, okV, Bool.true_and, Bool.and_assoc]
theorem hsB_succ {tree name : List Int} {l : List SV} {i : Nat} {b1 b2 b3 : Bool} (h1 : hsB tree name l i = b1) (h2 : decide (isShown tree name (l.getD i default)) = b2) (h3 : decide ((l.getD i default).ver = (i : Int) + 1) = b3) : hsB tree name l (i + 1) = (b1 && (b2 && b3)) := by
  rw [← h1, ← h2, ← h3]
  unfold hsB
  rw [allV, okV, Bool.and_comm (decide (isShown tree name (l.getD i default)))]
theorem lkB_all (tree name : List Int) (l : List SV) : allV tree name ordL l l.length = lkB tree name l l.length := by
  unfold lkB
  by_cases h0 : l.length = 0
  · rw [h0]; rfl
  · by_cases h1 : l.length = 1
    · rw [h1]
      rfl
    · rw [show decide (l.length ≤ 1) = false from decide_eq_false (by omega), Bool.false_and]
      cases h : allV tree name ordL l l.length with
      | false => rfl
      | true =>
        have := allV_le h (show 1 < l.length by omega)
        rw [okV] at this
        cases this
section
variable (tree name : List Int) (n : Nat) (hn : name.length = n) (hm : ∀ x ∈ name, 0 ≤ x ∧ x < 256)
  (l : List SV) (hl : ∀ x ∈ l, goodSV x) (next known : List Int) (hx : goodD next) (hk : goodD known) (W : List (List Int)) (hL : W.length ≤ 9223372036854775807) (hg : ∀ d ∈ W, goodD d)
include hn hm hl hx hk hL hg
theorem verifyAnswers_spec (hll : l.length ≤ 9223372036854775807) (hnn : n ≤ 9223372036854775807) : FnC Tryz.prog 3 [.ints .u8 32 tree, .sl (.ints .u8 n name), aAV l next known W] [] (.bool true) [] := by
  by_cases hN : n ≤ 200
  · have d0 : decide ((200 : Int) < (n : Int)) = false := decide_eq_false (by omega)
    by_cases hF : fewAll l W
    · have hll4 : l.length ≤ 4 := hF.2.1
      have hlk := lookup_spec tree name n hn hm l hl (by omega) next known hx hk W hL hg
      have hhs := history_spec tree name n hn hm l hl (by omega) next known hx hk W hL hg
      have hab := refabsent_spec tree name n hn hm (IntKind.i64.wrap (lastV l l.length + 1)) next known hx hk W hL hg
      rw [lkB_all] at hlk
      rw [show allV tree name ordH l l.length = hsB tree name l l.length from rfl] at hhs
      refine fn0 mix [] 0 3 [.tmp 6] Tryz.func3 rfl (by kernel_rfl) (by kernel_rfl) rfl (by kernel_rfl) (by kernel_rfl) (by simp) ?_
      simp (implicitDefEqProofs := false) (disch := omega) only [go_sem, ↓reduceIte, d0]
      refine call0 (few_ok l next known W hF) ?_
      simp (implicitDefEqProofs := false) (disch := omega) only [go_sem, ↓reduceIte]
      refine loop (ι := Nat) 2 (fun i => i ≤ l.length) (fun i => [(1, .sl (.ints .u8 n name)), (3, .ref 0 []), (5, .ref 1 []), (7, .bool (lkB tree name l i)), (8, .bool (hsB tree name l i)), (9, .int .i64 (lastV l i)), (10, .int .i64 i)])
        (fun i => [(0, .var (.ints .u8 32 tree)), (1, .var (aAV l next known W))]) (fun i => l.length - i) 0 [(0, 0), (1, 1)] [] (Nat.zero_le _) rfl ?_ ?_ ?_ (fun i hi => ?_)
      · simp (implicitDefEqProofs := false) (disch := omega) only [go_sem, ↓reduceIte]
      · simp (implicitDefEqProofs := false) (disch := omega) only [go_sem, ↓reduceIte]
        exact ⟨congrArg AV.bool (by unfold lkB; rw [allV, Bool.and_true]; exact decide_eq_decide.2 (by omega)), rfl, rfl⟩
      · simp (implicitDefEqProofs := false) (disch := omega) only [go_sem, ↓reduceIte]
      simp (implicitDefEqProofs := false) (disch := omega) only [go_sem, ↓reduceIte]
      refine brd (fun h => ?_) (fun h => ?_)
      · have hi' : i < l.length := by omega
        have g1 := fun K => getSV hi' K
        have l1 : (l.map shAV).length = l.length := List.length_map ..
        have hgi : goodSV (l.getD i default) := by rw [List.getD, List.getElem?_eq_getElem hi', Option.getD_some]; exact hl _ (List.getElem_mem _)
        have h1 := refshown_spec tree name n hn hm (l.getD i default) hgi
        have h2 := shown_spec tree name n hn hm (l.getD i default) hgi
        have hv := lastV_succ l i
        obtain ⟨bs, hS⟩ : ∃ b, decide (isShown tree name (l.getD i default)) = b := ⟨_, rfl⟩
        obtain ⟨ba, hA⟩ : ∃ b, lkB tree name l i = b := ⟨_, rfl⟩
        obtain ⟨bb, hB⟩ : ∃ b, hsB tree name l i = b := ⟨_, rfl⟩
        obtain ⟨bc, hC⟩ : ∃ b, decide ((l.getD i default).ver = (i : Int) + 1) = b := ⟨_, rfl⟩
        have e1 := lkB_succ hA hS
        have e2 := hsB_succ hB hS hC
        rw [hS] at h1 h2
        cases bs <;> cases ba <;> cases bb <;> cases bc <;> simp only [Bool.and_true, Bool.and_false, Bool.and_self, Bool.false_and, Bool.true_and] at e1 e2
        all_goals simp (implicitDefEqProofs := false) (disch := omega) only [go_sem, ↓reduceIte, ↓g1, l1, hA, hB]
        all_goals refine call0 h1 ?_
        all_goals simp (implicitDefEqProofs := false) (disch := omega) only [go_sem, ↓reduceIte]
        all_goals refine call0 h2 ?_
        all_goals simp (implicitDefEqProofs := false) (disch := omega) only [go_sem, ↓reduceIte, hA, hB, hC, bff, btt]
        all_goals refine ⟨i + 1, [(0, 0), (1, 1)], [], [], by dsimp only; omega, by dsimp only; omega, rfl, ?_, ?_, ?_⟩ <;> simp (implicitDefEqProofs := false) (disch := omega) only [go_sem, ↓reduceIte, e1, e2, hv]
      obtain rfl : i = l.length := by omega
      obtain ⟨ba, hA⟩ : ∃ b, lkB tree name l l.length = b := ⟨_, rfl⟩
      obtain ⟨bb, hB⟩ : ∃ b, hsB tree name l l.length = b := ⟨_, rfl⟩
      obtain ⟨bc, hC⟩ : ∃ b, decide (isAbsent tree name (IntKind.i64.wrap (lastV l l.length + 1)) next known W) = b := ⟨_, rfl⟩
      rw [hA, hC] at hlk
      rw [hB, hC] at hhs
      rw [hC] at hab
      simp (implicitDefEqProofs := false) (disch := omega) only [go_sem, ↓reduceIte, hA, hB]
      refine call0 hab ?_
      simp (implicitDefEqProofs := false) (disch := omega) only [go_sem, ↓reduceIte]
      refine call0 hlk ?_
      simp (implicitDefEqProofs := false) (disch := omega) only [go_sem, ↓reduceIte]
      cases ba <;> cases bb <;> cases bc <;> simp only [Bool.and_true, Bool.and_false, Bool.and_self, Bool.false_and, Bool.true_and] at hhs
      all_goals simp (implicitDefEqProofs := false) (disch := omega) only [go_sem, ↓reduceIte, hA, hB, bff, btt]
      all_goals refine call0 hhs ?_
      all_goals simp (implicitDefEqProofs := false) (disch := omega) only [go_sem, ↓reduceIte, hA, hB, bff, btt]
      all_goals refine call0 knows22_spec ?_
      all_goals simp (implicitDefEqProofs := false) (disch := omega) only [go_sem, ↓reduceIte]
    · refine fn0 mix [] 0 3 [.tmp 6] Tryz.func3 rfl (by kernel_rfl) (by kernel_rfl) rfl (by kernel_rfl) (by kernel_rfl) (by simp) ?_
      simp (implicitDefEqProofs := false) (disch := omega) only [go_sem, ↓reduceIte, d0]
      refine call0 (few_bad l next known W hll hF) ?_
      simp (implicitDefEqProofs := false) (disch := omega) only [go_sem, ↓reduceIte]
      refine call0 knows22_spec ?_
      simp (implicitDefEqProofs := false) (disch := omega) only [go_sem, ↓reduceIte]
  · have d0 : decide ((200 : Int) < (n : Int)) = true := decide_eq_true (by omega)
    refine fn0 mix [] 0 3 [.tmp 6] Tryz.func3 rfl (by kernel_rfl) (by kernel_rfl) rfl (by kernel_rfl) (by kernel_rfl) (by simp) ?_
    simp (implicitDefEqProofs := false) (disch := omega) only [go_sem, ↓reduceIte, d0]
    refine call0 knows22_spec ?_
    simp (implicitDefEqProofs := false) (disch := omega) only [go_sem, ↓reduceIte]
end
theorem sv_has {b1 b2 : Nat} {x : AV} (h : TD.has (.st [.int .i64, .sl b1 (.int .u8), .arr 32 (.int .u8), .arr 32 (.int .u8), .st [.arr 32 (.int .u8), .sl b2 (.arr 32 (.int .u8))]]) x) : ∃ s : SV, x = shAV s ∧ goodSV s := by
  simp only [TD.has.eq_5, TD.hass] at h
  obtain ⟨_, rfl, _, _, rfl, hv, _, _, rfl, hb, _, _, rfl, hn, _, _, rfl, hs, _, _, rfl, ⟨_, rfl, _, _, rfl, hk, _, _, rfl, hw, rfl⟩, rfl⟩ := h
  obtain ⟨W, rfl, hWg, hWl⟩ := digests_of (bs := b2) hw
  simp only [TD.has, TD.ik] at hv hb hn hs hk
  obtain ⟨v, rfl, _⟩ := hv
  obtain ⟨b, rfl, _, _, hb⟩ := hb
  obtain ⟨n, rfl, hn, hn'⟩ := hn
  obtain ⟨s, rfl, hs, hs'⟩ := hs
  obtain ⟨k, rfl, hk, hk'⟩ := hk
  exact ⟨⟨v, b, n, s, k, W⟩, rfl, fun y hy => wf_u8 (hb y hy), ⟨hn, fun y hy => wf_u8 (hn' y hy)⟩, ⟨hs, fun y hy => wf_u8 (hs' y hy)⟩, ⟨hk, fun y hy => wf_u8 (hk' y hy)⟩, hWg, hWl⟩
end Go.Proofs.YthhlielliopegaaGreat
