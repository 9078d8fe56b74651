/- Grows of the package log. -/
import Derived.Test.YthhlielliopegaaGreatLog5
namespace Go.Proofs.YthhlielliopegaaGreat
open Go Go.Sy Go.Proofs.Tryz
set_option maxRecDepth 100000
set_option maxHeartbeats 8000000
set_option linter.unusedSimpArgs false
set_option linter.unusedVariables false
attribute [go_sem] pl81
def depG : Nat → Nat → Nat → Bool → Nat
  | 0, _, _, _ => 0
  | f + 1, m, n, cut => if m = n then (if cut = true then 1 else 0) else if m ≤ halfN n then depG f m (halfN n) cut + 1 else depG f (m - halfN n) (n - halfN n) true + 1
def groV (a : List Int) (W : List (List Int)) : Nat → Nat → Nat → Bool → List Int × List Int
  | 0, _, _, _ => (a, a)
  | f + 1, m, n, cut => if m = n then (if cut = true then (W.getD 0 [], W.getD 0 []) else (a, a)) else if m ≤ halfN n then ((groV a W f m (halfN n) cut).1, nodeL (groV a W f m (halfN n) cut).2 (W.getD (depG f m (halfN n) cut) []))
    else (nodeL (W.getD (depG f (m - halfN n) (n - halfN n) true) []) (groV a W f (m - halfN n) (n - halfN n) true).1, nodeL (W.getD (depG f (m - halfN n) (n - halfN n) true) []) (groV a W f (m - halfN n) (n - halfN n) true).2)
theorem depG_eq (f n : Nat) (cut : Bool) : depG (f + 1) n n cut = if cut = true then 1 else 0 := by rw [depG, if_pos rfl]
theorem depG_lo (f : Nat) {m n : Nat} (cut : Bool) (h : m ≠ n) (hi : m ≤ halfN n) : depG (f + 1) m n cut = depG f m (halfN n) cut + 1 := by rw [depG, if_neg h, if_pos hi]
theorem depG_hi (f : Nat) {m n : Nat} (cut : Bool) (h : m ≠ n) (hi : ¬ m ≤ halfN n) : depG (f + 1) m n cut = depG f (m - halfN n) (n - halfN n) true + 1 := by rw [depG, if_neg h, if_neg hi]
theorem groV_eq (a : List Int) (W : List (List Int)) (f n : Nat) (cut : Bool) : groV a W (f + 1) n n cut = if cut = true then (W.getD 0 [], W.getD 0 []) else (a, a) := by rw [groV, if_pos rfl]
theorem groV_lo (a : List Int) (W : List (List Int)) (f : Nat) {m n : Nat} (cut : Bool) (h : m ≠ n) (hi : m ≤ halfN n) : groV a W (f + 1) m n cut = ((groV a W f m (halfN n) cut).1, nodeL (groV a W f m (halfN n) cut).2 (W.getD (depG f m (halfN n) cut) [])) := by rw [groV, if_neg h, if_pos hi]
theorem groV_hi (a : List Int) (W : List (List Int)) (f : Nat) {m n : Nat} (cut : Bool) (h : m ≠ n) (hi : ¬ m ≤ halfN n) : groV a W (f + 1) m n cut = (nodeL (W.getD (depG f (m - halfN n) (n - halfN n) true) []) (groV a W f (m - halfN n) (n - halfN n) true).1, nodeL (W.getD (depG f (m - halfN n) (n - halfN n) true) []) (groV a W f (m - halfN n) (n - halfN n) true).2) := by rw [groV, if_neg h, if_neg hi]
theorem take_nil_spec19 : FnC Tryz.prog 80 [.ref 0 []] [(0, .var (.sl (.lst 32 0 [])))] (.tup [.ints .u8 32 (List.replicate 32 0), .bool false]) [(0, .var (.sl (.lst 32 0 [])))] := by
  refine fnN mix [] 1 1 [.cell 1 23, .tmp 2] Tryz.func80 rfl (by kernel_rfl) (by kernel_rfl) rfl (by kernel_rfl) (by kernel_rfl) (by simp) ?_
  simp (implicitDefEqProofs := false) (disch := omega) only [go_sem, ↓reduceIte]
  refine ⟨[(0, 0)], [], [], rfl, ?_, ?_, ?_⟩ <;> simp (implicitDefEqProofs := false) (disch := omega) only [go_sem, ↓reduceIte]
theorem take_cons_spec19 (x : List Int) (R : List (List Int)) (c : Nat) (hc : R.length = c) (hm : c ≤ 1000000) : FnC Tryz.prog 80 [.ref 0 []] [(0, .var (.sl (.lst 32 (c + 1) (.ints .u8 32 x :: R.map dg))))] (.tup [.ints .u8 32 x, .bool true]) [(0, .var (.sl (.lst 32 c (R.map dg))))] := by
  have hlm : (R.map dg).length = c := by rw [List.length_map, hc]
  have etk : (R.map dg).take c = R.map dg := List.take_of_length_le (by omega)
  have ee : decide ((c : Int) + 1 = 0) = false := decide_eq_false (by omega)
  refine fnN mix [] 1 1 [.cell 1 23, .tmp 2] Tryz.func80 rfl (by kernel_rfl) (by kernel_rfl) rfl (by kernel_rfl) (by kernel_rfl) (by simp) ?_
  simp (implicitDefEqProofs := false) (disch := omega) only [go_sem, ↓reduceIte, hlm, etk, ee]
  refine ⟨[(0, 0)], [], [], rfl, ?_, ?_, ?_⟩ <;> simp (implicitDefEqProofs := false) (disch := omega) only [go_sem, ↓reduceIte, Nat.add_sub_cancel, etk]
theorem gup_spec (a : List Int) (ha : goodD a) (W : List (List Int)) (L : Nat) (hW : W.length = L) (hL : L ≤ 1000000) (hg : ∀ d ∈ W, goodD d) : ∀ (f m n : Nat) (cut : Bool), n ≤ f → 1 ≤ m → m ≤ n → n ≤ 1000 →
    ∃ o w, goodD o ∧ goodD w ∧ (depG f m n cut ≤ L → (o, w) = groV a W f m n cut) ∧
    FnC Tryz.prog 81 [.int .i64 m, .int .i64 n, .bool cut, .ref 0 [], .ref 1 [], .ref 2 []]
      [(0, .var (.ints .u8 32 a)), (1, .var (.fn (.func 80) [.ref 3 []])), (2, .var (.fn (.func 81) [.ref 0 [], .ref 1 [], .ref 2 []])), (3, .var (.sl (.lst 32 L (W.map dg))))]
      (.tup [.ints .u8 32 o, .ints .u8 32 w, .bool (decide (depG f m n cut ≤ L))])
      [(0, .var (.ints .u8 32 a)), (1, .var (.fn (.func 80) [.ref 3 []])), (2, .var (.fn (.func 81) [.ref 0 [], .ref 1 [], .ref 2 []])), (3, .var (.sl (.lst 32 (L - depG f m n cut) ((W.drop (depG f m n cut)).map dg))))] := by
  intro f
  induction f with
  | zero => intro m n cut h1 h2 h3; omega
  | succ f ih =>
    intro m n cut h1 h2 h3 h4
    by_cases c1 : m = n
    · subst c1
      rw [depG_eq, groV_eq]
      cases cut
      · refine ⟨a, a, ha, ha, fun _ => rfl, ?_⟩
        rw [if_neg (by decide), decide_eq_true (Nat.zero_le _), Nat.sub_zero, List.drop_zero]
        refine fnN mix pl81 4 6 [.cell 9 23, .cell 10 23, .tmp 11] Tryz.func81 rfl (by kernel_rfl) (by kernel_rfl) rfl (by kernel_rfl) (by kernel_rfl) (by simp) ?_
        simp (implicitDefEqProofs := false) (disch := omega) only [go_sem, ↓reduceIte]
        refine ⟨[(0, 0), (1, 1), (2, 2), (3, 3)], [], [], rfl, ?_, ?_, ?_⟩ <;> simp (implicitDefEqProofs := false) (disch := omega) only [go_sem, ↓reduceIte]
      · rw [if_pos rfl, if_pos rfl]
        obtain _ | L := L
        · have hW0 : W = [] := List.length_eq_zero_iff.1 hW
          subst hW0
          refine ⟨List.replicate 32 0, List.replicate 32 0, zero_good, zero_good, fun h => by omega, ?_⟩
          refine fnN mix pl81 4 6 [.cell 9 23, .cell 10 23, .tmp 11] Tryz.func81 rfl (by kernel_rfl) (by kernel_rfl) rfl (by kernel_rfl) (by kernel_rfl) (by simp) ?_
          simp (implicitDefEqProofs := false) (disch := omega) only [go_sem, ↓reduceIte, List.map_nil]
          refine callG false [(0, 3)] [(0, 3)] 6 take_nil_spec19 ?_ ?_
          · simp [keys]
          simp (implicitDefEqProofs := false) (disch := omega) only [go_sem, ↓reduceIte]
          refine ⟨[(0, 0), (1, 1), (2, 2), (3, 3)], [], [], rfl, ?_, ?_, ?_⟩ <;> simp (implicitDefEqProofs := false) (disch := omega) only [go_sem, ↓reduceIte, List.drop_nil, List.map_nil]
        · obtain ⟨x, R, rfl⟩ : ∃ x R, W = x :: R := by
            cases W with
            | nil => simp at hW
            | cons x R => exact ⟨x, R, rfl⟩
          rw [List.length_cons] at hW
          have hxg := hg x (List.mem_cons_self ..)
          have htk := take_cons_spec19 x R L (by omega) (by omega)
          have e1 : decide (1 ≤ L + 1) = true := decide_eq_true (by omega)
          refine ⟨x, x, hxg, hxg, fun _ => rfl, ?_⟩
          rw [e1, List.map_cons, List.drop_succ_cons, List.drop_zero, Nat.add_sub_cancel]
          refine fnN mix pl81 4 6 [.cell 9 23, .cell 10 23, .tmp 11] Tryz.func81 rfl (by kernel_rfl) (by kernel_rfl) rfl (by kernel_rfl) (by kernel_rfl) (by simp) ?_
          simp (implicitDefEqProofs := false) (disch := omega) only [go_sem, ↓reduceIte, dg]
          refine callG false [(0, 3)] [(0, 3)] 6 htk ?_ ?_
          · simp [keys]
          simp (implicitDefEqProofs := false) (disch := omega) only [go_sem, ↓reduceIte]
          refine ⟨[(0, 0), (1, 1), (2, 2), (3, 3)], [], [], rfl, ?_, ?_, ?_⟩ <;> simp (implicitDefEqProofs := false) (disch := omega) only [go_sem, ↓reduceIte]
    have hk := halfN_lt (show 2 ≤ n by omega)
    have d1 : decide ((m : Int) = (n : Int)) = false := decide_eq_false (by omega)
    by_cases c2 : m ≤ halfN n
    · have d2 : decide ((m : Int) ≤ (halfN n : Int)) = true := decide_eq_true (by omega)
      have i3 : True := trivial
      have i4 : True := trivial
      obtain ⟨o, w, ho, hw, hv, hc⟩ := ih m (halfN n) cut (by omega) (by omega) (by omega) (by omega)
      rw [depG_lo f cut c1 c2, groV_lo _ _ f cut c1 c2]
      generalize depG f m (halfN n) cut = D at *
      generalize groV a W f m (halfN n) cut = V at *
      by_cases cd : D < L
      · have hdr := drop_cons' (W := W) (d := D) (by omega)
        have hxg := getD_good hg (show D < W.length by omega)
        have e1 : decide (D ≤ L) = true := decide_eq_true (by omega)
        have e2 : decide (D + 1 ≤ L) = true := decide_eq_true (by omega)
        have hmm : L - D = (L - (D + 1)) + 1 := by omega
        have hlr : (W.drop (D + 1)).length = L - (D + 1) := by rw [List.length_drop, hW]
        rw [e2]
        rw [hdr, hmm, e1, List.map_cons] at hc
        have hv := hv (by omega)
        generalize W.drop (D + 1) = R at *
        generalize W.getD D [] = x at *
        have hcl : L - (D + 1) ≤ 1000000 := by omega
        generalize L - (D + 1) = c at *
        have htk := take_cons_spec19 x R c hlr hcl
        refine ⟨o, nodeL w x, ho, nodeL_good _ _, fun _ => by rw [← hv], ?_⟩
        refine fnN mix pl81 4 6 [.cell 9 23, .cell 10 23, .tmp 11] Tryz.func81 rfl (by kernel_rfl) (by kernel_rfl) rfl (by kernel_rfl) (by kernel_rfl) (by simp) ?_
        simp (implicitDefEqProofs := false) (disch := omega) only [go_sem, ↓reduceIte, d1]
        refine call0 (half_spec n (by omega) h4) ?_
        simp (implicitDefEqProofs := false) (disch := omega) only [go_sem, ↓reduceIte, d2, i3, i4]
        refine callG false [(0, 0), (1, 1), (2, 2), (3, 3)] [(0, 0), (1, 1), (2, 2), (3, 3)] 6 hc ?_ ?_
        · simp [keys]
        simp (implicitDefEqProofs := false) (disch := omega) only [go_sem, ↓reduceIte, dg]
        refine callG false [(0, 3)] [(0, 3)] 8 htk ?_ ?_
        · simp [keys]
        simp (implicitDefEqProofs := false) (disch := omega) only [go_sem, ↓reduceIte]
        refine call0 (node_spec17 _ _ hw hxg) ?_
        simp (implicitDefEqProofs := false) (disch := omega) only [go_sem, ↓reduceIte]
        skip
        try simp (implicitDefEqProofs := false) (disch := omega) only [go_sem, ↓reduceIte]
        refine ⟨[(0, 0), (1, 1), (2, 2), (3, 3)], [], [], rfl, ?_, ?_, ?_⟩ <;> simp (implicitDefEqProofs := false) (disch := omega) only [go_sem, ↓reduceIte]
      · have hd0 : W.drop D = [] := List.drop_eq_nil_of_le (by omega)
        have hd1 : W.drop (D + 1) = [] := List.drop_eq_nil_of_le (by omega)
        have hm0 : L - D = 0 := by omega
        have hm1 : L - (D + 1) = 0 := by omega
        have e2 : decide (D + 1 ≤ L) = false := decide_eq_false (by omega)
        rw [hm0, hd0, List.map_nil] at hc
        rw [hm1, hd1, e2, List.map_nil]
        refine ⟨o, nodeL w (List.replicate 32 0), ho, nodeL_good _ _, fun h => absurd h (by omega), ?_⟩
        refine fnN mix pl81 4 6 [.cell 9 23, .cell 10 23, .tmp 11] Tryz.func81 rfl (by kernel_rfl) (by kernel_rfl) rfl (by kernel_rfl) (by kernel_rfl) (by simp) ?_
        simp (implicitDefEqProofs := false) (disch := omega) only [go_sem, ↓reduceIte, d1]
        refine call0 (half_spec n (by omega) h4) ?_
        simp (implicitDefEqProofs := false) (disch := omega) only [go_sem, ↓reduceIte, d2, i3, i4]
        refine callG false [(0, 0), (1, 1), (2, 2), (3, 3)] [(0, 0), (1, 1), (2, 2), (3, 3)] 6 hc ?_ ?_
        · simp [keys]
        generalize decide (D ≤ L) = B at *
        simp (implicitDefEqProofs := false) (disch := omega) only [go_sem, ↓reduceIte]
        refine callG false [(0, 3)] [(0, 3)] 8 take_nil_spec19 ?_ ?_
        · simp [keys]
        simp (implicitDefEqProofs := false) (disch := omega) only [go_sem, ↓reduceIte, List.map_nil]
        skip
        try simp (implicitDefEqProofs := false) (disch := omega) only [go_sem, ↓reduceIte]
        refine call0 (node_spec17 _ _ hw zero_good) ?_
        cases B
        · simp (implicitDefEqProofs := false) (disch := omega) only [go_sem, ↓reduceIte]
          refine ⟨[(0, 0), (1, 1), (2, 2), (3, 3)], [], [], rfl, ?_, ?_, ?_⟩ <;> simp (implicitDefEqProofs := false) (disch := omega) only [go_sem, ↓reduceIte]
        · simp (implicitDefEqProofs := false) (disch := omega) only [go_sem, ↓reduceIte]
          refine ⟨[(0, 0), (1, 1), (2, 2), (3, 3)], [], [], rfl, ?_, ?_, ?_⟩ <;> simp (implicitDefEqProofs := false) (disch := omega) only [go_sem, ↓reduceIte]
    · have d2 : decide ((m : Int) ≤ (halfN n : Int)) = false := decide_eq_false (by omega)
      have i3 : (n : Int) - (halfN n : Int) = ((n - halfN n : Nat) : Int) := by omega
      have i4 : (m : Int) - (halfN n : Int) = ((m - halfN n : Nat) : Int) := by omega
      obtain ⟨o, w, ho, hw, hv, hc⟩ := ih (m - halfN n) (n - halfN n) true (by omega) (by omega) (by omega) (by omega)
      rw [depG_hi f cut c1 c2, groV_hi _ _ f cut c1 c2]
      generalize depG f (m - halfN n) (n - halfN n) true = D at *
      generalize groV a W f (m - halfN n) (n - halfN n) true = V at *
      by_cases cd : D < L
      · have hdr := drop_cons' (W := W) (d := D) (by omega)
        have hxg := getD_good hg (show D < W.length by omega)
        have e1 : decide (D ≤ L) = true := decide_eq_true (by omega)
        have e2 : decide (D + 1 ≤ L) = true := decide_eq_true (by omega)
        have hmm : L - D = (L - (D + 1)) + 1 := by omega
        have hlr : (W.drop (D + 1)).length = L - (D + 1) := by rw [List.length_drop, hW]
        rw [e2]
        rw [hdr, hmm, e1, List.map_cons] at hc
        have hv := hv (by omega)
        generalize W.drop (D + 1) = R at *
        generalize W.getD D [] = x at *
        have hcl : L - (D + 1) ≤ 1000000 := by omega
        generalize L - (D + 1) = c at *
        have htk := take_cons_spec19 x R c hlr hcl
        refine ⟨nodeL x o, nodeL x w, nodeL_good _ _, nodeL_good _ _, fun _ => by rw [← hv], ?_⟩
        refine fnN mix pl81 4 6 [.cell 9 23, .cell 10 23, .tmp 11] Tryz.func81 rfl (by kernel_rfl) (by kernel_rfl) rfl (by kernel_rfl) (by kernel_rfl) (by simp) ?_
        simp (implicitDefEqProofs := false) (disch := omega) only [go_sem, ↓reduceIte, d1]
        refine call0 (half_spec n (by omega) h4) ?_
        simp (implicitDefEqProofs := false) (disch := omega) only [go_sem, ↓reduceIte, d2, i3, i4]
        refine callG false [(0, 0), (1, 1), (2, 2), (3, 3)] [(0, 0), (1, 1), (2, 2), (3, 3)] 6 hc ?_ ?_
        · simp [keys]
        simp (implicitDefEqProofs := false) (disch := omega) only [go_sem, ↓reduceIte, dg]
        refine callG false [(0, 3)] [(0, 3)] 8 htk ?_ ?_
        · simp [keys]
        simp (implicitDefEqProofs := false) (disch := omega) only [go_sem, ↓reduceIte]
        refine call0 (node_spec17 _ _ hxg ho) ?_
        simp (implicitDefEqProofs := false) (disch := omega) only [go_sem, ↓reduceIte]
        refine call0 (node_spec17 _ _ hxg hw) ?_
        try simp (implicitDefEqProofs := false) (disch := omega) only [go_sem, ↓reduceIte]
        refine ⟨[(0, 0), (1, 1), (2, 2), (3, 3)], [], [], rfl, ?_, ?_, ?_⟩ <;> simp (implicitDefEqProofs := false) (disch := omega) only [go_sem, ↓reduceIte]
      · have hd0 : W.drop D = [] := List.drop_eq_nil_of_le (by omega)
        have hd1 : W.drop (D + 1) = [] := List.drop_eq_nil_of_le (by omega)
        have hm0 : L - D = 0 := by omega
        have hm1 : L - (D + 1) = 0 := by omega
        have e2 : decide (D + 1 ≤ L) = false := decide_eq_false (by omega)
        rw [hm0, hd0, List.map_nil] at hc
        rw [hm1, hd1, e2, List.map_nil]
        refine ⟨nodeL (List.replicate 32 0) o, nodeL (List.replicate 32 0) w, nodeL_good _ _, nodeL_good _ _, fun h => absurd h (by omega), ?_⟩
        refine fnN mix pl81 4 6 [.cell 9 23, .cell 10 23, .tmp 11] Tryz.func81 rfl (by kernel_rfl) (by kernel_rfl) rfl (by kernel_rfl) (by kernel_rfl) (by simp) ?_
        simp (implicitDefEqProofs := false) (disch := omega) only [go_sem, ↓reduceIte, d1]
        refine call0 (half_spec n (by omega) h4) ?_
        simp (implicitDefEqProofs := false) (disch := omega) only [go_sem, ↓reduceIte, d2, i3, i4]
        refine callG false [(0, 0), (1, 1), (2, 2), (3, 3)] [(0, 0), (1, 1), (2, 2), (3, 3)] 6 hc ?_ ?_
        · simp [keys]
        generalize decide (D ≤ L) = B at *
        simp (implicitDefEqProofs := false) (disch := omega) only [go_sem, ↓reduceIte]
        refine callG false [(0, 3)] [(0, 3)] 8 take_nil_spec19 ?_ ?_
        · simp [keys]
        simp (implicitDefEqProofs := false) (disch := omega) only [go_sem, ↓reduceIte, List.map_nil]
        refine call0 (node_spec17 _ _ zero_good ho) ?_
        try simp (implicitDefEqProofs := false) (disch := omega) only [go_sem, ↓reduceIte]
        refine call0 (node_spec17 _ _ zero_good hw) ?_
        cases B
        · simp (implicitDefEqProofs := false) (disch := omega) only [go_sem, ↓reduceIte]
          refine ⟨[(0, 0), (1, 1), (2, 2), (3, 3)], [], [], rfl, ?_, ?_, ?_⟩ <;> simp (implicitDefEqProofs := false) (disch := omega) only [go_sem, ↓reduceIte]
        · simp (implicitDefEqProofs := false) (disch := omega) only [go_sem, ↓reduceIte]
          refine ⟨[(0, 0), (1, 1), (2, 2), (3, 3)], [], [], rfl, ?_, ?_, ?_⟩ <;> simp (implicitDefEqProofs := false) (disch := omega) only [go_sem, ↓reduceIte]
end Go.Proofs.YthhlielliopegaaGreat
