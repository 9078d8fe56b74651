/- Holds and Grows of the package log, and of planchetref19. -/
import Derived.Test.YtegbkbkcfcjkbaaLog3
namespace Go.Proofs.Ytegbkbkcfcjkbaa
open Go Go.Sy Go.Proofs.Try
set_option maxRecDepth 100000
set_option maxHeartbeats 8000000
set_option linter.unusedSimpArgs false
set_option linter.unusedVariables false

/-- How many digests the way of a place has. -/
def depH : Nat → Nat → Nat → Nat
  | 0, _, _ => 0
  | f + 1, n, i => if n ≤ 1 then 0 else if i < halfN n then depH f (halfN n) i + 1 else depH f (n - halfN n) (i - halfN n) + 1
/-- Where a way leads to from a leaf. -/
def upV (x : List Int) (W : List (List Int)) : Nat → Nat → Nat → List Int
  | 0, _, _ => x
  | f + 1, n, i => if n ≤ 1 then x else if i < halfN n then nodeL (upV x W f (halfN n) i) (W.getD (depH f (halfN n) i) []) else nodeL (W.getD (depH f (n - halfN n) (i - halfN n)) []) (upV x W f (n - halfN n) (i - halfN n))
theorem upV_congr (x : List Int) (W W' : List (List Int)) : ∀ (f n i : Nat), (∀ j, j < depH f n i → W.getD j [] = W'.getD j []) → upV x W f n i = upV x W' f n i
  | 0, _, _, _ => rfl
  | f + 1, n, i, h => by
    rw [depH] at h
    rw [upV, upV]
    by_cases c : n ≤ 1
    · rw [if_pos c, if_pos c]
    rw [if_neg c, if_neg c]
    rw [if_neg c] at h
    by_cases c2 : i < halfN n
    · rw [if_pos c2, if_pos c2]
      rw [if_pos c2] at h
      rw [upV_congr x W W' f (halfN n) i (fun j hj => h j (by omega)), h (depH f (halfN n) i) (by omega)]
    · rw [if_neg c2, if_neg c2]
      rw [if_neg c2] at h
      rw [upV_congr x W W' f (n - halfN n) (i - halfN n) (fun j hj => h j (by omega)), h (depH f (n - halfN n) (i - halfN n)) (by omega)]
theorem drop_cons' {W : List (List Int)} {d : Nat} (h : d < W.length) : W.drop d = W.getD d [] :: W.drop (d + 1) := by
  rw [List.drop_eq_getElem_cons h]
  simp only [List.getD, List.getElem?_eq_getElem h, Option.getD_some]
theorem upV_good {x : List Int} (hx : goodD x) {W : List (List Int)} : ∀ (f n i : Nat), goodD (upV x W f n i)
  | 0, _, _ => hx
  | f + 1, n, i => by
    rw [upV]
    split
    · exact hx
    · split <;> exact nodeL_good _ _
theorem depH_one (f i : Nat) : depH (f + 1) 1 i = 0 := by rw [depH, if_pos (Nat.le_refl 1)]
theorem depH_lo (f : Nat) {n i : Nat} (h : 2 ≤ n) (hi : i < halfN n) : depH (f + 1) n i = depH f (halfN n) i + 1 := by rw [depH, if_neg (by omega), if_pos hi]
theorem depH_hi (f : Nat) {n i : Nat} (h : 2 ≤ n) (hi : ¬ i < halfN n) : depH (f + 1) n i = depH f (n - halfN n) (i - halfN n) + 1 := by rw [depH, if_neg (by omega), if_neg hi]
theorem upV_one (x : List Int) (W : List (List Int)) (f i : Nat) : upV x W (f + 1) 1 i = x := by rw [upV, if_pos (Nat.le_refl 1)]
theorem upV_lo (x : List Int) (W : List (List Int)) (f : Nat) {n i : Nat} (h : 2 ≤ n) (hi : i < halfN n) : upV x W (f + 1) n i = nodeL (upV x W f (halfN n) i) (W.getD (depH f (halfN n) i) []) := by rw [upV, if_neg (by omega), if_pos hi]
theorem upV_hi (x : List Int) (W : List (List Int)) (f : Nat) {n i : Nat} (h : 2 ≤ n) (hi : ¬ i < halfN n) : upV x W (f + 1) n i = nodeL (W.getD (depH f (n - halfN n) (i - halfN n)) []) (upV x W f (n - halfN n) (i - halfN n)) := by rw [upV, if_neg (by omega), if_neg hi]
theorem hup_spec (b : List Int) (bn : Nat) (hbn : b.length = bn) (hb : ∀ x ∈ b, 0 ≤ x ∧ x < 256) (hbl : bn ≤ 100000) (W : List (List Int)) (m : Nat) (hW : W.length = m) (hm : m ≤ 1000000) (hg : ∀ d ∈ W, goodD d) : ∀ (f n i : Nat), n ≤ f → 1 ≤ n → n ≤ 1000 → i < n →
    FnC Try.prog 74 [.int .i64 n, .int .i64 i, .ref 0 [], .ref 1 [], .ref 2 []]
      [(0, .var (.sl (.ints .u8 bn b))), (1, .var (.fn (.func 74) [.ref 0 [], .ref 1 [], .ref 2 []])), (2, .var (.sl (.lst 32 m (W.map dg))))]
      (.tup [.ints .u8 32 (if depH f n i ≤ m then upV (leafL b) W f n i else List.replicate 32 0), .bool (decide (depH f n i ≤ m))])
      [(0, .var (.sl (.ints .u8 bn b))), (1, .var (.fn (.func 74) [.ref 0 [], .ref 1 [], .ref 2 []])), (2, .var (.sl (.lst 32 (m - depH f n i) ((W.drop (depH f n i)).map dg))))] := by
  intro f
  induction f with
  | zero => intro n i h1 h2; omega
  | succ f ih =>
    intro n i h1 h2 h3 h4
    by_cases c1 : n = 1
    · subst c1
      rw [depH_one, upV_one, if_pos (Nat.zero_le _), decide_eq_true (Nat.zero_le _), Nat.sub_zero, List.drop_zero]
      refine fnN mix [] 3 5 [.cell 7 63, .tmp 8] Try.func74 rfl (by kernel_rfl) (by kernel_rfl) rfl (by kernel_rfl) (by kernel_rfl) (by simp) ?_
      simp (implicitDefEqProofs := false) (disch := omega) only [go_sem, ↓reduceIte]
      refine call0 (leaf_spec19 b bn hbn hb hbl) ?_
      simp (implicitDefEqProofs := false) (disch := omega) only [go_sem, ↓reduceIte]
      refine ⟨[(0, 0), (1, 1), (2, 2)], [], [], rfl, ?_, ?_, ?_⟩ <;> simp (implicitDefEqProofs := false) (disch := omega) only [go_sem, ↓reduceIte]
    have hk := halfN_lt (show 2 ≤ n by omega)
    have d1 : decide ((n : Int) = 1) = false := decide_eq_false (by omega)
    by_cases c2 : i < halfN n
    · rw [depH_lo f (by omega) c2, upV_lo _ _ f (by omega) c2]
      have d2 : decide ((halfN n : Int) ≤ (i : Int)) = false := decide_eq_false (by omega)
      have d3 : decide ((i : Int) < (halfN n : Int)) = true := decide_eq_true (by omega)
      have hc := ih (halfN n) i (by omega) (by omega) (by omega) c2
      refine fnN mix [] 3 5 [.cell 7 63, .tmp 8] Try.func74 rfl (by kernel_rfl) (by kernel_rfl) rfl (by kernel_rfl) (by kernel_rfl) (by simp) ?_
      simp (implicitDefEqProofs := false) (disch := omega) only [go_sem, ↓reduceIte, d1]
      refine call0 (half_spec n (by omega) h3) ?_
      simp (implicitDefEqProofs := false) (disch := omega) only [go_sem, ↓reduceIte, d2]
      have hVg := upV_good (leafL_good b) (W := W) f (halfN n) i
      generalize depH f (halfN n) i = D at *
      generalize upV (leafL b) W f (halfN n) i = V at *
      refine callG false [(0, 0), (1, 1), (2, 2)] [(0, 0), (1, 1), (2, 2)] 4 hc ?_ ?_
      · simp [keys]
      by_cases cd : D < m
      · have hdr := drop_cons' (W := W) (d := D) (by omega)
        have hxg := getD_good hg (show D < W.length by omega)
        have e1 : decide (D ≤ m) = true := decide_eq_true (by omega)
        have e2 : decide (D + 1 ≤ m) = true := decide_eq_true (by omega)
        have hmm : m - D = (m - (D + 1)) + 1 := by omega
        have hlr : (W.drop (D + 1)).length = m - (D + 1) := by rw [List.length_drop, hW]
        rw [hdr, hmm, e1, if_pos (show D ≤ m by omega), e2, if_pos (show D + 1 ≤ m by omega)]
        generalize W.drop (D + 1) = R at *
        generalize W.getD D [] = x at *
        generalize m - (D + 1) = c at *
        have hlm : (R.map dg).length = c := by rw [List.length_map, hlr]
        have etk : (R.map dg).take c = R.map dg := List.take_of_length_le (by omega)
        have ee : decide ((c : Int) + 1 = 0) = false := decide_eq_false (by omega)
        simp (implicitDefEqProofs := false) (disch := omega) only [go_sem, ↓reduceIte, dg, hlm, etk, ee, d3]
        refine call0 (node_spec17 _ _ hVg hxg) ?_
        simp (implicitDefEqProofs := false) (disch := omega) only [go_sem, ↓reduceIte, dg, hlm, etk]
        refine ⟨[(0, 0), (1, 1), (2, 2)], [], [], rfl, ?_, ?_, ?_⟩ <;> simp (implicitDefEqProofs := false) (disch := omega) only [go_sem, ↓reduceIte, Nat.add_sub_cancel, etk]
      · by_cases ce : D ≤ m
        · have e1 : decide (D ≤ m) = true := decide_eq_true ce
          have e2 : decide (D + 1 ≤ m) = false := decide_eq_false (by omega)
          have hm0 : m - D = 0 := by omega
          have hm1 : m - (D + 1) = 0 := by omega
          have hd0 : W.drop D = [] := List.drop_eq_nil_of_le (by omega)
          have hd1 : W.drop (D + 1) = [] := List.drop_eq_nil_of_le (by omega)
          rw [hm0, hm1, hd0, hd1, e1, e2, if_pos ce, if_neg (show ¬ D + 1 ≤ m by omega)]
          simp (implicitDefEqProofs := false) (disch := omega) only [go_sem, ↓reduceIte]
          refine ⟨[(0, 0), (1, 1), (2, 2)], [], [], rfl, ?_, ?_, ?_⟩ <;> simp (implicitDefEqProofs := false) (disch := omega) only [go_sem, ↓reduceIte]
        · have e1 : decide (D ≤ m) = false := decide_eq_false ce
          have e2 : decide (D + 1 ≤ m) = false := decide_eq_false (by omega)
          have hm0 : m - D = 0 := by omega
          have hm1 : m - (D + 1) = 0 := by omega
          have hd0 : W.drop D = [] := List.drop_eq_nil_of_le (by omega)
          have hd1 : W.drop (D + 1) = [] := List.drop_eq_nil_of_le (by omega)
          rw [hm0, hm1, hd0, hd1, e1, e2, if_neg ce, if_neg (show ¬ D + 1 ≤ m by omega)]
          simp (implicitDefEqProofs := false) (disch := omega) only [go_sem, ↓reduceIte]
          refine ⟨[(0, 0), (1, 1), (2, 2)], [], [], rfl, ?_, ?_, ?_⟩ <;> simp (implicitDefEqProofs := false) (disch := omega) only [go_sem, ↓reduceIte]
    · rw [depH_hi f (by omega) c2, upV_hi _ _ f (by omega) c2]
      have d2 : decide ((halfN n : Int) ≤ (i : Int)) = true := decide_eq_true (by omega)
      have d3 : decide ((i : Int) < (halfN n : Int)) = false := decide_eq_false (by omega)
      have i3 : (n : Int) - (halfN n : Int) = ((n - halfN n : Nat) : Int) := by omega
      have i4 : (i : Int) - (halfN n : Int) = ((i - halfN n : Nat) : Int) := by omega
      have hc := ih (n - halfN n) (i - halfN n) (by omega) (by omega) (by omega) (by omega)
      refine fnN mix [] 3 5 [.cell 7 63, .tmp 8] Try.func74 rfl (by kernel_rfl) (by kernel_rfl) rfl (by kernel_rfl) (by kernel_rfl) (by simp) ?_
      simp (implicitDefEqProofs := false) (disch := omega) only [go_sem, ↓reduceIte, d1]
      refine call0 (half_spec n (by omega) h3) ?_
      simp (implicitDefEqProofs := false) (disch := omega) only [go_sem, ↓reduceIte, d2, i3, i4]
      have hVg := upV_good (leafL_good b) (W := W) f (n - halfN n) (i - halfN n)
      generalize depH f (n - halfN n) (i - halfN n) = D at *
      generalize upV (leafL b) W f (n - halfN n) (i - halfN n) = V at *
      refine callG false [(0, 0), (1, 1), (2, 2)] [(0, 0), (1, 1), (2, 2)] 4 hc ?_ ?_
      · simp [keys]
      by_cases cd : D < m
      · have hdr := drop_cons' (W := W) (d := D) (by omega)
        have hxg := getD_good hg (show D < W.length by omega)
        have e1 : decide (D ≤ m) = true := decide_eq_true (by omega)
        have e2 : decide (D + 1 ≤ m) = true := decide_eq_true (by omega)
        have hmm : m - D = (m - (D + 1)) + 1 := by omega
        have hlr : (W.drop (D + 1)).length = m - (D + 1) := by rw [List.length_drop, hW]
        rw [hdr, hmm, e1, if_pos (show D ≤ m by omega), e2, if_pos (show D + 1 ≤ m by omega)]
        generalize W.drop (D + 1) = R at *
        generalize W.getD D [] = x at *
        generalize m - (D + 1) = c at *
        have hlm : (R.map dg).length = c := by rw [List.length_map, hlr]
        have etk : (R.map dg).take c = R.map dg := List.take_of_length_le (by omega)
        have ee : decide ((c : Int) + 1 = 0) = false := decide_eq_false (by omega)
        simp (implicitDefEqProofs := false) (disch := omega) only [go_sem, ↓reduceIte, dg, hlm, etk, ee, d3]
        refine call0 (node_spec17 _ _ hxg hVg) ?_
        simp (implicitDefEqProofs := false) (disch := omega) only [go_sem, ↓reduceIte, dg, hlm, etk]
        refine ⟨[(0, 0), (1, 1), (2, 2)], [], [], rfl, ?_, ?_, ?_⟩ <;> simp (implicitDefEqProofs := false) (disch := omega) only [go_sem, ↓reduceIte, Nat.add_sub_cancel, etk]
      · by_cases ce : D ≤ m
        · have e1 : decide (D ≤ m) = true := decide_eq_true ce
          have e2 : decide (D + 1 ≤ m) = false := decide_eq_false (by omega)
          have hm0 : m - D = 0 := by omega
          have hm1 : m - (D + 1) = 0 := by omega
          have hd0 : W.drop D = [] := List.drop_eq_nil_of_le (by omega)
          have hd1 : W.drop (D + 1) = [] := List.drop_eq_nil_of_le (by omega)
          rw [hm0, hm1, hd0, hd1, e1, e2, if_pos ce, if_neg (show ¬ D + 1 ≤ m by omega)]
          simp (implicitDefEqProofs := false) (disch := omega) only [go_sem, ↓reduceIte]
          refine ⟨[(0, 0), (1, 1), (2, 2)], [], [], rfl, ?_, ?_, ?_⟩ <;> simp (implicitDefEqProofs := false) (disch := omega) only [go_sem, ↓reduceIte]
        · have e1 : decide (D ≤ m) = false := decide_eq_false ce
          have e2 : decide (D + 1 ≤ m) = false := decide_eq_false (by omega)
          have hm0 : m - D = 0 := by omega
          have hm1 : m - (D + 1) = 0 := by omega
          have hd0 : W.drop D = [] := List.drop_eq_nil_of_le (by omega)
          have hd1 : W.drop (D + 1) = [] := List.drop_eq_nil_of_le (by omega)
          rw [hm0, hm1, hd0, hd1, e1, e2, if_neg ce, if_neg (show ¬ D + 1 ≤ m by omega)]
          simp (implicitDefEqProofs := false) (disch := omega) only [go_sem, ↓reduceIte]
          refine ⟨[(0, 0), (1, 1), (2, 2)], [], [], rfl, ?_, ?_, ?_⟩ <;> simp (implicitDefEqProofs := false) (disch := omega) only [go_sem, ↓reduceIte]
def holdsP (d : List Int) (n i : Int) (b : List Int) (W : List (List Int)) : Prop := 1 ≤ n ∧ n ≤ 200 ∧ 0 ≤ i ∧ i < n ∧ depH n.toNat n.toNat i.toNat = W.length ∧ upV (leafL b) W n.toNat n.toNat i.toNat = d
instance (d : List Int) (n i : Int) (b : List Int) (W : List (List Int)) : Decidable (holdsP d n i b W) := by unfold holdsP; infer_instance
theorem holds_spec (d b : List Int) (bn : Nat) (n i : Int) (W : List (List Int)) (m : Nat) (hd : goodD d) (hbn : b.length = bn) (hb : ∀ x ∈ b, 0 ≤ x ∧ x < 256) (hbl : bn ≤ 100000) (hW : W.length = m) (hm : m ≤ 1000000) (hg : ∀ d ∈ W, goodD d) :
    FnC Try.prog 39 [.ints .u8 32 d, .int .i64 n, .int .i64 i, .sl (.ints .u8 bn b), .sl (.lst 32 m (W.map dg))] [] (.bool (decide (holdsP d n i b W))) [] := by
  refine fn0 mix [] 0 5 [.tmp 10] Try.func39 rfl (by kernel_rfl) (by kernel_rfl) rfl (by kernel_rfl) (by kernel_rfl) (by simp) ?_
  simp (implicitDefEqProofs := false) (disch := omega) only [go_sem, ↓reduceIte]
  refine brd (fun h => ?_) (fun h1 => ?_)
  · have h := h
    have e : decide (holdsP d n i b W) = false := decide_eq_false (fun h => by unfold holdsP at h; omega)
    rw [e]
    simp (implicitDefEqProofs := false) (disch := omega) only [go_sem, ↓reduceIte]
  simp (implicitDefEqProofs := false) (disch := omega) only [go_sem, ↓reduceIte]
  refine brd (fun h => ?_) (fun h2 => ?_)
  · have h := h
    have e : decide (holdsP d n i b W) = false := decide_eq_false (fun h => by unfold holdsP at h; omega)
    rw [e]
    simp (implicitDefEqProofs := false) (disch := omega) only [go_sem, ↓reduceIte]
  simp (implicitDefEqProofs := false) (disch := omega) only [go_sem, ↓reduceIte]
  refine brd (fun h => ?_) (fun h3 => ?_)
  · have h := h
    have e : decide (holdsP d n i b W) = false := decide_eq_false (fun h => by unfold holdsP at h; omega)
    rw [e]
    simp (implicitDefEqProofs := false) (disch := omega) only [go_sem, ↓reduceIte]
  simp (implicitDefEqProofs := false) (disch := omega) only [go_sem, ↓reduceIte]
  refine brd (fun h => ?_) (fun h4 => ?_)
  · have h := h
    have e : decide (holdsP d n i b W) = false := decide_eq_false (fun h => by unfold holdsP at h; omega)
    rw [e]
    simp (implicitDefEqProofs := false) (disch := omega) only [go_sem, ↓reduceIte]
  obtain ⟨N, rfl⟩ := Int.eq_ofNat_of_zero_le (show 0 ≤ n by omega)
  obtain ⟨I, rfl⟩ := Int.eq_ofNat_of_zero_le (show 0 ≤ i by omega)
  have hc := hup_spec b bn hbn hb hbl W m hW hm hg N N I (Nat.le_refl _) (by omega) (by omega) (by omega)
  have e : decide (holdsP d N I b W) = decide (depH N N I = m ∧ upV (leafL b) W N N I = d) := by
    apply decide_eq_decide.2
    unfold holdsP
    rw [Int.toNat_natCast, Int.toNat_natCast, hW]
    constructor
    · intro h; exact ⟨h.2.2.2.2.1, h.2.2.2.2.2⟩
    · intro h; exact ⟨by omega, by omega, by omega, by omega, h.1, h.2⟩
  rw [e]
  generalize depH N N I = D at *
  generalize upV (leafL b) W N N I = V at *
  simp (implicitDefEqProofs := false) (disch := omega) only [go_sem, ↓reduceIte]
  refine callG false [(0, 1), (1, 3), (2, 2)] [(0, 1), (1, 3), (2, 2)] 4 hc ?_ ?_
  · simp [keys]
  by_cases c1 : D ≤ m
  · rw [decide_eq_true c1, if_pos c1]
    by_cases c2 : D = m
    · subst c2
      have e2 : decide (D = D ∧ V = d) = decide (V = d) := by simp
      rw [Nat.sub_self, e2]
      simp (implicitDefEqProofs := false) (disch := omega) only [go_sem, ↓reduceIte]
    · have e2 : decide (D = m ∧ V = d) = false := decide_eq_false (fun h => c2 h.1)
      rw [e2]
      have e3 : decide (((m - D : Nat) : Int) = 0) = false := decide_eq_false (by omega)
      have e4 : ¬ m - D = 0 := by omega
      simp (implicitDefEqProofs := false) (disch := omega) only [go_sem, ↓reduceIte, e3, e4]
  · rw [decide_eq_false c1, if_neg c1]
    have e2 : decide (D = m ∧ V = d) = false := decide_eq_false (fun h => c1 (by omega))
    rw [e2]
    simp (implicitDefEqProofs := false) (disch := omega) only [go_sem, ↓reduceIte]
end Go.Proofs.Ytegbkbkcfcjkbaa
