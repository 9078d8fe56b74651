/- Ways of logs: the contracts of log.Root, reversed, Way, From, and of planchetref19.Way and From. -/
import Derived.Test.YtegbkbkcfcjkbaaLog
import Derived.Test.YtegbkbkcfcjkbaaTree4
import Derived.Test.YtegbkbkcfcjkbaaRef01
import Derived.Test.YtegbkbkcfcjkbaaTree5
namespace Go.Proofs.Ytegbkbkcfcjkbaa
open Go Go.Sy Go.Proofs.Try
set_option maxRecDepth 100000
set_option maxHeartbeats 8000000
set_option linter.unusedSimpArgs false
set_option linter.unusedVariables false

/-- The way of a place: the nearest first. -/
def wayF : Nat → List (List Int) → Nat → List (List Int)
  | 0, _, _ => []
  | f + 1, l, i => if l.length ≤ 1 then [] else if i < halfN l.length then wayF f (l.take (halfN l.length)) i ++ [rg (l.drop (halfN l.length)) 0 (l.length - halfN l.length)]
    else wayF f (l.drop (halfN l.length)) (i - halfN l.length) ++ [rg (l.take (halfN l.length)) 0 (halfN l.length)]
theorem wayF_len : ∀ (f : Nat) (l : List (List Int)) (i : Nat), (wayF f l i).length ≤ f
  | 0, _, _ => Nat.le_refl _
  | f + 1, l, i => by
    rw [wayF]
    split
    · exact Nat.zero_le _
    · split
      · rw [List.length_append, List.length_singleton]; have := wayF_len f (l.take (halfN l.length)) i; omega
      · rw [List.length_append, List.length_singleton]; have := wayF_len f (l.drop (halfN l.length)) (i - halfN l.length); omega
/-- The way from a beginning: the nearest first. -/
def fromF : Nat → List (List Int) → Nat → Bool → List (List Int)
  | 0, _, _, _ => []
  | f + 1, l, m, cut => if m = l.length then (if cut = true then [rg l 0 l.length] else []) else if m ≤ halfN l.length then fromF f (l.take (halfN l.length)) m cut ++ [rg (l.drop (halfN l.length)) 0 (l.length - halfN l.length)]
    else fromF f (l.drop (halfN l.length)) (m - halfN l.length) true ++ [rg (l.take (halfN l.length)) 0 (halfN l.length)]
theorem fromF_len : ∀ (f : Nat) (l : List (List Int)) (m : Nat) (cut : Bool), (fromF f l m cut).length ≤ f
  | 0, _, _, _ => Nat.le_refl _
  | f + 1, l, m, cut => by
    rw [fromF]
    split
    · split
      · rw [List.length_singleton]; omega
      · exact Nat.zero_le _
    · split
      · rw [List.length_append, List.length_singleton]; have := fromF_len f (l.take (halfN l.length)) m cut; omega
      · rw [List.length_append, List.length_singleton]; have := fromF_len f (l.drop (halfN l.length)) (m - halfN l.length) true; omega
end Go.Proofs.Ytegbkbkcfcjkbaa
/- The walk of LogRoots. -/
namespace Go.Proofs.Ytegbkbkcfcjkbaa
open Go Go.Sy Go.Proofs.Try
set_option maxRecDepth 100000
set_option maxHeartbeats 8000000
set_option linter.unusedSimpArgs false
set_option linter.unusedVariables false

theorem abc_texts : textsP [[97], [98], [99]] := by
  intro b hb
  simp only [List.mem_cons, List.not_mem_nil, or_false] at hb
  rcases hb with rfl | rfl | rfl <;> exact ⟨by decide, by decide⟩
theorem rg_abc : rg [[97], [98], [99]] 0 3 = nodeL (nodeL (leafL [97]) (leafL [98])) (leafL [99]) := by
  have h3 : halfN 3 = 2 := by decide
  have h2 : halfN 2 = 1 := by decide
  rw [rg_two _ 0 (by decide), h3, rg_two _ 0 (by decide), h2, rg_one, rg_one, rg_one]
  rfl
theorem len_cat {ps : List (List Int)} {p : List Int} (h : p ∈ ps) : p.length ≤ (cat ps).length := by
  induction ps with
  | nil => cases h
  | cons q qs ih =>
    rw [cat, List.flatMap_cons, List.length_append]
    rcases List.mem_cons.1 h with rfl | h
    · exact Nat.le_add_right _ _
    · have := ih h
      rw [cat] at this
      omega
end Go.Proofs.Ytegbkbkcfcjkbaa
/- Holds and Grows of the package log, and of planchetref19. -/
namespace Go.Proofs.Ytegbkbkcfcjkbaa
open Go Go.Sy Go.Proofs.Try
set_option maxRecDepth 100000
set_option maxHeartbeats 8000000
set_option linter.unusedSimpArgs false
set_option linter.unusedVariables false

/-- How many digests the way of a place has. -/
def depH : Nat → Nat → Nat → Nat
  | 0, _, _ => 0
  | f + 1, n, i => if n ≤ 1 then 0 else if i < halfN n then depH f (halfN n) i + 1 else depH f (n - halfN n) (i - halfN n) + 1
/-- Where a way leads to from a leaf. -/
def upV (x : List Int) (W : List (List Int)) : Nat → Nat → Nat → List Int
  | 0, _, _ => x
  | f + 1, n, i => if n ≤ 1 then x else if i < halfN n then nodeL (upV x W f (halfN n) i) (W.getD (depH f (halfN n) i) []) else nodeL (W.getD (depH f (n - halfN n) (i - halfN n)) []) (upV x W f (n - halfN n) (i - halfN n))
theorem upV_congr (x : List Int) (W W' : List (List Int)) : ∀ (f n i : Nat), (∀ j, j < depH f n i → W.getD j [] = W'.getD j []) → upV x W f n i = upV x W' f n i
  | 0, _, _, _ => rfl
  | f + 1, n, i, h => by
    rw [depH] at h
    rw [upV, upV]
    by_cases c : n ≤ 1
    · rw [if_pos c, if_pos c]
    rw [if_neg c, if_neg c]
    rw [if_neg c] at h
    by_cases c2 : i < halfN n
    · rw [if_pos c2, if_pos c2]
      rw [if_pos c2] at h
      rw [upV_congr x W W' f (halfN n) i (fun j hj => h j (by omega)), h (depH f (halfN n) i) (by omega)]
    · rw [if_neg c2, if_neg c2]
      rw [if_neg c2] at h
      rw [upV_congr x W W' f (n - halfN n) (i - halfN n) (fun j hj => h j (by omega)), h (depH f (n - halfN n) (i - halfN n)) (by omega)]
theorem drop_cons' {W : List (List Int)} {d : Nat} (h : d < W.length) : W.drop d = W.getD d [] :: W.drop (d + 1) := by
  rw [List.drop_eq_getElem_cons h]
  simp only [List.getD, List.getElem?_eq_getElem h, Option.getD_some]
theorem upV_good {x : List Int} (hx : goodD x) {W : List (List Int)} : ∀ (f n i : Nat), goodD (upV x W f n i)
  | 0, _, _ => hx
  | f + 1, n, i => by
    rw [upV]
    split
    · exact hx
    · split <;> exact nodeL_good _ _
theorem depH_one (f i : Nat) : depH (f + 1) 1 i = 0 := by rw [depH, if_pos (Nat.le_refl 1)]
theorem depH_lo (f : Nat) {n i : Nat} (h : 2 ≤ n) (hi : i < halfN n) : depH (f + 1) n i = depH f (halfN n) i + 1 := by rw [depH, if_neg (by omega), if_pos hi]
theorem depH_hi (f : Nat) {n i : Nat} (h : 2 ≤ n) (hi : ¬ i < halfN n) : depH (f + 1) n i = depH f (n - halfN n) (i - halfN n) + 1 := by rw [depH, if_neg (by omega), if_neg hi]
theorem upV_one (x : List Int) (W : List (List Int)) (f i : Nat) : upV x W (f + 1) 1 i = x := by rw [upV, if_pos (Nat.le_refl 1)]
theorem upV_lo (x : List Int) (W : List (List Int)) (f : Nat) {n i : Nat} (h : 2 ≤ n) (hi : i < halfN n) : upV x W (f + 1) n i = nodeL (upV x W f (halfN n) i) (W.getD (depH f (halfN n) i) []) := by rw [upV, if_neg (by omega), if_pos hi]
theorem upV_hi (x : List Int) (W : List (List Int)) (f : Nat) {n i : Nat} (h : 2 ≤ n) (hi : ¬ i < halfN n) : upV x W (f + 1) n i = nodeL (W.getD (depH f (n - halfN n) (i - halfN n)) []) (upV x W f (n - halfN n) (i - halfN n)) := by rw [upV, if_neg (by omega), if_neg hi]
theorem hup_spec (b : List Int) (bn : Nat) (hbn : b.length = bn) (hb : ∀ x ∈ b, 0 ≤ x ∧ x < 256) (hbl : bn ≤ 100000) (W : List (List Int)) (m : Nat) (hW : W.length = m) (hm : m ≤ 1000000) (hg : ∀ d ∈ W, goodD d) : ∀ (f n i : Nat), n ≤ f → 1 ≤ n → n ≤ 1000 → i < n →
    FnC Try.prog 74 [.int .i64 n, .int .i64 i, .ref 0 [], .ref 1 [], .ref 2 []]
      [(0, .var (.sl (.ints .u8 bn b))), (1, .var (.fn (.func 74) [.ref 0 [], .ref 1 [], .ref 2 []])), (2, .var (.sl (.lst 32 m (W.map dg))))]
      (.tup [.ints .u8 32 (if depH f n i ≤ m then upV (leafL b) W f n i else List.replicate 32 0), .bool (decide (depH f n i ≤ m))])
      [(0, .var (.sl (.ints .u8 bn b))), (1, .var (.fn (.func 74) [.ref 0 [], .ref 1 [], .ref 2 []])), (2, .var (.sl (.lst 32 (m - depH f n i) ((W.drop (depH f n i)).map dg))))] := by
  intro f
  induction f with
  | zero => intro n i h1 h2; omega
  | succ f ih =>
    intro n i h1 h2 h3 h4
    by_cases c1 : n = 1
    · subst c1
      rw [depH_one, upV_one, if_pos (Nat.zero_le _), decide_eq_true (Nat.zero_le _), Nat.sub_zero, List.drop_zero]
      refine fnN mix [] 3 5 [.cell 7 63, .tmp 8] Try.func74 rfl (by kernel_rfl) (by kernel_rfl) rfl (by kernel_rfl) (by kernel_rfl) (by simp) ?_
      simp (implicitDefEqProofs := false) (disch := omega) only [go_sem, ↓reduceIte]
      refine call0 (leaf_spec19 b bn hbn hb hbl) ?_
      simp (implicitDefEqProofs := false) (disch := omega) only [go_sem, ↓reduceIte]
      refine ⟨[(0, 0), (1, 1), (2, 2)], [], [], rfl, ?_, ?_, ?_⟩ <;> simp (implicitDefEqProofs := false) (disch := omega) only [go_sem, ↓reduceIte]
    have hk := halfN_lt (show 2 ≤ n by omega)
    have d1 : decide ((n : Int) = 1) = false := decide_eq_false (by omega)
    by_cases c2 : i < halfN n
    · rw [depH_lo f (by omega) c2, upV_lo _ _ f (by omega) c2]
      have d2 : decide ((halfN n : Int) ≤ (i : Int)) = false := decide_eq_false (by omega)
      have d3 : decide ((i : Int) < (halfN n : Int)) = true := decide_eq_true (by omega)
      have hc := ih (halfN n) i (by omega) (by omega) (by omega) c2
      refine fnN mix [] 3 5 [.cell 7 63, .tmp 8] Try.func74 rfl (by kernel_rfl) (by kernel_rfl) rfl (by kernel_rfl) (by kernel_rfl) (by simp) ?_
      simp (implicitDefEqProofs := false) (disch := omega) only [go_sem, ↓reduceIte, d1]
      refine call0 (half_spec n (by omega) h3) ?_
      simp (implicitDefEqProofs := false) (disch := omega) only [go_sem, ↓reduceIte, d2]
      have hVg := upV_good (leafL_good b) (W := W) f (halfN n) i
      generalize depH f (halfN n) i = D at *
      generalize upV (leafL b) W f (halfN n) i = V at *
      refine callG false [(0, 0), (1, 1), (2, 2)] [(0, 0), (1, 1), (2, 2)] 4 hc ?_ ?_
      · simp [keys]
      by_cases cd : D < m
      · have hdr := drop_cons' (W := W) (d := D) (by omega)
        have hxg := getD_good hg (show D < W.length by omega)
        have e1 : decide (D ≤ m) = true := decide_eq_true (by omega)
        have e2 : decide (D + 1 ≤ m) = true := decide_eq_true (by omega)
        have hmm : m - D = (m - (D + 1)) + 1 := by omega
        have hlr : (W.drop (D + 1)).length = m - (D + 1) := by rw [List.length_drop, hW]
        rw [hdr, hmm, e1, if_pos (show D ≤ m by omega), e2, if_pos (show D + 1 ≤ m by omega)]
        generalize W.drop (D + 1) = R at *
        generalize W.getD D [] = x at *
        generalize m - (D + 1) = c at *
        have hlm : (R.map dg).length = c := by rw [List.length_map, hlr]
        have etk : (R.map dg).take c = R.map dg := List.take_of_length_le (by omega)
        have ee : decide ((c : Int) + 1 = 0) = false := decide_eq_false (by omega)
        simp (implicitDefEqProofs := false) (disch := omega) only [go_sem, ↓reduceIte, dg, hlm, etk, ee, d3]
        refine call0 (node_spec17 _ _ hVg hxg) ?_
        simp (implicitDefEqProofs := false) (disch := omega) only [go_sem, ↓reduceIte, dg, hlm, etk]
        refine ⟨[(0, 0), (1, 1), (2, 2)], [], [], rfl, ?_, ?_, ?_⟩ <;> simp (implicitDefEqProofs := false) (disch := omega) only [go_sem, ↓reduceIte, Nat.add_sub_cancel, etk]
      · by_cases ce : D ≤ m
        · have e1 : decide (D ≤ m) = true := decide_eq_true ce
          have e2 : decide (D + 1 ≤ m) = false := decide_eq_false (by omega)
          have hm0 : m - D = 0 := by omega
          have hm1 : m - (D + 1) = 0 := by omega
          have hd0 : W.drop D = [] := List.drop_eq_nil_of_le (by omega)
          have hd1 : W.drop (D + 1) = [] := List.drop_eq_nil_of_le (by omega)
          rw [hm0, hm1, hd0, hd1, e1, e2, if_pos ce, if_neg (show ¬ D + 1 ≤ m by omega)]
          simp (implicitDefEqProofs := false) (disch := omega) only [go_sem, ↓reduceIte]
          refine ⟨[(0, 0), (1, 1), (2, 2)], [], [], rfl, ?_, ?_, ?_⟩ <;> simp (implicitDefEqProofs := false) (disch := omega) only [go_sem, ↓reduceIte]
        · have e1 : decide (D ≤ m) = false := decide_eq_false ce
          have e2 : decide (D + 1 ≤ m) = false := decide_eq_false (by omega)
          have hm0 : m - D = 0 := by omega
          have hm1 : m - (D + 1) = 0 := by omega
          have hd0 : W.drop D = [] := List.drop_eq_nil_of_le (by omega)
          have hd1 : W.drop (D + 1) = [] := List.drop_eq_nil_of_le (by omega)
          rw [hm0, hm1, hd0, hd1, e1, e2, if_neg ce, if_neg (show ¬ D + 1 ≤ m by omega)]
          simp (implicitDefEqProofs := false) (disch := omega) only [go_sem, ↓reduceIte]
          refine ⟨[(0, 0), (1, 1), (2, 2)], [], [], rfl, ?_, ?_, ?_⟩ <;> simp (implicitDefEqProofs := false) (disch := omega) only [go_sem, ↓reduceIte]
    · rw [depH_hi f (by omega) c2, upV_hi _ _ f (by omega) c2]
      have d2 : decide ((halfN n : Int) ≤ (i : Int)) = true := decide_eq_true (by omega)
      have d3 : decide ((i : Int) < (halfN n : Int)) = false := decide_eq_false (by omega)
      have i3 : (n : Int) - (halfN n : Int) = ((n - halfN n : Nat) : Int) := by omega
      have i4 : (i : Int) - (halfN n : Int) = ((i - halfN n : Nat) : Int) := by omega
      have hc := ih (n - halfN n) (i - halfN n) (by omega) (by omega) (by omega) (by omega)
      refine fnN mix [] 3 5 [.cell 7 63, .tmp 8] Try.func74 rfl (by kernel_rfl) (by kernel_rfl) rfl (by kernel_rfl) (by kernel_rfl) (by simp) ?_
      simp (implicitDefEqProofs := false) (disch := omega) only [go_sem, ↓reduceIte, d1]
      refine call0 (half_spec n (by omega) h3) ?_
      simp (implicitDefEqProofs := false) (disch := omega) only [go_sem, ↓reduceIte, d2, i3, i4]
      have hVg := upV_good (leafL_good b) (W := W) f (n - halfN n) (i - halfN n)
      generalize depH f (n - halfN n) (i - halfN n) = D at *
      generalize upV (leafL b) W f (n - halfN n) (i - halfN n) = V at *
      refine callG false [(0, 0), (1, 1), (2, 2)] [(0, 0), (1, 1), (2, 2)] 4 hc ?_ ?_
      · simp [keys]
      by_cases cd : D < m
      · have hdr := drop_cons' (W := W) (d := D) (by omega)
        have hxg := getD_good hg (show D < W.length by omega)
        have e1 : decide (D ≤ m) = true := decide_eq_true (by omega)
        have e2 : decide (D + 1 ≤ m) = true := decide_eq_true (by omega)
        have hmm : m - D = (m - (D + 1)) + 1 := by omega
        have hlr : (W.drop (D + 1)).length = m - (D + 1) := by rw [List.length_drop, hW]
        rw [hdr, hmm, e1, if_pos (show D ≤ m by omega), e2, if_pos (show D + 1 ≤ m by omega)]
        generalize W.drop (D + 1) = R at *
        generalize W.getD D [] = x at *
        generalize m - (D + 1) = c at *
        have hlm : (R.map dg).length = c := by rw [List.length_map, hlr]
        have etk : (R.map dg).take c = R.map dg := List.take_of_length_le (by omega)
        have ee : decide ((c : Int) + 1 = 0) = false := decide_eq_false (by omega)
        simp (implicitDefEqProofs := false) (disch := omega) only [go_sem, ↓reduceIte, dg, hlm, etk, ee, d3]
        refine call0 (node_spec17 _ _ hxg hVg) ?_
        simp (implicitDefEqProofs := false) (disch := omega) only [go_sem, ↓reduceIte, dg, hlm, etk]
        refine ⟨[(0, 0), (1, 1), (2, 2)], [], [], rfl, ?_, ?_, ?_⟩ <;> simp (implicitDefEqProofs := false) (disch := omega) only [go_sem, ↓reduceIte, Nat.add_sub_cancel, etk]
      · by_cases ce : D ≤ m
        · have e1 : decide (D ≤ m) = true := decide_eq_true ce
          have e2 : decide (D + 1 ≤ m) = false := decide_eq_false (by omega)
          have hm0 : m - D = 0 := by omega
          have hm1 : m - (D + 1) = 0 := by omega
          have hd0 : W.drop D = [] := List.drop_eq_nil_of_le (by omega)
          have hd1 : W.drop (D + 1) = [] := List.drop_eq_nil_of_le (by omega)
          rw [hm0, hm1, hd0, hd1, e1, e2, if_pos ce, if_neg (show ¬ D + 1 ≤ m by omega)]
          simp (implicitDefEqProofs := false) (disch := omega) only [go_sem, ↓reduceIte]
          refine ⟨[(0, 0), (1, 1), (2, 2)], [], [], rfl, ?_, ?_, ?_⟩ <;> simp (implicitDefEqProofs := false) (disch := omega) only [go_sem, ↓reduceIte]
        · have e1 : decide (D ≤ m) = false := decide_eq_false ce
          have e2 : decide (D + 1 ≤ m) = false := decide_eq_false (by omega)
          have hm0 : m - D = 0 := by omega
          have hm1 : m - (D + 1) = 0 := by omega
          have hd0 : W.drop D = [] := List.drop_eq_nil_of_le (by omega)
          have hd1 : W.drop (D + 1) = [] := List.drop_eq_nil_of_le (by omega)
          rw [hm0, hm1, hd0, hd1, e1, e2, if_neg ce, if_neg (show ¬ D + 1 ≤ m by omega)]
          simp (implicitDefEqProofs := false) (disch := omega) only [go_sem, ↓reduceIte]
          refine ⟨[(0, 0), (1, 1), (2, 2)], [], [], rfl, ?_, ?_, ?_⟩ <;> simp (implicitDefEqProofs := false) (disch := omega) only [go_sem, ↓reduceIte]
def holdsP (d : List Int) (n i : Int) (b : List Int) (W : List (List Int)) : Prop := 1 ≤ n ∧ n ≤ 200 ∧ 0 ≤ i ∧ i < n ∧ depH n.toNat n.toNat i.toNat = W.length ∧ upV (leafL b) W n.toNat n.toNat i.toNat = d
instance (d : List Int) (n i : Int) (b : List Int) (W : List (List Int)) : Decidable (holdsP d n i b W) := by unfold holdsP; infer_instance
theorem holds_spec (d b : List Int) (bn : Nat) (n i : Int) (W : List (List Int)) (m : Nat) (hd : goodD d) (hbn : b.length = bn) (hb : ∀ x ∈ b, 0 ≤ x ∧ x < 256) (hbl : bn ≤ 100000) (hW : W.length = m) (hm : m ≤ 1000000) (hg : ∀ d ∈ W, goodD d) :
    FnC Try.prog 39 [.ints .u8 32 d, .int .i64 n, .int .i64 i, .sl (.ints .u8 bn b), .sl (.lst 32 m (W.map dg))] [] (.bool (decide (holdsP d n i b W))) [] := by
  refine fn0 mix [] 0 5 [.tmp 10] Try.func39 rfl (by kernel_rfl) (by kernel_rfl) rfl (by kernel_rfl) (by kernel_rfl) (by simp) ?_
  simp (implicitDefEqProofs := false) (disch := omega) only [go_sem, ↓reduceIte]
  refine brd (fun h => ?_) (fun h1 => ?_)
  · have h := h
    have e : decide (holdsP d n i b W) = false := decide_eq_false (fun h => by unfold holdsP at h; omega)
    rw [e]
    simp (implicitDefEqProofs := false) (disch := omega) only [go_sem, ↓reduceIte]
  simp (implicitDefEqProofs := false) (disch := omega) only [go_sem, ↓reduceIte]
  refine brd (fun h => ?_) (fun h2 => ?_)
  · have h := h
    have e : decide (holdsP d n i b W) = false := decide_eq_false (fun h => by unfold holdsP at h; omega)
    rw [e]
    simp (implicitDefEqProofs := false) (disch := omega) only [go_sem, ↓reduceIte]
  simp (implicitDefEqProofs := false) (disch := omega) only [go_sem, ↓reduceIte]
  refine brd (fun h => ?_) (fun h3 => ?_)
  · have h := h
    have e : decide (holdsP d n i b W) = false := decide_eq_false (fun h => by unfold holdsP at h; omega)
    rw [e]
    simp (implicitDefEqProofs := false) (disch := omega) only [go_sem, ↓reduceIte]
  simp (implicitDefEqProofs := false) (disch := omega) only [go_sem, ↓reduceIte]
  refine brd (fun h => ?_) (fun h4 => ?_)
  · have h := h
    have e : decide (holdsP d n i b W) = false := decide_eq_false (fun h => by unfold holdsP at h; omega)
    rw [e]
    simp (implicitDefEqProofs := false) (disch := omega) only [go_sem, ↓reduceIte]
  obtain ⟨N, rfl⟩ := Int.eq_ofNat_of_zero_le (show 0 ≤ n by omega)
  obtain ⟨I, rfl⟩ := Int.eq_ofNat_of_zero_le (show 0 ≤ i by omega)
  have hc := hup_spec b bn hbn hb hbl W m hW hm hg N N I (Nat.le_refl _) (by omega) (by omega) (by omega)
  have e : decide (holdsP d N I b W) = decide (depH N N I = m ∧ upV (leafL b) W N N I = d) := by
    apply decide_eq_decide.2
    unfold holdsP
    rw [Int.toNat_natCast, Int.toNat_natCast, hW]
    constructor
    · intro h; exact ⟨h.2.2.2.2.1, h.2.2.2.2.2⟩
    · intro h; exact ⟨by omega, by omega, by omega, by omega, h.1, h.2⟩
  rw [e]
  generalize depH N N I = D at *
  generalize upV (leafL b) W N N I = V at *
  simp (implicitDefEqProofs := false) (disch := omega) only [go_sem, ↓reduceIte]
  refine callG false [(0, 1), (1, 3), (2, 2)] [(0, 1), (1, 3), (2, 2)] 4 hc ?_ ?_
  · simp [keys]
  by_cases c1 : D ≤ m
  · rw [decide_eq_true c1, if_pos c1]
    by_cases c2 : D = m
    · subst c2
      have e2 : decide (D = D ∧ V = d) = decide (V = d) := by simp
      rw [Nat.sub_self, e2]
      simp (implicitDefEqProofs := false) (disch := omega) only [go_sem, ↓reduceIte]
    · have e2 : decide (D = m ∧ V = d) = false := decide_eq_false (fun h => c2 h.1)
      rw [e2]
      have e3 : decide (((m - D : Nat) : Int) = 0) = false := decide_eq_false (by omega)
      have e4 : ¬ m - D = 0 := by omega
      simp (implicitDefEqProofs := false) (disch := omega) only [go_sem, ↓reduceIte, e3, e4]
  · rw [decide_eq_false c1, if_neg c1]
    have e2 : decide (D = m ∧ V = d) = false := decide_eq_false (fun h => c1 (by omega))
    rw [e2]
    simp (implicitDefEqProofs := false) (disch := omega) only [go_sem, ↓reduceIte]
end Go.Proofs.Ytegbkbkcfcjkbaa
/- planchetref19's Up and Holds. -/
namespace Go.Proofs.Ytegbkbkcfcjkbaa
open Go Go.Sy Go.Proofs.Try
set_option maxRecDepth 100000
set_option maxHeartbeats 8000000
set_option linter.unusedSimpArgs false
set_option linter.unusedVariables false

theorem getDm {W : List (List Int)} {m : Nat} (hW : W.length = m + 1) (K : AV → Prop) : getP (W.map dg) m K = K (.ints .u8 32 (W.getD m [])) := getP_map (f := dg) (getD_some' (by omega)) K
end Go.Proofs.Ytegbkbkcfcjkbaa
/- Grows of the package log. -/
namespace Go.Proofs.Ytegbkbkcfcjkbaa
open Go Go.Sy Go.Proofs.Try
set_option maxRecDepth 100000
set_option maxHeartbeats 8000000
set_option linter.unusedSimpArgs false
set_option linter.unusedVariables false
attribute [go_sem] pl79
def depG : Nat → Nat → Nat → Bool → Nat
  | 0, _, _, _ => 0
  | f + 1, m, n, cut => if m = n then (if cut = true then 1 else 0) else if m ≤ halfN n then depG f m (halfN n) cut + 1 else depG f (m - halfN n) (n - halfN n) true + 1
def groV (a : List Int) (W : List (List Int)) : Nat → Nat → Nat → Bool → List Int × List Int
  | 0, _, _, _ => (a, a)
  | f + 1, m, n, cut => if m = n then (if cut = true then (W.getD 0 [], W.getD 0 []) else (a, a)) else if m ≤ halfN n then ((groV a W f m (halfN n) cut).1, nodeL (groV a W f m (halfN n) cut).2 (W.getD (depG f m (halfN n) cut) []))
    else (nodeL (W.getD (depG f (m - halfN n) (n - halfN n) true) []) (groV a W f (m - halfN n) (n - halfN n) true).1, nodeL (W.getD (depG f (m - halfN n) (n - halfN n) true) []) (groV a W f (m - halfN n) (n - halfN n) true).2)
theorem depG_eq (f n : Nat) (cut : Bool) : depG (f + 1) n n cut = if cut = true then 1 else 0 := by rw [depG, if_pos rfl]
theorem depG_lo (f : Nat) {m n : Nat} (cut : Bool) (h : m ≠ n) (hi : m ≤ halfN n) : depG (f + 1) m n cut = depG f m (halfN n) cut + 1 := by rw [depG, if_neg h, if_pos hi]
theorem depG_hi (f : Nat) {m n : Nat} (cut : Bool) (h : m ≠ n) (hi : ¬ m ≤ halfN n) : depG (f + 1) m n cut = depG f (m - halfN n) (n - halfN n) true + 1 := by rw [depG, if_neg h, if_neg hi]
theorem groV_eq (a : List Int) (W : List (List Int)) (f n : Nat) (cut : Bool) : groV a W (f + 1) n n cut = if cut = true then (W.getD 0 [], W.getD 0 []) else (a, a) := by rw [groV, if_pos rfl]
theorem groV_lo (a : List Int) (W : List (List Int)) (f : Nat) {m n : Nat} (cut : Bool) (h : m ≠ n) (hi : m ≤ halfN n) : groV a W (f + 1) m n cut = ((groV a W f m (halfN n) cut).1, nodeL (groV a W f m (halfN n) cut).2 (W.getD (depG f m (halfN n) cut) [])) := by rw [groV, if_neg h, if_pos hi]
theorem groV_hi (a : List Int) (W : List (List Int)) (f : Nat) {m n : Nat} (cut : Bool) (h : m ≠ n) (hi : ¬ m ≤ halfN n) : groV a W (f + 1) m n cut = (nodeL (W.getD (depG f (m - halfN n) (n - halfN n) true) []) (groV a W f (m - halfN n) (n - halfN n) true).1, nodeL (W.getD (depG f (m - halfN n) (n - halfN n) true) []) (groV a W f (m - halfN n) (n - halfN n) true).2) := by rw [groV, if_neg h, if_neg hi]
theorem take_nil_spec19 : FnC Try.prog 78 [.ref 0 []] [(0, .var (.sl (.lst 32 0 [])))] (.tup [.ints .u8 32 (List.replicate 32 0), .bool false]) [(0, .var (.sl (.lst 32 0 [])))] := by
  refine fnN mix [] 1 1 [.cell 1 63, .tmp 2] Try.func78 rfl (by kernel_rfl) (by kernel_rfl) rfl (by kernel_rfl) (by kernel_rfl) (by simp) ?_
  simp (implicitDefEqProofs := false) (disch := omega) only [go_sem, ↓reduceIte]
  refine ⟨[(0, 0)], [], [], rfl, ?_, ?_, ?_⟩ <;> simp (implicitDefEqProofs := false) (disch := omega) only [go_sem, ↓reduceIte]
theorem take_cons_spec19 (x : List Int) (R : List (List Int)) (c : Nat) (hc : R.length = c) (hm : c ≤ 1000000) : FnC Try.prog 78 [.ref 0 []] [(0, .var (.sl (.lst 32 (c + 1) (.ints .u8 32 x :: R.map dg))))] (.tup [.ints .u8 32 x, .bool true]) [(0, .var (.sl (.lst 32 c (R.map dg))))] := by
  have hlm : (R.map dg).length = c := by rw [List.length_map, hc]
  have etk : (R.map dg).take c = R.map dg := List.take_of_length_le (by omega)
  have ee : decide ((c : Int) + 1 = 0) = false := decide_eq_false (by omega)
  refine fnN mix [] 1 1 [.cell 1 63, .tmp 2] Try.func78 rfl (by kernel_rfl) (by kernel_rfl) rfl (by kernel_rfl) (by kernel_rfl) (by simp) ?_
  simp (implicitDefEqProofs := false) (disch := omega) only [go_sem, ↓reduceIte, hlm, etk, ee]
  refine ⟨[(0, 0)], [], [], rfl, ?_, ?_, ?_⟩ <;> simp (implicitDefEqProofs := false) (disch := omega) only [go_sem, ↓reduceIte, Nat.add_sub_cancel, etk]
theorem gup_spec (a : List Int) (ha : goodD a) (W : List (List Int)) (L : Nat) (hW : W.length = L) (hL : L ≤ 1000000) (hg : ∀ d ∈ W, goodD d) : ∀ (f m n : Nat) (cut : Bool), n ≤ f → 1 ≤ m → m ≤ n → n ≤ 1000 →
    ∃ o w, goodD o ∧ goodD w ∧ (depG f m n cut ≤ L → (o, w) = groV a W f m n cut) ∧
    FnC Try.prog 79 [.int .i64 m, .int .i64 n, .bool cut, .ref 0 [], .ref 1 [], .ref 2 []]
      [(0, .var (.ints .u8 32 a)), (1, .var (.fn (.func 78) [.ref 3 []])), (2, .var (.fn (.func 79) [.ref 0 [], .ref 1 [], .ref 2 []])), (3, .var (.sl (.lst 32 L (W.map dg))))]
      (.tup [.ints .u8 32 o, .ints .u8 32 w, .bool (decide (depG f m n cut ≤ L))])
      [(0, .var (.ints .u8 32 a)), (1, .var (.fn (.func 78) [.ref 3 []])), (2, .var (.fn (.func 79) [.ref 0 [], .ref 1 [], .ref 2 []])), (3, .var (.sl (.lst 32 (L - depG f m n cut) ((W.drop (depG f m n cut)).map dg))))] := by
  intro f
  induction f with
  | zero => intro m n cut h1 h2 h3; omega
  | succ f ih =>
    intro m n cut h1 h2 h3 h4
    by_cases c1 : m = n
    · subst c1
      rw [depG_eq, groV_eq]
      cases cut
      · refine ⟨a, a, ha, ha, fun _ => rfl, ?_⟩
        rw [if_neg (by decide), decide_eq_true (Nat.zero_le _), Nat.sub_zero, List.drop_zero]
        refine fnN mix pl79 4 6 [.cell 9 63, .cell 10 63, .tmp 11] Try.func79 rfl (by kernel_rfl) (by kernel_rfl) rfl (by kernel_rfl) (by kernel_rfl) (by simp) ?_
        simp (implicitDefEqProofs := false) (disch := omega) only [go_sem, ↓reduceIte]
        refine ⟨[(0, 0), (1, 1), (2, 2), (3, 3)], [], [], rfl, ?_, ?_, ?_⟩ <;> simp (implicitDefEqProofs := false) (disch := omega) only [go_sem, ↓reduceIte]
      · rw [if_pos rfl, if_pos rfl]
        obtain _ | L := L
        · have hW0 : W = [] := List.length_eq_zero_iff.1 hW
          subst hW0
          refine ⟨List.replicate 32 0, List.replicate 32 0, zero_good, zero_good, fun h => by omega, ?_⟩
          refine fnN mix pl79 4 6 [.cell 9 63, .cell 10 63, .tmp 11] Try.func79 rfl (by kernel_rfl) (by kernel_rfl) rfl (by kernel_rfl) (by kernel_rfl) (by simp) ?_
          simp (implicitDefEqProofs := false) (disch := omega) only [go_sem, ↓reduceIte, List.map_nil]
          refine callG false [(0, 3)] [(0, 3)] 6 take_nil_spec19 ?_ ?_
          · simp [keys]
          simp (implicitDefEqProofs := false) (disch := omega) only [go_sem, ↓reduceIte]
          refine ⟨[(0, 0), (1, 1), (2, 2), (3, 3)], [], [], rfl, ?_, ?_, ?_⟩ <;> simp (implicitDefEqProofs := false) (disch := omega) only [go_sem, ↓reduceIte, List.drop_nil, List.map_nil]
        · obtain ⟨x, R, rfl⟩ : ∃ x R, W = x :: R := by
            cases W with
            | nil => simp at hW
            | cons x R => exact ⟨x, R, rfl⟩
          rw [List.length_cons] at hW
          have hxg := hg x (List.mem_cons_self ..)
          have htk := take_cons_spec19 x R L (by omega) (by omega)
          have e1 : decide (1 ≤ L + 1) = true := decide_eq_true (by omega)
          refine ⟨x, x, hxg, hxg, fun _ => rfl, ?_⟩
          rw [e1, List.map_cons, List.drop_succ_cons, List.drop_zero, Nat.add_sub_cancel]
          refine fnN mix pl79 4 6 [.cell 9 63, .cell 10 63, .tmp 11] Try.func79 rfl (by kernel_rfl) (by kernel_rfl) rfl (by kernel_rfl) (by kernel_rfl) (by simp) ?_
          simp (implicitDefEqProofs := false) (disch := omega) only [go_sem, ↓reduceIte, dg]
          refine callG false [(0, 3)] [(0, 3)] 6 htk ?_ ?_
          · simp [keys]
          simp (implicitDefEqProofs := false) (disch := omega) only [go_sem, ↓reduceIte]
          refine ⟨[(0, 0), (1, 1), (2, 2), (3, 3)], [], [], rfl, ?_, ?_, ?_⟩ <;> simp (implicitDefEqProofs := false) (disch := omega) only [go_sem, ↓reduceIte]
    have hk := halfN_lt (show 2 ≤ n by omega)
    have d1 : decide ((m : Int) = (n : Int)) = false := decide_eq_false (by omega)
    by_cases c2 : m ≤ halfN n
    · have d2 : decide ((m : Int) ≤ (halfN n : Int)) = true := decide_eq_true (by omega)
      have i3 : True := trivial
      have i4 : True := trivial
      obtain ⟨o, w, ho, hw, hv, hc⟩ := ih m (halfN n) cut (by omega) (by omega) (by omega) (by omega)
      rw [depG_lo f cut c1 c2, groV_lo _ _ f cut c1 c2]
      generalize depG f m (halfN n) cut = D at *
      generalize groV a W f m (halfN n) cut = V at *
      by_cases cd : D < L
      · have hdr := drop_cons' (W := W) (d := D) (by omega)
        have hxg := getD_good hg (show D < W.length by omega)
        have e1 : decide (D ≤ L) = true := decide_eq_true (by omega)
        have e2 : decide (D + 1 ≤ L) = true := decide_eq_true (by omega)
        have hmm : L - D = (L - (D + 1)) + 1 := by omega
        have hlr : (W.drop (D + 1)).length = L - (D + 1) := by rw [List.length_drop, hW]
        rw [e2]
        rw [hdr, hmm, e1, List.map_cons] at hc
        have hv := hv (by omega)
        generalize W.drop (D + 1) = R at *
        generalize W.getD D [] = x at *
        have hcl : L - (D + 1) ≤ 1000000 := by omega
        generalize L - (D + 1) = c at *
        have htk := take_cons_spec19 x R c hlr hcl
        refine ⟨o, nodeL w x, ho, nodeL_good _ _, fun _ => by rw [← hv], ?_⟩
        refine fnN mix pl79 4 6 [.cell 9 63, .cell 10 63, .tmp 11] Try.func79 rfl (by kernel_rfl) (by kernel_rfl) rfl (by kernel_rfl) (by kernel_rfl) (by simp) ?_
        simp (implicitDefEqProofs := false) (disch := omega) only [go_sem, ↓reduceIte, d1]
        refine call0 (half_spec n (by omega) h4) ?_
        simp (implicitDefEqProofs := false) (disch := omega) only [go_sem, ↓reduceIte, d2, i3, i4]
        refine callG false [(0, 0), (1, 1), (2, 2), (3, 3)] [(0, 0), (1, 1), (2, 2), (3, 3)] 6 hc ?_ ?_
        · simp [keys]
        simp (implicitDefEqProofs := false) (disch := omega) only [go_sem, ↓reduceIte, dg]
        refine callG false [(0, 3)] [(0, 3)] 8 htk ?_ ?_
        · simp [keys]
        simp (implicitDefEqProofs := false) (disch := omega) only [go_sem, ↓reduceIte]
        refine call0 (node_spec17 _ _ hw hxg) ?_
        simp (implicitDefEqProofs := false) (disch := omega) only [go_sem, ↓reduceIte]
        skip
        try simp (implicitDefEqProofs := false) (disch := omega) only [go_sem, ↓reduceIte]
        refine ⟨[(0, 0), (1, 1), (2, 2), (3, 3)], [], [], rfl, ?_, ?_, ?_⟩ <;> simp (implicitDefEqProofs := false) (disch := omega) only [go_sem, ↓reduceIte]
      · have hd0 : W.drop D = [] := List.drop_eq_nil_of_le (by omega)
        have hd1 : W.drop (D + 1) = [] := List.drop_eq_nil_of_le (by omega)
        have hm0 : L - D = 0 := by omega
        have hm1 : L - (D + 1) = 0 := by omega
        have e2 : decide (D + 1 ≤ L) = false := decide_eq_false (by omega)
        rw [hm0, hd0, List.map_nil] at hc
        rw [hm1, hd1, e2, List.map_nil]
        refine ⟨o, nodeL w (List.replicate 32 0), ho, nodeL_good _ _, fun h => absurd h (by omega), ?_⟩
        refine fnN mix pl79 4 6 [.cell 9 63, .cell 10 63, .tmp 11] Try.func79 rfl (by kernel_rfl) (by kernel_rfl) rfl (by kernel_rfl) (by kernel_rfl) (by simp) ?_
        simp (implicitDefEqProofs := false) (disch := omega) only [go_sem, ↓reduceIte, d1]
        refine call0 (half_spec n (by omega) h4) ?_
        simp (implicitDefEqProofs := false) (disch := omega) only [go_sem, ↓reduceIte, d2, i3, i4]
        refine callG false [(0, 0), (1, 1), (2, 2), (3, 3)] [(0, 0), (1, 1), (2, 2), (3, 3)] 6 hc ?_ ?_
        · simp [keys]
        generalize decide (D ≤ L) = B at *
        simp (implicitDefEqProofs := false) (disch := omega) only [go_sem, ↓reduceIte]
        refine callG false [(0, 3)] [(0, 3)] 8 take_nil_spec19 ?_ ?_
        · simp [keys]
        simp (implicitDefEqProofs := false) (disch := omega) only [go_sem, ↓reduceIte, List.map_nil]
        skip
        try simp (implicitDefEqProofs := false) (disch := omega) only [go_sem, ↓reduceIte]
        refine call0 (node_spec17 _ _ hw zero_good) ?_
        cases B
        · simp (implicitDefEqProofs := false) (disch := omega) only [go_sem, ↓reduceIte]
          refine ⟨[(0, 0), (1, 1), (2, 2), (3, 3)], [], [], rfl, ?_, ?_, ?_⟩ <;> simp (implicitDefEqProofs := false) (disch := omega) only [go_sem, ↓reduceIte]
        · simp (implicitDefEqProofs := false) (disch := omega) only [go_sem, ↓reduceIte]
          refine ⟨[(0, 0), (1, 1), (2, 2), (3, 3)], [], [], rfl, ?_, ?_, ?_⟩ <;> simp (implicitDefEqProofs := false) (disch := omega) only [go_sem, ↓reduceIte]
    · have d2 : decide ((m : Int) ≤ (halfN n : Int)) = false := decide_eq_false (by omega)
      have i3 : (n : Int) - (halfN n : Int) = ((n - halfN n : Nat) : Int) := by omega
      have i4 : (m : Int) - (halfN n : Int) = ((m - halfN n : Nat) : Int) := by omega
      obtain ⟨o, w, ho, hw, hv, hc⟩ := ih (m - halfN n) (n - halfN n) true (by omega) (by omega) (by omega) (by omega)
      rw [depG_hi f cut c1 c2, groV_hi _ _ f cut c1 c2]
      generalize depG f (m - halfN n) (n - halfN n) true = D at *
      generalize groV a W f (m - halfN n) (n - halfN n) true = V at *
      by_cases cd : D < L
      · have hdr := drop_cons' (W := W) (d := D) (by omega)
        have hxg := getD_good hg (show D < W.length by omega)
        have e1 : decide (D ≤ L) = true := decide_eq_true (by omega)
        have e2 : decide (D + 1 ≤ L) = true := decide_eq_true (by omega)
        have hmm : L - D = (L - (D + 1)) + 1 := by omega
        have hlr : (W.drop (D + 1)).length = L - (D + 1) := by rw [List.length_drop, hW]
        rw [e2]
        rw [hdr, hmm, e1, List.map_cons] at hc
        have hv := hv (by omega)
        generalize W.drop (D + 1) = R at *
        generalize W.getD D [] = x at *
        have hcl : L - (D + 1) ≤ 1000000 := by omega
        generalize L - (D + 1) = c at *
        have htk := take_cons_spec19 x R c hlr hcl
        refine ⟨nodeL x o, nodeL x w, nodeL_good _ _, nodeL_good _ _, fun _ => by rw [← hv], ?_⟩
        refine fnN mix pl79 4 6 [.cell 9 63, .cell 10 63, .tmp 11] Try.func79 rfl (by kernel_rfl) (by kernel_rfl) rfl (by kernel_rfl) (by kernel_rfl) (by simp) ?_
        simp (implicitDefEqProofs := false) (disch := omega) only [go_sem, ↓reduceIte, d1]
        refine call0 (half_spec n (by omega) h4) ?_
        simp (implicitDefEqProofs := false) (disch := omega) only [go_sem, ↓reduceIte, d2, i3, i4]
        refine callG false [(0, 0), (1, 1), (2, 2), (3, 3)] [(0, 0), (1, 1), (2, 2), (3, 3)] 6 hc ?_ ?_
        · simp [keys]
        simp (implicitDefEqProofs := false) (disch := omega) only [go_sem, ↓reduceIte, dg]
        refine callG false [(0, 3)] [(0, 3)] 8 htk ?_ ?_
        · simp [keys]
        simp (implicitDefEqProofs := false) (disch := omega) only [go_sem, ↓reduceIte]
        refine call0 (node_spec17 _ _ hxg ho) ?_
        simp (implicitDefEqProofs := false) (disch := omega) only [go_sem, ↓reduceIte]
        refine call0 (node_spec17 _ _ hxg hw) ?_
        try simp (implicitDefEqProofs := false) (disch := omega) only [go_sem, ↓reduceIte]
        refine ⟨[(0, 0), (1, 1), (2, 2), (3, 3)], [], [], rfl, ?_, ?_, ?_⟩ <;> simp (implicitDefEqProofs := false) (disch := omega) only [go_sem, ↓reduceIte]
      · have hd0 : W.drop D = [] := List.drop_eq_nil_of_le (by omega)
        have hd1 : W.drop (D + 1) = [] := List.drop_eq_nil_of_le (by omega)
        have hm0 : L - D = 0 := by omega
        have hm1 : L - (D + 1) = 0 := by omega
        have e2 : decide (D + 1 ≤ L) = false := decide_eq_false (by omega)
        rw [hm0, hd0, List.map_nil] at hc
        rw [hm1, hd1, e2, List.map_nil]
        refine ⟨nodeL (List.replicate 32 0) o, nodeL (List.replicate 32 0) w, nodeL_good _ _, nodeL_good _ _, fun h => absurd h (by omega), ?_⟩
        refine fnN mix pl79 4 6 [.cell 9 63, .cell 10 63, .tmp 11] Try.func79 rfl (by kernel_rfl) (by kernel_rfl) rfl (by kernel_rfl) (by kernel_rfl) (by simp) ?_
        simp (implicitDefEqProofs := false) (disch := omega) only [go_sem, ↓reduceIte, d1]
        refine call0 (half_spec n (by omega) h4) ?_
        simp (implicitDefEqProofs := false) (disch := omega) only [go_sem, ↓reduceIte, d2, i3, i4]
        refine callG false [(0, 0), (1, 1), (2, 2), (3, 3)] [(0, 0), (1, 1), (2, 2), (3, 3)] 6 hc ?_ ?_
        · simp [keys]
        generalize decide (D ≤ L) = B at *
        simp (implicitDefEqProofs := false) (disch := omega) only [go_sem, ↓reduceIte]
        refine callG false [(0, 3)] [(0, 3)] 8 take_nil_spec19 ?_ ?_
        · simp [keys]
        simp (implicitDefEqProofs := false) (disch := omega) only [go_sem, ↓reduceIte, List.map_nil]
        refine call0 (node_spec17 _ _ zero_good ho) ?_
        try simp (implicitDefEqProofs := false) (disch := omega) only [go_sem, ↓reduceIte]
        refine call0 (node_spec17 _ _ zero_good hw) ?_
        cases B
        · simp (implicitDefEqProofs := false) (disch := omega) only [go_sem, ↓reduceIte]
          refine ⟨[(0, 0), (1, 1), (2, 2), (3, 3)], [], [], rfl, ?_, ?_, ?_⟩ <;> simp (implicitDefEqProofs := false) (disch := omega) only [go_sem, ↓reduceIte]
        · simp (implicitDefEqProofs := false) (disch := omega) only [go_sem, ↓reduceIte]
          refine ⟨[(0, 0), (1, 1), (2, 2), (3, 3)], [], [], rfl, ?_, ?_, ?_⟩ <;> simp (implicitDefEqProofs := false) (disch := omega) only [go_sem, ↓reduceIte]
end Go.Proofs.Ytegbkbkcfcjkbaa
/- log.Grows; planchetref19.Both and Grows. -/
namespace Go.Proofs.Ytegbkbkcfcjkbaa
open Go Go.Sy Go.Proofs.Try
set_option maxRecDepth 100000
set_option maxHeartbeats 8000000
set_option linter.unusedSimpArgs false
set_option linter.unusedVariables false

def growsP (a : List Int) (m : Int) (b : List Int) (n : Int) (W : List (List Int)) : Prop := 1 ≤ m ∧ m ≤ n ∧ n ≤ 200 ∧ depG n.toNat m.toNat n.toNat false = W.length ∧ groV a W n.toNat m.toNat n.toNat false = (a, b)
instance (a : List Int) (m : Int) (b : List Int) (n : Int) (W : List (List Int)) : Decidable (growsP a m b n W) := by unfold growsP; infer_instance
theorem grows_spec (a b : List Int) (m n : Int) (W : List (List Int)) (L : Nat) (ha : goodD a) (hb : goodD b) (hW : W.length = L) (hL : L ≤ 1000000) (hg : ∀ d ∈ W, goodD d) :
    FnC Try.prog 41 [.ints .u8 32 a, .int .i64 m, .ints .u8 32 b, .int .i64 n, .sl (.lst 32 L (W.map dg))] [] (.bool (decide (growsP a m b n W))) [] := by
  refine fn0 mix [] 0 5 [.tmp 10] Try.func41 rfl (by kernel_rfl) (by kernel_rfl) rfl (by kernel_rfl) (by kernel_rfl) (by simp) ?_
  simp (implicitDefEqProofs := false) (disch := omega) only [go_sem, ↓reduceIte]
  refine brd (fun h => ?_) (fun h1 => ?_)
  · have h := h
    have e : decide (growsP a m b n W) = false := decide_eq_false (fun h => by unfold growsP at h; omega)
    rw [e]
    simp (implicitDefEqProofs := false) (disch := omega) only [go_sem, ↓reduceIte]
  simp (implicitDefEqProofs := false) (disch := omega) only [go_sem, ↓reduceIte]
  refine brd (fun h => ?_) (fun h2 => ?_)
  · have h := h
    have e : decide (growsP a m b n W) = false := decide_eq_false (fun h => by unfold growsP at h; omega)
    rw [e]
    simp (implicitDefEqProofs := false) (disch := omega) only [go_sem, ↓reduceIte]
  simp (implicitDefEqProofs := false) (disch := omega) only [go_sem, ↓reduceIte]
  refine brd (fun h => ?_) (fun h3 => ?_)
  · have h := h
    have e : decide (growsP a m b n W) = false := decide_eq_false (fun h => by unfold growsP at h; omega)
    rw [e]
    simp (implicitDefEqProofs := false) (disch := omega) only [go_sem, ↓reduceIte]
  obtain ⟨M, rfl⟩ := Int.eq_ofNat_of_zero_le (show 0 ≤ m by omega)
  obtain ⟨N, rfl⟩ := Int.eq_ofNat_of_zero_le (show 0 ≤ n by omega)
  obtain ⟨o, w, ho, hw, hv, hc⟩ := gup_spec a ha W L hW hL hg N M N false (Nat.le_refl _) (by omega) (by omega) (by omega)
  have e : decide (growsP a M b N W) = decide (depG N M N false = L ∧ groV a W N M N false = (a, b)) := by
    apply decide_eq_decide.2
    unfold growsP
    rw [Int.toNat_natCast, Int.toNat_natCast, hW]
    constructor
    · intro h; exact ⟨h.2.2.2.1, h.2.2.2.2⟩
    · intro h; exact ⟨by omega, by omega, by omega, h.1, h.2⟩
  rw [e]
  generalize depG N M N false = D at *
  generalize groV a W N M N false = V at *
  simp (implicitDefEqProofs := false) (disch := omega) only [go_sem, ↓reduceIte]
  refine callG false [(0, 0), (1, 3), (2, 4), (3, 2)] [(0, 0), (1, 3), (2, 4), (3, 2)] 5 hc ?_ ?_
  · simp [keys]
  by_cases c1 : D ≤ L
  · rw [decide_eq_true c1]
    by_cases c2 : D = L
    · subst c2
      have hv := hv (Nat.le_refl _)
      have e2 : decide (D = D ∧ V = (a, b)) = (decide (o = a) && decide (w = b)) := by
        rw [← hv]; simp
      rw [Nat.sub_self, e2]
      simp (implicitDefEqProofs := false) (disch := omega) only [go_sem, ↓reduceIte]
      by_cases c3 : o = a
      · have e3 : decide (o = a) = true := decide_eq_true c3
        simp (implicitDefEqProofs := false) (disch := omega) only [go_sem, ↓reduceIte, e3]
      · have e3 : decide (o = a) = false := decide_eq_false c3
        simp (implicitDefEqProofs := false) (disch := omega) only [go_sem, ↓reduceIte, e3]
    · have e2 : decide (D = L ∧ V = (a, b)) = false := decide_eq_false (fun h => c2 h.1)
      rw [e2]
      have e3 : decide (((L - D : Nat) : Int) = 0) = false := decide_eq_false (by omega)
      have e4 : ¬ L - D = 0 := by omega
      simp (implicitDefEqProofs := false) (disch := omega) only [go_sem, ↓reduceIte, e3, e4]
  · rw [decide_eq_false c1]
    have e2 : decide (D = L ∧ V = (a, b)) = false := decide_eq_false (fun h => c1 (by omega))
    rw [e2]
    simp (implicitDefEqProofs := false) (disch := omega) only [go_sem, ↓reduceIte]
theorem groV_congr (a : List Int) (W W' : List (List Int)) : ∀ (f m n : Nat) (cut : Bool), (∀ j, j < depG f m n cut → W.getD j [] = W'.getD j []) → groV a W f m n cut = groV a W' f m n cut
  | 0, _, _, _, _ => rfl
  | f + 1, m, n, cut, h => by
    by_cases c : m = n
    · subst c
      rw [depG_eq] at h
      rw [groV_eq, groV_eq]
      cases cut
      · rfl
      · rw [if_pos rfl, if_pos rfl, h 0 (by rw [if_pos rfl]; decide)]
    by_cases c2 : m ≤ halfN n
    · rw [depG_lo f cut c c2] at h
      rw [groV_lo a W f cut c c2, groV_lo a W' f cut c c2, groV_congr a W W' f m (halfN n) cut (fun j hj => h j (by omega)), h (depG f m (halfN n) cut) (by omega)]
    · rw [depG_hi f cut c c2] at h
      rw [groV_hi a W f cut c c2, groV_hi a W' f cut c c2, groV_congr a W W' f (m - halfN n) (n - halfN n) true (fun j hj => h j (by omega)), h (depG f (m - halfN n) (n - halfN n) true) (by omega)]
end Go.Proofs.Ytegbkbkcfcjkbaa
/- planchetref19.Grows; the walk of LogChecks. -/
namespace Go.Proofs.Ytegbkbkcfcjkbaa
open Go Go.Sy Go.Proofs.Try
set_option maxRecDepth 100000
set_option maxHeartbeats 8000000
set_option linter.unusedSimpArgs false
set_option linter.unusedVariables false

end Go.Proofs.Ytegbkbkcfcjkbaa
