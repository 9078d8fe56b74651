/- A hash that was written a text; sums of parts. -/
import Derived.Test.YthhlielliopegaaGreatSha3
namespace Go.Proofs.YthhlielliopegaaGreat
open Go Go.Sy Go.Proofs.Tryz
set_option maxRecDepth 100000
set_option maxHeartbeats 8000000
set_option linter.unusedSimpArgs false
set_option linter.unusedVariables false
attribute [go_sem] pl106
theorem runB_app (st X b : List Int) : ∀ j, 64 * j ≤ X.length → runB st (X ++ b) j = runB st X j
  | 0, _ => rfl
  | j + 1, h => by
    have e : ((X ++ b).drop (64 * j)).take 64 = (X.drop (64 * j)).take 64 := by
      rw [List.drop_append_of_le_length (by omega), List.take_append_of_le_length (by rw [List.length_drop]; omega)]
    rw [runB, runB, runB_app st X b j (by omega), e]
theorem runB_on (st X b : List Int) (q : Nat) (hq : 64 * q ≤ X.length) : ∀ j, runB (runB st X q) (X.drop (64 * q) ++ b) j = runB st (X ++ b) (q + j)
  | 0 => (runB_app st X b q hq).symm
  | j + 1 => by
    have e : (X.drop (64 * q) ++ b).drop (64 * j) = (X ++ b).drop (64 * (q + j)) := by
      rw [← List.drop_append_of_le_length hq, List.drop_drop, Nat.mul_add]
    rw [runB, runB_on st X b q hq j, e, ← Nat.add_assoc, runB]
def hst (X : List Int) : List Int := runB init X (X.length / 64)
def hrest (X : List Int) : List Int := X.drop (64 * (X.length / 64))
theorem hrest_len (X : List Int) : (hrest X).length = X.length % 64 := by unfold hrest; rw [List.length_drop]; omega
theorem h_state (X b : List Int) : runB (hst X) (hrest X ++ b) ((hrest X ++ b).length / 64) = hst (X ++ b) := by
  unfold hst hrest
  rw [runB_on init X b _ (by omega)]
  congr 1
  simp only [List.length_append, List.length_drop]
  omega
theorem h_rest (X b : List Int) : (hrest X ++ b).drop (64 * ((hrest X ++ b).length / 64)) = hrest (X ++ b) := by
  unfold hrest
  rw [← List.drop_append_of_le_length (show 64 * (X.length / 64) ≤ X.length by omega), List.drop_drop]
  congr 1
  simp only [List.length_append, List.length_drop]
  omega
theorem h_restlen (X b : List Int) : (hrest X ++ b).length - 64 * ((hrest X ++ b).length / 64) = (hrest (X ++ b)).length := by
  rw [← h_rest, List.length_drop]
theorem init_len : init.length = 8 := rfl
theorem init_isW : ∀ x ∈ init, isW x := by
  intro x hx
  simp only [init, List.mem_cons, List.not_mem_nil, or_false] at hx
  rcases hx with rfl | rfl | rfl | rfl | rfl | rfl | rfl | rfl <;> exact ⟨by decide, by decide⟩
def isB (x : Int) : Prop := 0 ≤ x ∧ x < 256
theorem hrest_mem {X : List Int} (hX : ∀ x ∈ X, 0 ≤ x ∧ x < 256) : ∀ x ∈ hrest X, 0 ≤ x ∧ x < 256 := fun x hx => hX x (List.mem_of_mem_drop hx)
theorem write_abs (X b : List Int) (hX : ∀ x ∈ X, 0 ≤ x ∧ x < 256) (hb : ∀ x ∈ b, 0 ≤ x ∧ x < 256) (hbl : b.length ≤ 1000000) (hn : X.length < 1000000000) :
    FnC Tryz.prog 105 [.ref 0 [], .sl (.ints .u8 b.length b)] [(0, .var (.agg [.ints .u32 8 (hst X), .osl 1 [] 1 0 (hrest X).length, .int .i64 X.length])), (1, .row (.ints .u8 (hrest X).length (hrest X)))] (.tup [])
      [(0, .var (.agg [.ints .u32 8 (hst (X ++ b)), .osl 1 [] 1 0 (hrest (X ++ b)).length, .int .i64 (X ++ b).length])), (1, .row (.ints .u8 (hrest (X ++ b)).length (hrest (X ++ b))))] := by
  have h := write_spec (hst X) (hrest X) b X.length (runB_len X init_len _) (runB_isW X init_isW _) (by rw [hrest_len]; omega) (fun x hx => by
    rcases List.mem_append.1 hx with hx | hx
    · exact hrest_mem hX x hx
    · exact hb x hx) hbl (by omega) (by omega)
  rw [h_restlen, h_state, h_rest] at h
  have e : (X.length : Int) + b.length = ((X ++ b).length : Nat) := by rw [List.length_append]; omega
  rw [e] at h
  exact h
def padN (n : Nat) : List Int := padR (n % 64) n
/-- The sum of a text. -/
def sumD (X : List Int) : List Int := outB (runB init (X ++ padN X.length) ((X ++ padN X.length).length / 64))
theorem sum_abs (X : List Int) (hX : ∀ x ∈ X, 0 ≤ x ∧ x < 256) (hn : X.length < 1000000000) :
    FnC Tryz.prog 106 [.ref 0 []] [(0, .var (.agg [.ints .u32 8 (hst X), .osl 1 [] 1 0 (hrest X).length, .int .i64 X.length])), (1, .row (.ints .u8 (hrest X).length (hrest X)))] (.ints .u8 32 (sumD X))
      [(0, .var (.agg [.ints .u32 8 (hst X), .osl 1 [] 1 0 (hrest X).length, .int .i64 X.length])), (1, .row (.ints .u8 (hrest X).length (hrest X)))] := by
  have h := sum_spec (hst X) (hrest X) X.length (runB_len X init_len _) (runB_isW X init_isW _) (by rw [hrest_len]; omega) (hrest_mem hX) (by omega) (by omega)
  have e : sumR (hst X) (hrest X) X.length = sumD X := by
    unfold sumR sumD
    rw [h_state, hrest_len]
    rfl
  rw [e] at h
  exact h
theorem new_abs : FnC Tryz.prog 104 [] [] (.ref 0 []) [(0, .var (.agg [.ints .u32 8 (hst []), .osl 1 [] 1 0 (hrest []).length, .int .i64 ([] : List Int).length])), (1, .row (.ints .u8 (hrest []).length (hrest [])))] := new_spec53
theorem sum_nil_spec : FnC Tryz.prog 106 [.nilp] [] (.ints .u8 32 (sumD [])) [] := by
  refine fn0 mix pl106 0 1 [.cell 2 23] Tryz.func106 rfl (by kernel_rfl) (by kernel_rfl) rfl (by kernel_rfl) (by kernel_rfl) (by simp) ?_
  simp (implicitDefEqProofs := false) (disch := omega) only [go_sem, ↓reduceIte]
  refine callF 2 new_abs ?_
  simp (implicitDefEqProofs := false) (disch := omega) only [go_sem, ↓reduceIte]
  refine callG false [(0, 1), (1, 2)] [(0, 1), (1, 3)] 4 (sum_abs [] (by simp) (by decide)) ?_ ?_
  · simp [keys]
  simp (implicitDefEqProofs := false) (disch := omega) only [go_sem, ↓reduceIte]
def cat (ps : List (List Int)) : List Int := ps.flatMap id
theorem cat_succ {ps : List (List Int)} {i : Nat} {b : List Int} (h : ps[i]? = some b) : cat (ps.take (i + 1)) = cat (ps.take i) ++ b := by
  unfold cat
  rw [List.take_add_one, h, List.flatMap_append]
  simp only [Option.toList_some, List.flatMap_cons, List.flatMap_nil, List.append_nil, id]
theorem cat_le (ps : List (List Int)) (i : Nat) : (cat (ps.take i)).length ≤ (cat ps).length := by
  have : cat ps = cat (ps.take i) ++ cat (ps.drop i) := by
    unfold cat
    rw [← List.flatMap_append, List.take_append_drop]
  rw [this, List.length_append]
  omega
theorem cat_mem {ps : List (List Int)} (h : ∀ p ∈ ps, ∀ x ∈ p, 0 ≤ x ∧ x < 256) (i : Nat) : ∀ x ∈ cat (ps.take i), 0 ≤ x ∧ x < 256 := by
  intro x hx
  simp only [cat, List.mem_flatMap, id] at hx
  obtain ⟨p, hp, hx⟩ := hx
  exact h p (List.mem_of_mem_take hp) x hx
theorem sums_spec (ps : List (List Int)) (h : ∀ p ∈ ps, ∀ x ∈ p, 0 ≤ x ∧ x < 256) (hn : (cat ps).length ≤ 1000000) (hl : ps.length ≤ 1000000) : FnC Tryz.prog 88 [.sl (.lst 1 ps.length (ps.map bsl))] [] (.ints .u8 32 (sumD (cat ps))) [] := by
  refine fn0 mix [] 0 1 [.cell 2 23] Tryz.func88 rfl (by kernel_rfl) (by kernel_rfl) rfl (by kernel_rfl) (by kernel_rfl) (by simp) ?_
  simp (implicitDefEqProofs := false) (disch := omega) only [go_sem, ↓reduceIte]
  refine callF 2 new_abs ?_
  simp (implicitDefEqProofs := false) (disch := omega) only [go_sem, ↓reduceIte]
  refine loop (ι := Nat) 3 (fun i => i ≤ ps.length) (fun i => [(7, .sl (.lst 1 ps.length (ps.map bsl))), (8, .int .i64 ps.length), (9, .int .i64 i), (3, .ref 1 []), (2, .ref 0 [])]) (fun i => [(0, .var (.ints .u8 32 (List.replicate 32 0))), (1, .var (.agg [.ints .u32 8 (hst (cat (ps.take i))), .osl 2 [] 1 0 (hrest (cat (ps.take i))).length, .int .i64 (cat (ps.take i)).length])), (2, .row (.ints .u8 (hrest (cat (ps.take i))).length (hrest (cat (ps.take i)))))]) (fun i => ps.length - i) 0 [(0, 0), (1, 1), (2, 2)] [] (Nat.zero_le _) rfl ?_ ?_ ?_ (fun i hi => ?_)
  · simp (implicitDefEqProofs := false) (disch := omega) only [go_sem, ↓reduceIte]
  · simp (implicitDefEqProofs := false) (disch := omega) only [go_sem, ↓reduceIte]
  · simp (implicitDefEqProofs := false) (disch := omega) only [go_sem, ↓reduceIte, List.take_zero, cat, List.flatMap_nil]
  simp (implicitDefEqProofs := false) (disch := omega) only [go_sem, ↓reduceIte]
  refine brd (fun h3 => ?_) (fun h3 => ?_)
  · have hi' := List.getElem?_eq_getElem (show i < ps.length by omega)
    have hb := h _ (List.getElem_mem (show i < ps.length by omega))
    have hs := cat_succ hi'
    have hg := fun K => getP_map (f := bsl) hi' K
    generalize ps[i]'(show i < ps.length by omega) = b at *
    have h1 := cat_le ps i
    have h2 := cat_le ps (i + 1)
    rw [hs, List.length_append] at h2
    simp (implicitDefEqProofs := false) (disch := omega) only [go_sem, ↓reduceIte, hg, bsl]
    refine callG false [(0, 1), (1, 2)] [(0, 1), (1, 3)] 4 (write_abs (cat (ps.take i)) b (cat_mem h i) hb (by omega) (by omega)) ?_ ?_
    · simp [keys]
    simp (implicitDefEqProofs := false) (disch := omega) only [go_sem, ↓reduceIte]
    refine ⟨i + 1, [(0, 0), (1, 1), (2, 3)], [], [], by dsimp only; omega, by dsimp only; omega, rfl, ?_, ?_, ?_⟩ <;> simp (implicitDefEqProofs := false) (disch := omega) only [go_sem, ↓reduceIte, hs]
  obtain rfl : i = ps.length := by omega
  rw [List.take_length]
  simp (implicitDefEqProofs := false) (disch := omega) only [go_sem, ↓reduceIte]
  have hm := cat_mem h ps.length
  rw [List.take_length] at hm
  refine callG false [(0, 1), (1, 2)] [(0, 1), (1, 3)] 4 (sum_abs (cat ps) hm (by omega)) ?_ ?_
  · simp [keys]
  simp (implicitDefEqProofs := false) (disch := omega) only [go_sem, ↓reduceIte]
end Go.Proofs.YthhlielliopegaaGreat
