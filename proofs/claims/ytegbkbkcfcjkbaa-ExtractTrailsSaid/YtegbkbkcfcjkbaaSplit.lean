/- The contracts of pack: cutting and splitting; the walks of PackRows and PackSplits. -/
import Derived.Test.YtegbkbkcfcjkbaaPack
namespace Go.Proofs.Ytegbkbkcfcjkbaa
open Go Go.Sy Go.Proofs.Try
set_option maxRecDepth 100000
set_option maxHeartbeats 4000000
set_option linter.unusedSimpArgs false
set_option linter.unusedVariables false
attribute [go_sem] pl44
theorem shl_orI {a x : Int} (ha : 0 ≤ a) (ha' : a < 256) (hx : 0 ≤ x) (hx' : x < 256) : ior .i64 (ishl .i64 a 8) x = a * 256 + x := by
  have e : ishl .i64 a 8 = a * 256 := by
    unfold ishl
    have h8 : (2 : Int) ^ (min 8 IntKind.i64.bits) = 256 := by decide
    rw [h8]
    exact wrap_i64 (by omega) (by omega)
  rw [e, ior_nat (by omega) (by show _ < (2 : Int) ^ 64; omega) hx (by show _ < (2 : Int) ^ 64; omega)]
  have h := Nat.shiftLeft_add_eq_or_of_lt (i := 8) (b := x.toNat) (by omega) a.toNat
  have e2 : (a * 256).toNat = a.toNat <<< 8 := by rw [Nat.shiftLeft_eq]; omega
  rw [e2, ← h, Nat.shiftLeft_eq]
  rw [wrap_i64 (by omega) (by omega)]
  omega
def num2 (b : List Int) : Nat := (b.getD 0 0 * 256 + b.getD 1 0).toNat
theorem num2_int {b : List Int} (hb : ∀ x ∈ b, 0 ≤ x ∧ x < 256) (hl : 2 ≤ b.length) : b.getD 0 0 * 256 + b.getD 1 0 = (num2 b : Int) ∧ num2 b ≤ 65535 := by
  have h0 := getD_all' hb (show 0 < b.length by omega)
  have h1 := getD_all' hb (show 1 < b.length by omega)
  unfold num2
  omega
/-- So many texts off bytes, and what is left. -/
def splitL : Nat → List Int → Option (List (List Int) × List Int)
  | 0, b => some ([], b)
  | k + 1, b => if b.length < 2 then none else if b.length - 2 < num2 b then none else (splitL k (b.drop (2 + num2 b))).map fun r => ((b.drop 2).take (num2 b) :: r.1, r.2)
def splitR : Option (List (List Int) × List Int) → AV
  | none => .tup [.nils, .int .i64 2]
  | some (l, rest) => if rest = [] then .tup [.sl (.lst 1 l.length (l.map bsl)), .int .i64 0] else .tup [.nils, .int .i64 2]
/-- Behind some texts the others. -/
def go (done : List (List Int)) (k : Nat) (rest : List Int) : Option (List (List Int) × List Int) := (splitL k rest).map fun r => (done ++ r.1, r.2)
theorem go_short {done : List (List Int)} {k : Nat} {rest : List Int} (h : rest.length < 2) : go done (k + 1) rest = none := by simp [go, splitL, h]
theorem go_lack {done : List (List Int)} {k : Nat} {rest : List Int} (h : 2 ≤ rest.length) (h' : rest.length - 2 < num2 rest) : go done (k + 1) rest = none := by
  simp [go, splitL, show ¬ rest.length < 2 by omega, h']
theorem go_step {done : List (List Int)} {k : Nat} {rest : List Int} (h : 2 ≤ rest.length) (h' : num2 rest ≤ rest.length - 2) : go done (k + 1) rest = go (done ++ [(rest.drop 2).take (num2 rest)]) k (rest.drop (2 + num2 rest)) := by
  simp only [go, splitL, if_neg (show ¬ rest.length < 2 by omega), if_neg (show ¬ rest.length - 2 < num2 rest by omega)]
  cases splitL k (rest.drop (2 + num2 rest)) <;> simp
theorem go_end {done : List (List Int)} {rest : List Int} : go done 0 rest = some (done, rest) := by simp [go, splitL]
def split (b : List Int) : Option (List (List Int) × List Int) := if b.length < 2 then none else splitL (num2 b) (b.drop 2)
theorem bsl_of {x : List Int} {n : Nat} (h : x.length = n) : AV.sl (.ints .u8 n x) = bsl x := by rw [bsl, h]
def rsplitR : Option (List (List Int) × List Int) → AV
  | none => .tup [.nils, .bool false]
  | some (l, rest) => .tup [.sl (.lst 1 l.length (l.map bsl)), .bool (decide (rest = []))]
theorem drop_getD (b : List Int) (i j : Nat) : (b.drop i).getD j 0 = b.getD (i + j) 0 := by simp [List.getD, List.getElem?_drop]
theorem same_spec (l : List (List Int)) (hl : l.length ≤ 1000000) : FnC Try.prog 44 [.sl (.lst 1 l.length (l.map bsl)), .sl (.lst 1 l.length (l.map bsl))] [] (.bool true) [] := by
  refine fn0 mix pl44 0 2 [.tmp 4] Try.func44 rfl (by kernel_rfl) (by kernel_rfl) rfl (by kernel_rfl) (by kernel_rfl) (by simp) ?_
  simp (implicitDefEqProofs := false) (disch := omega) only [go_sem, ↓reduceIte]
  refine loop (ι := Nat) 0 (fun i => i ≤ l.length) (fun i => [(0, .sl (.lst 1 l.length (l.map bsl))), (1, .sl (.lst 1 l.length (l.map bsl))), (5, .int .i64 i)]) (fun i => []) (fun i => l.length - i) 0 [] [] (Nat.zero_le _) rfl ?_ ?_ ?_ (fun i hi => ?_)
  · simp (implicitDefEqProofs := false) (disch := omega) only [go_sem, ↓reduceIte]
  · simp (implicitDefEqProofs := false) (disch := omega) only [go_sem, ↓reduceIte]
  · simp (implicitDefEqProofs := false) (disch := omega) only [go_sem, ↓reduceIte]
  simp (implicitDefEqProofs := false) (disch := omega) only [go_sem, ↓reduceIte]
  refine brd (fun h => ?_) (fun h => ?_)
  · have hi' := List.getElem?_eq_getElem (show i < l.length by omega)
    have hg := fun K => getP_map (f := bsl) hi' K
    generalize l[i]'(show i < l.length by omega) = b at *
    simp (implicitDefEqProofs := false) (disch := omega) only [go_sem, ↓reduceIte, hg, bsl]
    refine ⟨i + 1, [], [], [], by dsimp only; omega, by dsimp only; omega, rfl, ?_, ?_, ?_⟩ <;> simp (implicitDefEqProofs := false) (disch := omega) only [go_sem, ↓reduceIte]
  obtain rfl : i = l.length := by omega
  simp (implicitDefEqProofs := false) (disch := omega) only [go_sem, ↓reduceIte]
/-! What was written is split as it was; what was split is written as those bytes. -/
theorem num2_be (k : Nat) (h : k ≤ 65535) (t : List Int) : num2 (be k 2 ++ t) = k := by
  simp only [num2, be, List.cons_append, List.getD_cons_zero, List.getD_cons_succ, List.nil_append]
  omega
theorem splitL_rows : ∀ (ps : List (List Int)), (∀ p ∈ ps, p.length ≤ 65535) → splitL ps.length (ps.flatMap fun b => be b.length 2 ++ b) = some (ps, [])
  | [], _ => rfl
  | p :: ps, h => by
    have hp := h p (by simp)
    have ih := splitL_rows ps (fun q hq => h q (by simp [hq]))
    have e : ((p :: ps).flatMap fun b => be b.length 2 ++ b) = be p.length 2 ++ (p ++ (ps.flatMap fun b => be b.length 2 ++ b)) := by simp [List.flatMap_cons, List.append_assoc]
    rw [e]
    have hl : (be (p.length : Int) 2 ++ (p ++ (ps.flatMap fun b => be b.length 2 ++ b))).length = 2 + (p.length + (ps.flatMap fun b => be (b.length : Int) 2 ++ b).length) := by simp [be_len]
    have hnum := num2_be p.length hp (p ++ (ps.flatMap fun b => be b.length 2 ++ b))
    have hd2 : (be (p.length : Int) 2 ++ (p ++ (ps.flatMap fun b => be b.length 2 ++ b))).drop 2 = p ++ (ps.flatMap fun b => be b.length 2 ++ b) := by
      rw [List.drop_append_of_le_length (by rw [be_len]; exact Nat.le_refl _), List.drop_of_length_le (by rw [be_len]; exact Nat.le_refl _), List.nil_append]
    have hd3 : (be (p.length : Int) 2 ++ (p ++ (ps.flatMap fun b => be b.length 2 ++ b))).drop (2 + p.length) = ps.flatMap fun b => be b.length 2 ++ b := by
      rw [← List.drop_drop, hd2, List.drop_append_of_le_length (Nat.le_refl _), List.drop_of_length_le (Nat.le_refl _), List.nil_append]
    rw [List.length_cons, splitL, hl, if_neg (by omega), hnum, if_neg (by omega), hd2, hd3, ih, Option.map_some, List.take_append_of_le_length (Nat.le_refl _), List.take_of_length_le (Nat.le_refl _)]
theorem split_rowb (ps : List (List Int)) (hn : ps.length ≤ 65535) (h : ∀ p ∈ ps, p.length ≤ 65535) : split (rowb ps.length ps) = some (ps, []) := by
  unfold split rowb
  rw [num2_be _ hn, if_neg (by simp [be_len]), List.drop_append_of_le_length (by rw [be_len]; exact Nat.le_refl _), List.drop_of_length_le (by rw [be_len]; exact Nat.le_refl _), List.nil_append]
  exact splitL_rows ps h
theorem be_num2 {b : List Int} (hb : ∀ x ∈ b, 0 ≤ x ∧ x < 256) (h : 2 ≤ b.length) : b = be (num2 b) 2 ++ b.drop 2 := by
  match b, h with
  | x :: y :: t, _ =>
    have hx := hb x (by simp)
    have hy := hb y (by simp)
    simp only [num2, be, List.getD_cons_zero, List.getD_cons_succ, List.drop_succ_cons, List.drop_zero, List.cons_append, List.nil_append]
    congr 1
    · omega
    · congr 1; omega
theorem splitL_back : ∀ (k : Nat) (b : List Int) (l : List (List Int)) (rest : List Int), (∀ x ∈ b, 0 ≤ x ∧ x < 256) → splitL k b = some (l, rest) → l.length = k ∧ (∀ p ∈ l, p.length ≤ 65535) ∧ b = (l.flatMap fun b => be b.length 2 ++ b) ++ rest
  | 0, b, l, rest, _, h => by
    simp only [splitL, Option.some.injEq, Prod.mk.injEq] at h
    obtain ⟨rfl, rfl⟩ := h
    simp
  | k + 1, b, l, rest, hb, h => by
    simp only [splitL] at h
    split at h
    · cases h
    split at h
    · cases h
    rename_i h1 h2
    simp only [Option.map_eq_some_iff] at h
    obtain ⟨⟨l', rest'⟩, h3, h4⟩ := h
    simp only [Prod.mk.injEq] at h4
    obtain ⟨rfl, rfl⟩ := h4
    obtain ⟨i1, i2, i3⟩ := splitL_back k _ l' rest' (fun x hx => hb x (List.mem_of_mem_drop hx)) h3
    have hn := (num2_int hb (by omega)).2
    have ht : ((b.drop 2).take (num2 b)).length = num2 b := by rw [List.length_take, List.length_drop]; omega
    refine ⟨by simp [i1], fun p hp => ?_, ?_⟩
    · rcases List.mem_cons.1 hp with rfl | hp
      · rw [ht]; exact hn
      · exact i2 p hp
    · rw [List.flatMap_cons, ht, List.append_assoc, ← i3, List.append_assoc, ← List.drop_drop, List.take_append_drop]
      exact be_num2 hb (by omega)
theorem rowb_split {b : List Int} {l : List (List Int)} (hb : ∀ x ∈ b, 0 ≤ x ∧ x < 256) (h : split b = some (l, [])) : rowb l.length l = b ∧ l.length ≤ 65535 ∧ ∀ p ∈ l, p.length ≤ 65535 := by
  unfold split at h
  split at h
  · cases h
  obtain ⟨h1, h2, h3⟩ := splitL_back _ _ _ _ (fun x hx => hb x (List.mem_of_mem_drop hx)) h
  rw [List.append_nil] at h3
  have hn := num2_int hb (by omega)
  refine ⟨?_, by omega, h2⟩
  unfold rowb
  rw [← h3, h1]
  exact (be_num2 hb (by omega)).symm
end Go.Proofs.Ytegbkbkcfcjkbaa
