/- The document's disk: sectors as texts. -/
import Derived.Test.YtjaailbgeadnnaaGreatDisk4
namespace Go.Proofs.YtjaailbgeadnnaaGreat
open Go Go.Sy Go.Proofs.Tryz
set_option maxRecDepth 100000
set_option maxHeartbeats 8000000
set_option linter.unusedSimpArgs false
set_option linter.unusedVariables false

def toU (xs : List Int) : List UInt8 := xs.map fun x => UInt8.ofNat x.toNat
theorem toU_len (xs : List Int) : (toU xs).length = xs.length := List.length_map _
theorem toU_app (a b : List Int) : toU (a ++ b) = toU a ++ toU b := List.map_append
theorem toU_take (a : List Int) (n : Nat) : toU (a.take n) = (toU a).take n := List.map_take
theorem toU_drop (a : List Int) (n : Nat) : toU (a.drop n) = (toU a).drop n := List.map_drop
def strU (xs : List Int) : AV := .str (toU xs)
/-- A sector. -/
def chunk (sz : Nat) (b : List Int) (q : Nat) : List Int := (b.drop (q * sz)).take sz
def chunks (sz ns : Nat) (b : List Int) : List (List Int) := (List.range ns).map (chunk sz b)
theorem chunks_len (sz ns : Nat) (b : List Int) : (chunks sz ns b).length = ns := by simp [chunks]
theorem chunks_get {sz ns : Nat} {b : List Int} {q : Nat} (h : q < ns) : (chunks sz ns b)[q]? = some (chunk sz b q) := by
  unfold chunks
  rw [List.getElem?_map, List.getElem?_range h]
  rfl
theorem chunk_len {sz ns : Nat} {b : List Int} {q : Nat} (hb : b.length = ns * sz) (h : q < ns) : (chunk sz b q).length = sz := by
  unfold chunk
  rw [List.length_take, List.length_drop, hb]
  have : q * sz + sz ≤ ns * sz := by rw [← Nat.succ_mul]; exact Nat.mul_le_mul_right _ h
  omega
theorem putB_zero (sz : Nat) (b : List Int) (at' : Nat) (t : List Int) : putB sz b at' t 0 = b := by
  unfold putB
  rw [List.take_zero, List.nil_append, Nat.add_zero, List.take_append_drop]
theorem chunk_put {sz ns : Nat} {b t : List Int} {at' m q : Nat} (hb : b.length = ns * sz) (ha : at' < ns) (hq : q < ns) (ht : t.length = sz) (hm : m ≤ sz) :
    chunk sz (putB sz b at' t m) q = if q = at' then t.take m ++ (chunk sz b at').drop m else chunk sz b q := by
  have ha2 : at' * sz + sz ≤ ns * sz := by rw [← Nat.succ_mul]; exact Nat.mul_le_mul_right _ ha
  have hpl : (putB sz b at' t m).length = ns * sz := by rw [putB_len (by omega) (by omega), hb]
  have l1 : (b.take (at' * sz)).length = at' * sz := by rw [List.length_take]; omega
  have l2 : (t.take m).length = m := by rw [List.length_take]; omega
  by_cases c : q = at'
  · subst c
    rw [if_pos rfl]
    apply List.ext_getElem?
    intro j
    unfold chunk putB
    rw [List.getElem?_take, List.getElem?_drop, List.getElem?_append_right (by omega), l1, Nat.add_sub_cancel_left]
    by_cases hj : j < sz
    · rw [if_pos hj]
      by_cases hjm : j < m
      · rw [List.getElem?_append_left (by omega), List.getElem?_append_left (by omega)]
      · rw [List.getElem?_append_right (by omega), List.getElem?_append_right (by omega), l2, List.getElem?_drop, List.getElem?_drop, List.getElem?_take, List.getElem?_drop, if_pos (by omega)]
        congr 1; omega
    · rw [if_neg hj, List.getElem?_append_right (by omega), l2, List.getElem?_drop, List.getElem?_take, if_neg (by omega)]
  · rw [if_neg c]
    apply List.ext_getElem?
    intro j
    unfold chunk putB
    rw [List.getElem?_take, List.getElem?_take, List.getElem?_drop, List.getElem?_drop]
    by_cases hj : j < sz
    · rw [if_pos hj, if_pos hj]
      by_cases hlt : q < at'
      · have : q * sz + sz ≤ at' * sz := by rw [← Nat.succ_mul]; exact Nat.mul_le_mul_right _ hlt
        rw [List.getElem?_append_left (by omega), List.getElem?_take, if_pos (by omega)]
      · have : at' * sz + sz ≤ q * sz := by rw [← Nat.succ_mul]; exact Nat.mul_le_mul_right _ (by omega)
        rw [List.getElem?_append_right (by omega), l1, List.getElem?_append_right (by omega), l2, List.getElem?_drop]
        congr 1; omega
    · rw [if_neg hj, if_neg hj]
theorem chunks_put {sz ns : Nat} {b t : List Int} {at' m : Nat} (hb : b.length = ns * sz) (ha : at' < ns) (ht : t.length = sz) (hm : m ≤ sz) :
    chunks sz ns (putB sz b at' t m) = (chunks sz ns b).set at' (t.take m ++ (chunk sz b at').drop m) := by
  apply List.ext_getElem?
  intro q
  by_cases hq : q < ns
  · rw [chunks_get hq, chunk_put hb ha hq ht hm, List.getElem?_set, chunks_len]
    by_cases c : q = at'
    · rw [if_pos c, if_pos c.symm, if_pos ha]
    · rw [if_neg c, if_neg (fun h => c h.symm), chunks_get hq]
  · rw [List.getElem?_eq_none (by rw [chunks_len]; omega), List.getElem?_eq_none (by rw [List.length_set, chunks_len]; omega)]
/-- How far a failure is; below 0: none is set. -/
def leftR (D : DS) : Int := if D.set = true then D.left else -1
abbrev refV (i j k ns : Nat) (D : DS) : AV := .agg [.int .i64 D.sz, .osl i [] 1 0 ns, .osl j [] 1 0 D.wait.length, .osl k [] 1 0 D.wait.length, .bool D.off, .int .i64 (leftR D), .sl (.ints .i64 D.keep.length D.keep)]
abbrev refO (i j k ns : Nat) (D : DS) : OO := [(0, .var (refV i j k ns D)), (i, .row (.lst 1 ns ((chunks D.sz ns D.b).map strU))), (j, .row (.ints .i64 D.wait.length (D.wait.map fun w => (w.1 : Int)))), (k, .row (.lst 1 D.wait.length (D.wait.map fun w => strU w.2)))]
attribute [go_sem] refV refO
attribute [simp] refO
structure okR (ns : Nat) (D : DS) : Prop where
  n1 : ns ≤ 64
  bl : D.b.length = ns * D.sz
  lf : D.set = true → 0 ≤ D.left ∧ D.left < 9223372036854775808
theorem getC {sz ns : Nat} {b : List Int} {q : Nat} (h : q < ns) (K : AV → Prop) : getP ((chunks sz ns b).map strU) q K = K (.str (toU (chunk sz b q))) := getP_map (f := strU) (chunks_get h) K
theorem getWs {W : List (Nat × List Int)} {i : Nat} (h : i < W.length) (K : AV → Prop) : getP (W.map fun w => strU w.2) i K = K (.str (toU (W[i]).2)) := getP_map (f := fun w => strU w.2) (List.getElem?_eq_getElem h) K
end Go.Proofs.YtjaailbgeadnnaaGreat
