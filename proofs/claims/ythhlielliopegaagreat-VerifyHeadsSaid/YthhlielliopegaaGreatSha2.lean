/- The contracts of the package sha: a block, writing. -/
import Derived.Test.YthhlielliopegaaGreatSha
namespace Go.Proofs.YthhlielliopegaaGreat
open Go Go.Sy Go.Proofs.Tryz
set_option maxRecDepth 100000
set_option maxHeartbeats 8000000
set_option linter.unusedSimpArgs false
set_option linter.unusedVariables false
attribute [go_sem] pl124
def bS1 (e : Int) : Int := ixor .u32 (ixor .u32 (rot (2 ^ 6) (2 ^ 26) e) (rot (2 ^ 11) (2 ^ 21) e)) (rot (2 ^ 25) (2 ^ 7) e)
def bS0 (a : Int) : Int := ixor .u32 (ixor .u32 (rot (2 ^ 2) (2 ^ 30) a) (rot (2 ^ 13) (2 ^ 19) a)) (rot (2 ^ 22) (2 ^ 10) a)
def pS (v : List Int) (k w : Int) : Int := IntKind.u32.wrap (IntKind.u32.wrap (IntKind.u32.wrap (IntKind.u32.wrap (v.getD 7 0 + bS1 (v.getD 4 0)) + chI (v.getD 4 0) (v.getD 5 0) (v.getD 6 0)) + k) + w)
def qS (v : List Int) : Int := IntKind.u32.wrap (bS0 (v.getD 0 0) + maI (v.getD 0 0) (v.getD 1 0) (v.getD 2 0))
def stepS (v : List Int) (k w : Int) : List Int := [IntKind.u32.wrap (pS v k w + qS v), v.getD 0 0, v.getD 1 0, v.getD 2 0, IntKind.u32.wrap (v.getD 3 0 + pS v k w), v.getD 4 0, v.getD 5 0, v.getD 6 0]
def rounds (st W : List Int) : Nat → List Int
  | 0 => st
  | t + 1 => stepS (rounds st W t) (kk.getD t 0) (W.getD t 0)
theorem rounds_len {st : List Int} (W : List Int) (h : st.length = 8) : ∀ t, (rounds st W t).length = 8
  | 0 => h
  | t + 1 => rfl
theorem rounds_isW {st : List Int} (W : List Int) (h : st.length = 8) (hw : ∀ x ∈ st, isW x) : ∀ t, ∀ x ∈ rounds st W t, isW x
  | 0, x, hx => hw x hx
  | t + 1, x, hx => by
    have ih := rounds_isW W h hw t
    have hl := rounds_len W h t
    simp only [rounds, stepS, List.mem_cons, List.not_mem_nil, or_false] at hx
    rcases hx with rfl | rfl | rfl | rfl | rfl | rfl | rfl | rfl
    · exact wrap_isW _
    · exact getD_all' ih (by omega)
    · exact getD_all' ih (by omega)
    · exact getD_all' ih (by omega)
    · exact wrap_isW _
    · exact getD_all' ih (by omega)
    · exact getD_all' ih (by omega)
    · exact getD_all' ih (by omega)
def addS (st v : List Int) : List Int := List.zipWith (fun a b => IntKind.u32.wrap (a + b)) st v
theorem addS_len {st v : List Int} (h : st.length = 8) (h' : v.length = 8) : (addS st v).length = 8 := by simp [addS, h, h']
theorem addS_isW (st v : List Int) : ∀ x ∈ addS st v, isW x := by
  intro x hx
  obtain ⟨i, hi, rfl⟩ := List.getElem_of_mem hx
  simp only [addS, List.getElem_zipWith]
  exact wrap_isW _
def compress (st b : List Int) : List Int := addS st (rounds st (sched b 48) 64)
theorem acc_get {st v : List Int} {i : Nat} (h : st.length = 8) (h' : v.length = 8) (hi : i < 8) : ((addS st v).take i ++ st.drop i).getD i 0 = st.getD i 0 := by
  have hl : ((addS st v).take i).length = i := by rw [List.length_take, addS_len h h']; omega
  simp only [List.getD, List.getElem?_append_right (Nat.le_of_eq hl), hl, Nat.sub_self, List.getElem?_drop, Nat.add_zero]
theorem acc_set {st v : List Int} {i : Nat} (h : st.length = 8) (h' : v.length = 8) (hi : i < 8) : ((addS st v).take i ++ st.drop i).set i (IntKind.u32.wrap (st.getD i 0 + v.getD i 0)) = (addS st v).take (i + 1) ++ st.drop (i + 1) := by
  have hA := addS_len h h'
  have hl : ((addS st v).take i).length = i := by rw [List.length_take, hA]; omega
  have hd : st.drop i = st.getD i 0 :: st.drop (i + 1) := by
    rw [List.drop_eq_getElem_cons (by omega)]
    simp [List.getD, List.getElem?_eq_getElem (show i < st.length by omega)]
  have hg : (addS st v)[i]'(by omega) = IntKind.u32.wrap (st.getD i 0 + v.getD i 0) := by
    simp only [addS, List.getElem_zipWith, List.getD, List.getElem?_eq_getElem (show i < st.length by omega), List.getElem?_eq_getElem (show i < v.length by omega), Option.getD_some]
  rw [List.set_append_right _ _ (Nat.le_of_eq hl), hl, Nat.sub_self, hd, List.set_cons_zero, List.take_add_one, List.getElem?_eq_getElem (show i < (addS st v).length by omega), hg, List.append_assoc]
  rfl
theorem take_spec (st r : List Int) (m : Nat) (n : Int) (hs : st.length = 8) (hw : ∀ x ∈ st, isW x) (hr : r.length = m) (hm : 64 ≤ m) (hb : ∀ x ∈ r, 0 ≤ x ∧ x < 256) :
    FnC Tryz.prog 124 [.ref 0 [], .osl 1 [] 1 0 64] [(0, .var (.agg [.ints .u32 8 st, .osl 1 [] 1 0 m, .int .i64 n])), (1, .row (.ints .u8 m r))] (.tup [])
      [(0, .var (.agg [.ints .u32 8 (compress st (r.take 64)), .osl 1 [] 1 0 m, .int .i64 n])), (1, .row (.ints .u8 m r))] := by
  have hl64 : (r.take 64).length = 64 := by rw [List.length_take]; omega
  have hb64 : ∀ x ∈ r.take 64, 0 ≤ x ∧ x < 256 := fun x hx => hb x (List.mem_of_mem_take hx)
  refine fnN mix pl124 2 2 [] Tryz.func124 rfl (by kernel_rfl) (by kernel_rfl) rfl (by kernel_rfl) (by kernel_rfl) (by simp) ?_
  simp (implicitDefEqProofs := false) (disch := omega) only [go_sem, ↓reduceIte]
  refine callB (schedule_spec (r.take 64) hl64 hb64) ?_ ?_
  · simp (implicitDefEqProofs := false) (disch := omega) only [go_sem, ↓reduceIte]
    refine brd (fun h => ?_) (fun h => ?_)
    · subst h
      simp (implicitDefEqProofs := false) (disch := omega) only [go_sem, ↓reduceIte, List.take_of_length_le]
    · simp (implicitDefEqProofs := false) (disch := omega) only [go_sem, ↓reduceIte]
  simp (implicitDefEqProofs := false) (disch := omega) only [go_sem, ↓reduceIte]
  refine call0 keys_spec ?_
  simp (implicitDefEqProofs := false) (disch := omega) only [go_sem, ↓reduceIte]
  have hW := sched_isW hb64 48
  have hWl := sched_len (r.take 64) 48
  have hcmp : compress st (r.take 64) = addS st (rounds st (sched (r.take 64) 48) 64) := rfl
  generalize sched (r.take 64) 48 = W at *
  refine loop (ι := Nat) 5 (fun t => t ≤ 64) (fun t => [(0, .ref 0 []), (21, .int .i64 t), (4, .ref 2 []), (5, .ref 3 []), (6, .ref 4 [])]) (fun t => [(0, .var (.agg [.ints .u32 8 st, .osl 1 [] 1 0 m, .int .i64 n])), (1, .row (.ints .u8 m r)), (2, .var (.ints .u32 8 (rounds st W t))), (3, .var (.ints .u32 64 W)), (4, .var (.ints .u32 64 kk))]) (fun t => 64 - t) 0 [(0, 0), (1, 1), (2, 2), (3, 3), (4, 4)] [] (Nat.zero_le _) rfl ?_ ?_ ?_ (fun t ht => ?_)
  · simp (implicitDefEqProofs := false) (disch := omega) only [go_sem, ↓reduceIte]
  · simp (implicitDefEqProofs := false) (disch := omega) only [go_sem, ↓reduceIte]
  · simp (implicitDefEqProofs := false) (disch := omega) only [go_sem, ↓reduceIte, rounds]
  simp (implicitDefEqProofs := false) (disch := omega) only [go_sem, ↓reduceIte]
  refine brd (fun h2 => ?_) (fun h2 => ?_)
  · have hV := rounds_isW W hs hw t
    have hVl := rounds_len W hs t
    have hrs : rounds st W (t + 1) = stepS (rounds st W t) (kk.getD t 0) (W.getD t 0) := rfl
    generalize rounds st W t = v at *
    have v0 := getD_all' hV (show 0 < v.length by omega)
    have v1 := getD_all' hV (show 1 < v.length by omega)
    have v2 := getD_all' hV (show 2 < v.length by omega)
    have v4 := getD_all' hV (show 4 < v.length by omega)
    have v5 := getD_all' hV (show 5 < v.length by omega)
    have v6 := getD_all' hV (show 6 < v.length by omega)
    have c1 := ch_or v4 v5 v6
    have m1 := ma_or v0 v1 v2
    simp (implicitDefEqProofs := false) (disch := omega) only [go_sem, ↓reduceIte]
    refine call0 (turn_spec _ 6 26 rfl (by decide) (by decide) v4) ?_
    simp (implicitDefEqProofs := false) (disch := omega) only [go_sem, ↓reduceIte]
    refine call0 (turn_spec _ 11 21 rfl (by decide) (by decide) v4) ?_
    simp (implicitDefEqProofs := false) (disch := omega) only [go_sem, ↓reduceIte]
    refine call0 (turn_spec _ 25 7 rfl (by decide) (by decide) v4) ?_
    simp (implicitDefEqProofs := false) (disch := omega) only [go_sem, ↓reduceIte, c1]
    refine call0 (turn_spec _ 2 30 rfl (by decide) (by decide) v0) ?_
    simp (implicitDefEqProofs := false) (disch := omega) only [go_sem, ↓reduceIte]
    refine call0 (turn_spec _ 13 19 rfl (by decide) (by decide) v0) ?_
    simp (implicitDefEqProofs := false) (disch := omega) only [go_sem, ↓reduceIte]
    refine call0 (turn_spec _ 22 10 rfl (by decide) (by decide) v0) ?_
    simp (implicitDefEqProofs := false) (disch := omega) only [go_sem, ↓reduceIte, m1]
    refine ⟨t + 1, [(0, 0), (1, 1), (2, 2), (3, 3), (4, 4)], [], [], by dsimp only; omega, by dsimp only; omega, rfl, ?_, ?_, ?_⟩ <;> simp (implicitDefEqProofs := false) (disch := omega) only [go_sem, ↓reduceIte, hrs, stepS, pS, qS, bS1, bS0]
  obtain rfl : t = 64 := by omega
  have hV := rounds_isW W hs hw 64
  have hVl := rounds_len W hs 64
  rw [hcmp]
  generalize rounds st W 64 = v at *
  simp (implicitDefEqProofs := false) (disch := omega) only [go_sem, ↓reduceIte]
  refine loop (ι := Nat) 2 (fun i => i ≤ 8) (fun i => [(0, .ref 0 []), (102, .int .i64 i), (101, .ints .u32 8 v)]) (fun i => [(0, .var (.agg [.ints .u32 8 ((addS st v).take i ++ st.drop i), .osl 1 [] 1 0 m, .int .i64 n])), (1, .row (.ints .u8 m r))]) (fun i => 8 - i) 0 [(0, 0), (1, 1)] [] (Nat.zero_le _) rfl ?_ ?_ ?_ (fun i hi => ?_)
  · simp (implicitDefEqProofs := false) (disch := omega) only [go_sem, ↓reduceIte]
  · simp (implicitDefEqProofs := false) (disch := omega) only [go_sem, ↓reduceIte]
  · simp (implicitDefEqProofs := false) (disch := omega) only [go_sem, ↓reduceIte, List.nil_append]
  simp (implicitDefEqProofs := false) (disch := omega) only [go_sem, ↓reduceIte]
  refine brd (fun h3 => ?_) (fun h3 => ?_)
  · have a1 := acc_get hs hVl (show i < 8 by omega)
    have a2 := acc_set hs hVl (show i < 8 by omega)
    simp (implicitDefEqProofs := false) (disch := omega) only [go_sem, ↓reduceIte, a1]
    refine ⟨i + 1, [(0, 0), (1, 1)], [], [], by dsimp only; omega, by dsimp only; omega, rfl, ?_, ?_, ?_⟩ <;> simp (implicitDefEqProofs := false) (disch := omega) only [go_sem, ↓reduceIte, a2]
  obtain rfl : i = 8 := by omega
  have e0 : List.take 8 (addS st v) ++ List.drop 8 st = addS st v := by rw [List.take_of_length_le (by rw [addS_len hs hVl]; omega), List.drop_of_length_le (by omega), List.append_nil]
  rw [e0]
  simp (implicitDefEqProofs := false) (disch := omega) only [go_sem, ↓reduceIte]
  refine ⟨[(0, 0), (1, 1)], [], [], rfl, ?_, ?_, ?_⟩ <;> simp (implicitDefEqProofs := false) (disch := omega) only [go_sem, ↓reduceIte]
theorem compress_len {st b : List Int} (h : st.length = 8) : (compress st b).length = 8 := addS_len h (rounds_len _ h 64)
/-- The state behind j blocks of a text. -/
def runB (st xs : List Int) : Nat → List Int
  | 0 => st
  | j + 1 => compress (runB st xs j) ((xs.drop (64 * j)).take 64)
theorem runB_len {st : List Int} (xs : List Int) (h : st.length = 8) : ∀ j, (runB st xs j).length = 8
  | 0 => h
  | j + 1 => compress_len (runB_len xs h j)
theorem runB_isW {st : List Int} (xs : List Int) (h : ∀ x ∈ st, isW x) : ∀ j, ∀ x ∈ runB st xs j, isW x
  | 0 => h
  | j + 1 => addS_isW _ _
/-- A hash in memory: state, what is left of the last block, and how many bytes were written. -/
abbrev hashO (st r : List Int) (n : Int) : OO := [(0, .var (.agg [.ints .u32 8 st, .osl 1 [] 1 0 r.length, .int .i64 n])), (1, .row (.ints .u8 r.length r))]
theorem write_spec (st r b : List Int) (n : Int) (hs : st.length = 8) (hw : ∀ x ∈ st, isW x) (hr : r.length < 64) (hb : ∀ x ∈ r ++ b, 0 ≤ x ∧ x < 256) (hbl : b.length ≤ 1000000) (hn : 0 ≤ n) (hn' : n < 1000000000) :
    FnC Tryz.prog 105 [.ref 0 [], .sl (.ints .u8 b.length b)] [(0, .var (.agg [.ints .u32 8 st, .osl 1 [] 1 0 r.length, .int .i64 n])), (1, .row (.ints .u8 r.length r))] (.tup [])
      [(0, .var (.agg [.ints .u32 8 (runB st (r ++ b) ((r ++ b).length / 64)), .osl 1 [] 1 0 ((r ++ b).length - 64 * ((r ++ b).length / 64)), .int .i64 (n + b.length)])),
       (1, .row (.ints .u8 ((r ++ b).length - 64 * ((r ++ b).length / 64)) ((r ++ b).drop (64 * ((r ++ b).length / 64)))))] := by
  refine fnN mix [] 2 2 [] Tryz.func105 rfl (by kernel_rfl) (by kernel_rfl) rfl (by kernel_rfl) (by kernel_rfl) (by simp) ?_
  simp (implicitDefEqProofs := false) (disch := omega) only [go_sem, ↓reduceIte]
  have hlen : (r ++ b).length = r.length + b.length := List.length_append
  rw [← hlen]
  generalize r ++ b = xs at *
  refine loop (ι := Nat) 3 (fun j => j ≤ xs.length / 64) (fun j => [(0, .ref 0 [])]) (fun j => [(0, .var (.agg [.ints .u32 8 (runB st xs j), .osl 2 [] 1 0 (xs.length - 64 * j), .int .i64 (n + b.length)])), (2, .row (.ints .u8 (xs.length - 64 * j) (xs.drop (64 * j))))]) (fun j => xs.length / 64 - j) 0 [(0, 0), (1, 1), (2, 2)] [] (Nat.zero_le _) rfl ?_ ?_ ?_ (fun j hj => ?_)
  · simp (implicitDefEqProofs := false) (disch := omega) only [go_sem, ↓reduceIte]
  · simp (implicitDefEqProofs := false) (disch := omega) only [go_sem, ↓reduceIte]
  · simp (implicitDefEqProofs := false) (disch := omega) only [go_sem, ↓reduceIte, hlen, runB, Nat.mul_zero]
  simp (implicitDefEqProofs := false) (disch := omega) only [go_sem, ↓reduceIte]
  refine brd (fun h3 => ?_) (fun h3 => ?_)
  · simp (implicitDefEqProofs := false) (disch := omega) only [go_sem, ↓reduceIte]
    refine callG false [(0, 0), (1, 2)] [(0, 0), (1, 3)] 4 (take_spec (runB st xs j) (xs.drop (64 * j)) (xs.length - 64 * j) (n + b.length) (runB_len xs hs j) (runB_isW xs hw j) List.length_drop (by omega) (fun x hx => hb x (List.mem_of_mem_drop hx))) ?_ ?_
    · simp [keys]
    simp (implicitDefEqProofs := false) (disch := omega) only [go_sem, ↓reduceIte]
    have q1 : xs.length - 64 * j - 64 = xs.length - 64 * (j + 1) := by omega
    have q2 : List.take (xs.length - 64 * (j + 1)) (List.drop 64 (List.drop (64 * j) xs)) = List.drop (64 * (j + 1)) xs := by
      rw [List.drop_drop, show 64 * j + 64 = 64 * (j + 1) by omega, List.take_of_length_le (by rw [List.length_drop]; omega)]
    rw [q1, q2]
    refine ⟨j + 1, [(0, 0), (1, 1), (2, 5)], [], [], by dsimp only; omega, by dsimp only; omega, rfl, ?_, ?_, ?_⟩ <;> simp (implicitDefEqProofs := false) (disch := omega) only [go_sem, ↓reduceIte, runB]
  obtain rfl : j = xs.length / 64 := by omega
  simp (implicitDefEqProofs := false) (disch := omega) only [go_sem, ↓reduceIte]
  refine ⟨[(0, 0), (1, 2)], [], [], rfl, ?_, ?_, ?_⟩ <;> simp (implicitDefEqProofs := false) (disch := omega) only [go_sem, ↓reduceIte, exists_false]
theorem write_nil_spec (b : List Int) : FnC Tryz.prog 105 [.nilp, .sl (.ints .u8 b.length b)] [] (.tup []) [] := by
  refine fn0 mix [] 0 2 [] Tryz.func105 rfl (by kernel_rfl) (by kernel_rfl) rfl (by kernel_rfl) (by kernel_rfl) (by simp) ?_
  simp (implicitDefEqProofs := false) (disch := omega) only [go_sem, ↓reduceIte]
def init : List Int := [1779033703, 3144134277, 1013904242, 2773480762, 1359893119, 2600822924, 528734635, 1541459225]
theorem new_spec53 : FnC Tryz.prog 104 [] [] (.ref 0 []) [(0, .var (.agg [.ints .u32 8 init, .osl 1 [] 1 0 0, .int .i64 0])), (1, .row (.ints .u8 0 []))] := by
  refine fnN mix [] 0 0 [.tmp 0] Tryz.func104 rfl (by kernel_rfl) (by kernel_rfl) rfl (by kernel_rfl) (by kernel_rfl) (by simp) ?_
  simp (implicitDefEqProofs := false) (disch := omega) only [go_sem, ↓reduceIte]
  refine ⟨[(0, 0)], [1], [], rfl, ?_, ?_, ?_⟩ <;> simp (implicitDefEqProofs := false) (disch := omega) only [go_sem, ↓reduceIte, init]
/-- What stands behind a text of n bytes: a one, noughts, the number of bits. -/
def padB (n : Nat) : List Int := 128 :: (List.replicate ((119 - n % 64) % 64) 0 ++ be (n * 8) 8)
/-- The bytes of the state. -/
def outB (st : List Int) : List Int := bytesA st
def sumB (xs : List Int) : List Int := outB (runB init (xs ++ padB xs.length) ((xs ++ padB xs.length).length / 64))
end Go.Proofs.YthhlielliopegaaGreat
