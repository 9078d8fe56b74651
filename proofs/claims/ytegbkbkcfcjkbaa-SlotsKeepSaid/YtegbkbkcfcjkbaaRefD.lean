/- The document's disk: sectors as texts. -/
import Derived.Test.YtegbkbkcfcjkbaaDisk4
namespace Go.Proofs.Ytegbkbkcfcjkbaa
open Go Go.Sy Go.Proofs.Try
set_option maxRecDepth 100000
set_option maxHeartbeats 8000000
set_option linter.unusedSimpArgs false
set_option linter.unusedVariables false
attribute [go_sem] pl61 pl99
def toU (xs : List Int) : List UInt8 := xs.map fun x => UInt8.ofNat x.toNat
theorem toU_len (xs : List Int) : (toU xs).length = xs.length := List.length_map _
theorem toU_app (a b : List Int) : toU (a ++ b) = toU a ++ toU b := List.map_append
theorem toU_take (a : List Int) (n : Nat) : toU (a.take n) = (toU a).take n := List.map_take
theorem toU_drop (a : List Int) (n : Nat) : toU (a.drop n) = (toU a).drop n := List.map_drop
def strU (xs : List Int) : AV := .str (toU xs)
/-- A sector. -/
def chunk (sz : Nat) (b : List Int) (q : Nat) : List Int := (b.drop (q * sz)).take sz
def chunks (sz ns : Nat) (b : List Int) : List (List Int) := (List.range ns).map (chunk sz b)
theorem chunks_len (sz ns : Nat) (b : List Int) : (chunks sz ns b).length = ns := by simp [chunks]
theorem chunks_get {sz ns : Nat} {b : List Int} {q : Nat} (h : q < ns) : (chunks sz ns b)[q]? = some (chunk sz b q) := by
  unfold chunks
  rw [List.getElem?_map, List.getElem?_range h]
  rfl
theorem chunk_len {sz ns : Nat} {b : List Int} {q : Nat} (hb : b.length = ns * sz) (h : q < ns) : (chunk sz b q).length = sz := by
  unfold chunk
  rw [List.length_take, List.length_drop, hb]
  have : q * sz + sz ≤ ns * sz := by rw [← Nat.succ_mul]; exact Nat.mul_le_mul_right _ h
  omega
theorem putB_zero (sz : Nat) (b : List Int) (at' : Nat) (t : List Int) : putB sz b at' t 0 = b := by
  unfold putB
  rw [List.take_zero, List.nil_append, Nat.add_zero, List.take_append_drop]
theorem chunk_put {sz ns : Nat} {b t : List Int} {at' m q : Nat} (hb : b.length = ns * sz) (ha : at' < ns) (hq : q < ns) (ht : t.length = sz) (hm : m ≤ sz) :
    chunk sz (putB sz b at' t m) q = if q = at' then t.take m ++ (chunk sz b at').drop m else chunk sz b q := by
  have ha2 : at' * sz + sz ≤ ns * sz := by rw [← Nat.succ_mul]; exact Nat.mul_le_mul_right _ ha
  have hpl : (putB sz b at' t m).length = ns * sz := by rw [putB_len (by omega) (by omega), hb]
  have l1 : (b.take (at' * sz)).length = at' * sz := by rw [List.length_take]; omega
  have l2 : (t.take m).length = m := by rw [List.length_take]; omega
  by_cases c : q = at'
  · subst c
    rw [if_pos rfl]
    apply List.ext_getElem?
    intro j
    unfold chunk putB
    rw [List.getElem?_take, List.getElem?_drop, List.getElem?_append_right (by omega), l1, Nat.add_sub_cancel_left]
    by_cases hj : j < sz
    · rw [if_pos hj]
      by_cases hjm : j < m
      · rw [List.getElem?_append_left (by omega), List.getElem?_append_left (by omega)]
      · rw [List.getElem?_append_right (by omega), List.getElem?_append_right (by omega), l2, List.getElem?_drop, List.getElem?_drop, List.getElem?_take, List.getElem?_drop, if_pos (by omega)]
        congr 1; omega
    · rw [if_neg hj, List.getElem?_append_right (by omega), l2, List.getElem?_drop, List.getElem?_take, if_neg (by omega)]
  · rw [if_neg c]
    apply List.ext_getElem?
    intro j
    unfold chunk putB
    rw [List.getElem?_take, List.getElem?_take, List.getElem?_drop, List.getElem?_drop]
    by_cases hj : j < sz
    · rw [if_pos hj, if_pos hj]
      by_cases hlt : q < at'
      · have : q * sz + sz ≤ at' * sz := by rw [← Nat.succ_mul]; exact Nat.mul_le_mul_right _ hlt
        rw [List.getElem?_append_left (by omega), List.getElem?_take, if_pos (by omega)]
      · have : at' * sz + sz ≤ q * sz := by rw [← Nat.succ_mul]; exact Nat.mul_le_mul_right _ (by omega)
        rw [List.getElem?_append_right (by omega), l1, List.getElem?_append_right (by omega), l2, List.getElem?_drop]
        congr 1; omega
    · rw [if_neg hj, if_neg hj]
theorem chunks_put {sz ns : Nat} {b t : List Int} {at' m : Nat} (hb : b.length = ns * sz) (ha : at' < ns) (ht : t.length = sz) (hm : m ≤ sz) :
    chunks sz ns (putB sz b at' t m) = (chunks sz ns b).set at' (t.take m ++ (chunk sz b at').drop m) := by
  apply List.ext_getElem?
  intro q
  by_cases hq : q < ns
  · rw [chunks_get hq, chunk_put hb ha hq ht hm, List.getElem?_set, chunks_len]
    by_cases c : q = at'
    · rw [if_pos c, if_pos c.symm, if_pos ha]
    · rw [if_neg c, if_neg (fun h => c h.symm), chunks_get hq]
  · rw [List.getElem?_eq_none (by rw [chunks_len]; omega), List.getElem?_eq_none (by rw [List.length_set, chunks_len]; omega)]
/-- How far a failure is; below 0: none is set. -/
def leftR (D : DS) : Int := if D.set = true then D.left else -1
abbrev refV (i j k ns : Nat) (D : DS) : AV := .agg [.int .i64 D.sz, .osl i [] 1 0 ns, .osl j [] 1 0 D.wait.length, .osl k [] 1 0 D.wait.length, .bool D.off, .int .i64 (leftR D), .sl (.ints .i64 D.keep.length D.keep)]
abbrev refO (i j k ns : Nat) (D : DS) : OO := [(0, .var (refV i j k ns D)), (i, .row (.lst 1 ns ((chunks D.sz ns D.b).map strU))), (j, .row (.ints .i64 D.wait.length (D.wait.map fun w => (w.1 : Int)))), (k, .row (.lst 1 D.wait.length (D.wait.map fun w => strU w.2)))]
attribute [go_sem] refV refO
attribute [simp] refO
structure okR (ns : Nat) (D : DS) : Prop where
  n1 : ns ≤ 64
  bl : D.b.length = ns * D.sz
  lf : D.set = true → 0 ≤ D.left ∧ D.left < 9223372036854775808
theorem getC {sz ns : Nat} {b : List Int} {q : Nat} (h : q < ns) (K : AV → Prop) : getP ((chunks sz ns b).map strU) q K = K (.str (toU (chunk sz b q))) := getP_map (f := strU) (chunks_get h) K
theorem getWs {W : List (Nat × List Int)} {i : Nat} (h : i < W.length) (K : AV → Prop) : getP (W.map fun w => strU w.2) i K = K (.str (toU (W[i]).2)) := getP_map (f := fun w => strU w.2) (List.getElem?_eq_getElem h) K
theorem part_spec (o t : List Int) (n : Int) (sz : Nat) (ho : o.length = sz) (ht : t.length = sz) (hs : sz ≤ 512) : FnC Try.prog 99 [.str (toU o), .str (toU t), .int .i64 n] [] (.str (toU (t.take (kept sz n) ++ o.drop (kept sz n)))) [] := by
  have l1 : (toU o).length = sz := by rw [toU_len, ho]
  have l2 : (toU t).length = sz := by rw [toU_len, ht]
  refine fn0 mix pl99 0 3 [.tmp 6] Try.func99 rfl (by kernel_rfl) (by kernel_rfl) rfl (by kernel_rfl) (by kernel_rfl) (by simp) ?_
  simp (implicitDefEqProofs := false) (disch := omega) only [go_sem, ↓reduceIte]
  refine brd (fun h => ?_) (fun h => ?_)
  · have e : kept sz n = 0 := by unfold kept; omega
    rw [e, List.take_zero, List.drop_zero, List.nil_append]
    simp (implicitDefEqProofs := false) (disch := omega) only [go_sem, ↓reduceIte]
  simp (implicitDefEqProofs := false) (disch := omega) only [go_sem, ↓reduceIte, l2]
  refine brd (fun h2 => ?_) (fun h2 => ?_)
  · have e : kept sz n = sz := by unfold kept; omega
    rw [e, List.take_of_length_le (by omega), List.drop_eq_nil_of_le (by omega), List.append_nil]
    simp (implicitDefEqProofs := false) (disch := omega) only [go_sem, ↓reduceIte]
  obtain ⟨m, rfl⟩ := Int.eq_ofNat_of_zero_le (show 0 ≤ n by omega)
  have e : kept sz (m : Int) = m := by unfold kept; omega
  rw [e, toU_app, toU_take, toU_drop]
  have l3 : ((toU t).take m).length = m := by rw [List.length_take, l2]; omega
  have l4 : ((toU o).drop m).length = sz - m := by rw [List.length_drop, l1]
  simp (implicitDefEqProofs := false) (disch := omega) only [go_sem, ↓reduceIte, l1, l2, l3, l4]
  omega
theorem refcrash_spec (ns : Nat) (D : DS) (h : okD D) (hr : okR ns D) (ks : List Int) (nk : Nat) (hk : ks.length = nk) (hkl : nk ≤ 9223372036854775807) : FnC Try.prog 61 [.ref 0 [], .sl (.ints .i64 nk ks)] (refO 1 2 3 ns D) (.tup []) (refO 4 5 6 ns (crashD D ks)) := by
  obtain ⟨h1, h2, h3, h4, h5, h6⟩ := h
  obtain ⟨r1, r2, r3⟩ := hr
  obtain ⟨sz, b, W, off, set, left, kp⟩ := D
  dsimp only at h1 h2 h3 h4 h5 h6 r1 r2 r3
  unfold crashD
  refine fnV mix pl61 1 4 2 [] Try.func61 rfl (by kernel_rfl) (by kernel_rfl) rfl (by kernel_rfl) (by kernel_rfl) (by simp) rfl rfl ?_
  cases off
  case true =>
    rw [if_pos rfl]
    simp (implicitDefEqProofs := false) (disch := omega) only [go_sem, ↓reduceIte]
    refine ⟨[(0, 0), (4, 1), (5, 2), (6, 3)], [], [], rfl, ?_, ?_, ?_⟩ <;> simp (implicitDefEqProofs := false) (disch := omega) only [go_sem, ↓reduceIte]
  rw [if_neg (fun h => by cases h)]
  obtain ⟨nw, hnw⟩ : ∃ n, n = W.length := ⟨_, rfl⟩
  have hle : (W.map fun w => strU w.2).length = nw := by rw [List.length_map, hnw]
  obtain ⟨L, hL⟩ : ∃ L, L = leftR ⟨sz, b, W, false, set, left, kp⟩ := ⟨_, rfl⟩
  simp (implicitDefEqProofs := false) (disch := omega) only [go_sem, ↓reduceIte]
  refine loop (ι := Nat × List Int) 4 (fun k => k.1 ≤ nw ∧ k.2.length = ns * sz ∧ crashB sz (W.drop k.1) (ks.drop k.1) k.2 = crashB sz W ks b)
    (fun k => [(0, .ref 0 []), (1, .sl (.ints .i64 nk ks)), (4, .int .i64 k.1)])
    (fun k => [(0, .var (.agg [.int .i64 sz, .osl 1 [] 1 0 ns, .osl 2 [] 1 0 nw, .osl 3 [] 1 0 nw, .bool false, .int .i64 L, .sl (.ints .i64 kp.length kp)])), (1, .row (.lst 1 ns ((chunks sz ns k.2).map strU))), (2, .row (.ints .i64 nw (W.map fun w => (w.1 : Int)))), (3, .row (.lst 1 nw (W.map fun w => strU w.2)))])
    (fun k => nw - k.1) (0, b) [(0, 0), (1, 1), (2, 2), (3, 3)] [] ⟨Nat.zero_le _, r2, rfl⟩ rfl ?_ ?_ ?_ (fun k hk => ?_)
  · simp (implicitDefEqProofs := false) (disch := omega) only [go_sem, ↓reduceIte]
  · simp (implicitDefEqProofs := false) (disch := omega) only [go_sem, ↓reduceIte]
  · simp (implicitDefEqProofs := false) (disch := omega) only [go_sem, ↓reduceIte, hnw, hL]
  obtain ⟨i, B⟩ := k
  obtain ⟨q1, q2, q3⟩ := hk
  dsimp only at q1 q2 q3 ⊢
  simp (implicitDefEqProofs := false) (disch := omega) only [go_sem, ↓reduceIte]
  refine brd (fun g1 => ?_) (fun g1 => ?_)
  · have hi : i < W.length := by omega
    have hgs := fun K => getWs hi K
    have hw := h6 _ (List.getElem_mem hi)
    have edw : W.drop i = W[i] :: W.drop (i + 1) := List.drop_eq_getElem_cons hi
    have hga : (W.map fun w => (w.1 : Int)).getD i 0 = (W[i].1 : Int) := by simp only [List.getD, List.getElem?_map, List.getElem?_eq_getElem hi, Option.map_some, Option.getD_some]
    rw [edw] at q3
    generalize W[i] = w at *
    obtain ⟨at', t⟩ := w
    dsimp only at hw hgs q3 hga
    have hat : at' < ns := by
      have h7 : at' * sz + sz ≤ ns * sz := by omega
      rw [← Nat.succ_mul] at h7
      exact Nat.lt_of_succ_le (Nat.le_of_mul_le_mul_right h7 h1)
    have hgc := fun K => getC (sz := sz) (b := B) hat K
    have hcl := chunk_len (sz := sz) q2 hat
    have hle2 : ((chunks sz ns B).map strU).length = ns := by rw [List.length_map, chunks_len]
    have fin : ∀ n : Int, ((chunks sz ns B).map strU).set at' (.str (toU (t.take (kept sz n) ++ (chunk sz B at').drop (kept sz n)))) = (chunks sz ns (putB sz B at' t (kept sz n))).map strU := fun n => by
      rw [chunks_put q2 hat hw.2 (kept_le _ _), List.map_set]; rfl
    have hpl : ∀ n : Int, (putB sz B at' t (kept sz n)).length = ns * sz := fun n => by
      have := kept_le sz n
      rw [putB_len (by omega) (by omega), q2]
    simp (implicitDefEqProofs := false) (disch := omega) only [go_sem, ↓reduceIte]
    refine brd (fun g2 => ?_) (fun g2 => ?_)
    · have hik : i < ks.length := by omega
      have edk : ks.drop i = ks.getD i 0 :: ks.drop (i + 1) := by
        rw [List.drop_eq_getElem_cons hik]
        simp only [List.getD, List.getElem?_eq_getElem hik, Option.getD_some]
      rw [edk, crashB] at q3
      have hps := part_spec (chunk sz B at') t (ks.getD i 0) sz hcl hw.2 h2
      have fin := fin (ks.getD i 0)
      have hpl := hpl (ks.getD i 0)
      obtain ⟨n, hn⟩ : ∃ n, n = ks.getD i 0 := ⟨_, rfl⟩
      rw [← hn] at hps fin hpl q3
      simp (implicitDefEqProofs := false) (disch := omega) only [go_sem, ↓reduceIte, hga, ↓hgs, ↓hgc, hle, hle2, ← hn]
      refine call0 hps ?_
      simp (implicitDefEqProofs := false) (disch := omega) only [go_sem, ↓reduceIte, hga, ↓hgc, hle, hle2]
      refine ⟨(i + 1, putB sz B at' t (kept sz n)), [(0, 0), (1, 1), (2, 2), (3, 3)], [], [], ⟨by dsimp only; omega, hpl, q3⟩, by dsimp only; omega, rfl, ?_, ?_, ?_⟩ <;> simp (implicitDefEqProofs := false) (disch := omega) only [go_sem, ↓reduceIte, fin]
    · have edk : ks.drop i = [] := List.drop_eq_nil_of_le (by omega)
      have edk2 : ks.drop (i + 1) = [] := List.drop_eq_nil_of_le (by omega)
      rw [edk, crashB] at q3
      have q4 : crashB sz (W.drop (i + 1)) (ks.drop (i + 1)) B = crashB sz W ks b := by
        rw [edk2, ← q3]
        cases W.drop (i + 1) <;> rfl
      have hps := part_spec (chunk sz B at') t 0 sz hcl hw.2 h2
      have fin := fin 0
      have e0 : kept sz 0 = 0 := by unfold kept; omega
      rw [e0, putB_zero] at fin
      rw [e0] at hps
      rw [List.take_zero, List.drop_zero, List.nil_append] at fin hps
      simp (implicitDefEqProofs := false) (disch := omega) only [go_sem, ↓reduceIte, hga, ↓hgs, ↓hgc, hle, hle2]
      refine call0 hps ?_
      simp (implicitDefEqProofs := false) (disch := omega) only [go_sem, ↓reduceIte, hga, ↓hgc, hle, hle2]
      refine ⟨(i + 1, B), [(0, 0), (1, 1), (2, 2), (3, 3)], [], [], ⟨by dsimp only; omega, q2, q4⟩, by dsimp only; omega, rfl, ?_, ?_, ?_⟩ <;> simp (implicitDefEqProofs := false) (disch := omega) only [go_sem, ↓reduceIte, fin]
  · have edw : W.drop i = [] := List.drop_eq_nil_of_le (by omega)
    rw [edw, crashB] at q3
    subst q3
    simp (implicitDefEqProofs := false) (disch := omega) only [go_sem, ↓reduceIte]
    have e1 : leftR ⟨sz, crashB sz W ks b, [], true, false, left, kp⟩ = -1 := rfl
    refine ⟨[(0, 0), (4, 1)], [5, 6], [], rfl, ?_, ?_, ?_⟩ <;> simp (implicitDefEqProofs := false) (disch := omega) only [go_sem, ↓reduceIte, e1, List.length_nil, List.map_nil]
end Go.Proofs.Ytegbkbkcfcjkbaa
