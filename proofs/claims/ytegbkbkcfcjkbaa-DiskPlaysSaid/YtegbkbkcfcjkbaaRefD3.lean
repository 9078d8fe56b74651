/- The document's disk: all is put on it, read, imaged, restored; a new one. -/
import Derived.Test.YtegbkbkcfcjkbaaRefD2
namespace Go.Proofs.Ytegbkbkcfcjkbaa
open Go Go.Sy Go.Proofs.Try
set_option maxRecDepth 100000
set_option maxHeartbeats 8000000
set_option linter.unusedSimpArgs false
set_option linter.unusedVariables false
attribute [go_sem] pl21 pl59 pl63
theorem refread_off (ns : Nat) (D : DS) (ho : D.off = true) (i : Int) : FnC Try.prog 58 [.ref 0 [], .int .i64 i] (refO 1 2 3 ns D) (.tup [.str [], .int .i64 9]) (refO 4 5 6 ns D) := by
  refine fnV mix [] 1 4 2 [.tmp 4, .tmp 5] Try.func58 rfl (by kernel_rfl) (by kernel_rfl) rfl (by kernel_rfl) (by kernel_rfl) (by simp) rfl rfl ?_
  simp (implicitDefEqProofs := false) (disch := omega) only [go_sem, ↓reduceIte, ho]
  refine ⟨[(0, 0), (4, 1), (5, 2), (6, 3)], [], [], rfl, ?_, ?_, ?_⟩ <;> simp (implicitDefEqProofs := false) (disch := omega) only [go_sem, ↓reduceIte, ho]
theorem refread_arg (ns : Nat) (D : DS) (h : okD D) (hr : okR ns D) (ho : D.off = false) (i : Int) (hi : ¬ thereD D i) : FnC Try.prog 58 [.ref 0 [], .int .i64 i] (refO 1 2 3 ns D) (.tup [.str [], .int .i64 1]) (refO 4 5 6 ns D) := by
  rw [there_ns h hr] at hi
  refine fnV mix [] 1 4 2 [.tmp 4, .tmp 5] Try.func58 rfl (by kernel_rfl) (by kernel_rfl) rfl (by kernel_rfl) (by kernel_rfl) (by simp) rfl rfl ?_
  by_cases c1 : i < 0
  · have d1 : decide (i < 0) = true := decide_eq_true c1
    simp (implicitDefEqProofs := false) (disch := omega) only [go_sem, ↓reduceIte, ho, d1]
    refine ⟨[(0, 0), (4, 1), (5, 2), (6, 3)], [], [], rfl, ?_, ?_, ?_⟩ <;> simp (implicitDefEqProofs := false) (disch := omega) only [go_sem, ↓reduceIte, ho]
  have d1 : decide (i < 0) = false := decide_eq_false c1
  have d2 : decide ((ns : Int) ≤ i) = true := decide_eq_true (by omega)
  simp (implicitDefEqProofs := false) (disch := omega) only [go_sem, ↓reduceIte, ho, d1, d2]
  refine ⟨[(0, 0), (4, 1), (5, 2), (6, 3)], [], [], rfl, ?_, ?_, ?_⟩ <;> simp (implicitDefEqProofs := false) (disch := omega) only [go_sem, ↓reduceIte, ho]
theorem refread_ok (ns : Nat) (D : DS) (h : okD D) (hr : okR ns D) (ho : D.off = false) (I : Nat) (hi : thereD D I) : FnC Try.prog 58 [.ref 0 [], .int .i64 I] (refO 1 2 3 ns D) (.tup [.str (toU (readB D I)), .int .i64 0]) (refO 4 5 6 ns D) := by
  have hin := (there_ns h hr I).1 hi
  obtain ⟨h1, h2, h3, h4, h5, h6⟩ := h
  obtain ⟨r1, r2, r3⟩ := hr
  obtain ⟨sz, b, W, off, set, left, kp⟩ := D
  dsimp only at h1 h2 h3 h4 h5 h6 ho r1 r2
  subst ho
  have hrd : readB ⟨sz, b, W, false, set, left, kp⟩ I = W.foldl (ovl I) (chunk sz b I) := rfl
  rw [hrd]
  obtain ⟨nw, hnw⟩ : ∃ n, n = W.length := ⟨_, rfl⟩
  obtain ⟨L, hL⟩ : ∃ L, L = leftR ⟨sz, b, W, false, set, left, kp⟩ := ⟨_, rfl⟩
  have hle : (W.map fun w => strU w.2).length = nw := by rw [List.length_map, hnw]
  have hle2 : ((chunks sz ns b).map strU).length = ns := by rw [List.length_map, chunks_len]
  have hgc := fun K => getC (sz := sz) (b := b) (show I < ns by omega) K
  have d1 : decide ((I : Int) < 0) = false := decide_eq_false (by omega)
  have d2 : decide ((ns : Int) ≤ (I : Int)) = false := decide_eq_false (by omega)
  refine fnV mix [] 1 4 2 [.tmp 4, .tmp 5] Try.func58 rfl (by kernel_rfl) (by kernel_rfl) rfl (by kernel_rfl) (by kernel_rfl) (by simp) rfl rfl ?_
  simp (implicitDefEqProofs := false) (disch := omega) only [go_sem, ↓reduceIte, d1, d2, ↓hgc, hle2]
  refine loop (ι := Nat × List Int) 4 (fun k => k.1 ≤ nw ∧ (W.drop k.1).foldl (ovl I) k.2 = W.foldl (ovl I) (chunk sz b I))
    (fun k => [(0, .ref 0 []), (1, .int .i64 I), (6, .str (toU k.2)), (7, .int .i64 k.1)])
    (fun k => [(0, .var (.agg [.int .i64 sz, .osl 1 [] 1 0 ns, .osl 2 [] 1 0 nw, .osl 3 [] 1 0 nw, .bool false, .int .i64 L, .sl (.ints .i64 kp.length kp)])), (1, .row (.lst 1 ns ((chunks sz ns b).map strU))), (2, .row (.ints .i64 nw (W.map fun w => (w.1 : Int)))), (3, .row (.lst 1 nw (W.map fun w => strU w.2)))])
    (fun k => nw - k.1) (0, chunk sz b I) [(0, 0), (1, 1), (2, 2), (3, 3)] [] ⟨Nat.zero_le _, rfl⟩ rfl ?_ ?_ ?_ (fun k hk => ?_)
  · simp (implicitDefEqProofs := false) (disch := omega) only [go_sem, ↓reduceIte]
  · simp (implicitDefEqProofs := false) (disch := omega) only [go_sem, ↓reduceIte]
  · simp (implicitDefEqProofs := false) (disch := omega) only [go_sem, ↓reduceIte, hnw, hL]
  obtain ⟨i, o⟩ := k
  obtain ⟨q1, q3⟩ := hk
  dsimp only at q1 q3 ⊢
  simp (implicitDefEqProofs := false) (disch := omega) only [go_sem, ↓reduceIte]
  refine brd (fun g1 => ?_) (fun g1 => ?_)
  · have hi : i < W.length := by omega
    have hgs := fun K => getWs hi K
    have edw : W.drop i = W[i] :: W.drop (i + 1) := List.drop_eq_getElem_cons hi
    have hga : (W.map fun w => (w.1 : Int)).getD i 0 = (W[i].1 : Int) := by simp only [List.getD, List.getElem?_map, List.getElem?_eq_getElem hi, Option.map_some, Option.getD_some]
    rw [edw, List.foldl_cons] at q3
    generalize W[i] = w at *
    obtain ⟨at', t⟩ := w
    dsimp only at hgs q3 hga
    by_cases c : at' = I
    · have c1 : decide ((at' : Int) = (I : Int)) = true := decide_eq_true (by omega)
      have c2 : ovl I o (at', t) = t := by unfold ovl; rw [if_pos c]
      rw [c2] at q3
      simp (implicitDefEqProofs := false) (disch := omega) only [go_sem, ↓reduceIte, hga, ↓hgs, hle, c1]
      refine ⟨(i + 1, t), [(0, 0), (1, 1), (2, 2), (3, 3)], [], [], ⟨by dsimp only; omega, q3⟩, by dsimp only; omega, rfl, ?_, ?_, ?_⟩ <;> simp (implicitDefEqProofs := false) (disch := omega) only [go_sem, ↓reduceIte]
    · have c1 : decide ((at' : Int) = (I : Int)) = false := decide_eq_false (by omega)
      have c2 : ovl I o (at', t) = o := by unfold ovl; rw [if_neg c]
      rw [c2] at q3
      simp (implicitDefEqProofs := false) (disch := omega) only [go_sem, ↓reduceIte, hga, ↓hgs, hle, c1]
      refine ⟨(i + 1, o), [(0, 0), (1, 1), (2, 2), (3, 3)], [], [], ⟨by dsimp only; omega, q3⟩, by dsimp only; omega, rfl, ?_, ?_, ?_⟩ <;> simp (implicitDefEqProofs := false) (disch := omega) only [go_sem, ↓reduceIte]
  · have edw : W.drop i = [] := List.drop_eq_nil_of_le (by omega)
    rw [edw] at q3
    have q3 : o = _ := q3
    subst q3
    simp (implicitDefEqProofs := false) (disch := omega) only [go_sem, ↓reduceIte]
    refine ⟨[(0, 0), (4, 1), (5, 2), (6, 3)], [], [], rfl, ?_, ?_, ?_⟩ <;> simp (implicitDefEqProofs := false) (disch := omega) only [go_sem, ↓reduceIte, hnw, hL]
theorem chunks_whole {sz ns : Nat} {b t : List Int} {at' : Nat} (hb : b.length = ns * sz) (ha : at' < ns) (ht : t.length = sz) : chunks sz ns (putB sz b at' t sz) = (chunks sz ns b).set at' t := by
  rw [chunks_put hb ha ht (Nat.le_refl _), List.take_of_length_le (by omega), List.drop_eq_nil_of_le (by rw [chunk_len hb ha]; exact Nat.le_refl _), List.append_nil]
theorem refsync_spec (ns : Nat) (D : DS) (h : okD D) (hr : okR ns D) : FnC Try.prog 59 [.ref 0 []] (refO 1 2 3 ns D) (.int .i64 (syncD D).1) (refO 4 5 6 ns (syncD D).2) := by
  have hf := comes_spec ns D h hr
  unfold syncD
  by_cases ho : D.off = true
  · rw [if_pos ho]
    refine fnV mix pl59 1 4 1 [.tmp 2] Try.func59 rfl (by kernel_rfl) (by kernel_rfl) rfl (by kernel_rfl) (by kernel_rfl) (by simp) rfl rfl ?_
    simp (implicitDefEqProofs := false) (disch := omega) only [go_sem, ↓reduceIte, ho]
    refine ⟨[(0, 0), (4, 1), (5, 2), (6, 3)], [], [], rfl, ?_, ?_, ?_⟩ <;> simp (implicitDefEqProofs := false) (disch := omega) only [go_sem, ↓reduceIte, ho]
  rw [if_neg ho]
  rw [Bool.not_eq_true] at ho
  by_cases hr' : (failedD D).1 = true
  · rw [if_pos hr']
    rw [hr'] at hf
    generalize (failedD D).2 = D2 at *
    refine fnV mix pl59 1 4 1 [.tmp 2] Try.func59 rfl (by kernel_rfl) (by kernel_rfl) rfl (by kernel_rfl) (by kernel_rfl) (by simp) rfl rfl ?_
    simp (implicitDefEqProofs := false) (disch := omega) only [go_sem, ↓reduceIte, ho]
    refine callG false [(0, 0), (1, 1), (2, 2), (3, 3)] [(0, 0), (4, 4), (5, 5), (6, 6)] 7 hf ?_ ?_
    · simp [keys, ho]
    simp (implicitDefEqProofs := false) (disch := omega) only [go_sem, ↓reduceIte, ho]
    refine ⟨[(0, 0), (4, 4), (5, 5), (6, 6)], [], [], rfl, ?_, ?_, ?_⟩ <;> simp (implicitDefEqProofs := false) (disch := omega) only [go_sem, ↓reduceIte]
  rw [if_neg hr']
  rw [Bool.not_eq_true] at hr'
  rw [hr'] at hf
  rw [failed_b hr'] at hf ⊢
  clear hr'
  obtain ⟨h1, h2, h3, h4, h5, h6⟩ := h
  obtain ⟨r1, r2, r3⟩ := hr
  obtain ⟨sz, b, W, off, set, left, kp⟩ := D
  dsimp only at h1 h2 h3 h4 h5 h6 ho hf r1 r2 ⊢
  subst ho
  generalize IntKind.i64.wrap (left - 1) = left2 at *
  obtain ⟨nw, hnw⟩ : ∃ n, n = W.length := ⟨_, rfl⟩
  have hle : (W.map fun w => strU w.2).length = nw := by rw [List.length_map, hnw]
  obtain ⟨L, hL⟩ : ∃ L, L = leftR ⟨sz, b, W, false, set, left2, kp⟩ := ⟨_, rfl⟩
  refine fnV mix pl59 1 4 1 [.tmp 2] Try.func59 rfl (by kernel_rfl) (by kernel_rfl) rfl (by kernel_rfl) (by kernel_rfl) (by simp) rfl rfl ?_
  simp (implicitDefEqProofs := false) (disch := omega) only [go_sem, ↓reduceIte]
  refine callG false [(0, 0), (1, 1), (2, 2), (3, 3)] [(0, 0), (4, 4), (5, 5), (6, 6)] 7 hf ?_ ?_
  · simp [keys]
  simp (implicitDefEqProofs := false) (disch := omega) only [go_sem, ↓reduceIte]
  refine loop (ι := Nat × List Int) 4 (fun k => k.1 ≤ nw ∧ k.2.length = ns * sz ∧ syncB sz (W.drop k.1) k.2 = syncB sz W b)
    (fun k => [(0, .ref 0 []), (3, .int .i64 k.1)])
    (fun k => [(0, .var (.agg [.int .i64 sz, .osl 1 [] 1 0 ns, .osl 2 [] 1 0 nw, .osl 3 [] 1 0 nw, .bool false, .int .i64 L, .sl (.ints .i64 kp.length kp)])), (1, .row (.lst 1 ns ((chunks sz ns k.2).map strU))), (2, .row (.ints .i64 nw (W.map fun w => (w.1 : Int)))), (3, .row (.lst 1 nw (W.map fun w => strU w.2)))])
    (fun k => nw - k.1) (0, b) [(0, 0), (1, 4), (2, 5), (3, 6)] [] ⟨Nat.zero_le _, r2, rfl⟩ rfl ?_ ?_ ?_ (fun k hk => ?_)
  · simp (implicitDefEqProofs := false) (disch := omega) only [go_sem, ↓reduceIte]
  · simp (implicitDefEqProofs := false) (disch := omega) only [go_sem, ↓reduceIte]
  · simp (implicitDefEqProofs := false) (disch := omega) only [go_sem, ↓reduceIte, hnw, hL]
  obtain ⟨i, B⟩ := k
  obtain ⟨q1, q2, q3⟩ := hk
  dsimp only at q1 q2 q3 ⊢
  simp (implicitDefEqProofs := false) (disch := omega) only [go_sem, ↓reduceIte]
  refine brd (fun g1 => ?_) (fun g1 => ?_)
  · have hi : i < W.length := by omega
    have hgs := fun K => getWs hi K
    have hw := h6 _ (List.getElem_mem hi)
    have edw : W.drop i = W[i] :: W.drop (i + 1) := List.drop_eq_getElem_cons hi
    have hga : (W.map fun w => (w.1 : Int)).getD i 0 = (W[i].1 : Int) := by simp only [List.getD, List.getElem?_map, List.getElem?_eq_getElem hi, Option.map_some, Option.getD_some]
    rw [edw] at q3
    generalize W[i] = w at *
    obtain ⟨at', t⟩ := w
    dsimp only at hw hgs q3 hga
    have hat : at' < ns := by
      have h7 : at' * sz + sz ≤ ns * sz := by omega
      rw [← Nat.succ_mul] at h7
      exact Nat.lt_of_succ_le (Nat.le_of_mul_le_mul_right h7 h1)
    have hgc := fun K => getC (sz := sz) (b := B) hat K
    have hle2 : ((chunks sz ns B).map strU).length = ns := by rw [List.length_map, chunks_len]
    have fin : ((chunks sz ns B).map strU).set at' (.str (toU t)) = (chunks sz ns (putB sz B at' t sz)).map strU := by
      rw [chunks_whole q2 hat hw.2, List.map_set]; rfl
    have hpl : (putB sz B at' t sz).length = ns * sz := by rw [putB_len (by omega) (by omega), q2]
    simp (implicitDefEqProofs := false) (disch := omega) only [go_sem, ↓reduceIte, hga, ↓hgs, ↓hgc, hle, hle2]
    refine ⟨(i + 1, putB sz B at' t sz), [(0, 0), (1, 1), (2, 2), (3, 3)], [], [], ⟨by dsimp only; omega, hpl, q3⟩, by dsimp only; omega, rfl, ?_, ?_, ?_⟩ <;> simp (implicitDefEqProofs := false) (disch := omega) only [go_sem, ↓reduceIte, fin]
  · have edw : W.drop i = [] := List.drop_eq_nil_of_le (by omega)
    rw [edw] at q3
    have q3 : B = syncB sz W b := q3
    subst q3
    have e1 : leftR ⟨sz, syncB sz W b, [], false, set, left2, kp⟩ = L := by rw [hL]; rfl
    simp (implicitDefEqProofs := false) (disch := omega) only [go_sem, ↓reduceIte]
    refine ⟨[(0, 0), (4, 1)], [5, 6], [], rfl, ?_, ?_, ?_⟩ <;> simp (implicitDefEqProofs := false) (disch := omega) only [go_sem, ↓reduceIte, e1, List.length_nil, List.map_nil]
theorem chunks_flat (sz ns : Nat) (b : List Int) (hb : b.length = ns * sz) : ∀ k, k ≤ ns → ((chunks sz ns b).take k).flatten = b.take (k * sz) := by
  intro k
  induction k with
  | zero => intro _; simp
  | succ k ih =>
    intro hk
    rw [take_next' (chunks_get (show k < ns by omega)), List.flatten_append, ih (by omega)]
    simp only [List.flatten_cons, List.flatten_nil, List.append_nil]
    unfold chunk
    rw [Nat.succ_mul, ← List.take_add]
theorem refimage_spec (ns : Nat) (D : DS) (h : okD D) (hr : okR ns D) : FnC Try.prog 24 [.ref 0 []] (refO 1 2 3 ns D) (.str (toU D.b)) (refO 4 5 6 ns D) := by
  obtain ⟨h1, h2, h3, h4, h5, h6⟩ := h
  obtain ⟨r1, r2, r3⟩ := hr
  obtain ⟨sz, b, W, off, set, left, kp⟩ := D
  dsimp only at h1 h2 h3 h4 h5 h6 r1 r2
  obtain ⟨L, hL⟩ : ∃ L, L = leftR ⟨sz, b, W, off, set, left, kp⟩ := ⟨_, rfl⟩
  have hle2 : ((chunks sz ns b).map strU).length = ns := by rw [List.length_map, chunks_len]
  refine fnV mix [] 1 4 1 [.tmp 2] Try.func24 rfl (by kernel_rfl) (by kernel_rfl) rfl (by kernel_rfl) (by kernel_rfl) (by simp) rfl rfl ?_
  simp (implicitDefEqProofs := false) (disch := omega) only [go_sem, ↓reduceIte]
  refine loop (ι := Nat) 4 (fun k => k ≤ ns) (fun k => [(0, .ref 0 []), (3, .str (toU (b.take (k * sz)))), (4, .int .i64 k)])
    (fun k => [(0, .var (.agg [.int .i64 sz, .osl 1 [] 1 0 ns, .osl 2 [] 1 0 W.length, .osl 3 [] 1 0 W.length, .bool off, .int .i64 L, .sl (.ints .i64 kp.length kp)])), (1, .row (.lst 1 ns ((chunks sz ns b).map strU))), (2, .row (.ints .i64 W.length (W.map fun w => (w.1 : Int)))), (3, .row (.lst 1 W.length (W.map fun w => strU w.2)))])
    (fun k => ns - k) 0 [(0, 0), (1, 1), (2, 2), (3, 3)] [] (Nat.zero_le _) rfl ?_ ?_ ?_ (fun k hk => ?_)
  · simp (implicitDefEqProofs := false) (disch := omega) only [go_sem, ↓reduceIte]
  · simp (implicitDefEqProofs := false) (disch := omega) only [go_sem, ↓reduceIte, List.take_zero, toU, List.map_nil]
  · simp (implicitDefEqProofs := false) (disch := omega) only [go_sem, ↓reduceIte, hL]
  simp (implicitDefEqProofs := false) (disch := omega) only [go_sem, ↓reduceIte]
  refine brd (fun g1 => ?_) (fun g1 => ?_)
  · have hk2 : k < ns := by omega
    have hgc := fun K => getC (sz := sz) (b := b) hk2 K
    have hkz : k * sz + sz ≤ ns * sz := by rw [← Nat.succ_mul]; exact Nat.mul_le_mul_right _ hk2
    have e1 : toU (b.take (k * sz)) ++ toU (chunk sz b k) = toU (b.take ((k + 1) * sz)) := by
      rw [← toU_app]
      congr 1
      unfold chunk
      rw [Nat.succ_mul, ← List.take_add]
    have l1 : (toU (b.take (k * sz))).length = k * sz := by rw [toU_len, List.length_take]; omega
    have l2 : (toU (chunk sz b k)).length = sz := by rw [toU_len, chunk_len r2 hk2]
    have l3 : ((k * sz : Nat) : Int) + (sz : Int) ≤ 9223372036854775807 := by omega
    have l4 : (((toU (b.take (k * sz))).length : Int) + ((toU (chunk sz b k)).length : Int) ≤ 9223372036854775807) = True := by rw [l1, l2]; exact eq_true l3
    simp (implicitDefEqProofs := false) (disch := omega) only [go_sem, ↓reduceIte, ↓hgc, hle2, l4]
    refine ⟨k + 1, [(0, 0), (1, 1), (2, 2), (3, 3)], [], [], by dsimp only; omega, by dsimp only; omega, rfl, ?_, ?_, ?_⟩ <;> simp (implicitDefEqProofs := false) (disch := omega) only [go_sem, ↓reduceIte, e1]
  · obtain rfl : k = ns := by omega
    have e1 : b.take (k * sz) = b := List.take_of_length_le (by omega)
    rw [e1]
    simp (implicitDefEqProofs := false) (disch := omega) only [go_sem, ↓reduceIte]
    refine ⟨[(0, 0), (4, 1), (5, 2), (6, 3)], [], [], rfl, ?_, ?_, ?_⟩ <;> simp (implicitDefEqProofs := false) (disch := omega) only [go_sem, ↓reduceIte, hL]
def restD (D : DS) (t : List Int) : DS := { D with b := t, wait := [] }
theorem refrestore_spec (ns : Nat) (D : DS) (h : okD D) (hr : okR ns D) (t : List Int) (ht : t.length = D.b.length) : FnC Try.prog 63 [.ref 0 [], .str (toU t)] (refO 1 2 3 ns D) (.tup []) (refO 4 5 6 ns (restD D t)) := by
  obtain ⟨h1, h2, h3, h4, h5, h6⟩ := h
  obtain ⟨r1, r2, r3⟩ := hr
  obtain ⟨sz, b, W, off, set, left, kp⟩ := D
  dsimp only at h1 h2 h3 h4 h5 h6 r1 r2 ht
  unfold restD
  obtain ⟨L, hL⟩ : ∃ L, L = leftR ⟨sz, b, W, off, set, left, kp⟩ := ⟨_, rfl⟩
  have e1 : leftR ⟨sz, t, [], off, set, left, kp⟩ = L := by rw [hL]; rfl
  have hlen : (toU t).length = ns * sz := by rw [toU_len, ht, r2]
  have hmix : ∀ k, k < ns → ((chunks sz ns t).take k ++ (chunks sz ns b).drop k).set k (chunk sz t k) = (chunks sz ns t).take (k + 1) ++ (chunks sz ns b).drop (k + 1) := fun k hk => by
    rw [take_next' (chunks_get hk), List.set_append_right _ _ (by rw [List.length_take, chunks_len]; omega), List.length_take, chunks_len, show k - min k ns = 0 by omega]
    rw [List.drop_eq_getElem_cons (show k < (chunks sz ns b).length by rw [chunks_len]; exact hk)]
    rw [List.set_cons_zero, List.append_assoc]
    rfl
  have hml : ∀ k, k ≤ ns → (((chunks sz ns t).take k ++ (chunks sz ns b).drop k).map strU).length = ns := fun k hk => by
    rw [List.length_map, List.length_append, List.length_take, List.length_drop, chunks_len, chunks_len]; omega
  refine fnV mix pl63 1 4 2 [] Try.func63 rfl (by kernel_rfl) (by kernel_rfl) rfl (by kernel_rfl) (by kernel_rfl) (by simp) rfl rfl ?_
  simp (implicitDefEqProofs := false) (disch := omega) only [go_sem, ↓reduceIte]
  refine loop (ι := Nat) 4 (fun k => k ≤ ns) (fun k => [(0, .ref 0 []), (1, .str (toU t)), (4, .int .i64 k)])
    (fun k => [(0, .var (.agg [.int .i64 sz, .osl 1 [] 1 0 ns, .osl 2 [] 1 0 W.length, .osl 3 [] 1 0 W.length, .bool off, .int .i64 L, .sl (.ints .i64 kp.length kp)])), (1, .row (.lst 1 ns (((chunks sz ns t).take k ++ (chunks sz ns b).drop k).map strU))), (2, .row (.ints .i64 W.length (W.map fun w => (w.1 : Int)))), (3, .row (.lst 1 W.length (W.map fun w => strU w.2)))])
    (fun k => ns - k) 0 [(0, 0), (1, 1), (2, 2), (3, 3)] [] (Nat.zero_le _) rfl ?_ ?_ ?_ (fun k hk => ?_)
  · simp (implicitDefEqProofs := false) (disch := omega) only [go_sem, ↓reduceIte]
  · simp (implicitDefEqProofs := false) (disch := omega) only [go_sem, ↓reduceIte]
  · simp (implicitDefEqProofs := false) (disch := omega) only [go_sem, ↓reduceIte, hL, List.take_zero, List.drop_zero, List.nil_append]
  simp (implicitDefEqProofs := false) (disch := omega) only [go_sem, ↓reduceIte]
  refine brd (fun g1 => ?_) (fun g1 => ?_)
  · have hk2 : k < ns := by omega
    have hkz : k * sz + sz ≤ ns * sz := by rw [← Nat.succ_mul]; exact Nat.mul_le_mul_right _ hk2
    have hmk := hmix k hk2
    have hlk := hml k hk
    obtain ⟨a, ha⟩ : ∃ a, a = k * sz := ⟨_, rfl⟩
    have i1 : (k : Int) * (sz : Int) = (a : Int) := by rw [ha]; simp
    have i2 : ((k : Int) + 1) * (sz : Int) = ((a + sz : Nat) : Int) := by rw [Int.add_mul, i1]; simp
    have i3 : ((a : Int) + (sz : Int)).toNat = a + sz := by omega
    have i4 : ((toU t).take (a + sz)).drop a = toU (chunk sz t k) := by
      unfold chunk
      rw [toU_take, toU_drop, List.drop_take, ha, Nat.add_sub_cancel_left]
    have hq : ∃ x, ((chunks sz ns t).take k ++ (chunks sz ns b).drop k)[k]? = some x := ⟨_, List.getElem?_eq_getElem (by rw [List.length_map] at hlk; omega)⟩
    obtain ⟨x, hx⟩ := hq
    have hgx : ∀ K, getP (((chunks sz ns t).take k ++ (chunks sz ns b).drop k).map strU) k K = K (.str (toU x)) := fun K => getP_map (f := strU) hx K
    have fin : (((chunks sz ns t).take k ++ (chunks sz ns b).drop k).map strU).set k (.str (toU (chunk sz t k))) = ((chunks sz ns t).take (k + 1) ++ (chunks sz ns b).drop (k + 1)).map strU := by
      rw [← hmk, List.map_set]; rfl
    have hb1 : a + sz ≤ 32768 := by omega
    rw [← ha] at hkz
    generalize (chunks sz ns t).take k ++ (chunks sz ns b).drop k = X at *
    simp (implicitDefEqProofs := false) (disch := omega) only [go_sem, ↓reduceIte, i1, i2, i3, i4, hlen, ↓hgx, hlk]
    refine ⟨k + 1, [(0, 0), (1, 1), (2, 2), (3, 3)], [], [], by dsimp only; omega, by dsimp only; omega, rfl, ?_, ?_, ?_⟩ <;> simp (implicitDefEqProofs := false) (disch := omega) only [go_sem, ↓reduceIte, fin]
  · obtain rfl : k = ns := by omega
    have f1 : (chunks sz k t).take k = chunks sz k t := List.take_of_length_le (by rw [chunks_len]; exact Nat.le_refl _)
    have f2 : (chunks sz k b).drop k = [] := List.drop_eq_nil_of_le (by rw [chunks_len]; exact Nat.le_refl _)
    rw [f1, f2, List.append_nil]
    simp (implicitDefEqProofs := false) (disch := omega) only [go_sem, ↓reduceIte]
    refine ⟨[(0, 0), (4, 1)], [5, 6], [], rfl, ?_, ?_, ?_⟩ <;> simp (implicitDefEqProofs := false) (disch := omega) only [go_sem, ↓reduceIte, e1, List.length_nil, List.map_nil]
theorem restore_spec (D : DS) (h : okD D) (t : List Int) (n : Nat) (hn : t.length = n) (hnl : n ≤ 9223372036854775807) : FnC Try.prog 64 [.ref 0 [], .sl (.ints .u8 n t)] (dskO 1 2 D) (.int .i64 (if n = D.b.length then 0 else 1)) (dskO 3 4 (if n = D.b.length then restD D t else D)) := by
  have h3 := h.bl
  unfold restD
  by_cases c : n = D.b.length
  · rw [if_pos c, if_pos c]
    obtain ⟨sz, b, W, off, set, left, kp⟩ := D
    dsimp only at c h3
    obtain ⟨nb, hnb⟩ : ∃ k, k = b.length := ⟨_, rfl⟩
    have d1 : decide ((n : Int) = (b.length : Int)) = true := decide_eq_true (by omega)
    refine fnV mix [] 1 3 2 [.tmp 4] Try.func64 rfl (by kernel_rfl) (by kernel_rfl) rfl (by kernel_rfl) (by kernel_rfl) (by simp) rfl rfl ?_
    by_cases c0 : n = 0
    · have eb : b = [] := List.eq_nil_of_length_eq_zero (by omega)
      have et : t = [] := List.eq_nil_of_length_eq_zero (by omega)
      subst eb; subst et
      simp only [List.length_nil] at hn
      subst hn
      simp (implicitDefEqProofs := false) (disch := omega) only [go_sem, ↓reduceIte, List.length_nil]
      refine ⟨[(0, 0), (3, 1)], [4], [], rfl, ?_, ?_, ?_⟩ <;> simp (implicitDefEqProofs := false) (disch := omega) only [go_sem, ↓reduceIte, List.length_nil, List.map_nil]
    · have c1 : ¬ b.length = 0 := by omega
      have f1 : b.drop n = [] := List.drop_eq_nil_of_le (by omega)
      simp (implicitDefEqProofs := false) (disch := omega) only [go_sem, ↓reduceIte, d1, c0, c1, ← c]
      refine ⟨[(0, 0), (3, 1)], [4], [], rfl, ?_, ?_, ?_⟩ <;> simp (implicitDefEqProofs := false) (disch := omega) only [go_sem, ↓reduceIte, List.length_nil, List.map_nil, f1, List.append_nil, List.nil_append, hn]
  · rw [if_neg c, if_neg c]
    have d1 : decide ((n : Int) = (D.b.length : Int)) = false := decide_eq_false (by omega)
    refine fnV mix [] 1 3 2 [.tmp 4] Try.func64 rfl (by kernel_rfl) (by kernel_rfl) rfl (by kernel_rfl) (by kernel_rfl) (by simp) rfl rfl ?_
    simp (implicitDefEqProofs := false) (disch := omega) only [go_sem, ↓reduceIte, d1]
    refine ⟨[(0, 0), (3, 1), (4, 2)], [], [], rfl, ?_, ?_, ?_⟩ <;> simp (implicitDefEqProofs := false) (disch := omega) only [go_sem, ↓reduceIte]
theorem refnew_spec (ns z : Nat) (h1 : 1 ≤ ns) (h2 : ns ≤ 64) (h3 : 1 ≤ z) (h4 : z ≤ 512) : FnC Try.prog 21 [.int .i64 ns, .int .i64 z] [] (.ref 0 []) (refO 1 2 3 ns ⟨z, List.replicate (ns * z) 0, [], false, false, 0, []⟩) := by
  have hck : ∀ k, k < ns → chunk z (List.replicate (ns * z) (0 : Int)) k = List.replicate z 0 := fun k hk => by
    have hkz : k * z + z ≤ ns * z := by rw [← Nat.succ_mul]; exact Nat.mul_le_mul_right _ hk
    unfold chunk
    rw [List.drop_replicate, List.take_replicate]
    congr 1; omega
  have hch : chunks z ns (List.replicate (ns * z) (0 : Int)) = List.replicate ns (List.replicate z 0) := by
    apply List.ext_getElem?
    intro q
    by_cases hq : q < ns
    · rw [chunks_get hq, hck q hq, List.getElem?_replicate, if_pos hq]
    · rw [List.getElem?_eq_none (by rw [chunks_len]; omega), List.getElem?_eq_none (by rw [List.length_replicate]; omega)]
  have e1 : leftR ⟨z, List.replicate (ns * z) 0, [], false, false, 0, []⟩ = -1 := rfl
  have e2 : ((List.replicate z (0 : Int)).map fun x => UInt8.ofNat x.toNat) = toU (List.replicate z 0) := rfl
  refine fnN mix pl21 0 2 [.tmp 4] Try.func21 rfl (by kernel_rfl) (by kernel_rfl) rfl (by kernel_rfl) (by kernel_rfl) (by simp) ?_
  simp (implicitDefEqProofs := false) (disch := omega) only [go_sem, ↓reduceIte]
  refine loop (ι := Nat) 2 (fun k => k ≤ ns) (fun k => [(0, .int .i64 ns), (1, .int .i64 z), (5, .ref 0 []), (6, .int .i64 k)])
    (fun k => [(0, .var (.agg [.int .i64 z, .osl 1 [] 1 0 k, .nils, .nils, .bool false, .int .i64 (-1), .nils])), (1, .row (.lst 1 k ((List.replicate k (List.replicate z 0)).map strU)))]) (fun k => ns - k) 0 [(0, 0)] [1] (Nat.zero_le _) rfl ?_ ?_ ?_ (fun k hk => ?_)
  · simp (implicitDefEqProofs := false) (disch := omega) only [go_sem, ↓reduceIte]
  · simp (implicitDefEqProofs := false) (disch := omega) only [go_sem, ↓reduceIte]
  · simp (implicitDefEqProofs := false) (disch := omega) only [go_sem, ↓reduceIte, List.replicate_zero, List.map_nil]
  simp (implicitDefEqProofs := false) (disch := omega) only [go_sem, ↓reduceIte]
  refine brd (fun g1 => ?_) (fun g1 => ?_)
  · have e3 : (List.replicate (k + 1) (List.replicate z (0 : Int))).map strU = (List.replicate k (List.replicate z 0)).map strU ++ [.str (toU (List.replicate z 0))] := by
      rw [List.replicate_succ', List.map_append]; rfl
    simp (implicitDefEqProofs := false) (disch := omega) only [go_sem, ↓reduceIte, e2]
    refine ⟨k + 1, [(0, 0), (1, 4)], [], [], by dsimp only; omega, by dsimp only; omega, rfl, ?_, ?_, ?_⟩ <;> simp (implicitDefEqProofs := false) (disch := omega) only [go_sem, ↓reduceIte, e3]
  · obtain rfl : k = ns := by omega
    simp (implicitDefEqProofs := false) (disch := omega) only [go_sem, ↓reduceIte]
    refine ⟨[(0, 0), (1, 1)], [2, 3], [], rfl, ?_, ?_, ?_⟩ <;> simp (implicitDefEqProofs := false) (disch := omega) only [go_sem, ↓reduceIte, e1, hch, List.length_nil, List.map_nil]
end Go.Proofs.Ytegbkbkcfcjkbaa
