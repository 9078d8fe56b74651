/- The package extract: logs that grow; where rows part: the walks of ExtractLogs and ExtractParts. -/
import Derived.Test.YtegbkbkcfcjkbaaExtr4
import Derived.Test.YtegbkbkcfcjkbaaGL
namespace Go.Proofs.Ytegbkbkcfcjkbaa
open Go Go.Sy Go.Proofs.Try
set_option maxRecDepth 100000
set_option maxHeartbeats 8000000
set_option linter.unusedSimpArgs false
set_option linter.unusedVariables false
attribute [go_sem] pl5 pl28 pl40
theorem growT_len (a : List Int) (W : List (List Int)) (f m n : Nat) (cut : Bool) (h1 : n ≤ f) (h2 : 1 ≤ m) (h3 : m ≤ n) : (growT a W f m n cut).length ≤ f := by
  rw [← (grow_up a W f m n cut h1 h2 h3).2, List.length_reverse, upTx_len, List.length_reverse]
  exact toB_le _ _ _
theorem growT_mem {a : List Int} (ha : goodD a) {W : List (List Int)} (hW : ∀ d ∈ W, goodD d) (f m n : Nat) (cut : Bool) (h1 : n ≤ f) (h2 : 1 ≤ m) (h3 : m ≤ n) (h : depG f m n cut ≤ W.length) : ∀ t ∈ growT a W f m n cut, t.length = 65 ∧ ∀ y ∈ t, 0 ≤ y ∧ y < 256 := by
  intro t ht
  rw [← (grow_up a W f m n cut h1 h2 h3).2, List.mem_reverse] at ht
  have hl := toB_len f m n cut h1 h2 h3
  generalize cutF f m n cut = C at *
  refine upTx_mem ?_ _ _ _ ?_ ?_ t ht
  · unfold groW
    cases C
    · rw [if_neg (by decide)]; exact hW
    · rw [if_pos rfl]; exact fun d hd => hW d (List.mem_of_mem_drop hd)
  · unfold gro0
    cases C
    · rw [if_neg (by decide)]; exact ha
    · rw [if_pos rfl] at hl ⊢
      exact getD_good hW (by omega)
  · rw [List.length_reverse]
    unfold groW
    cases C
    · rw [if_neg (by decide)] at hl ⊢; omega
    · rw [if_pos rfl] at hl ⊢; rw [List.length_drop]; omega
theorem logs_none (d a b : List Int) (n m : Int) (W W' : List (List Int)) (w w' : Nat) (hd : goodD d) (ha : goodD a) (hb : goodD b) (hw : W.length = w) (hw' : W'.length = w') (hwl : w ≤ 1000000) (hwl' : w' ≤ 1000000)
    (hW : ∀ d ∈ W, goodD d) (hW' : ∀ d ∈ W', goodD d) (h : ¬ (a ≠ b ∧ growsP a m d n W ∧ growsP b m d n W')) :
    FnC Try.prog 40 [.ints .u8 32 d, .int .i64 n, .int .i64 m, .ints .u8 32 a, .ints .u8 32 b, .sl (.lst 32 w (W.map dg)), .sl (.lst 32 w' (W'.map dg))] [] (.tup [.nils, .nils, .bool false]) [] := by
  refine fn0 mix pl40 0 7 [.tmp 14, .tmp 15, .tmp 16] Try.func40 rfl (by kernel_rfl) (by kernel_rfl) rfl (by kernel_rfl) (by kernel_rfl) (by simp) ?_
  by_cases h1 : a = b
  · have e1 : decide (a = b) = true := decide_eq_true h1
    simp (implicitDefEqProofs := false) (disch := omega) only [go_sem, ↓reduceIte, e1]
  have e1 : decide (a = b) = false := decide_eq_false h1
  simp (implicitDefEqProofs := false) (disch := omega) only [go_sem, ↓reduceIte, e1]
  refine call0 (grows_spec a d m n W w ha hd hw hwl hW) ?_
  by_cases h2 : growsP a m d n W
  · rw [decide_eq_true h2]
    simp (implicitDefEqProofs := false) (disch := omega) only [go_sem, ↓reduceIte]
    refine call0 (grows_spec b d m n W' w' hb hd hw' hwl' hW') ?_
    rw [decide_eq_false (fun h3 => h ⟨h1, h2, h3⟩)]
    simp (implicitDefEqProofs := false) (disch := omega) only [go_sem, ↓reduceIte]
  · rw [decide_eq_false h2]
    simp (implicitDefEqProofs := false) (disch := omega) only [go_sem, ↓reduceIte]
theorem logs_ok (d a b : List Int) (n m : Int) (W W' : List (List Int)) (w w' : Nat) (hd : goodD d) (ha : goodD a) (hb : goodD b) (hw : W.length = w) (hw' : W'.length = w') (hwl : w ≤ 1000000) (hwl' : w' ≤ 1000000)
    (hW : ∀ d ∈ W, goodD d) (hW' : ∀ d ∈ W', goodD d) (h1 : a ≠ b) (h2 : growsP a m d n W) (h3 : growsP b m d n W') :
    ∃ x y, x ≠ y ∧ sumD x = sumD y ∧ (∀ z ∈ x, 0 ≤ z ∧ z < 256) ∧ (∀ z ∈ y, 0 ≤ z ∧ z < 256) ∧ x.length ≤ 100000 ∧ y.length ≤ 100000 ∧
    FnC Try.prog 40 [.ints .u8 32 d, .int .i64 n, .int .i64 m, .ints .u8 32 a, .ints .u8 32 b, .sl (.lst 32 w (W.map dg)), .sl (.lst 32 w' (W'.map dg))] [] (.tup [.osl 0 [] 1 0 x.length, .osl 1 [] 1 0 y.length, .bool true])
      [(0, .row (.ints .u8 x.length x)), (1, .row (.ints .u8 y.length y))] := by
  have e1 : decide (a = b) = false := decide_eq_false h1
  have c2 := grows_spec a d m n W w ha hd hw hwl hW
  have c3 := grows_spec b d m n W' w' hb hd hw' hwl' hW'
  rw [decide_eq_true h2] at c2
  rw [decide_eq_true h3] at c3
  unfold growsP at h2 h3
  obtain ⟨N, rfl⟩ := Int.eq_ofNat_of_zero_le (show 0 ≤ n by omega)
  obtain ⟨M, rfl⟩ := Int.eq_ofNat_of_zero_le (show 0 ≤ m by omega)
  rw [Int.toNat_natCast, Int.toNat_natCast] at h2 h3
  obtain ⟨g1, g2, g3, g4, g5⟩ := h2
  obtain ⟨_, _, _, k4, k5⟩ := h3
  have t1 := growTrail_ok a M N W w ha hw hwl hW (by omega) (by omega) (by omega) (by omega)
  have t2 := growTrail_ok b M N W' w' hb hw' hwl' hW' (by omega) (by omega) (by omega) (by omega)
  have hfo := grow_found ha hb hW hW' N M N false (Nat.le_refl _) (by omega) (by omega) (by omega) (by omega) (by rw [g5, k5]) (by rw [g5, k5]; exact h1)
  have m1 := growT_mem ha hW N M N false (Nat.le_refl _) (by omega) (by omega) (by omega)
  have m2 := growT_mem hb hW' N M N false (Nat.le_refl _) (by omega) (by omega) (by omega)
  have el1 := growT_len a W N M N false (Nat.le_refl _) (by omega) (by omega)
  have el2 := growT_len b W' N M N false (Nat.le_refl _) (by omega) (by omega)
  generalize growT a W N M N false = T at *
  generalize growT b W' N M N false = T' at *
  obtain ⟨p, hp, hs⟩ := hfo
  have ex := m1 _ (getD_mem hp.1)
  have ey := m2 _ (getD_mem hp.2.1)
  have hpt := part_some _ _ _ _ p rfl rfl (by omega) (by omega) (fun t ht => (m1 t ht).2) (fun t ht => (m2 t ht).2) (by omega) (by omega) hp
  refine ⟨_, _, hp.2.2.2, hs, ex.2, ey.2, by omega, by omega, ?_⟩
  generalize T.getD p [] = x at *
  generalize T'.getD p [] = y at *
  refine fnN mix pl40 0 7 [.tmp 14, .tmp 15, .tmp 16] Try.func40 rfl (by kernel_rfl) (by kernel_rfl) rfl (by kernel_rfl) (by kernel_rfl) (by simp) ?_
  simp (implicitDefEqProofs := false) (disch := omega) only [go_sem, ↓reduceIte, e1]
  refine call0 c2 ?_
  simp (implicitDefEqProofs := false) (disch := omega) only [go_sem, ↓reduceIte]
  refine call0 c3 ?_
  simp (implicitDefEqProofs := false) (disch := omega) only [go_sem, ↓reduceIte]
  refine callF 1 t1 ?_
  simp (implicitDefEqProofs := false) (disch := omega) only [go_sem, ↓reduceIte]
  refine callF 1 t2 ?_
  simp (implicitDefEqProofs := false) (disch := omega) only [go_sem, ↓reduceIte]
  refine callBF 2 hpt ?_ ?_
  · simp (implicitDefEqProofs := false) (disch := omega) only [go_sem, ↓reduceIte]
  simp (implicitDefEqProofs := false) (disch := omega) only [go_sem, ↓reduceIte]
  refine ⟨[(0, 5), (1, 6)], [], [], rfl, ?_, ?_, ?_⟩ <;> simp (implicitDefEqProofs := false) (disch := omega) only [go_sem, ↓reduceIte]
theorem extractLogs_spec (d a b : List Int) (n m : Int) (W W' : List (List Int)) (hd : goodD d) (ha : goodD a) (hb : goodD b) (hW : ∀ d ∈ W, goodD d) (hW' : ∀ d ∈ W', goodD d)
    (hwl : W.length ≤ 9223372036854775807) (hwl' : W'.length ≤ 9223372036854775807) :
    FnC Try.prog 9 [.ints .u8 32 d, .int .i64 n, .int .i64 m, .ints .u8 32 a, .ints .u8 32 b, .sl (.lst 32 W.length (W.map dg)), .sl (.lst 32 W'.length (W'.map dg))] [] (.bool true) [] := by
  obtain ⟨w, hw⟩ : ∃ n, W.length = n := ⟨_, rfl⟩
  obtain ⟨w', hw'⟩ : ∃ n, W'.length = n := ⟨_, rfl⟩
  rw [hw, hw']
  refine fn0 mix [] 0 7 [.tmp 14] Try.func9 rfl (by kernel_rfl) (by kernel_rfl) rfl (by kernel_rfl) (by kernel_rfl) (by simp) ?_
  simp (implicitDefEqProofs := false) (disch := omega) only [go_sem, ↓reduceIte]
  refine brd (fun g3 => ?_) (fun g3 => ?_)
  · simp (implicitDefEqProofs := false) (disch := omega) only [go_sem, ↓reduceIte]
    refine call0 knows23_spec ?_
    simp (implicitDefEqProofs := false) (disch := omega) only [go_sem, ↓reduceIte]
  simp (implicitDefEqProofs := false) (disch := omega) only [go_sem, ↓reduceIte]
  refine brd (fun g4 => ?_) (fun g4 => ?_)
  · simp (implicitDefEqProofs := false) (disch := omega) only [go_sem, ↓reduceIte]
    refine call0 knows23_spec ?_
    simp (implicitDefEqProofs := false) (disch := omega) only [go_sem, ↓reduceIte]
  simp (implicitDefEqProofs := false) (disch := omega) only [go_sem, ↓reduceIte]
  have c2 := grows_spec a d m n W w ha hd hw (by omega) hW
  have c3 := grows_spec b d m n W' w' hb hd hw' (by omega) hW'
  by_cases h : a ≠ b ∧ growsP a m d n W ∧ growsP b m d n W'
  · obtain ⟨h1, h2, h3⟩ := h
    rw [decide_eq_true h2] at c2
    rw [decide_eq_true h3] at c3
    have e1 : decide (a = b) = false := decide_eq_false h1
    obtain ⟨x, y, k1, k2, k3, k4, k5, k6, k7⟩ := logs_ok d a b n m W W' w w' hd ha hb hw hw' (by omega) (by omega) hW hW' h1 h2 h3
    refine callF 2 k7 ?_
    simp (implicitDefEqProofs := false) (disch := omega) only [go_sem, ↓reduceIte]
    refine call0 c2 ?_
    simp (implicitDefEqProofs := false) (disch := omega) only [go_sem, ↓reduceIte]
    refine call0 c3 ?_
    simp (implicitDefEqProofs := false) (disch := omega) only [go_sem, ↓reduceIte, e1]
    refine callB (found_spec x y _ _ rfl rfl k3 k4 k5 k6 k1 k2) ?_ ?_
    · simp (implicitDefEqProofs := false) (disch := omega) only [go_sem, ↓reduceIte]
    simp (implicitDefEqProofs := false) (disch := omega) only [go_sem, ↓reduceIte]
    refine call0 knows23_spec ?_
    simp (implicitDefEqProofs := false) (disch := omega) only [go_sem, ↓reduceIte]
  · refine call0 (logs_none d a b n m W W' w w' hd ha hb hw hw' (by omega) (by omega) hW hW' h) ?_
    simp (implicitDefEqProofs := false) (disch := omega) only [go_sem, ↓reduceIte]
    refine call0 c2 ?_
    by_cases h2 : growsP a m d n W
    · rw [decide_eq_true h2]
      simp (implicitDefEqProofs := false) (disch := omega) only [go_sem, ↓reduceIte]
      refine call0 c3 ?_
      by_cases h3 : growsP b m d n W'
      · rw [decide_eq_true h3]
        have e1 : decide (a = b) = true := decide_eq_true (Classical.byContradiction fun h1 => h ⟨h1, h2, h3⟩)
        simp (implicitDefEqProofs := false) (disch := omega) only [go_sem, ↓reduceIte, e1]
        refine call0 none_spec ?_
        simp (implicitDefEqProofs := false) (disch := omega) only [go_sem, ↓reduceIte]
        refine call0 knows23_spec ?_
        simp (implicitDefEqProofs := false) (disch := omega) only [go_sem, ↓reduceIte]
      · rw [decide_eq_false h3]
        simp (implicitDefEqProofs := false) (disch := omega) only [go_sem, ↓reduceIte]
        refine call0 none_spec ?_
        simp (implicitDefEqProofs := false) (disch := omega) only [go_sem, ↓reduceIte]
        refine call0 knows23_spec ?_
        simp (implicitDefEqProofs := false) (disch := omega) only [go_sem, ↓reduceIte]
    · rw [decide_eq_false h2]
      simp (implicitDefEqProofs := false) (disch := omega) only [go_sem, ↓reduceIte]
      refine call0 none_spec ?_
      simp (implicitDefEqProofs := false) (disch := omega) only [go_sem, ↓reduceIte]
      refine call0 knows23_spec ?_
      simp (implicitDefEqProofs := false) (disch := omega) only [go_sem, ↓reduceIte]
/-! Parts. -/
theorem refpart_some (l l' : List (List Int)) (n m p : Nat) (hn : l.length = n) (hm : l'.length = m) (hnl : n ≤ 1000000) (hml : m ≤ 1000000) (hb : ∀ p ∈ l, ∀ x ∈ p, 0 ≤ x ∧ x < 256) (hb' : ∀ p ∈ l', ∀ x ∈ p, 0 ≤ x ∧ x < 256) (h : PartsAt l l' p) :
    FnC Try.prog 28 [.sl (.lst 1 n (l.map bsl)), .sl (.lst 1 m (l'.map bsl))] [] (.int .i64 p) [] := by
  obtain ⟨p1, p2, p3, p4⟩ := h
  have hle : (l.map bsl).length = n := by rw [List.length_map, hn]
  have hle' : (l'.map bsl).length = m := by rw [List.length_map, hm]
  refine fn0 mix pl28 0 2 [.tmp 4] Try.func28 rfl (by kernel_rfl) (by kernel_rfl) rfl (by kernel_rfl) (by kernel_rfl) (by simp) ?_
  simp (implicitDefEqProofs := false) (disch := omega) only [go_sem, ↓reduceIte]
  refine loop (ι := Nat) 0 (fun i => i ≤ p) (fun i => [(0, .sl (.lst 1 n (l.map bsl))), (1, .sl (.lst 1 m (l'.map bsl))), (5, .int .i64 i)]) (fun i => []) (fun i => n - i) 0 [] [] (Nat.zero_le _) rfl ?_ ?_ ?_ (fun i hi => ?_)
  · simp (implicitDefEqProofs := false) (disch := omega) only [go_sem, ↓reduceIte]
  · simp (implicitDefEqProofs := false) (disch := omega) only [go_sem, ↓reduceIte]
  · simp (implicitDefEqProofs := false) (disch := omega) only [go_sem, ↓reduceIte]
  have d1 : decide ((i : Int) < (n : Int)) = true := decide_eq_true (by omega)
  have d2 : decide ((i : Int) < (m : Int)) = true := decide_eq_true (by omega)
  have hg := fun K => getB_map (l := l) (show i < l.length by omega) K
  have hg' := fun K => getB_map (l := l') (show i < l'.length by omega) K
  have he : decide (((l.getD i []).map fun x => UInt8.ofNat x.toNat) = ((l'.getD i []).map fun x => UInt8.ofNat x.toNat)) = decide (l.getD i [] = l'.getD i []) := decide_eq_decide.2 (bytes_inj (hb _ (getD_mem (by omega))) (hb' _ (getD_mem (by omega))))
  by_cases hip : i = p
  · subst hip
    rw [decide_eq_false p4] at he
    simp (implicitDefEqProofs := false) (disch := omega) only [go_sem, ↓reduceIte, d1, d2, ↓hg, ↓hg', hle, hle', he]
    omega
  · rw [decide_eq_true (p3 i (by omega))] at he
    simp (implicitDefEqProofs := false) (disch := omega) only [go_sem, ↓reduceIte, d1, d2, ↓hg, ↓hg', hle, hle', he]
    refine ⟨i + 1, [], [], [], by dsimp only; omega, by dsimp only; omega, rfl, ?_, ?_, ?_⟩ <;> simp (implicitDefEqProofs := false) (disch := omega) only [go_sem, ↓reduceIte]
theorem refpart_none (l l' : List (List Int)) (n m : Nat) (hn : l.length = n) (hm : l'.length = m) (hnl : n ≤ 1000000) (hml : m ≤ 1000000) (hb : ∀ p ∈ l, ∀ x ∈ p, 0 ≤ x ∧ x < 256) (hb' : ∀ p ∈ l', ∀ x ∈ p, 0 ≤ x ∧ x < 256) (h : ∀ j, j < n → j < m → l.getD j [] = l'.getD j []) :
    FnC Try.prog 28 [.sl (.lst 1 n (l.map bsl)), .sl (.lst 1 m (l'.map bsl))] [] (.int .i64 (-1)) [] := by
  have hle : (l.map bsl).length = n := by rw [List.length_map, hn]
  have hle' : (l'.map bsl).length = m := by rw [List.length_map, hm]
  refine fn0 mix pl28 0 2 [.tmp 4] Try.func28 rfl (by kernel_rfl) (by kernel_rfl) rfl (by kernel_rfl) (by kernel_rfl) (by simp) ?_
  simp (implicitDefEqProofs := false) (disch := omega) only [go_sem, ↓reduceIte]
  refine loop (ι := Nat) 0 (fun i => i ≤ n) (fun i => [(0, .sl (.lst 1 n (l.map bsl))), (1, .sl (.lst 1 m (l'.map bsl))), (5, .int .i64 i)]) (fun i => []) (fun i => n - i) 0 [] [] (Nat.zero_le _) rfl ?_ ?_ ?_ (fun i hi => ?_)
  · simp (implicitDefEqProofs := false) (disch := omega) only [go_sem, ↓reduceIte]
  · simp (implicitDefEqProofs := false) (disch := omega) only [go_sem, ↓reduceIte]
  · simp (implicitDefEqProofs := false) (disch := omega) only [go_sem, ↓reduceIte]
  by_cases h1 : i < n
  · have d1 : decide ((i : Int) < (n : Int)) = true := decide_eq_true (by omega)
    by_cases h2 : i < m
    · have d2 : decide ((i : Int) < (m : Int)) = true := decide_eq_true (by omega)
      have hg := fun K => getB_map (l := l) (show i < l.length by omega) K
      have hg' := fun K => getB_map (l := l') (show i < l'.length by omega) K
      have he : decide (((l.getD i []).map fun x => UInt8.ofNat x.toNat) = ((l'.getD i []).map fun x => UInt8.ofNat x.toNat)) = decide (l.getD i [] = l'.getD i []) := decide_eq_decide.2 (bytes_inj (hb _ (getD_mem (by omega))) (hb' _ (getD_mem (by omega))))
      rw [decide_eq_true (h i (by omega) (by omega))] at he
      simp (implicitDefEqProofs := false) (disch := omega) only [go_sem, ↓reduceIte, d1, d2, ↓hg, ↓hg', hle, hle', he]
      refine ⟨i + 1, [], [], [], by dsimp only; omega, by dsimp only; omega, rfl, ?_, ?_, ?_⟩ <;> simp (implicitDefEqProofs := false) (disch := omega) only [go_sem, ↓reduceIte]
    · have d2 : decide ((i : Int) < (m : Int)) = false := decide_eq_false (by omega)
      simp (implicitDefEqProofs := false) (disch := omega) only [go_sem, ↓reduceIte, d1, d2]
  · have d1 : decide ((i : Int) < (n : Int)) = false := decide_eq_false (by omega)
    simp (implicitDefEqProofs := false) (disch := omega) only [go_sem, ↓reduceIte, d1]
theorem parts_or (l l' : List (List Int)) : ∀ k, k ≤ l.length → k ≤ l'.length → (∃ p, PartsAt l l' p) ∨ ∀ j, j < k → l.getD j [] = l'.getD j []
  | 0, _, _ => .inr (fun j hj => by omega)
  | k + 1, h1, h2 => by
    rcases parts_or l l' k (by omega) (by omega) with h | h
    · exact .inl h
    · by_cases e : l.getD k [] = l'.getD k []
      · refine .inr (fun j hj => ?_)
        by_cases ej : j = k
        · rw [ej]; exact e
        · exact h j (by omega)
      · exact .inl ⟨k, by omega, by omega, h, e⟩
theorem extractParts_spec (l l' : List (List Int)) (hb : ∀ p ∈ l, ∀ x ∈ p, 0 ≤ x ∧ x < 256) (hpl : ∀ p ∈ l, p.length ≤ 140737488351232) (hl : l.length ≤ 9223372036854775807)
    (hb' : ∀ p ∈ l', ∀ x ∈ p, 0 ≤ x ∧ x < 256) (hpl' : ∀ p ∈ l', p.length ≤ 140737488351232) (hl' : l'.length ≤ 9223372036854775807) :
    FnC Try.prog 5 [.sl (.lst 1 l.length (l.map bsl)), .sl (.lst 1 l'.length (l'.map bsl))] [] (.bool true) [] := by
  obtain ⟨n, hn⟩ : ∃ n, n = l.length := ⟨_, rfl⟩
  obtain ⟨m, hm⟩ : ∃ n, n = l'.length := ⟨_, rfl⟩
  have hfew := few_spec l 2000 hl (fun p h => Nat.le_trans (hpl p h) (by decide))
  have hfew' := few_spec l' 2000 hl' (fun p h => Nat.le_trans (hpl' p h) (by decide))
  rw [← hn] at hfew ⊢
  rw [← hm] at hfew' ⊢
  refine fn0 mix pl5 0 2 [.tmp 4] Try.func5 rfl (by kernel_rfl) (by kernel_rfl) rfl (by kernel_rfl) (by kernel_rfl) (by simp) ?_
  simp (implicitDefEqProofs := false) (disch := omega) only [go_sem, ↓reduceIte]
  refine call0 hfew ?_
  by_cases hw : (decide (wsum l ≤ 2000) && decide ((n : Int) ≤ 100)) = true
  case neg =>
    rw [Bool.not_eq_true] at hw
    rw [hw]
    simp (implicitDefEqProofs := false) (disch := omega) only [go_sem, ↓reduceIte]
    refine call0 knows23_spec ?_
    simp (implicitDefEqProofs := false) (disch := omega) only [go_sem, ↓reduceIte]
  rw [hw]
  simp (implicitDefEqProofs := false) (disch := omega) only [go_sem, ↓reduceIte]
  refine call0 hfew' ?_
  by_cases hw' : (decide (wsum l' ≤ 2000) && decide ((m : Int) ≤ 100)) = true
  case neg =>
    rw [Bool.not_eq_true] at hw'
    rw [hw']
    simp (implicitDefEqProofs := false) (disch := omega) only [go_sem, ↓reduceIte]
    refine call0 knows23_spec ?_
    simp (implicitDefEqProofs := false) (disch := omega) only [go_sem, ↓reduceIte]
  rw [hw']
  simp only [Bool.and_eq_true, decide_eq_true_eq] at hw hw'
  have hw2 := wsum_eq l hpl l.length (by omega) (Nat.le_refl _)
  rw [List.take_length] at hw2
  have hw2' := wsum_eq l' hpl' l'.length (by omega) (Nat.le_refl _)
  rw [List.take_length] at hw2'
  have ht : ∀ p ∈ l, p.length ≤ 2000 := fun p h => by have := len_cat h; omega
  have ht' : ∀ p ∈ l', p.length ≤ 2000 := fun p h => by have := len_cat h; omega
  simp (implicitDefEqProofs := false) (disch := omega) only [go_sem, ↓reduceIte]
  rcases parts_or l l' (min n m) (by omega) (by omega) with ⟨p, hp⟩ | h
  · have hps := part_some l l' n m p hn.symm hm.symm (by omega) (by omega) hb hb' (by have := ht _ (getD_mem hp.1); omega) (by have := ht' _ (getD_mem hp.2.1); omega) hp
    have hg := fun K => getB_map (l := l) hp.1 K
    have hg' := fun K => getB_map (l := l') hp.2.1 K
    have hp1 := hp.1
    have hp2 := hp.2.1
    have hle : (l.map bsl).length = n := by rw [List.length_map, hn]
    have hle' : (l'.map bsl).length = m := by rw [List.length_map, hm]
    refine callF 2 hps ?_
    simp (implicitDefEqProofs := false) (disch := omega) only [go_sem, ↓reduceIte]
    refine call0 (refpart_some l l' n m p hn.symm hm.symm (by omega) (by omega) hb hb' hp) ?_
    simp (implicitDefEqProofs := false) (disch := omega) only [go_sem, ↓reduceIte]
    refine brd (fun h1 => by omega) (fun h1 => ?_)
    simp (implicitDefEqProofs := false) (disch := omega) only [go_sem, ↓reduceIte, ↓hg, ↓hg', hle, hle']
    refine call0 knows23_spec ?_
    simp (implicitDefEqProofs := false) (disch := omega) only [go_sem, ↓reduceIte]
  · refine call0 (part_none l l' n m hn.symm hm.symm (by omega) (by omega) hb hb' (fun j h1 h2 => h j (by omega))) ?_
    simp (implicitDefEqProofs := false) (disch := omega) only [go_sem, ↓reduceIte]
    refine call0 (refpart_none l l' n m hn.symm hm.symm (by omega) (by omega) hb hb' (fun j h1 h2 => h j (by omega))) ?_
    simp (implicitDefEqProofs := false) (disch := omega) only [go_sem, ↓reduceIte]
    refine call0 none_spec ?_
    simp (implicitDefEqProofs := false) (disch := omega) only [go_sem, ↓reduceIte]
    refine call0 knows23_spec ?_
    simp (implicitDefEqProofs := false) (disch := omega) only [go_sem, ↓reduceIte]
end Go.Proofs.Ytegbkbkcfcjkbaa
