/- The package extract: where two things are shown, two texts with one sum. -/
import Derived.Test.YtegbkbkcfcjkbaaExtr3
import Derived.Test.YtegbkbkcfcjkbaaCommit
import Derived.Test.YtegbkbkcfcjkbaaGL
import Derived.Test.YtegbkbkcfcjkbaaRef01
namespace Go.Proofs.Ytegbkbkcfcjkbaa
open Go Go.Sy Go.Proofs.Try
set_option maxRecDepth 100000
set_option maxHeartbeats 8000000
set_option linter.unusedSimpArgs false
set_option linter.unusedVariables false
attribute [go_sem] pl35
def isV (c salt value : List Int) : Prop := value.length ≤ 64 ∧ c = madeD salt value
instance (c salt value : List Int) : Decidable (isV c salt value) := by unfold isV; infer_instance
theorem isV_spec (c salt value : List Int) (n : Nat) (hn : value.length = n) (hnn : n ≤ 1000) (hs : goodD salt) (hm : ∀ x ∈ value, 0 ≤ x ∧ x < 256) : FnC Try.prog 36 [.ints .u8 32 c, .ints .u8 32 salt, .sl (.ints .u8 n value)] [] (.bool (decide (isV c salt value))) [] := by
  have h := isValue_spec c salt value n hn hnn hs.1 hs.2 hm
  have e : decide (isV c salt value) = (decide (n ≤ 64) && decide (c = madeD salt value)) := by
    rw [← Bool.decide_and]
    exact decide_eq_decide.2 (by unfold isV; rw [hn])
  rw [e]; exact h
theorem valText_spec (s v : List Int) (n : Nat) (hs : goodD s) (hn : v.length = n) (hnn : n ≤ 1000) : FnC Try.prog 71 [.ints .u8 32 s, .sl (.ints .u8 n v)] [] (.osl 0 [] 1 0 (33 + n)) [(0, .row (.ints .u8 (33 + n) (2 :: (s ++ v))))] := by
  have l1 := hs.1
  refine fnN mix [] 0 2 [.tmp 4] Try.func71 rfl (by kernel_rfl) (by kernel_rfl) rfl (by kernel_rfl) (by kernel_rfl) (by simp) ?_
  simp (implicitDefEqProofs := false) (disch := omega) only [go_sem, ↓reduceIte]
  refine ⟨[(0, 3)], [], [], rfl, ?_, ?_, ?_⟩ <;> simp (implicitDefEqProofs := false) (disch := omega) only [go_sem, ↓reduceIte, List.cons_append, List.singleton_append]
theorem values_none (c s o v m : List Int) (n k : Nat) (hs : goodD s) (ho : goodD o) (hn : v.length = n) (hk : m.length = k) (hnn : n ≤ 1000) (hkk : k ≤ 1000) (hv : ∀ x ∈ v, 0 ≤ x ∧ x < 256) (hm : ∀ x ∈ m, 0 ≤ x ∧ x < 256) (h : ¬ (v ≠ m ∧ isV c s v ∧ isV c o m)) :
    FnC Try.prog 35 [.ints .u8 32 c, .ints .u8 32 s, .ints .u8 32 o, .sl (.ints .u8 n v), .sl (.ints .u8 k m)] [] (.tup [.nils, .nils, .bool false]) [] := by
  refine fn0 mix pl35 0 5 [.tmp 10, .tmp 11, .tmp 12] Try.func35 rfl (by kernel_rfl) (by kernel_rfl) rfl (by kernel_rfl) (by kernel_rfl) (by simp) ?_
  simp (implicitDefEqProofs := false) (disch := omega) only [go_sem, ↓reduceIte]
  refine call0 (equal23_spec v m n k hn hk hv hm) ?_
  by_cases h1 : v = m
  · rw [decide_eq_true h1]
    simp (implicitDefEqProofs := false) (disch := omega) only [go_sem, ↓reduceIte]
  rw [decide_eq_false h1]
  simp (implicitDefEqProofs := false) (disch := omega) only [go_sem, ↓reduceIte]
  refine call0 (isV_spec c s v n hn hnn hs hv) ?_
  by_cases h2 : isV c s v
  · rw [decide_eq_true h2]
    simp (implicitDefEqProofs := false) (disch := omega) only [go_sem, ↓reduceIte]
    refine call0 (isV_spec c o m k hk hkk ho hm) ?_
    rw [decide_eq_false (fun h3 => h ⟨h1, h2, h3⟩)]
    simp (implicitDefEqProofs := false) (disch := omega) only [go_sem, ↓reduceIte]
  · rw [decide_eq_false h2]
    simp (implicitDefEqProofs := false) (disch := omega) only [go_sem, ↓reduceIte]
theorem values_ok (c s o v m : List Int) (n k : Nat) (hs : goodD s) (ho : goodD o) (hn : v.length = n) (hk : m.length = k) (hnn : n ≤ 1000) (hkk : k ≤ 1000) (hv : ∀ x ∈ v, 0 ≤ x ∧ x < 256) (hm : ∀ x ∈ m, 0 ≤ x ∧ x < 256) (h1 : v ≠ m) (h2 : isV c s v) (h3 : isV c o m) :
    FnC Try.prog 35 [.ints .u8 32 c, .ints .u8 32 s, .ints .u8 32 o, .sl (.ints .u8 n v), .sl (.ints .u8 k m)] [] (.tup [.osl 0 [] 1 0 (33 + n), .osl 1 [] 1 0 (33 + k), .bool true])
      [(0, .row (.ints .u8 (33 + n) (2 :: (s ++ v)))), (1, .row (.ints .u8 (33 + k) (2 :: (o ++ m))))] := by
  have c1 := equal23_spec v m n k hn hk hv hm
  have c2 := isV_spec c s v n hn hnn hs hv
  have c3 := isV_spec c o m k hk hkk ho hm
  rw [decide_eq_false h1] at c1
  rw [decide_eq_true h2] at c2
  rw [decide_eq_true h3] at c3
  refine fnN mix pl35 0 5 [.tmp 10, .tmp 11, .tmp 12] Try.func35 rfl (by kernel_rfl) (by kernel_rfl) rfl (by kernel_rfl) (by kernel_rfl) (by simp) ?_
  simp (implicitDefEqProofs := false) (disch := omega) only [go_sem, ↓reduceIte]
  refine call0 c1 ?_
  simp (implicitDefEqProofs := false) (disch := omega) only [go_sem, ↓reduceIte]
  refine call0 c2 ?_
  simp (implicitDefEqProofs := false) (disch := omega) only [go_sem, ↓reduceIte]
  refine call0 c3 ?_
  simp (implicitDefEqProofs := false) (disch := omega) only [go_sem, ↓reduceIte]
  refine callF 1 (valText_spec s v n hs hn hnn) ?_
  simp (implicitDefEqProofs := false) (disch := omega) only [go_sem, ↓reduceIte]
  refine callF 1 (valText_spec o m k ho hk hkk) ?_
  simp (implicitDefEqProofs := false) (disch := omega) only [go_sem, ↓reduceIte]
  refine ⟨[(0, 3), (1, 4)], [], [], rfl, ?_, ?_, ?_⟩ <;> simp (implicitDefEqProofs := false) (disch := omega) only [go_sem, ↓reduceIte]
theorem byte_cons {a : Int} {l : List Int} (ha : 0 ≤ a ∧ a < 256) (h : ∀ x ∈ l, 0 ≤ x ∧ x < 256) : ∀ x ∈ a :: l, 0 ≤ x ∧ x < 256 := fun x hx => by
  rcases List.mem_cons.1 hx with rfl | hx
  · exact ha
  · exact h x hx
theorem extractValues_spec (c s o v m : List Int) (hs : goodD s) (ho : goodD o) (hv : ∀ x ∈ v, 0 ≤ x ∧ x < 256) (hm : ∀ x ∈ m, 0 ≤ x ∧ x < 256) (hvl : v.length ≤ 9223372036854775807) (hml : m.length ≤ 9223372036854775807) :
    FnC Try.prog 7 [.ints .u8 32 c, .ints .u8 32 s, .ints .u8 32 o, .sl (.ints .u8 v.length v), .sl (.ints .u8 m.length m)] [] (.bool true) [] := by
  obtain ⟨n, hn⟩ : ∃ n, v.length = n := ⟨_, rfl⟩
  obtain ⟨k, hk⟩ : ∃ k, m.length = k := ⟨_, rfl⟩
  rw [hn, hk]
  refine fn0 mix [] 0 5 [.tmp 10] Try.func7 rfl (by kernel_rfl) (by kernel_rfl) rfl (by kernel_rfl) (by kernel_rfl) (by simp) ?_
  simp (implicitDefEqProofs := false) (disch := omega) only [go_sem, ↓reduceIte]
  refine brd (fun g1 => ?_) (fun g1 => ?_)
  · simp (implicitDefEqProofs := false) (disch := omega) only [go_sem, ↓reduceIte]
    refine call0 knows23_spec ?_
    simp (implicitDefEqProofs := false) (disch := omega) only [go_sem, ↓reduceIte]
  simp (implicitDefEqProofs := false) (disch := omega) only [go_sem, ↓reduceIte]
  refine brd (fun g2 => ?_) (fun g2 => ?_)
  · simp (implicitDefEqProofs := false) (disch := omega) only [go_sem, ↓reduceIte]
    refine call0 knows23_spec ?_
    simp (implicitDefEqProofs := false) (disch := omega) only [go_sem, ↓reduceIte]
  simp (implicitDefEqProofs := false) (disch := omega) only [go_sem, ↓reduceIte]
  have e : decide ((v.map fun x => UInt8.ofNat x.toNat) = (m.map fun x => UInt8.ofNat x.toNat)) = decide (v = m) := decide_eq_decide.2 (bytes_inj hv hm)
  have c2 := isV_spec c s v n hn (by omega) hs hv
  have c3 := isV_spec c o m k hk (by omega) ho hm
  by_cases h : v ≠ m ∧ isV c s v ∧ isV c o m
  · obtain ⟨h1, h2, h3⟩ := h
    rw [decide_eq_true h2] at c2
    rw [decide_eq_true h3] at c3
    have e1 : decide (v = m) = false := decide_eq_false h1
    refine callF 2 (values_ok c s o v m n k hs ho hn hk (by omega) (by omega) hv hm h1 h2 h3) ?_
    simp (implicitDefEqProofs := false) (disch := omega) only [go_sem, ↓reduceIte]
    refine call0 c2 ?_
    simp (implicitDefEqProofs := false) (disch := omega) only [go_sem, ↓reduceIte]
    refine call0 c3 ?_
    simp (implicitDefEqProofs := false) (disch := omega) only [go_sem, ↓reduceIte, e, e1]
    refine callB (found_spec (2 :: (s ++ v)) (2 :: (o ++ m)) (33 + n) (33 + k) (by rw [List.length_cons, List.length_append, hs.1, hn]; omega) (by rw [List.length_cons, List.length_append, ho.1, hk]; omega) (byte_cons (by decide) (app_mem hs.2 hv)) (byte_cons (by decide) (app_mem ho.2 hm)) (by omega) (by omega)
      (fun hh => h1 (List.append_inj (List.cons.inj hh).2 (by rw [hs.1, ho.1])).2) (by have := h2.2.symm.trans h3.2; exact this)) ?_ ?_
    · simp (implicitDefEqProofs := false) (disch := omega) only [go_sem, ↓reduceIte]
    simp (implicitDefEqProofs := false) (disch := omega) only [go_sem, ↓reduceIte]
    refine call0 knows23_spec ?_
    simp (implicitDefEqProofs := false) (disch := omega) only [go_sem, ↓reduceIte]
  · refine call0 (values_none c s o v m n k hs ho hn hk (by omega) (by omega) hv hm h) ?_
    simp (implicitDefEqProofs := false) (disch := omega) only [go_sem, ↓reduceIte]
    refine call0 c2 ?_
    by_cases h2 : isV c s v
    · rw [decide_eq_true h2]
      simp (implicitDefEqProofs := false) (disch := omega) only [go_sem, ↓reduceIte]
      refine call0 c3 ?_
      by_cases h3 : isV c o m
      · rw [decide_eq_true h3]
        have e1 : decide (v = m) = true := decide_eq_true (Classical.byContradiction fun h1 => h ⟨h1, h2, h3⟩)
        simp (implicitDefEqProofs := false) (disch := omega) only [go_sem, ↓reduceIte, e, e1]
        refine call0 none_spec ?_
        simp (implicitDefEqProofs := false) (disch := omega) only [go_sem, ↓reduceIte]
        refine call0 knows23_spec ?_
        simp (implicitDefEqProofs := false) (disch := omega) only [go_sem, ↓reduceIte]
      · rw [decide_eq_false h3]
        simp (implicitDefEqProofs := false) (disch := omega) only [go_sem, ↓reduceIte]
        refine call0 none_spec ?_
        simp (implicitDefEqProofs := false) (disch := omega) only [go_sem, ↓reduceIte]
        refine call0 knows23_spec ?_
        simp (implicitDefEqProofs := false) (disch := omega) only [go_sem, ↓reduceIte]
    · rw [decide_eq_false h2]
      simp (implicitDefEqProofs := false) (disch := omega) only [go_sem, ↓reduceIte]
      refine call0 none_spec ?_
      simp (implicitDefEqProofs := false) (disch := omega) only [go_sem, ↓reduceIte]
      refine call0 knows23_spec ?_
      simp (implicitDefEqProofs := false) (disch := omega) only [go_sem, ↓reduceIte]
/-! Texts. -/
theorem trailT_mem {x : List Int} (hx : goodD x) {W : List (List Int)} (hW : ∀ d ∈ W, goodD d) (f n i : Nat) (h : depH f n i ≤ W.length) : ∀ t ∈ trailT x W f n i, t.length = 65 ∧ ∀ y ∈ t, 0 ≤ y ∧ y < 256 := by
  intro t ht
  rw [← (way_up x W f n i).2, List.mem_reverse] at ht
  exact upTx_mem hW _ _ _ hx (by rw [List.length_reverse, downB_len]; omega) t ht
theorem trailT_len (x : List Int) (W : List (List Int)) (f n i : Nat) : (trailT x W f n i).length = depH f n i := by
  rw [← (way_up x W f n i).2, List.length_reverse, upTx_len, List.length_reverse, downB_len]
theorem texts_none (d a b : List Int) (n i : Int) (W W' : List (List Int)) (an bn w w' : Nat) (hd : goodD d) (ha : a.length = an) (hb : b.length = bn) (hw : W.length = w) (hw' : W'.length = w') (hal : an ≤ 100000) (hbl : bn ≤ 100000) (hwl : w ≤ 1000000) (hwl' : w' ≤ 1000000)
    (ha' : ∀ x ∈ a, 0 ≤ x ∧ x < 256) (hb' : ∀ x ∈ b, 0 ≤ x ∧ x < 256) (hW : ∀ d ∈ W, goodD d) (hW' : ∀ d ∈ W', goodD d) (h : ¬ (a ≠ b ∧ holdsP d n i a W ∧ holdsP d n i b W')) :
    FnC Try.prog 38 [.ints .u8 32 d, .int .i64 n, .int .i64 i, .sl (.ints .u8 an a), .sl (.ints .u8 bn b), .sl (.lst 32 w (W.map dg)), .sl (.lst 32 w' (W'.map dg))] [] (.tup [.nils, .nils, .bool false]) [] := by
  refine fn0 mix [] 0 7 [.tmp 14, .tmp 15, .tmp 16] Try.func38 rfl (by kernel_rfl) (by kernel_rfl) rfl (by kernel_rfl) (by kernel_rfl) (by simp) ?_
  simp (implicitDefEqProofs := false) (disch := omega) only [go_sem, ↓reduceIte]
  refine call0 (equal23_spec a b an bn ha hb ha' hb') ?_
  by_cases h1 : a = b
  · rw [decide_eq_true h1]
    simp (implicitDefEqProofs := false) (disch := omega) only [go_sem, ↓reduceIte]
  rw [decide_eq_false h1]
  simp (implicitDefEqProofs := false) (disch := omega) only [go_sem, ↓reduceIte]
  refine call0 (holds_spec d a an n i W w hd ha ha' hal hw hwl hW) ?_
  by_cases h2 : holdsP d n i a W
  · rw [decide_eq_true h2]
    simp (implicitDefEqProofs := false) (disch := omega) only [go_sem, ↓reduceIte]
    refine call0 (holds_spec d b bn n i W' w' hd hb hb' hbl hw' hwl' hW') ?_
    rw [decide_eq_false (fun h3 => h ⟨h1, h2, h3⟩)]
    simp (implicitDefEqProofs := false) (disch := omega) only [go_sem, ↓reduceIte]
  · rw [decide_eq_false h2]
    simp (implicitDefEqProofs := false) (disch := omega) only [go_sem, ↓reduceIte]
theorem texts_ok (d a b : List Int) (n i : Int) (W W' : List (List Int)) (an bn w w' : Nat) (hd : goodD d) (ha : a.length = an) (hb : b.length = bn) (hw : W.length = w) (hw' : W'.length = w') (hal : an ≤ 10000) (hbl : bn ≤ 10000) (hwl : w ≤ 1000000) (hwl' : w' ≤ 1000000)
    (ha' : ∀ x ∈ a, 0 ≤ x ∧ x < 256) (hb' : ∀ x ∈ b, 0 ≤ x ∧ x < 256) (hW : ∀ d ∈ W, goodD d) (hW' : ∀ d ∈ W', goodD d) (h1 : a ≠ b) (h2 : holdsP d n i a W) (h3 : holdsP d n i b W') :
    ∃ x y, x ≠ y ∧ sumD x = sumD y ∧ (∀ z ∈ x, 0 ≤ z ∧ z < 256) ∧ (∀ z ∈ y, 0 ≤ z ∧ z < 256) ∧ x.length ≤ 100000 ∧ y.length ≤ 100000 ∧
    FnC Try.prog 38 [.ints .u8 32 d, .int .i64 n, .int .i64 i, .sl (.ints .u8 an a), .sl (.ints .u8 bn b), .sl (.lst 32 w (W.map dg)), .sl (.lst 32 w' (W'.map dg))] [] (.tup [.osl 0 [] 1 0 x.length, .osl 1 [] 1 0 y.length, .bool true])
      [(0, .row (.ints .u8 x.length x)), (1, .row (.ints .u8 y.length y))] := by
  have c1 := equal23_spec a b an bn ha hb ha' hb'
  have c2 := holds_spec d a an n i W w hd ha ha' (by omega) hw hwl hW
  have c3 := holds_spec d b bn n i W' w' hd hb hb' (by omega) hw' hwl' hW'
  rw [decide_eq_false h1] at c1
  rw [decide_eq_true h2] at c2
  rw [decide_eq_true h3] at c3
  unfold holdsP at h2 h3
  obtain ⟨N, rfl⟩ := Int.eq_ofNat_of_zero_le (show 0 ≤ n by omega)
  obtain ⟨I, rfl⟩ := Int.eq_ofNat_of_zero_le (show 0 ≤ i by omega)
  rw [Int.toNat_natCast, Int.toNat_natCast] at h2 h3
  obtain ⟨g1, g2, g3, g4, g5, g6⟩ := h2
  obtain ⟨_, _, _, _, k5, k6⟩ := h3
  have t1 := textTrail_ok a an N I W w ha ha' (by omega) hw hW (by omega) (by omega) (by omega) (by omega)
  have t2 := textTrail_ok b bn N I W' w' hb hb' (by omega) hw' hW' (by omega) (by omega) (by omega) (by omega)
  have hwd : depH N N I ≤ N := by rw [← downB_len]; exact downB_le _ _ _
  have hfo : Found (trailT (leafL a) W N N I ++ [0 :: a]) (trailT (leafL b) W' N N I ++ [0 :: b]) := trail_found (0 :: a) (0 :: b) W W' (fun e => h1 (List.cons.inj e).2) N N I (Nat.le_refl _) (by omega) (by omega) (by
    show upV (leafL a) W N N I = upV (leafL b) W' N N I
    rw [g6, k6])
  obtain ⟨p, hp, hs⟩ := hfo
  have m1 : ∀ t ∈ trailT (leafL a) W N N I ++ [0 :: a], t.length ≤ 100000 ∧ ∀ y ∈ t, 0 ≤ y ∧ y < 256 := fun t ht => by
    rcases List.mem_append.1 ht with ht | ht
    · have := trailT_mem (leafL_good a) hW N N I (by omega) t ht
      exact ⟨by omega, this.2⟩
    · rw [List.mem_singleton] at ht; subst ht
      exact ⟨by rw [List.length_cons]; omega, byte_cons (by decide) ha'⟩
  have m2 : ∀ t ∈ trailT (leafL b) W' N N I ++ [0 :: b], t.length ≤ 100000 ∧ ∀ y ∈ t, 0 ≤ y ∧ y < 256 := fun t ht => by
    rcases List.mem_append.1 ht with ht | ht
    · have := trailT_mem (leafL_good b) hW' N N I (by omega) t ht
      exact ⟨by omega, this.2⟩
    · rw [List.mem_singleton] at ht; subst ht
      exact ⟨by rw [List.length_cons]; omega, byte_cons (by decide) hb'⟩
  have el1 : (trailT (leafL a) W N N I ++ [0 :: a]).length = w + 1 := by rw [List.length_append, trailT_len, List.length_singleton]; omega
  have el2 : (trailT (leafL b) W' N N I ++ [0 :: b]).length = w' + 1 := by rw [List.length_append, trailT_len, List.length_singleton]; omega
  have ex := m1 _ (getD_mem hp.1)
  have ey := m2 _ (getD_mem hp.2.1)
  have hpt := part_some _ _ (w + 1) (w' + 1) p el1 el2 (by omega) (by omega) (fun t ht => (m1 t ht).2) (fun t ht => (m2 t ht).2) ex.1 ey.1 hp
  refine ⟨_, _, hp.2.2.2, hs, ex.2, ey.2, ex.1, ey.1, ?_⟩
  generalize (trailT (leafL a) W N N I ++ [0 :: a]).getD p [] = x at *
  generalize (trailT (leafL b) W' N N I ++ [0 :: b]).getD p [] = y at *
  generalize trailT (leafL a) W N N I ++ [0 :: a] = T at *
  generalize trailT (leafL b) W' N N I ++ [0 :: b] = T' at *
  refine fnN mix [] 0 7 [.tmp 14, .tmp 15, .tmp 16] Try.func38 rfl (by kernel_rfl) (by kernel_rfl) rfl (by kernel_rfl) (by kernel_rfl) (by simp) ?_
  simp (implicitDefEqProofs := false) (disch := omega) only [go_sem, ↓reduceIte]
  refine call0 c1 ?_
  simp (implicitDefEqProofs := false) (disch := omega) only [go_sem, ↓reduceIte]
  refine call0 c2 ?_
  simp (implicitDefEqProofs := false) (disch := omega) only [go_sem, ↓reduceIte]
  refine call0 c3 ?_
  simp (implicitDefEqProofs := false) (disch := omega) only [go_sem, ↓reduceIte]
  refine callF 1 t1 ?_
  simp (implicitDefEqProofs := false) (disch := omega) only [go_sem, ↓reduceIte]
  refine callF 1 t2 ?_
  simp (implicitDefEqProofs := false) (disch := omega) only [go_sem, ↓reduceIte]
  refine callBF 2 hpt ?_ ?_
  · simp (implicitDefEqProofs := false) (disch := omega) only [go_sem, ↓reduceIte]
  simp (implicitDefEqProofs := false) (disch := omega) only [go_sem, ↓reduceIte]
  refine ⟨[(0, 3), (1, 4)], [], [], rfl, ?_, ?_, ?_⟩ <;> simp (implicitDefEqProofs := false) (disch := omega) only [go_sem, ↓reduceIte]
theorem extractTexts_spec (d a b : List Int) (n i : Int) (W W' : List (List Int)) (hd : goodD d) (ha' : ∀ x ∈ a, 0 ≤ x ∧ x < 256) (hb' : ∀ x ∈ b, 0 ≤ x ∧ x < 256) (hW : ∀ d ∈ W, goodD d) (hW' : ∀ d ∈ W', goodD d)
    (hal : a.length ≤ 9223372036854775807) (hbl : b.length ≤ 9223372036854775807) (hwl : W.length ≤ 9223372036854775807) (hwl' : W'.length ≤ 9223372036854775807) :
    FnC Try.prog 8 [.ints .u8 32 d, .int .i64 n, .int .i64 i, .sl (.ints .u8 a.length a), .sl (.ints .u8 b.length b), .sl (.lst 32 W.length (W.map dg)), .sl (.lst 32 W'.length (W'.map dg))] [] (.bool true) [] := by
  obtain ⟨an, ha⟩ : ∃ n, a.length = n := ⟨_, rfl⟩
  obtain ⟨bn, hb⟩ : ∃ n, b.length = n := ⟨_, rfl⟩
  obtain ⟨w, hw⟩ : ∃ n, W.length = n := ⟨_, rfl⟩
  obtain ⟨w', hw'⟩ : ∃ n, W'.length = n := ⟨_, rfl⟩
  rw [ha, hb, hw, hw']
  refine fn0 mix [] 0 7 [.tmp 14] Try.func8 rfl (by kernel_rfl) (by kernel_rfl) rfl (by kernel_rfl) (by kernel_rfl) (by simp) ?_
  simp (implicitDefEqProofs := false) (disch := omega) only [go_sem, ↓reduceIte]
  refine brd (fun g1 => ?_) (fun g1 => ?_)
  · simp (implicitDefEqProofs := false) (disch := omega) only [go_sem, ↓reduceIte]
    refine call0 knows23_spec ?_
    simp (implicitDefEqProofs := false) (disch := omega) only [go_sem, ↓reduceIte]
  simp (implicitDefEqProofs := false) (disch := omega) only [go_sem, ↓reduceIte]
  refine brd (fun g2 => ?_) (fun g2 => ?_)
  · simp (implicitDefEqProofs := false) (disch := omega) only [go_sem, ↓reduceIte]
    refine call0 knows23_spec ?_
    simp (implicitDefEqProofs := false) (disch := omega) only [go_sem, ↓reduceIte]
  simp (implicitDefEqProofs := false) (disch := omega) only [go_sem, ↓reduceIte]
  refine brd (fun g3 => ?_) (fun g3 => ?_)
  · simp (implicitDefEqProofs := false) (disch := omega) only [go_sem, ↓reduceIte]
    refine call0 knows23_spec ?_
    simp (implicitDefEqProofs := false) (disch := omega) only [go_sem, ↓reduceIte]
  simp (implicitDefEqProofs := false) (disch := omega) only [go_sem, ↓reduceIte]
  refine brd (fun g4 => ?_) (fun g4 => ?_)
  · simp (implicitDefEqProofs := false) (disch := omega) only [go_sem, ↓reduceIte]
    refine call0 knows23_spec ?_
    simp (implicitDefEqProofs := false) (disch := omega) only [go_sem, ↓reduceIte]
  simp (implicitDefEqProofs := false) (disch := omega) only [go_sem, ↓reduceIte]
  have e : decide ((a.map fun x => UInt8.ofNat x.toNat) = (b.map fun x => UInt8.ofNat x.toNat)) = decide (a = b) := decide_eq_decide.2 (bytes_inj ha' hb')
  have c2 := holds_spec d a an n i W w hd ha ha' (by omega) hw (by omega) hW
  have c3 := holds_spec d b bn n i W' w' hd hb hb' (by omega) hw' (by omega) hW'
  by_cases h : a ≠ b ∧ holdsP d n i a W ∧ holdsP d n i b W'
  · obtain ⟨h1, h2, h3⟩ := h
    rw [decide_eq_true h2] at c2
    rw [decide_eq_true h3] at c3
    have e1 : decide (a = b) = false := decide_eq_false h1
    obtain ⟨x, y, k1, k2, k3, k4, k5, k6, k7⟩ := texts_ok d a b n i W W' an bn w w' hd ha hb hw hw' (by omega) (by omega) (by omega) (by omega) ha' hb' hW hW' h1 h2 h3
    refine callF 2 k7 ?_
    simp (implicitDefEqProofs := false) (disch := omega) only [go_sem, ↓reduceIte]
    refine call0 c2 ?_
    simp (implicitDefEqProofs := false) (disch := omega) only [go_sem, ↓reduceIte]
    refine call0 c3 ?_
    simp (implicitDefEqProofs := false) (disch := omega) only [go_sem, ↓reduceIte, e, e1]
    refine callB (found_spec x y _ _ rfl rfl k3 k4 k5 k6 k1 k2) ?_ ?_
    · simp (implicitDefEqProofs := false) (disch := omega) only [go_sem, ↓reduceIte]
    simp (implicitDefEqProofs := false) (disch := omega) only [go_sem, ↓reduceIte]
    refine call0 knows23_spec ?_
    simp (implicitDefEqProofs := false) (disch := omega) only [go_sem, ↓reduceIte]
  · refine call0 (texts_none d a b n i W W' an bn w w' hd ha hb hw hw' (by omega) (by omega) (by omega) (by omega) ha' hb' hW hW' h) ?_
    simp (implicitDefEqProofs := false) (disch := omega) only [go_sem, ↓reduceIte]
    refine call0 c2 ?_
    by_cases h2 : holdsP d n i a W
    · rw [decide_eq_true h2]
      simp (implicitDefEqProofs := false) (disch := omega) only [go_sem, ↓reduceIte]
      refine call0 c3 ?_
      by_cases h3 : holdsP d n i b W'
      · rw [decide_eq_true h3]
        have e1 : decide (a = b) = true := decide_eq_true (Classical.byContradiction fun h1 => h ⟨h1, h2, h3⟩)
        simp (implicitDefEqProofs := false) (disch := omega) only [go_sem, ↓reduceIte, e, e1]
        refine call0 none_spec ?_
        simp (implicitDefEqProofs := false) (disch := omega) only [go_sem, ↓reduceIte]
        refine call0 knows23_spec ?_
        simp (implicitDefEqProofs := false) (disch := omega) only [go_sem, ↓reduceIte]
      · rw [decide_eq_false h3]
        simp (implicitDefEqProofs := false) (disch := omega) only [go_sem, ↓reduceIte]
        refine call0 none_spec ?_
        simp (implicitDefEqProofs := false) (disch := omega) only [go_sem, ↓reduceIte]
        refine call0 knows23_spec ?_
        simp (implicitDefEqProofs := false) (disch := omega) only [go_sem, ↓reduceIte]
    · rw [decide_eq_false h2]
      simp (implicitDefEqProofs := false) (disch := omega) only [go_sem, ↓reduceIte]
      refine call0 none_spec ?_
      simp (implicitDefEqProofs := false) (disch := omega) only [go_sem, ↓reduceIte]
      refine call0 knows23_spec ?_
      simp (implicitDefEqProofs := false) (disch := omega) only [go_sem, ↓reduceIte]
end Go.Proofs.Ytegbkbkcfcjkbaa
