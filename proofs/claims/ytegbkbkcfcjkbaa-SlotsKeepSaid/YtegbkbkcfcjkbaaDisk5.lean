/- The walk of DiskKeeps. -/
import Derived.Test.YtegbkbkcfcjkbaaDisk4
namespace Go.Proofs.Ytegbkbkcfcjkbaa
open Go Go.Sy Go.Proofs.Try
set_option maxRecDepth 100000
set_option maxHeartbeats 8000000
set_option linter.unusedSimpArgs false
set_option linter.unusedVariables false

theorem failed_calm {D : DS} (h : D.set = false) : failedD D = (false, { D with left := IntKind.i64.wrap (D.left - 1) }) := by
  unfold failedD
  rw [if_neg (fun c => by rw [h] at c; cases c.1)]
theorem write_calm (D : DS) (h : okD D) (hw : D.wait.length ≤ 90000) (ho : D.off = false) (hs : D.set = false) (I : Nat) (hi : thereD D I) (t : List Int) (ht : t.length = D.sz) :
    FnC Try.prog 13 [.ref 0 [], .int .i64 I, .sl (.ints .u8 D.sz t)] (dskO 1 2 D) (.int .i64 0) (dskO 3 4 { D with wait := D.wait ++ [(I, t)], left := IntKind.i64.wrap (D.left - 1) }) := by
  have hk := write_ok D h hw ho I hi t ht
  rw [failed_calm (show ({ D with wait := D.wait ++ [(I, t)] } : DS).set = false from hs)] at hk
  rw [if_neg (by simp)] at hk
  exact hk
theorem sync_calm (D : DS) (h : okD D) (ho : D.off = false) (hs : D.set = false) :
    FnC Try.prog 14 [.ref 0 []] (dskO 1 2 D) (.int .i64 0) (dskO 3 4 { D with left := IntKind.i64.wrap (D.left - 1), b := syncB D.sz D.wait D.b, wait := [] }) := by
  have hk := sync_spec D h
  unfold syncD at hk
  rw [if_neg (by rw [ho]; simp), failed_calm hs, if_neg (by simp)] at hk
  exact hk
theorem crash_own (D : DS) (h : okD D) (ks : List Int) (nk : Nat) (hk : ks.length = nk) (hkl : nk ≤ 9223372036854775807) : FnC Try.prog 15 [.ref 0 [], .osl 5 [] 1 0 nk] ((5, .row (.ints .i64 nk ks)) :: dskO 1 2 D) (.tup []) (dskO 3 4 (crashD D ks)) := by
  refine (crash_spec D h ks nk hk hkl).sub [(0, 0), (1, 1), (2, 2)] [] [5] rfl ?_ ?_
  · simp (implicitDefEqProofs := false) (disch := omega) only [go_sem, ↓reduceIte]
  · simp (implicitDefEqProofs := false) (disch := omega) only [go_sem, ↓reduceIte]
theorem write_own (D : DS) (h : okD D) (hw : D.wait.length ≤ 90000) (ho : D.off = false) (hs : D.set = false) (I : Nat) (hi : thereD D I) (t : List Int) (ht : t.length = D.sz) :
    FnC Try.prog 13 [.ref 0 [], .int .i64 I, .osl 5 [] 1 0 D.sz] ((5, .row (.ints .u8 D.sz t)) :: dskO 1 2 D) (.int .i64 0) (dskO 3 4 { D with wait := D.wait ++ [(I, t)], left := IntKind.i64.wrap (D.left - 1) }) := by
  refine (write_calm D h hw ho hs I hi t ht).sub [(0, 0), (1, 1), (2, 2)] [] [5] rfl ?_ ?_
  · simp (implicitDefEqProofs := false) (disch := omega) only [go_sem, ↓reduceIte]
  · simp (implicitDefEqProofs := false) (disch := omega) only [go_sem, ↓reduceIte]
theorem knows12_spec : FnC Try.prog 18 [] [] (.bool true) [] := by
  have r0 := new_ok 1 2 (by decide) (by decide) (by decide) (by decide)
  have e0 : List.replicate (1 * 2) (0 : Int) = [0, 0] := rfl
  rw [e0] at r0
  have o0 : okD ⟨2, [0, 0], [], false, false, 0, []⟩ := ⟨by decide, by decide, by decide, by decide, by decide, fun w h => by cases h⟩
  have r1 := write_own ⟨2, [0, 0], [], false, false, 0, []⟩ o0 (by decide) rfl rfl 0 ⟨by decide, by decide⟩ [1, 2] rfl
  have r2 := crash_own ⟨2, [0, 0], [(0, [1, 2])], false, false, IntKind.i64.wrap (0 - 1), []⟩ ⟨by decide, by decide, by decide, by decide, by decide, fun w h => by
    rw [List.mem_singleton] at h; subst h; exact ⟨by decide, by decide⟩⟩ [1] 1 rfl (by decide)
  have e2 : crashD ⟨2, [0, 0], [(0, [1, 2])], false, false, IntKind.i64.wrap (0 - 1), []⟩ [1] = ⟨2, [1, 0], [], true, false, IntKind.i64.wrap (0 - 1), []⟩ := rfl
  rw [e2] at r2
  have r3 := read_off ⟨2, [1, 0], [], true, false, IntKind.i64.wrap (0 - 1), []⟩ rfl 0
  have r4 := image_spec ⟨2, [1, 0], [], true, false, IntKind.i64.wrap (0 - 1), []⟩ ⟨by decide, by decide, by decide, by decide, by decide, fun w h => by cases h⟩
  have r5 := dsize_spec ⟨2, [1, 0], [], true, false, IntKind.i64.wrap (0 - 1), []⟩
  have u1 : decide ([UInt8.ofNat 1, UInt8.ofNat 0] = [1, 0]) = true := by decide
  generalize IntKind.i64.wrap (0 - 1) = L at *
  dsimp only [List.nil_append] at r1 r2 r3 r4 r5
  refine fn0 mix [] 0 0 [.tmp 0] Try.func18 rfl (by kernel_rfl) (by kernel_rfl) rfl (by kernel_rfl) (by kernel_rfl) (by simp) ?_
  simp (implicitDefEqProofs := false) (disch := omega) only [go_sem, ↓reduceIte]
  refine callF 3 r0 ?_
  simp (implicitDefEqProofs := false) (disch := omega) only [go_sem, ↓reduceIte]
  refine call0 write_nil ?_
  simp (implicitDefEqProofs := false) (disch := omega) only [go_sem, ↓reduceIte]
  refine call0 sectors_nil ?_
  simp (implicitDefEqProofs := false) (disch := omega) only [go_sem, ↓reduceIte]
  refine callG false [(5, 3), (0, 0), (1, 1), (2, 2)] [(0, 0), (3, 4), (4, 5)] 6 r1 ?_ ?_
  · simp [keys]
  simp (implicitDefEqProofs := false) (disch := omega) only [go_sem, ↓reduceIte]
  refine callG false [(5, 6), (0, 0), (1, 4), (2, 5)] [(0, 0), (3, 7), (4, 8)] 9 r2 ?_ ?_
  · simp [keys]
  simp (implicitDefEqProofs := false) (disch := omega) only [go_sem, ↓reduceIte]
  refine callG false [(0, 0), (1, 7), (2, 8)] [(0, 0), (3, 9), (4, 10)] 11 r3 ?_ ?_
  · simp [keys]
  simp (implicitDefEqProofs := false) (disch := omega) only [go_sem, ↓reduceIte]
  refine callG false [(0, 0), (1, 9), (2, 10)] [(0, 0), (3, 11), (4, 12), (5, 13)] 14 r4 ?_ ?_
  · simp [keys]
  simp (implicitDefEqProofs := false) (disch := omega) only [go_sem, ↓reduceIte, u1]
  refine callG false [(0, 0), (1, 11), (2, 12)] [(0, 0), (3, 14), (4, 15)] 16 r5 ?_ ?_
  · simp [keys]
  simp (implicitDefEqProofs := false) (disch := omega) only [go_sem, ↓reduceIte]
theorem putB_getD {sz : Nat} {b : List Int} {at' : Nat} {t : List Int} {m j : Nat} (h : at' * sz + m ≤ b.length) (hm : m ≤ t.length) : (putB sz b at' t m).getD (at' * sz + j) 0 = if j < m then t.getD j 0 else b.getD (at' * sz + j) 0 := by
  unfold putB
  simp only [List.getD]
  have e1 : (b.take (at' * sz)).length = at' * sz := by rw [List.length_take]; omega
  have e2 : (t.take m).length = m := by rw [List.length_take]; omega
  rw [List.getElem?_append_right (by omega), e1, show at' * sz + j - at' * sz = j by omega]
  by_cases c : j < m
  · rw [if_pos c, List.getElem?_append_left (by omega), List.getElem?_take, if_pos c]
  · rw [if_neg c, List.getElem?_append_right (by omega), e2, List.getElem?_drop, show at' * sz + m + (j - m) = at' * sz + j by omega]
theorem sect_getD {b : List Int} {a z j : Nat} (h : j < z) : ((b.drop a).take z).getD j 0 = b.getD (a + j) 0 := by
  simp only [List.getD, List.getElem?_take, List.getElem?_drop, if_pos h]
theorem diskKeeps_spec (sv zv iv : Int) (a b : List Int) (n : Int) (hs : 0 ≤ sv ∧ sv < 256) (hz : 0 ≤ zv ∧ zv < 256) (hi : 0 ≤ iv ∧ iv < 256) (ha : a.length ≤ 140737488351232) (hb : b.length ≤ 140737488351232) :
    FnC Try.prog 3 [.int .u8 sv, .int .u8 zv, .int .u8 iv, .sl (.ints .u8 a.length a), .sl (.ints .u8 b.length b), .int .i64 n] [] (.bool true) [] := by
  obtain ⟨sv, rfl⟩ := Int.eq_ofNat_of_zero_le hs.1
  obtain ⟨zv, rfl⟩ := Int.eq_ofNat_of_zero_le hz.1
  obtain ⟨iv, rfl⟩ := Int.eq_ofNat_of_zero_le hi.1
  obtain ⟨s, es⟩ : ∃ s, s = sv % 64 + 1 := ⟨_, rfl⟩
  obtain ⟨z, ez⟩ : ∃ z, z = zv % 100 + 1 := ⟨_, rfl⟩
  obtain ⟨k, ek⟩ : ∃ k, k = iv % s := ⟨_, rfl⟩
  have hs1 : 1 ≤ s ∧ s ≤ 64 := by omega
  have hz1 : 1 ≤ z ∧ z ≤ 100 := by omega
  have hk : k < s := by rw [ek]; exact Nat.mod_lt _ (by omega)
  have ts : (sv : Int).tmod 64 + 1 = (s : Int) := by rw [Int.tmod_eq_emod_of_nonneg (by omega)]; omega
  have tz : (zv : Int).tmod 100 + 1 = (z : Int) := by rw [Int.tmod_eq_emod_of_nonneg (by omega)]; omega
  have tk : (iv : Int).tmod (s : Int) = (k : Int) := by rw [Int.tmod_eq_emod_of_nonneg (by omega), ek, Int.natCast_emod]
  obtain ⟨na, hna⟩ : ∃ n, a.length = n := ⟨_, rfl⟩
  obtain ⟨nb, hnb⟩ : ∃ n, b.length = n := ⟨_, rfl⟩
  rw [hna] at ha ⊢
  rw [hnb] at hb ⊢
  have hol : ((a ++ List.replicate z 0).take z).length = z := by rw [List.length_take, List.length_append, List.length_replicate]; omega
  have hnl : ((b ++ List.replicate z 0).take z).length = z := by rw [List.length_take, List.length_append, List.length_replicate]; omega
  have hsz : s * z ≤ 64 * 100 := Nat.mul_le_mul hs1.2 hz1.2
  have hkz : k * z + z ≤ s * z := by rw [← Nat.succ_mul]; exact Nat.mul_le_mul_right _ hk
  have hzl : (List.replicate (s * z) (0 : Int)).length = s * z := List.length_replicate
  have hthere : ∀ B : List Int, B.length = s * z → ∀ W o st L K, thereD ⟨z, B, W, o, st, L, K⟩ (k : Int) := fun B hB W o st L K => ⟨by omega, by
    show (k : Int) < ((B.length / z : Nat) : Int)
    rw [hB, Nat.mul_div_cancel _ (by omega : 0 < z)]
    omega⟩
  have r0 := new_ok s z hs1.1 hs1.2 hz1.1 (by omega)
  generalize List.replicate (s * z) (0 : Int) = B0 at *
  have hl1 : ∀ (B t : List Int) (m : Nat), B.length = s * z → t.length = z → m ≤ z → (putB z B k t m).length = s * z := fun B t m h1 h2 h3 => by rw [putB_len (by omega) (by omega), h1]
  have okd : ∀ (B : List Int) (W : List (Nat × List Int)) o st L, B.length = s * z → W.length ≤ 1 → (∀ w ∈ W, w.1 = k ∧ w.2.length = z) → okD ⟨z, B, W, o, st, L, []⟩ := fun B W o st L h1 h2 h3 => ⟨hz1.1, by dsimp only; omega, by dsimp only; omega, by dsimp only; omega, by simp, fun w hw => by
    obtain ⟨g1, g2⟩ := h3 w hw
    dsimp only
    rw [g1, h1]
    exact ⟨hkz, g2⟩⟩
  have one : ∀ t : List Int, t.length = z → ∀ w ∈ [(k, t)], w.1 = k ∧ w.2.length = z := fun t ht w hw => by rw [List.mem_singleton] at hw; subst hw; exact ⟨rfl, ht⟩
  have nil : ∀ w ∈ ([] : List (Nat × List Int)), w.1 = k ∧ w.2.length = z := fun w hw => by cases hw
  have r1 := fun t (ht : t.length = z) => write_calm ⟨z, B0, [], false, false, 0, []⟩ (okd _ _ _ _ _ hzl (by decide) nil) (by simp) rfl rfl k (hthere B0 hzl _ _ _ _ _) t ht
  dsimp only [List.nil_append] at r1
  generalize IntKind.i64.wrap (0 - 1) = L1 at *
  have r2 := fun t (ht : t.length = z) => sync_calm ⟨z, B0, [(k, t)], false, false, L1, []⟩ (okd _ _ _ _ _ hzl (by simp) (one t ht)) rfl rfl
  dsimp only at r2
  have e2 : ∀ t, syncB z [(k, t)] B0 = putB z B0 k t z := fun t => rfl
  simp only [e2] at r2
  generalize IntKind.i64.wrap (L1 - 1) = L2 at *
  have r3 := fun t (ht : t.length = z) u (hu : u.length = z) => write_calm ⟨z, putB z B0 k t z, [], false, false, L2, []⟩ (okd _ _ _ _ _ (hl1 _ _ _ hzl ht (Nat.le_refl _)) (by decide) nil) (by simp) rfl rfl k (hthere _ (hl1 _ _ _ hzl ht (Nat.le_refl _)) _ _ _ _ _) u hu
  dsimp only [List.nil_append] at r3
  generalize IntKind.i64.wrap (L2 - 1) = L3 at *
  have r4 := fun t (ht : t.length = z) u (hu : u.length = z) => crash_own ⟨z, putB z B0 k t z, [(k, u)], false, false, L3, []⟩ (okd _ _ _ _ _ (hl1 _ _ _ hzl ht (Nat.le_refl _)) (by simp) (one u hu)) [n] 1 rfl (by decide)
  have e4 : ∀ t u, crashD ⟨z, putB z B0 k t z, [(k, u)], false, false, L3, []⟩ [n] = ⟨z, putB z (putB z B0 k t z) k u (kept z n), [], true, false, L3, []⟩ := fun t u => rfl
  simp only [e4] at r4
  have r5 := fun t u => boot_spec ⟨z, putB z (putB z B0 k t z) k u (kept z n), [], true, false, L3, []⟩
  have e5 : ∀ t u, bootD ⟨z, putB z (putB z B0 k t z) k u (kept z n), [], true, false, L3, []⟩ = ⟨z, putB z (putB z B0 k t z) k u (kept z n), [], false, false, L3, []⟩ := fun t u => rfl
  simp only [e5] at r5
  have r6 := fun t (ht : t.length = z) u (hu : u.length = z) => read_ok ⟨z, putB z (putB z B0 k t z) k u (kept z n), [], false, false, L3, []⟩ (okd _ _ _ _ _ (hl1 _ _ _ (hl1 _ _ _ hzl ht (Nat.le_refl _)) hu (kept_le z n)) (by decide) nil) rfl k (hthere _ (hl1 _ _ _ (hl1 _ _ _ hzl ht (Nat.le_refl _)) hu (kept_le z n)) _ _ _ _ _)
  have e6 : ∀ t u, readB ⟨z, putB z (putB z B0 k t z) k u (kept z n), [], false, false, L3, []⟩ k = (((putB z (putB z B0 k t z) k u (kept z n)).drop (k * z)).take z) := fun t u => rfl
  simp only [e6] at r6
  have hfin : ∀ t (ht : t.length = z) u (hu : u.length = z) (j : Nat), j < z → ((((putB z (putB z B0 k t z) k u (kept z n)).drop (k * z)).take z)).getD j 0 = if (j : Int) < n then u.getD j 0 else t.getD j 0 := fun t ht u hu j hj => by
    have h1 := hl1 B0 t z hzl ht (Nat.le_refl _)
    have h2 := kept_le z n
    rw [sect_getD hj, putB_getD (by omega) (by omega), putB_getD (by omega) (by omega), if_pos hj]
    have : (j < kept z n) ↔ (j : Int) < n := by unfold kept; omega
    simp only [this]
  obtain ⟨OLD, hOLD⟩ : ∃ x, x = (a ++ List.replicate z 0).take z := ⟨_, rfl⟩
  obtain ⟨NOW, hNOW⟩ : ∃ x, x = (b ++ List.replicate z 0).take z := ⟨_, rfl⟩
  rw [← hOLD] at hol
  rw [← hNOW] at hnl
  have r1 := r1 OLD hol
  have r2 := r2 OLD hol
  have r3 := r3 OLD hol NOW hnl
  have r4 := r4 OLD hol NOW hnl
  have r5 := r5 OLD NOW
  have r6 := r6 OLD hol NOW hnl
  have hfin := hfin OLD hol NOW hnl
  refine fn0 mix ((100009, []) :: []) 0 6 [.tmp 12] Try.func3 rfl (by kernel_rfl) (by kernel_rfl) rfl (by kernel_rfl) (by kernel_rfl) (by simp) ?_
  simp (implicitDefEqProofs := false) (disch := omega) only [go_sem, ↓reduceIte, ts, tz, tk]
  refine callF 3 r0 ?_
  simp (implicitDefEqProofs := false) (disch := omega) only [go_sem, ↓reduceIte, List.nil_append]
  refine cut 3 [(5, .int .i64 n), (14, .int .i64 z), (15, .int .i64 k), (16, .ref 0 []), (18, .sl (.ints .u8 z OLD)), (19, .sl (.ints .u8 z NOW))] (dskO 1 2 ⟨z, B0, [], false, false, 0, []⟩) [(0, 0), (1, 1), (2, 2)] [] [5, 8] rfl ?_ ?_ ?_ ?_
  · simp (implicitDefEqProofs := false) (disch := omega) only [go_sem, ↓reduceIte]
  · by_cases c1 : na = 0
    · have dA : decide (z = na + z) = true := decide_eq_true (by omega)
      have eA : a ++ List.replicate z 0 = OLD := by rw [hOLD, List.take_of_length_le (by rw [List.length_append, List.length_replicate]; omega)]
      have zA : na + z = z := by omega
      by_cases c2 : nb = 0
      · have dB : decide (z = nb + z) = true := decide_eq_true (by omega)
        have eB : b ++ List.replicate z 0 = NOW := by rw [hNOW, List.take_of_length_le (by rw [List.length_append, List.length_replicate]; omega)]
        have zB : nb + z = z := by omega
        simp (implicitDefEqProofs := false) (disch := omega) only [go_sem, ↓reduceIte, dA, eA, zA, dB, eB, zB]
      · have dB : decide (z = nb + z) = false := decide_eq_false (by omega)
        simp (implicitDefEqProofs := false) (disch := omega) only [go_sem, ↓reduceIte, dA, eA, zA, dB, hNOW, Nat.le_add_left]
    · have dA : decide (z = na + z) = false := decide_eq_false (by omega)
      by_cases c2 : nb = 0
      · have dB : decide (z = nb + z) = true := decide_eq_true (by omega)
        have eB : b ++ List.replicate z 0 = NOW := by rw [hNOW, List.take_of_length_le (by rw [List.length_append, List.length_replicate]; omega)]
        have zB : nb + z = z := by omega
        simp (implicitDefEqProofs := false) (disch := omega) only [go_sem, ↓reduceIte, dA, hOLD, dB, eB, zB, Nat.le_add_left]
      · have dB : decide (z = nb + z) = false := decide_eq_false (by omega)
        simp (implicitDefEqProofs := false) (disch := omega) only [go_sem, ↓reduceIte, dA, hOLD, dB, hNOW, Nat.le_add_left]
  · simp (implicitDefEqProofs := false) (disch := omega) only [go_sem, ↓reduceIte]
  simp (implicitDefEqProofs := false) (disch := omega) only [go_sem, ↓reduceIte]
  refine callG false [(0, 0), (1, 1), (2, 2)] [(0, 0), (3, 3), (4, 4)] 5 r1 ?_ ?_
  · simp [keys]
  simp (implicitDefEqProofs := false) (disch := omega) only [go_sem, ↓reduceIte]
  refine callG false [(0, 0), (1, 3), (2, 4)] [(0, 0), (3, 5), (4, 6)] 7 r2 ?_ ?_
  · simp [keys]
  simp (implicitDefEqProofs := false) (disch := omega) only [go_sem, ↓reduceIte]
  refine callG false [(0, 0), (1, 5), (2, 6)] [(0, 0), (3, 7), (4, 8)] 9 r3 ?_ ?_
  · simp [keys]
  simp (implicitDefEqProofs := false) (disch := omega) only [go_sem, ↓reduceIte]
  refine callG false [(5, 9), (0, 0), (1, 7), (2, 8)] [(0, 0), (3, 10), (4, 11)] 12 r4 ?_ ?_
  · simp [keys]
  simp (implicitDefEqProofs := false) (disch := omega) only [go_sem, ↓reduceIte]
  refine callG false [(0, 0), (1, 10), (2, 11)] [(0, 0), (3, 12), (4, 13)] 14 r5 ?_ ?_
  · simp [keys]
  simp (implicitDefEqProofs := false) (disch := omega) only [go_sem, ↓reduceIte]
  refine callG false [(0, 0), (1, 12), (2, 13)] [(0, 0), (3, 14), (4, 15), (5, 16)] 17 r6 ?_ ?_
  · simp [keys]
  generalize ((((putB z (putB z B0 k OLD z) k NOW (kept z n)).drop (k * z)).take z)) = X at *
  simp (implicitDefEqProofs := false) (disch := omega) only [go_sem, ↓reduceIte]
  refine loop (ι := Nat) 1 (fun j => j ≤ z) (fun j => [(5, .int .i64 n), (14, .int .i64 z), (18, .sl (.ints .u8 z OLD)), (19, .sl (.ints .u8 z NOW)), (23, .osl 0 [] 1 0 z), (25, .int .i64 j)])
    (fun j => [(0, .row (.ints .u8 z X))]) (fun j => z - j) 0 [(0, 16)] [] (Nat.zero_le _) rfl ?_ ?_ ?_ (fun j hj => ?_)
  · simp (implicitDefEqProofs := false) (disch := omega) only [go_sem, ↓reduceIte]
  · simp (implicitDefEqProofs := false) (disch := omega) only [go_sem, ↓reduceIte]
  · simp (implicitDefEqProofs := false) (disch := omega) only [go_sem, ↓reduceIte]
  simp (implicitDefEqProofs := false) (disch := omega) only [go_sem, ↓reduceIte]
  refine brd (fun h1 => ?_) (fun h1 => ?_)
  · have hx := hfin j (by omega)
    simp (implicitDefEqProofs := false) (disch := omega) only [go_sem, ↓reduceIte]
    refine brd (fun h2 => ?_) (fun h2 => ?_)
    · rw [if_pos h2] at hx
      simp (implicitDefEqProofs := false) (disch := omega) only [go_sem, ↓reduceIte, hx]
      refine ⟨j + 1, [(0, 0)], [], [], by dsimp only; omega, by dsimp only; omega, rfl, ?_, ?_, ?_⟩ <;> simp (implicitDefEqProofs := false) (disch := omega) only [go_sem, ↓reduceIte]
    · rw [if_neg h2] at hx
      simp (implicitDefEqProofs := false) (disch := omega) only [go_sem, ↓reduceIte, hx]
      refine ⟨j + 1, [(0, 0)], [], [], by dsimp only; omega, by dsimp only; omega, rfl, ?_, ?_, ?_⟩ <;> simp (implicitDefEqProofs := false) (disch := omega) only [go_sem, ↓reduceIte]
  · simp (implicitDefEqProofs := false) (disch := omega) only [go_sem, ↓reduceIte]
    refine call0 knows12_spec ?_
    simp (implicitDefEqProofs := false) (disch := omega) only [go_sem, ↓reduceIte]
end Go.Proofs.Ytegbkbkcfcjkbaa
