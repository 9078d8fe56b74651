/- Texts, joined. -/
import Derived.Test.YtololahjocfbeaaGreatC12
namespace Go.Proofs.YtololahjocfbeaaGreat
open Go Go.Sy Go.Proofs.Tryz
set_option maxRecDepth 100000
set_option maxHeartbeats 8000000
set_option linter.unusedSimpArgs false
set_option linter.unusedVariables false
attribute [go_sem] pl66
theorem getW2 {W : List (Nat × List Int)} {i : Nat} (h : i < W.length) (K : AV → Prop) : getP (W.map wtV) i K = K (.agg [.int .i64 (W[i]).1, .sl (.ints .u8 (W[i]).2.length (W[i]).2)]) := getP_map (f := wtV) (List.getElem?_eq_getElem h) K
theorem crash_spec (D : DS) (h : okD D) (ks : List Int) (nk : Nat) (hk : ks.length = nk) (hkl : nk ≤ 9223372036854775807) : FnC Tryz.prog 66 [.ref 0 [], .sl (.ints .i64 nk ks)] (dskO 1 2 D) (.tup []) (dskO 3 4 (crashD D ks)) := by
  have hg := gone_spec D
  obtain ⟨h1, h2, h3, h4, h5, h6⟩ := h
  obtain ⟨sz, b, W, off, set, left, kp⟩ := D
  dsimp only at h1 h2 h3 h4 h5 h6
  unfold crashD
  refine fnV mix ((100001, []) :: pl66) 1 3 2 [] Tryz.func66 rfl (by kernel_rfl) (by kernel_rfl) rfl (by kernel_rfl) (by kernel_rfl) (by simp) rfl rfl ?_
  cases off
  case true =>
    rw [if_pos rfl]
    simp -implicitDefEqProofs (disch := omega) only [go_sem, ↓reduceIte]
    refine callG false [(0, 0), (1, 1), (2, 2)] [(0, 0), (3, 3), (4, 4)] 5 hg ?_ ?_
    · simp [keys]
    simp -implicitDefEqProofs (disch := omega) only [go_sem, ↓reduceIte]
    refine ⟨[(0, 0), (3, 3), (4, 4)], [], [], rfl, ?_, ?_, ?_⟩ <;> simp -implicitDefEqProofs (disch := omega) only [go_sem, ↓reduceIte]
  rw [if_neg (fun h => by cases h)]
  obtain ⟨nb, hnb⟩ : ∃ n, n = b.length := ⟨_, rfl⟩
  obtain ⟨nw, hnw⟩ : ∃ n, n = W.length := ⟨_, rfl⟩
  have hle : (W.map wtV).length = nw := by rw [List.length_map, hnw]
  simp -implicitDefEqProofs (disch := omega) only [go_sem, ↓reduceIte]
  refine callG false [(0, 0), (1, 1), (2, 2)] [(0, 0), (3, 3), (4, 4)] 5 hg ?_ ?_
  · simp [keys]
  simp -implicitDefEqProofs (disch := omega) only [go_sem, ↓reduceIte]
  refine cut 2 [(0, .ref 0 []), (1, .sl (.ints .i64 nk ks))] [(0, .var (.agg [.int .i64 sz, .osl 1 [] 1 0 nb, .sl (.lst 2 nw (W.map wtV)), .bool false, .bool set, .int .i64 left, .sl (.ints .i64 kp.length kp)])), (1, .row (.ints .u8 nb b))] [(0, 0), (1, 3)] [] [4] rfl ?_ ?_ ?_ ?_
  · simp -implicitDefEqProofs (disch := omega) only [go_sem, ↓reduceIte]
  · simp -implicitDefEqProofs (disch := omega) only [go_sem, ↓reduceIte]
  · simp -implicitDefEqProofs (disch := omega) only [go_sem, ↓reduceIte, hnb, hnw]
  simp -implicitDefEqProofs (disch := omega) only [go_sem, ↓reduceIte]
  refine loop (ι := Nat × List Int) 2 (fun k => k.1 ≤ nw ∧ k.2.length = nb ∧ crashB sz (W.drop k.1) (ks.drop k.1) k.2 = crashB sz W ks b)
    (fun k => [(0, .ref 0 []), (1, .sl (.ints .i64 nk ks)), (11, .sl (.lst 2 nw (W.map wtV))), (12, .int .i64 nw), (13, .int .i64 k.1)])
    (fun k => [(0, .var (.agg [.int .i64 sz, .osl 1 [] 1 0 nb, .sl (.lst 2 nw (W.map wtV)), .bool false, .bool set, .int .i64 left, .sl (.ints .i64 kp.length kp)])), (1, .row (.ints .u8 nb k.2))])
    (fun k => nw - k.1) (0, b) [(0, 0), (1, 1)] [] ⟨Nat.zero_le _, hnb.symm, rfl⟩ rfl ?_ ?_ ?_ (fun k hk => ?_)
  · simp -implicitDefEqProofs (disch := omega) only [go_sem, ↓reduceIte]
  · simp -implicitDefEqProofs (disch := omega) only [go_sem, ↓reduceIte]
  · simp -implicitDefEqProofs (disch := omega) only [go_sem, ↓reduceIte]
  obtain ⟨i, B⟩ := k
  obtain ⟨q1, q2, q3⟩ := hk
  dsimp only at q1 q2 q3 ⊢
  simp -implicitDefEqProofs (disch := omega) only [go_sem, ↓reduceIte]
  refine brd (fun g1 => ?_) (fun g1 => ?_)
  · have hi : i < W.length := by omega
    have hgw := fun K => getW2 hi K
    have hw := h6 _ (List.getElem_mem hi)
    have edw : W.drop i = W[i] :: W.drop (i + 1) := List.drop_eq_getElem_cons hi
    rw [edw] at q3
    generalize W[i] = w at *
    obtain ⟨at', t⟩ := w
    dsimp only at hw hgw q3
    simp -implicitDefEqProofs (disch := omega) only [go_sem, ↓reduceIte, ↓hgw, hle]
    refine brd (fun g2 => ?_) (fun g2 => ?_)
    · have hik : i < ks.length := by omega
      have edk : ks.drop i = ks.getD i 0 :: ks.drop (i + 1) := by
        rw [List.drop_eq_getElem_cons hik]
        simp only [List.getD, List.getElem?_eq_getElem hik, Option.getD_some]
      rw [edk, crashB] at q3
      have ek : max (0 : Int) (min (ks.getD i 0) (sz : Int)) = ((kept sz (ks.getD i 0) : Nat) : Int) := by unfold kept; omega
      have hkl := kept_le sz (ks.getD i 0)
      generalize kept sz (ks.getD i 0) = m at *
      have hp := dput_spec sz nb (.lst 2 nw (W.map wtV)) (.ints .i64 kp.length kp) false set left B at' m t.length t q2 rfl (by omega) (by omega) (by omega) (by omega)
      have hpl := putB_len (sz := sz) (b := B) (at' := at') (t := t) (m := m) (by omega) (by omega)
      simp -implicitDefEqProofs (disch := omega) only [go_sem, ↓reduceIte, ek]
      refine callG false [(0, 0), (1, 1)] [(0, 0), (2, 3)] 4 hp ?_ ?_
      · simp [keys]
      simp -implicitDefEqProofs (disch := omega) only [go_sem, ↓reduceIte]
      refine ⟨(i + 1, putB sz B at' t m), [(0, 0), (1, 3)], [], [], ⟨by dsimp only; omega, by dsimp only; omega, q3⟩, by dsimp only; omega, rfl, ?_, ?_, ?_⟩ <;> simp -implicitDefEqProofs (disch := omega) only [go_sem, ↓reduceIte]
    · have edk : ks.drop i = [] := List.drop_eq_nil_of_le (by omega)
      have edk2 : ks.drop (i + 1) = [] := List.drop_eq_nil_of_le (by omega)
      rw [edk, crashB] at q3
      have q4 : crashB sz (W.drop (i + 1)) (ks.drop (i + 1)) B = crashB sz W ks b := by
        rw [edk2, ← q3]
        cases W.drop (i + 1) <;> rfl
      simp -implicitDefEqProofs (disch := omega) only [go_sem, ↓reduceIte]
      refine ⟨(i + 1, B), [(0, 0), (1, 1)], [], [], ⟨by dsimp only; omega, q2, q4⟩, by dsimp only; omega, rfl, ?_, ?_, ?_⟩ <;> simp -implicitDefEqProofs (disch := omega) only [go_sem, ↓reduceIte]
  · have edw : W.drop i = [] := List.drop_eq_nil_of_le (by omega)
    rw [edw, crashB] at q3
    subst q3
    simp -implicitDefEqProofs (disch := omega) only [go_sem, ↓reduceIte]
    refine ⟨[(0, 0), (3, 1)], [4], [], rfl, ?_, ?_, ?_⟩ <;> simp -implicitDefEqProofs (disch := omega) only [go_sem, ↓reduceIte, q2, List.length_nil, List.map_nil]
theorem crashD_ok {D : DS} (h : okD D) (ks : List Int) : okD (crashD D ks) := by
  obtain ⟨h1, h2, h3, h4, h5, h6⟩ := h
  unfold crashD
  split
  · exact ⟨h1, h2, h3, h4, h5, h6⟩
  · have hl : ∀ (W : List (Nat × List Int)) (ks b : List Int), b.length = D.b.length → (∀ w ∈ W, w.1 * D.sz + D.sz ≤ D.b.length ∧ w.2.length = D.sz) → (crashB D.sz W ks b).length = D.b.length := by
      intro W
      induction W with
      | nil => intro ks b hb _; exact hb
      | cons w W ih =>
        intro ks b hb hw
        cases ks with
        | nil => exact hb
        | cons k ks =>
          have hw0 := hw w (List.mem_cons_self ..)
          have hkl := kept_le D.sz k
          exact ih ks _ (by rw [putB_len (by omega) (by omega), hb]) (fun w' h' => hw w' (List.mem_cons_of_mem _ h'))
    exact ⟨h1, h2, by dsimp only; rw [hl _ _ _ rfl h6]; exact h3, Nat.zero_le _, h5, fun w h => by cases h⟩
theorem failed_spec (D : DS) (h : okD D) : FnC Tryz.prog 200 [.ref 0 []] (dskO 1 2 D) (.bool (failedD D).1) (dskO 3 4 (failedD D).2) := by
  have hc := crash_spec D h D.keep D.keep.length rfl h.kl
  obtain ⟨sz, b, W, off, set, left, kp⟩ := D
  unfold failedD
  dsimp only at hc ⊢
  cases set
  · rw [if_neg (fun h => by cases h.1)]
    refine fnV mix [] 1 3 1 [.tmp 2] Tryz.func200 rfl (by kernel_rfl) (by kernel_rfl) rfl (by kernel_rfl) (by kernel_rfl) (by simp) rfl rfl ?_
    simp -implicitDefEqProofs (disch := omega) only [go_sem, ↓reduceIte]
    refine ⟨[(0, 0), (3, 1), (4, 2)], [], [], rfl, ?_, ?_, ?_⟩ <;> simp -implicitDefEqProofs (disch := omega) only [go_sem, ↓reduceIte]
  by_cases c : left = 0
  · rw [if_pos ⟨rfl, c⟩]
    have c2 : decide (left = 0) = true := decide_eq_true c
    refine fnV mix [] 1 3 1 [.tmp 2] Tryz.func200 rfl (by kernel_rfl) (by kernel_rfl) rfl (by kernel_rfl) (by kernel_rfl) (by simp) rfl rfl ?_
    simp -implicitDefEqProofs (disch := omega) only [go_sem, ↓reduceIte, c2]
    refine callG false [(0, 0), (1, 1), (2, 2)] [(0, 0), (3, 3), (4, 4)] 5 hc ?_ ?_
    · simp [keys]
    simp -implicitDefEqProofs (disch := omega) only [go_sem, ↓reduceIte]
    refine ⟨[(0, 0), (3, 3), (4, 4)], [], [], rfl, ?_, ?_, ?_⟩ <;> simp -implicitDefEqProofs (disch := omega) only [go_sem, ↓reduceIte]
  · rw [if_neg (fun h => c h.2)]
    have c2 : decide (left = 0) = false := decide_eq_false c
    refine fnV mix [] 1 3 1 [.tmp 2] Tryz.func200 rfl (by kernel_rfl) (by kernel_rfl) rfl (by kernel_rfl) (by kernel_rfl) (by simp) rfl rfl ?_
    simp -implicitDefEqProofs (disch := omega) only [go_sem, ↓reduceIte, c2]
    refine ⟨[(0, 0), (3, 1), (4, 2)], [], [], rfl, ?_, ?_, ?_⟩ <;> simp -implicitDefEqProofs (disch := omega) only [go_sem, ↓reduceIte]
attribute [go_sem] pl136 pl183 pl184
theorem there_at {D : DS} (h : okD D) {i : Int} (ht : thereD D i) : ∃ I : Nat, i = I ∧ I * D.sz + D.sz ≤ D.b.length := by
  obtain ⟨I, rfl⟩ := Int.eq_ofNat_of_zero_le ht.1
  refine ⟨I, rfl, ?_⟩
  have h2 := ht.2
  have h3 : I < D.b.length / D.sz := by omega
  have h4 := (Nat.le_div_iff_mul_le h.sz1).1 (Nat.succ_le_of_lt h3)
  rw [Nat.succ_mul] at h4
  exact h4
theorem write_off (D : DS) (ho : D.off = true) (i : Int) (t : List Int) (n : Nat) : FnC Tryz.prog 136 [.ref 0 [], .int .i64 i, .sl (.ints .u8 n t)] (dskO 1 2 D) (.int .i64 9) (dskO 3 4 D) := by
  have hg := gone_spec D
  rw [ho] at hg
  refine fnV mix pl136 1 3 3 [.tmp 6] Tryz.func136 rfl (by kernel_rfl) (by kernel_rfl) rfl (by kernel_rfl) (by kernel_rfl) (by simp) rfl rfl ?_
  simp -implicitDefEqProofs (disch := omega) only [go_sem, ↓reduceIte]
  refine callG false [(0, 0), (1, 1), (2, 2)] [(0, 0), (3, 3), (4, 4)] 5 hg ?_ ?_
  · simp [keys]
  simp -implicitDefEqProofs (disch := omega) only [go_sem, ↓reduceIte]
  refine ⟨[(0, 0), (3, 3), (4, 4)], [], [], rfl, ?_, ?_, ?_⟩ <;> simp -implicitDefEqProofs (disch := omega) only [go_sem, ↓reduceIte]
theorem write_arg (D : DS) (h : okD D) (ho : D.off = false) (i : Int) (hi : ¬ thereD D i) (t : List Int) (n : Nat) : FnC Tryz.prog 136 [.ref 0 [], .int .i64 i, .sl (.ints .u8 n t)] (dskO 1 2 D) (.int .i64 1) (dskO 3 4 D) := by
  have hg := gone_spec D
  have hth := there_spec D h i
  rw [ho] at hg
  rw [decide_eq_false hi] at hth
  refine fnV mix pl136 1 3 3 [.tmp 6] Tryz.func136 rfl (by kernel_rfl) (by kernel_rfl) rfl (by kernel_rfl) (by kernel_rfl) (by simp) rfl rfl ?_
  simp -implicitDefEqProofs (disch := omega) only [go_sem, ↓reduceIte]
  refine callG false [(0, 0), (1, 1), (2, 2)] [(0, 0), (3, 3), (4, 4)] 5 hg ?_ ?_
  · simp [keys]
  simp -implicitDefEqProofs (disch := omega) only [go_sem, ↓reduceIte]
  refine callG false [(0, 0), (1, 3), (2, 4)] [(0, 0), (3, 5), (4, 6)] 7 hth ?_ ?_
  · simp [keys]
  simp -implicitDefEqProofs (disch := omega) only [go_sem, ↓reduceIte]
  refine ⟨[(0, 0), (3, 5), (4, 6)], [], [], rfl, ?_, ?_, ?_⟩ <;> simp -implicitDefEqProofs (disch := omega) only [go_sem, ↓reduceIte]
theorem write_len (D : DS) (h : okD D) (ho : D.off = false) (i : Int) (hi : thereD D i) (t : List Int) (n : Nat) (hnl : n ≤ 9223372036854775807) (hn : n ≠ D.sz) : FnC Tryz.prog 136 [.ref 0 [], .int .i64 i, .sl (.ints .u8 n t)] (dskO 1 2 D) (.int .i64 1) (dskO 3 4 D) := by
  have hg := gone_spec D
  have hth := there_spec D h i
  rw [ho] at hg
  rw [decide_eq_true hi] at hth
  have d1 : decide ((n : Int) = (D.sz : Int)) = false := decide_eq_false (by omega)
  refine fnV mix pl136 1 3 3 [.tmp 6] Tryz.func136 rfl (by kernel_rfl) (by kernel_rfl) rfl (by kernel_rfl) (by kernel_rfl) (by simp) rfl rfl ?_
  simp -implicitDefEqProofs (disch := omega) only [go_sem, ↓reduceIte]
  refine callG false [(0, 0), (1, 1), (2, 2)] [(0, 0), (3, 3), (4, 4)] 5 hg ?_ ?_
  · simp [keys]
  simp -implicitDefEqProofs (disch := omega) only [go_sem, ↓reduceIte]
  refine callG false [(0, 0), (1, 3), (2, 4)] [(0, 0), (3, 5), (4, 6)] 7 hth ?_ ?_
  · simp [keys]
  simp -implicitDefEqProofs (disch := omega) only [go_sem, ↓reduceIte, d1]
  refine ⟨[(0, 0), (3, 5), (4, 6)], [], [], rfl, ?_, ?_, ?_⟩ <;> simp -implicitDefEqProofs (disch := omega) only [go_sem, ↓reduceIte]
theorem okD_wait {D : DS} (h : okD D) (hw : D.wait.length ≤ 90000) {I : Nat} {t : List Int} (hI : I * D.sz + D.sz ≤ D.b.length) (ht : t.length = D.sz) : okD { D with wait := D.wait ++ [(I, t)] } :=
  ⟨h.sz1, h.sz2, h.bl, by simp; omega, h.kl, fun w hw => by
    rcases List.mem_append.1 hw with hw | hw
    · exact h.wt w hw
    · rw [List.mem_singleton] at hw; subst hw; exact ⟨hI, ht⟩⟩
theorem write_ok (D : DS) (h : okD D) (hw : D.wait.length ≤ 90000) (ho : D.off = false) (I : Nat) (hi : thereD D I) (t : List Int) (ht : t.length = D.sz) :
    FnC Tryz.prog 136 [.ref 0 [], .int .i64 I, .sl (.ints .u8 D.sz t)] (dskO 1 2 D) (.int .i64 (if (failedD { D with wait := D.wait ++ [(I, t)] }).1 = true then 9 else 0)) (dskO 3 4 (failedD { D with wait := D.wait ++ [(I, t)] }).2) := by
  obtain ⟨I', e, hI⟩ := there_at h hi
  obtain rfl : I = I' := by omega
  have hg := gone_spec D
  have hth := there_spec D h I
  have hszl := h.sz2
  rw [ho] at hg
  rw [decide_eq_true hi] at hth
  have hf := failed_spec _ (okD_wait h hw hI ht)
  generalize hfd : failedD { D with wait := D.wait ++ [(I, t)] } = R at *
  obtain ⟨R1, R2⟩ := R
  obtain ⟨sz, b, W, off, set, left, kp⟩ := D
  dsimp only at hw ho ht hszl hI
  subst ho
  refine fnV mix pl136 1 3 3 [.tmp 6] Tryz.func136 rfl (by kernel_rfl) (by kernel_rfl) rfl (by kernel_rfl) (by kernel_rfl) (by simp) rfl rfl ?_
  simp -implicitDefEqProofs (disch := omega) only [go_sem, ↓reduceIte]
  refine callG false [(0, 0), (1, 1), (2, 2)] [(0, 0), (3, 3), (4, 4)] 5 hg ?_ ?_
  · simp [keys]
  simp -implicitDefEqProofs (disch := omega) only [go_sem, ↓reduceIte]
  refine callG false [(0, 0), (1, 3), (2, 4)] [(0, 0), (3, 5), (4, 6)] 7 hth ?_ ?_
  · simp [keys]
  simp -implicitDefEqProofs (disch := omega) only [go_sem, ↓reduceIte, List.nil_append]
  refine callG false [(0, 0), (1, 5), (2, 10)] [(0, 0), (3, 11), (4, 12)] 13 hf ?_ ?_
  · simp [keys]
  cases R1
  · simp -implicitDefEqProofs (disch := omega) only [go_sem, ↓reduceIte, List.length_append, List.length_singleton, List.map_append, ht]
    refine ⟨[(0, 0), (3, 11), (4, 12)], [], [], rfl, ?_, ?_, ?_⟩ <;> simp -implicitDefEqProofs (disch := omega) only [go_sem, ↓reduceIte]
  · simp -implicitDefEqProofs (disch := omega) only [go_sem, ↓reduceIte, List.length_append, List.length_singleton, List.map_append, ht]
    refine ⟨[(0, 0), (3, 11), (4, 12)], [], [], rfl, ?_, ?_, ?_⟩ <;> simp -implicitDefEqProofs (disch := omega) only [go_sem, ↓reduceIte]
theorem dwrite_spec (D : DS) (h : okD D) (hw : D.wait.length ≤ 90000) (i : Int) (t : List Int) (n : Nat) (hn : t.length = n) (hnl : n ≤ 9223372036854775807) : FnC Tryz.prog 136 [.ref 0 [], .int .i64 i, .sl (.ints .u8 n t)] (dskO 1 2 D) (.int .i64 (writeD D i t).1) (dskO 3 4 (writeD D i t).2) := by
  unfold writeD
  by_cases ho : D.off = true
  · rw [if_pos ho]
    exact write_off D ho i t n
  rw [if_neg ho]
  rw [Bool.not_eq_true] at ho
  by_cases ht : thereD D i
  · by_cases hs : n = D.sz
    · rw [if_pos ⟨ht, by rw [hn]; exact hs⟩]
      obtain ⟨I, rfl, hI⟩ := there_at h ht
      rw [Int.toNat_natCast, hs]
      exact write_ok D h hw ho I ht t (by rw [hn]; exact hs)
    · rw [if_neg (fun h => hs (by rw [← hn]; exact h.2))]
      exact write_len D h ho i ht t n hnl hs
  · rw [if_neg (fun h => ht h.1)]
    exact write_arg D h ho i ht t n
theorem new_ok (s z : Nat) (h1 : 1 ≤ s) (h2 : s ≤ 64) (h3 : 1 ≤ z) (h4 : z ≤ 512) : FnC Tryz.prog 26 [.int .i64 s, .int .i64 z] [] (.tup [.ref 0 [], .int .i64 0]) (dskO 1 2 ⟨z, List.replicate (s * z) 0, [], false, false, 0, []⟩) := by
  have e1 : (s : Int) * (z : Int) = ((s * z : Nat) : Int) := by simp
  have hsz : s * z ≤ 64 * 512 := Nat.mul_le_mul h2 h4
  generalize hn : s * z = n at *
  refine fnN mix [] 0 2 [.tmp 4, .tmp 5] Tryz.func26 rfl (by kernel_rfl) (by kernel_rfl) rfl (by kernel_rfl) (by kernel_rfl) (by simp) ?_
  simp -implicitDefEqProofs (disch := omega) only [go_sem, ↓reduceIte]
  refine brd (fun g => by omega) (fun g => ?_)
  simp -implicitDefEqProofs (disch := omega) only [go_sem, ↓reduceIte]
  refine brd (fun g => by omega) (fun g => ?_)
  simp -implicitDefEqProofs (disch := omega) only [go_sem, ↓reduceIte]
  refine brd (fun g => by omega) (fun g => ?_)
  simp -implicitDefEqProofs (disch := omega) only [go_sem, ↓reduceIte]
  refine brd (fun g => by omega) (fun g => ?_)
  simp -implicitDefEqProofs (disch := omega) only [go_sem, ↓reduceIte, e1]
  refine ⟨[(0, 1), (1, 0)], [2], [], rfl, ?_, ?_, ?_⟩ <;> simp -implicitDefEqProofs (disch := omega) only [go_sem, ↓reduceIte, List.length_replicate, List.length_nil, List.map_nil]
end Go.Proofs.YtololahjocfbeaaGreat
