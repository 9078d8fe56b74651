/- A disk: the power fails, a sector is written, all is put on the disk. -/
import Derived.Test.YtjaailbgeadnnaaGreatDisk
namespace Go.Proofs.YtjaailbgeadnnaaGreat
open Go Go.Sy Go.Proofs.Tryz
set_option maxRecDepth 100000
set_option maxHeartbeats 8000000
set_option linter.unusedSimpArgs false
set_option linter.unusedVariables false
attribute [go_sem] pl156
theorem getW2 {W : List (Nat × List Int)} {i : Nat} (h : i < W.length) (K : AV → Prop) : getP (W.map wtV) i K = K (.agg [.int .i64 (W[i]).1, .sl (.ints .u8 (W[i]).2.length (W[i]).2)]) := getP_map (f := wtV) (List.getElem?_eq_getElem h) K
theorem crash_spec (D : DS) (h : okD D) (ks : List Int) (nk : Nat) (hk : ks.length = nk) (hkl : nk ≤ 9223372036854775807) : FnC Tryz.prog 156 [.ref 0 [], .sl (.ints .i64 nk ks)] (dskO 1 2 D) (.tup []) (dskO 3 4 (crashD D ks)) := by
  have hg := gone_spec D
  obtain ⟨h1, h2, h3, h4, h5, h6⟩ := h
  obtain ⟨sz, b, W, off, set, left, kp⟩ := D
  dsimp only at h1 h2 h3 h4 h5 h6
  unfold crashD
  refine fnV mix ((100001, []) :: pl156) 1 3 2 [] Tryz.func156 rfl (by kernel_rfl) (by kernel_rfl) rfl (by kernel_rfl) (by kernel_rfl) (by simp) rfl rfl ?_
  cases off
  case true =>
    rw [if_pos rfl]
    simp (implicitDefEqProofs := false) (disch := omega) only [go_sem, ↓reduceIte]
    refine callG false [(0, 0), (1, 1), (2, 2)] [(0, 0), (3, 3), (4, 4)] 5 hg ?_ ?_
    · simp [keys]
    simp (implicitDefEqProofs := false) (disch := omega) only [go_sem, ↓reduceIte]
    refine ⟨[(0, 0), (3, 3), (4, 4)], [], [], rfl, ?_, ?_, ?_⟩ <;> simp (implicitDefEqProofs := false) (disch := omega) only [go_sem, ↓reduceIte]
  rw [if_neg (fun h => by cases h)]
  obtain ⟨nb, hnb⟩ : ∃ n, n = b.length := ⟨_, rfl⟩
  obtain ⟨nw, hnw⟩ : ∃ n, n = W.length := ⟨_, rfl⟩
  have hle : (W.map wtV).length = nw := by rw [List.length_map, hnw]
  simp (implicitDefEqProofs := false) (disch := omega) only [go_sem, ↓reduceIte]
  refine callG false [(0, 0), (1, 1), (2, 2)] [(0, 0), (3, 3), (4, 4)] 5 hg ?_ ?_
  · simp [keys]
  simp (implicitDefEqProofs := false) (disch := omega) only [go_sem, ↓reduceIte]
  refine cut 2 [(0, .ref 0 []), (1, .sl (.ints .i64 nk ks))] [(0, .var (.agg [.int .i64 sz, .osl 1 [] 1 0 nb, .sl (.lst 2 nw (W.map wtV)), .bool false, .bool set, .int .i64 left, .sl (.ints .i64 kp.length kp)])), (1, .row (.ints .u8 nb b))] [(0, 0), (1, 3)] [] [4] rfl ?_ ?_ ?_ ?_
  · simp (implicitDefEqProofs := false) (disch := omega) only [go_sem, ↓reduceIte]
  · simp (implicitDefEqProofs := false) (disch := omega) only [go_sem, ↓reduceIte]
  · simp (implicitDefEqProofs := false) (disch := omega) only [go_sem, ↓reduceIte, hnb, hnw]
  simp (implicitDefEqProofs := false) (disch := omega) only [go_sem, ↓reduceIte]
  refine loop (ι := Nat × List Int) 2 (fun k => k.1 ≤ nw ∧ k.2.length = nb ∧ crashB sz (W.drop k.1) (ks.drop k.1) k.2 = crashB sz W ks b)
    (fun k => [(0, .ref 0 []), (1, .sl (.ints .i64 nk ks)), (11, .sl (.lst 2 nw (W.map wtV))), (12, .int .i64 nw), (13, .int .i64 k.1)])
    (fun k => [(0, .var (.agg [.int .i64 sz, .osl 1 [] 1 0 nb, .sl (.lst 2 nw (W.map wtV)), .bool false, .bool set, .int .i64 left, .sl (.ints .i64 kp.length kp)])), (1, .row (.ints .u8 nb k.2))])
    (fun k => nw - k.1) (0, b) [(0, 0), (1, 1)] [] ⟨Nat.zero_le _, hnb.symm, rfl⟩ rfl ?_ ?_ ?_ (fun k hk => ?_)
  · simp (implicitDefEqProofs := false) (disch := omega) only [go_sem, ↓reduceIte]
  · simp (implicitDefEqProofs := false) (disch := omega) only [go_sem, ↓reduceIte]
  · simp (implicitDefEqProofs := false) (disch := omega) only [go_sem, ↓reduceIte]
  obtain ⟨i, B⟩ := k
  obtain ⟨q1, q2, q3⟩ := hk
  dsimp only at q1 q2 q3 ⊢
  simp (implicitDefEqProofs := false) (disch := omega) only [go_sem, ↓reduceIte]
  refine brd (fun g1 => ?_) (fun g1 => ?_)
  · have hi : i < W.length := by omega
    have hgw := fun K => getW2 hi K
    have hw := h6 _ (List.getElem_mem hi)
    have edw : W.drop i = W[i] :: W.drop (i + 1) := List.drop_eq_getElem_cons hi
    rw [edw] at q3
    generalize W[i] = w at *
    obtain ⟨at', t⟩ := w
    dsimp only at hw hgw q3
    simp (implicitDefEqProofs := false) (disch := omega) only [go_sem, ↓reduceIte, ↓hgw, hle]
    refine brd (fun g2 => ?_) (fun g2 => ?_)
    · have hik : i < ks.length := by omega
      have edk : ks.drop i = ks.getD i 0 :: ks.drop (i + 1) := by
        rw [List.drop_eq_getElem_cons hik]
        simp only [List.getD, List.getElem?_eq_getElem hik, Option.getD_some]
      rw [edk, crashB] at q3
      have ek : max (0 : Int) (min (ks.getD i 0) (sz : Int)) = ((kept sz (ks.getD i 0) : Nat) : Int) := by unfold kept; omega
      have hkl := kept_le sz (ks.getD i 0)
      generalize kept sz (ks.getD i 0) = m at *
      have hp := dput_spec sz nb (.lst 2 nw (W.map wtV)) (.ints .i64 kp.length kp) false set left B at' m t.length t q2 rfl (by omega) (by omega) (by omega) (by omega)
      have hpl := putB_len (sz := sz) (b := B) (at' := at') (t := t) (m := m) (by omega) (by omega)
      simp (implicitDefEqProofs := false) (disch := omega) only [go_sem, ↓reduceIte, ek]
      refine callG false [(0, 0), (1, 1)] [(0, 0), (2, 3)] 4 hp ?_ ?_
      · simp [keys]
      simp (implicitDefEqProofs := false) (disch := omega) only [go_sem, ↓reduceIte]
      refine ⟨(i + 1, putB sz B at' t m), [(0, 0), (1, 3)], [], [], ⟨by dsimp only; omega, by dsimp only; omega, q3⟩, by dsimp only; omega, rfl, ?_, ?_, ?_⟩ <;> simp (implicitDefEqProofs := false) (disch := omega) only [go_sem, ↓reduceIte]
    · have edk : ks.drop i = [] := List.drop_eq_nil_of_le (by omega)
      have edk2 : ks.drop (i + 1) = [] := List.drop_eq_nil_of_le (by omega)
      rw [edk, crashB] at q3
      have q4 : crashB sz (W.drop (i + 1)) (ks.drop (i + 1)) B = crashB sz W ks b := by
        rw [edk2, ← q3]
        cases W.drop (i + 1) <;> rfl
      simp (implicitDefEqProofs := false) (disch := omega) only [go_sem, ↓reduceIte]
      refine ⟨(i + 1, B), [(0, 0), (1, 1)], [], [], ⟨by dsimp only; omega, q2, q4⟩, by dsimp only; omega, rfl, ?_, ?_, ?_⟩ <;> simp (implicitDefEqProofs := false) (disch := omega) only [go_sem, ↓reduceIte]
  · have edw : W.drop i = [] := List.drop_eq_nil_of_le (by omega)
    rw [edw, crashB] at q3
    subst q3
    simp (implicitDefEqProofs := false) (disch := omega) only [go_sem, ↓reduceIte]
    refine ⟨[(0, 0), (3, 1)], [4], [], rfl, ?_, ?_, ?_⟩ <;> simp (implicitDefEqProofs := false) (disch := omega) only [go_sem, ↓reduceIte, q2, List.length_nil, List.map_nil]
theorem crashD_ok {D : DS} (h : okD D) (ks : List Int) : okD (crashD D ks) := by
  obtain ⟨h1, h2, h3, h4, h5, h6⟩ := h
  unfold crashD
  split
  · exact ⟨h1, h2, h3, h4, h5, h6⟩
  · have hl : ∀ (W : List (Nat × List Int)) (ks b : List Int), b.length = D.b.length → (∀ w ∈ W, w.1 * D.sz + D.sz ≤ D.b.length ∧ w.2.length = D.sz) → (crashB D.sz W ks b).length = D.b.length := by
      intro W
      induction W with
      | nil => intro ks b hb _; exact hb
      | cons w W ih =>
        intro ks b hb hw
        cases ks with
        | nil => exact hb
        | cons k ks =>
          have hw0 := hw w (List.mem_cons_self ..)
          have hkl := kept_le D.sz k
          exact ih ks _ (by rw [putB_len (by omega) (by omega), hb]) (fun w' h' => hw w' (List.mem_cons_of_mem _ h'))
    exact ⟨h1, h2, by dsimp only; rw [hl _ _ _ rfl h6]; exact h3, Nat.zero_le _, h5, fun w h => by cases h⟩
theorem failed_spec (D : DS) (h : okD D) : FnC Tryz.prog 124 [.ref 0 []] (dskO 1 2 D) (.bool (failedD D).1) (dskO 3 4 (failedD D).2) := by
  have hc := crash_spec D h D.keep D.keep.length rfl h.kl
  obtain ⟨sz, b, W, off, set, left, kp⟩ := D
  unfold failedD
  dsimp only at hc ⊢
  cases set
  · rw [if_neg (fun h => by cases h.1)]
    refine fnV mix [] 1 3 1 [.tmp 2] Tryz.func124 rfl (by kernel_rfl) (by kernel_rfl) rfl (by kernel_rfl) (by kernel_rfl) (by simp) rfl rfl ?_
    simp (implicitDefEqProofs := false) (disch := omega) only [go_sem, ↓reduceIte]
    refine ⟨[(0, 0), (3, 1), (4, 2)], [], [], rfl, ?_, ?_, ?_⟩ <;> simp (implicitDefEqProofs := false) (disch := omega) only [go_sem, ↓reduceIte]
  by_cases c : left = 0
  · rw [if_pos ⟨rfl, c⟩]
    have c2 : decide (left = 0) = true := decide_eq_true c
    refine fnV mix [] 1 3 1 [.tmp 2] Tryz.func124 rfl (by kernel_rfl) (by kernel_rfl) rfl (by kernel_rfl) (by kernel_rfl) (by simp) rfl rfl ?_
    simp (implicitDefEqProofs := false) (disch := omega) only [go_sem, ↓reduceIte, c2]
    refine callG false [(0, 0), (1, 1), (2, 2)] [(0, 0), (3, 3), (4, 4)] 5 hc ?_ ?_
    · simp [keys]
    simp (implicitDefEqProofs := false) (disch := omega) only [go_sem, ↓reduceIte]
    refine ⟨[(0, 0), (3, 3), (4, 4)], [], [], rfl, ?_, ?_, ?_⟩ <;> simp (implicitDefEqProofs := false) (disch := omega) only [go_sem, ↓reduceIte]
  · rw [if_neg (fun h => c h.2)]
    have c2 : decide (left = 0) = false := decide_eq_false c
    refine fnV mix [] 1 3 1 [.tmp 2] Tryz.func124 rfl (by kernel_rfl) (by kernel_rfl) rfl (by kernel_rfl) (by kernel_rfl) (by simp) rfl rfl ?_
    simp (implicitDefEqProofs := false) (disch := omega) only [go_sem, ↓reduceIte, c2]
    refine ⟨[(0, 0), (3, 1), (4, 2)], [], [], rfl, ?_, ?_, ?_⟩ <;> simp (implicitDefEqProofs := false) (disch := omega) only [go_sem, ↓reduceIte]
end Go.Proofs.YtjaailbgeadnnaaGreat
