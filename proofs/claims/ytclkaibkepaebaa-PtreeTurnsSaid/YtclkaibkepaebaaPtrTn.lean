/- The order of entries makes no difference. -/
import Derived.Test.YtclkaibkepaebaaPtrPv
namespace Go.Proofs.Ytclkaibkepaebaa
open Go Go.Sy Go.Proofs.Try
set_option maxRecDepth 100000
set_option maxHeartbeats 8000000
set_option linter.unusedSimpArgs false
set_option linter.unusedVariables false
attribute [go_sem] pl12
theorem ens_inj : ∀ {S : List En} {a b : En}, (S.map (·.1)).Nodup → a ∈ S → b ∈ S → a.1 = b.1 → a = b
  | [], _, _, _, h, _, _ => by cases h
  | x :: S, a, b, hd, ha, hb, e => by
    rw [List.map_cons, List.nodup_cons] at hd
    rcases List.mem_cons.1 ha with h1 | ha
    · rcases List.mem_cons.1 hb with h2 | hb
      · rw [h1, h2]
      · have hm : b.1 ∈ S.map (·.1) := List.mem_map_of_mem (f := (·.1)) hb
        rw [← e, h1] at hm
        exact absurd hm hd.1
    · rcases List.mem_cons.1 hb with h2 | hb
      · have hm : a.1 ∈ S.map (·.1) := List.mem_map_of_mem (f := (·.1)) ha
        rw [e, h2] at hm
        exact absurd hm hd.1
      · exact ens_inj hd.2 ha hb e
theorem srt_unique : ∀ {S T : List En}, S.Perm T → S.Pairwise (fun a b => ofb a.1 ≤ ofb b.1) → T.Pairwise (fun a b => ofb a.1 ≤ ofb b.1) → (∀ e ∈ S, goodE e) → (S.map (·.1)).Nodup → S = T
  | [], T, hp, _, _, _, _ => (List.Perm.eq_nil hp.symm).symm
  | x :: S, [], hp, _, _, _, _ => by have := List.Perm.eq_nil hp; cases this
  | x :: S, y :: T, hp, hs, ht, hg, hd => by
    have hy : y ∈ x :: S := hp.mem_iff.2 (List.mem_cons_self ..)
    have hx : x ∈ y :: T := hp.mem_iff.1 (List.mem_cons_self ..)
    have e : x = y := by
      rcases List.mem_cons.1 hy with h | hy'
      · exact h.symm
      · rcases List.mem_cons.1 hx with h | hx'
        · exact h
        · have h1 := (List.pairwise_cons.1 hs).1 y hy'
          have h2 := (List.pairwise_cons.1 ht).1 x hx'
          exact ens_inj hd (List.mem_cons_self ..) hy (ofb_inj (hg x (List.mem_cons_self ..)).1 (hg y hy).1 (by omega))
    subst e
    rw [srt_unique (List.perm_cons x |>.1 hp) (List.pairwise_cons.1 hs).2 (List.pairwise_cons.1 ht).2 (fun e he => hg e (List.mem_cons_of_mem _ he)) (by rw [List.map_cons, List.nodup_cons] at hd; exact hd.2)]
theorem srtE_turn {l m : List En} (hp : l.Perm m) (hg : ∀ e ∈ l, goodE e) (hgm : ∀ e ∈ m, goodE e) (hd : (l.map (·.1)).Nodup) : srtE l hg = srtE m hgm :=
  srt_unique ((srtE_perm l hg).trans (hp.trans (srtE_perm m hgm).symm)) (srtE_sorted l hg) (srtE_sorted m hgm) (srtE_good l hg) ((((srtE_perm l hg).map (·.1)).nodup_iff).2 hd)
theorem ptreeTurns_spec (l : List En) (n : Nat) (hn : l.length = n) (hb : n ≤ 9223372036854775807) (hg : ∀ e ∈ l, goodE e) (a : Int) (ha : 0 ≤ a ∧ a < 256) (index : List Int) (hi : goodD index) :
    FnC Try.prog 12 [.sl (.lst 64 n (l.map enV)), .int .u8 a, .ints .u8 32 index] [] (.bool true) [] := by
  have hle : (l.map enV).length = n := by rw [List.length_map, hn]
  refine fn0 mix pl12 0 3 [.tmp 6] Try.func12 rfl (by kernel_rfl) (by kernel_rfl) rfl (by kernel_rfl) (by kernel_rfl) (by simp) ?_
  simp (implicitDefEqProofs := false) (disch := omega) only [go_sem, ↓reduceIte]
  refine brd (fun h1 => ?_) (fun h1 => ?_)
  · simp (implicitDefEqProofs := false) (disch := omega) only [go_sem, ↓reduceIte]
    refine call0 knows17_spec ?_
    simp (implicitDefEqProofs := false) (disch := omega) only [go_sem, ↓reduceIte]
  simp (implicitDefEqProofs := false) (disch := omega) only [go_sem, ↓reduceIte]
  refine brd (fun h2 => ?_) (fun h2 => ?_)
  · simp (implicitDefEqProofs := false) (disch := omega) only [go_sem, ↓reduceIte]
    refine call0 knows17_spec ?_
    simp (implicitDefEqProofs := false) (disch := omega) only [go_sem, ↓reduceIte]
  obtain ⟨k, hk, hkn⟩ : ∃ k : Nat, a.tmod n = k ∧ k < n := by
    refine ⟨(a.tmod n).toNat, ?_, ?_⟩
    · rw [Int.tmod_eq_emod_of_nonneg ha.1, Int.toNat_of_nonneg (Int.emod_nonneg _ (by omega))]
    · rw [Int.tmod_eq_emod_of_nonneg ha.1]
      have := Int.emod_lt_of_pos a (show (0 : Int) < n by omega)
      have := Int.emod_nonneg a (show (n : Int) ≠ 0 by omega)
      omega
  have wa : IntKind.i64.wrap a = a := wrap_i64 (by omega) (by omega)
  have hsub : ∀ lo len κ, subC (.lst 64 n (l.map enV)) lo len κ = (lo + len ≤ n ∧ κ (.lst 64 len (((l.map enV).drop lo).take len))) := fun lo len κ => subC_lstlen 64 n _ lo len κ hle
  have t3 : ((l.map enV).drop k).take (n - k) = (l.map enV).drop k := List.take_of_length_le (by rw [List.length_drop, hle]; exact Nat.le_refl _)
  have hkn2 : n - k + k = n := by omega
  obtain ⟨M, hM⟩ : ∃ M, l.drop k ++ l.take k = M := ⟨_, rfl⟩
  have eM : (l.map enV).drop k ++ (l.map enV).take k = M.map enV := by rw [← hM, List.map_append, List.map_drop, List.map_take]
  have hMn : M.length = n := by rw [← hM, List.length_append, List.length_drop, List.length_take]; omega
  have hMl : (M.map enV).length = n := by rw [List.length_map, hMn]
  have hpm : l.Perm M := by
    rw [← hM]
    have := List.perm_append_comm (l₁ := l.take k) (l₂ := l.drop k)
    rw [List.take_append_drop] at this
    exact this
  have hgM : ∀ e ∈ M, goodE e := fun e he => hg e (hpm.mem_iff.2 he)
  clear hM
  simp (implicitDefEqProofs := false) (disch := omega) only [go_sem, ↓reduceIte, wa, hk, ↓hsub, t3, List.drop_zero, eM, hkn2]
  by_cases hd : (l.map (·.1)).Nodup
  · have hdM : (M.map (·.1)).Nodup := (hpm.map _).nodup_iff.1 hd
    have eS := srtE_turn hpm hg hgM hd
    have r1 := root_ok l n hn (by omega) hg hd
    have r2 := root_ok M n hMn (by omega) hgM hdM
    have p1 := prove_ok l n hn (by omega) hg hd index hi
    have p2 := prove_ok M n hMn (by omega) hgM hdM index hi
    rw [← eS] at r2 p2
    have hlen : (ndsP (srtE l hg) index).length ≤ 256 := nds_len _ _ _ _
    have hsame := same08_spec (ndsP (srtE l hg) index) (ndsP (srtE l hg) index) (by omega)
    rw [decide_eq_true rfl] at hsame
    clear eS
    generalize nodeP 256 (srtE l hg) = X at *
    generalize knP (srtE l hg) index = K at *
    generalize ndsP (srtE l hg) index = W at *
    obtain ⟨w, hw⟩ : ∃ w, W.length = w := ⟨_, rfl⟩
    rw [hw] at p1 p2 hsame hlen
    have dX : decide (X = X) = true := decide_eq_true rfl
    have dK : decide (K = K) = true := decide_eq_true rfl
    refine call0 r1 ?_
    simp (implicitDefEqProofs := false) (disch := omega) only [go_sem, ↓reduceIte]
    refine callB r2 ?_ ?_
    · simp (implicitDefEqProofs := false) (disch := omega) only [go_sem, ↓reduceIte]
    simp (implicitDefEqProofs := false) (disch := omega) only [go_sem, ↓reduceIte]
    refine callF 1 p1 ?_
    simp (implicitDefEqProofs := false) (disch := omega) only [go_sem, ↓reduceIte]
    refine callBF 1 p2 (hq := by simp [OB.pf, AV.pf, pf_dgs]) ?_ ?_
    · simp (implicitDefEqProofs := false) (disch := omega) only [go_sem, ↓reduceIte]
    simp (implicitDefEqProofs := false) (disch := omega) only [go_sem, ↓reduceIte]
    refine loop (ι := Nat) 8 (fun i => i ≤ n) (fun i => [(8, .osl 0 [] 64 0 n), (9, .osl 1 [] 64 0 n), (10, .ref 2 []), (11, .int .i64 0), (12, .ref 3 []), (13, .int .i64 0), (14, .ref 5 []), (15, .int .i64 0), (16, .ref 7 []), (17, .int .i64 0), (18, .int .i64 i)])
      (fun i => [(0, .row (.lst 64 n (M.map enV))), (1, .row (.lst 64 n (M.map enV))), (2, .var (.ints .u8 32 X)), (3, .var (.ints .u8 32 X)), (4, .row (.lst 32 w (W.map dg))), (5, .var (.agg [.ints .u8 32 K, .osl 4 [] 32 0 w])), (6, .row (.lst 32 w (W.map dg))), (7, .var (.agg [.ints .u8 32 K, .osl 6 [] 32 0 w]))]) (fun i => n - i) 0 [(0, 3), (1, 5), (2, 6), (3, 7), (4, 8), (5, 9), (6, 10), (7, 11)] [] (Nat.zero_le _) rfl ?_ ?_ ?_ (fun i hi' => ?_)
    · simp (implicitDefEqProofs := false) (disch := omega) only [go_sem, ↓reduceIte]
    · simp (implicitDefEqProofs := false) (disch := omega) only [go_sem, ↓reduceIte]
      try rfl
    · simp (implicitDefEqProofs := false) (disch := omega) only [go_sem, ↓reduceIte]
    simp (implicitDefEqProofs := false) (disch := omega) only [go_sem, ↓reduceIte]
    refine brd (fun h2 => ?_) (fun h2 => ?_)
    · obtain ⟨x, hx⟩ : ∃ x, M[i]? = some x := ⟨_, List.getElem?_eq_getElem (by omega)⟩
      have g1 := fun K => getEn hx K
      have d1 : decide (x.1 = x.1) = true := decide_eq_true rfl
      have d2 : decide (x.2 = x.2) = true := decide_eq_true rfl
      simp (implicitDefEqProofs := false) (disch := omega) only [go_sem, ↓reduceIte, ↓g1, hMl, d1, d2]
      refine ⟨i + 1, [(0, 0), (1, 1), (2, 2), (3, 3), (4, 4), (5, 5), (6, 6), (7, 7)], [], [], by dsimp only; omega, by dsimp only; omega, rfl, ?_, ?_, ?_⟩ <;> simp (implicitDefEqProofs := false) (disch := omega) only [go_sem, ↓reduceIte]
    · obtain rfl : i = n := by omega
      simp (implicitDefEqProofs := false) (disch := omega) only [go_sem, ↓reduceIte, dX, dK]
      refine callB hsame ?_ ?_
      · simp (implicitDefEqProofs := false) (disch := omega) only [go_sem, ↓reduceIte]
      simp (implicitDefEqProofs := false) (disch := omega) only [go_sem, ↓reduceIte]
      refine call0 knows17_spec ?_
      simp (implicitDefEqProofs := false) (disch := omega) only [go_sem, ↓reduceIte]
  · have hdM : ¬ (M.map (·.1)).Nodup := fun h => hd ((hpm.map _).nodup_iff.2 h)
    have r1 := root_twice l n hn (by omega) hd
    have r2 := root_twice M n hMn (by omega) hdM
    have p1 := prove_twice l n hn (by omega) hd index
    have p2 := prove_twice M n hMn (by omega) hdM index
    refine call0 r1 ?_
    simp (implicitDefEqProofs := false) (disch := omega) only [go_sem, ↓reduceIte]
    refine callB r2 ?_ ?_
    · simp (implicitDefEqProofs := false) (disch := omega) only [go_sem, ↓reduceIte]
    simp (implicitDefEqProofs := false) (disch := omega) only [go_sem, ↓reduceIte]
    refine call0 p1 ?_
    simp (implicitDefEqProofs := false) (disch := omega) only [go_sem, ↓reduceIte]
    refine callB p2 ?_ ?_
    · simp (implicitDefEqProofs := false) (disch := omega) only [go_sem, ↓reduceIte]
    simp (implicitDefEqProofs := false) (disch := omega) only [go_sem, ↓reduceIte]
    have dz : decide ((List.replicate 32 0 : List Int) = List.replicate 32 0) = true := decide_eq_true rfl
    have hsame := (same08_spec [] [] (by decide)).nz (args' := [.nils, .nils]) (by simp [Go.Sy.nz, nzs, AV.void])
    rw [decide_eq_true rfl] at hsame
    refine loop (ι := Nat) 6 (fun i => i ≤ n) (fun i => [(8, .osl 0 [] 64 0 n), (9, .osl 1 [] 64 0 n), (10, .ref 2 []), (11, .int .i64 5), (12, .ref 3 []), (13, .int .i64 5), (14, .ref 4 []), (15, .int .i64 5), (16, .ref 5 []), (17, .int .i64 5), (18, .int .i64 i)])
      (fun i => [(0, .row (.lst 64 n (M.map enV))), (1, .row (.lst 64 n (M.map enV))), (2, .var (.ints .u8 32 (List.replicate 32 0))), (3, .var (.ints .u8 32 (List.replicate 32 0))), (4, .var (.agg [.ints .u8 32 (List.replicate 32 0), .nils])), (5, .var (.agg [.ints .u8 32 (List.replicate 32 0), .nils]))]) (fun i => n - i) 0 [(0, 3), (1, 5), (2, 6), (3, 7), (4, 8), (5, 9)] [] (Nat.zero_le _) rfl ?_ ?_ ?_ (fun i hi' => ?_)
    · simp (implicitDefEqProofs := false) (disch := omega) only [go_sem, ↓reduceIte]
    · simp (implicitDefEqProofs := false) (disch := omega) only [go_sem, ↓reduceIte]
      try rfl
    · simp (implicitDefEqProofs := false) (disch := omega) only [go_sem, ↓reduceIte]
    simp (implicitDefEqProofs := false) (disch := omega) only [go_sem, ↓reduceIte]
    refine brd (fun h2 => ?_) (fun h2 => ?_)
    · obtain ⟨x, hx⟩ : ∃ x, M[i]? = some x := ⟨_, List.getElem?_eq_getElem (by omega)⟩
      have g1 := fun K => getEn hx K
      have d1 : decide (x.1 = x.1) = true := decide_eq_true rfl
      have d2 : decide (x.2 = x.2) = true := decide_eq_true rfl
      simp (implicitDefEqProofs := false) (disch := omega) only [go_sem, ↓reduceIte, ↓g1, hMl, d1, d2]
      refine ⟨i + 1, [(0, 0), (1, 1), (2, 2), (3, 3), (4, 4), (5, 5)], [], [], by dsimp only; omega, by dsimp only; omega, rfl, ?_, ?_, ?_⟩ <;> simp (implicitDefEqProofs := false) (disch := omega) only [go_sem, ↓reduceIte]
    · obtain rfl : i = n := by omega
      simp (implicitDefEqProofs := false) (disch := omega) only [go_sem, ↓reduceIte, dz]
      refine callB hsame ?_ ?_
      · simp (implicitDefEqProofs := false) (disch := omega) only [go_sem, ↓reduceIte]
      simp (implicitDefEqProofs := false) (disch := omega) only [go_sem, ↓reduceIte]
      refine call0 knows17_spec ?_
      simp (implicitDefEqProofs := false) (disch := omega) only [go_sem, ↓reduceIte]
end Go.Proofs.Ytclkaibkepaebaa
