/- What is proved of entries shows what it should. -/
import Derived.Test.YtclkaibkepaebaaPtrPv
import Derived.Test.YtclkaibkepaebaaPrfC
namespace Go.Proofs.Ytclkaibkepaebaa
open Go Go.Sy Go.Proofs.Try
set_option maxRecDepth 100000
set_option maxHeartbeats 8000000
set_option linter.unusedSimpArgs false
set_option linter.unusedVariables false
attribute [go_sem] pl14
theorem grp_zero : ∀ {S : List En} {x : En}, (∀ e ∈ S, goodE e) → (S.map (·.1)).Nodup → x ∈ S → grp S 0 (ofb x.1) = [x]
  | [], x, _, _, hx => by cases hx
  | y :: S, x, hgS, hdS, hx => by
    have ih := fun h => grp_zero (S := S) (x := x) (fun e he => hgS e (List.mem_cons_of_mem _ he)) (List.nodup_cons.1 hdS).2 h
    unfold grp at ih ⊢
    rw [show (fun e : En => decide (ofb e.1 / 2 ^ 0 = ofb x.1)) = fun e => decide (ofb e.1 = ofb x.1) by funext e; rw [show (2 : Int) ^ 0 = 1 by decide, Int.ediv_one]] at ih ⊢
    rw [List.map_cons, List.nodup_cons] at hdS
    rw [List.filter_cons]
    rcases List.mem_cons.1 hx with rfl | hxS
    · rw [if_pos (decide_eq_true rfl)]
      congr 1
      rw [List.filter_eq_nil_iff]
      intro z hz hzz
      rw [decide_eq_true_eq] at hzz
      have := ofb_inj (hgS z (List.mem_cons_of_mem _ hz)).1 (hgS x (List.mem_cons_self ..)).1 hzz
      exact hdS.1 (this ▸ List.mem_map_of_mem hz)
    · rw [if_neg]
      · exact ih hxS
      · intro hyy
        rw [decide_eq_true_eq] at hyy
        have := ofb_inj (hgS y (List.mem_cons_self ..)).1 (hgS x (List.mem_cons_of_mem _ hxS)).1 hyy
        exact hdS.1 (this ▸ List.mem_map_of_mem hxS)
theorem grp_none {S : List En} {index : List Int} (hgS : ∀ e ∈ S, goodE e) (hi : goodD index) (hno : index ∉ S.map (·.1)) : grp S 0 (ofb index) = [] := by
  unfold grp
  rw [List.filter_eq_nil_iff]
  intro y hy hyy
  rw [decide_eq_true_eq, show (2 : Int) ^ 0 = 1 by decide, Int.ediv_one] at hyy
  have := ofb_inj (hgS y hy).1 hi hyy
  exact hno (this ▸ List.mem_map_of_mem hy)
theorem proofShows_spec (l : List En) (n : Nat) (hn : l.length = n) (hb : n ≤ 9223372036854775807) (hg : ∀ e ∈ l, goodE e) (index : List Int) (hi : goodD index) : FnC Try.prog 14 [.sl (.lst 64 n (l.map enV)), .ints .u8 32 index] [] (.bool true) [] := by
  have hle : (l.map enV).length = n := by rw [List.length_map, hn]
  refine fn0 mix pl14 0 2 [.tmp 4] Try.func14 rfl (by kernel_rfl) (by kernel_rfl) rfl (by kernel_rfl) (by kernel_rfl) (by simp) ?_
  simp (implicitDefEqProofs := false) (disch := omega) only [go_sem, ↓reduceIte]
  refine brd (fun h1 => ?_) (fun h1 => ?_)
  · simp (implicitDefEqProofs := false) (disch := omega) only [go_sem, ↓reduceIte]
    refine call0 knows18_spec ?_
    simp (implicitDefEqProofs := false) (disch := omega) only [go_sem, ↓reduceIte]
  simp (implicitDefEqProofs := false) (disch := omega) only [go_sem, ↓reduceIte]
  by_cases hd : (l.map (·.1)).Nodup
  · have hrt := root_ok l n hn (by omega) hg hd
    have hrk := prove_ok l n hn (by omega) hg hd index hi
    have hpm := srtE_perm l hg
    have hSg := srtE_good l hg
    have hSs := srtE_sorted l hg
    have hlen : (ndsP (srtE l hg) index).length ≤ 256 := nds_len _ _ _ _
    have hps := knP_pops (srtE l hg) index
    have hkg := knD_good (besF (srtE l hg) index) 0 256
    rw [show knD (besF (srtE l hg) index) 0 256 = knP (srtE l hg) index from rfl] at hkg
    have hWg : ∀ d ∈ ndsP (srtE l hg) index, goodD d := nds_good _ (besN_good _ _) _ _
    have hdS : ((srtE l hg).map (·.1)).Nodup := (hpm.map _).nodup_iff.2 hd
    have hthere : ∀ x ∈ l, x.1 = index → climbR index (knP (srtE l hg) index) (ndsP (srtE l hg) index) (leafP index x.2) 256 = nodeP 256 (srtE l hg) := fun x hx he => by
      refine climb_all hSg hSs hi ?_
      have := grp_zero hSg hdS (hpm.mem_iff.2 hx)
      rw [he] at this
      rw [ownG, halfs, this, ← he]
      rfl
    have hnone : index ∉ l.map (·.1) → climbR index (knP (srtE l hg) index) (ndsP (srtE l hg) index) (emptyD 0) 256 = nodeP 256 (srtE l hg) := fun hno => by
      refine climb_all hSg hSs hi ?_
      have := grp_none hSg hi (fun h => hno ((hpm.map _).mem_iff.1 h))
      rw [ownG, halfs, this]
      rfl
    clear hpm hSg hSs hdS
    generalize nodeP 256 (srtE l hg) = X at *
    generalize knP (srtE l hg) index = K at *
    generalize ndsP (srtE l hg) index = W at *
    obtain ⟨w, hw⟩ : ∃ w, W.length = w := ⟨_, rfl⟩
    rw [hw] at hrk hlen hps
    have hpr : ∀ x ∈ l, x.1 = index → FnC Try.prog 58 [.ints .u8 32 X, .ints .u8 32 index, .ints .u8 32 x.2, .agg [.ints .u8 32 K, .sl (.lst 32 w (W.map dg))]] [] (.bool true) [] := fun x hx he => by
      have := present_spec X index K hi hkg W w hw (by omega) hWg x.2 (hg x hx).2
      rw [decide_eq_true ⟨hps, hthere x hx he⟩] at this
      exact this
    have hab : index ∉ l.map (·.1) → FnC Try.prog 59 [.ints .u8 32 X, .ints .u8 32 index, .agg [.ints .u8 32 K, .sl (.lst 32 w (W.map dg))]] [] (.bool true) [] := fun hno => by
      have := absent_spec X index K hi hkg W w hw (by omega) hWg
      rw [decide_eq_true ⟨hps, hnone hno⟩] at this
      exact this
    refine call0 hrt ?_
    simp (implicitDefEqProofs := false) (disch := omega) only [go_sem, ↓reduceIte]
    refine callF 1 hrk ?_
    simp (implicitDefEqProofs := false) (disch := omega) only [go_sem, ↓reduceIte]
    refine loop (ι := Nat) 4 (fun i => i ≤ n) (fun i => [(0, .sl (.lst 64 n (l.map enV))), (3, .ref 0 []), (5, .ref 1 []), (7, .ref 3 []), (8, .int .i64 0), (9, .bool (decide (index ∈ (l.take i).map (·.1)))), (10, .int .i64 i)])
      (fun i => [(0, .var (.ints .u8 32 index)), (1, .var (.ints .u8 32 X)), (2, .row (.lst 32 w (W.map dg))), (3, .var (.agg [.ints .u8 32 K, .osl 2 [] 32 0 w]))]) (fun i => n - i) 0 [(0, 0), (1, 1), (2, 2), (3, 3)] [] (Nat.zero_le _) rfl ?_ ?_ ?_ (fun i hi' => ?_)
    · simp (implicitDefEqProofs := false) (disch := omega) only [go_sem, ↓reduceIte]
    · simp (implicitDefEqProofs := false) (disch := omega) only [go_sem, ↓reduceIte, List.take_zero, List.map_nil]
      rfl
    · simp (implicitDefEqProofs := false) (disch := omega) only [go_sem, ↓reduceIte]
    simp (implicitDefEqProofs := false) (disch := omega) only [go_sem, ↓reduceIte]
    refine brd (fun h2 => ?_) (fun h2 => ?_)
    · obtain ⟨x, hx⟩ : ∃ x, l[i]? = some x := ⟨_, List.getElem?_eq_getElem (by omega)⟩
      have g1 := fun K => getEn hx K
      have hxl := List.mem_of_getElem? hx
      by_cases he : x.1 = index
      · have d1 : decide (x.1 = index) = true := decide_eq_true he
        have d2 : decide (index ∈ (l.take (i + 1)).map (·.1)) = true := decide_eq_true (by rw [take_next3 hx, he]; exact List.mem_append_right _ (List.mem_singleton.2 rfl))
        simp (implicitDefEqProofs := false) (disch := omega) only [go_sem, ↓reduceIte, ↓g1, hle, d1]
        refine callB (hpr x hxl he) ?_ ?_
        · simp (implicitDefEqProofs := false) (disch := omega) only [go_sem, ↓reduceIte]
        simp (implicitDefEqProofs := false) (disch := omega) only [go_sem, ↓reduceIte]
        refine ⟨i + 1, [(0, 0), (1, 1), (2, 2), (3, 3)], [], [], by dsimp only; omega, by dsimp only; omega, rfl, ?_, ?_, ?_⟩ <;> simp (implicitDefEqProofs := false) (disch := omega) only [go_sem, ↓reduceIte, d2]
      · have d1 : decide (x.1 = index) = false := decide_eq_false he
        have d2 : decide (index ∈ (l.take (i + 1)).map (·.1)) = decide (index ∈ (l.take i).map (·.1)) := decide_eq_decide.2 (by
          rw [take_next3 hx, List.mem_append, List.mem_singleton]
          exact ⟨fun h => h.resolve_right fun hh => he hh.symm, Or.inl⟩)
        simp (implicitDefEqProofs := false) (disch := omega) only [go_sem, ↓reduceIte, ↓g1, hle, d1]
        refine ⟨i + 1, [(0, 0), (1, 1), (2, 2), (3, 3)], [], [], by dsimp only; omega, by dsimp only; omega, rfl, ?_, ?_, ?_⟩ <;> simp (implicitDefEqProofs := false) (disch := omega) only [go_sem, ↓reduceIte, d2]
    · obtain rfl : i = n := by omega
      rw [show l.take i = l from List.take_of_length_le (by omega)]
      by_cases hin : index ∈ l.map (·.1)
      · rw [decide_eq_true hin]
        simp (implicitDefEqProofs := false) (disch := omega) only [go_sem, ↓reduceIte]
        refine call0 knows18_spec ?_
        simp (implicitDefEqProofs := false) (disch := omega) only [go_sem, ↓reduceIte]
      · rw [decide_eq_false hin]
        simp (implicitDefEqProofs := false) (disch := omega) only [go_sem, ↓reduceIte]
        refine callB (hab hin) ?_ ?_
        · simp (implicitDefEqProofs := false) (disch := omega) only [go_sem, ↓reduceIte]
        simp (implicitDefEqProofs := false) (disch := omega) only [go_sem, ↓reduceIte]
        refine call0 knows18_spec ?_
        simp (implicitDefEqProofs := false) (disch := omega) only [go_sem, ↓reduceIte]
  · refine call0 (root_twice l n hn (by omega) hd) ?_
    simp (implicitDefEqProofs := false) (disch := omega) only [go_sem, ↓reduceIte]
    refine call0 (prove_twice l n hn (by omega) hd index) ?_
    simp (implicitDefEqProofs := false) (disch := omega) only [go_sem, ↓reduceIte]
    refine call0 knows18_spec ?_
    simp (implicitDefEqProofs := false) (disch := omega) only [go_sem, ↓reduceIte]
end Go.Proofs.Ytclkaibkepaebaa
