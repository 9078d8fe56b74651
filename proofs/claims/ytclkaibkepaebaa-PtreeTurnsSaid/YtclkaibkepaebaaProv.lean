/- An index's proof, by the program. -/
import Derived.Test.YtclkaibkepaebaaGV
import Derived.Test.YtclkaibkepaebaaGX
namespace Go.Proofs.Ytclkaibkepaebaa
open Go Go.Sy Go.Proofs.Try
set_option maxRecDepth 100000
set_option maxHeartbeats 8000000
set_option linter.unusedSimpArgs false
set_option linter.unusedVariables false
attribute [go_sem] pl53 pl102
theorem reverse_nil : FnC Try.prog 102 [.nils] [] (.tup []) [] := by
  refine fn0 mix pl102 0 1 [] Try.func102 rfl (by kernel_rfl) (by kernel_rfl) rfl (by kernel_rfl) (by kernel_rfl) (by simp) ?_
  simp (implicitDefEqProofs := false) (disch := omega) only [go_sem, ↓reduceIte]
  refine loop (ι := Nat) 0 (fun i => i = 0) (fun i => [(0, .nils), (2, .int .i64 0), (3, .int .i64 (-1))]) (fun i => []) (fun i => 0) 0 [] [] rfl rfl ?_ ?_ ?_ (fun i hi => ?_)
  · simp (implicitDefEqProofs := false) (disch := omega) only [go_sem, ↓reduceIte]
  · simp (implicitDefEqProofs := false) (disch := omega) only [go_sem, ↓reduceIte]
  · simp (implicitDefEqProofs := false) (disch := omega) only [go_sem, ↓reduceIte]
  simp (implicitDefEqProofs := false) (disch := omega) only [go_sem, ↓reduceIte]
theorem or_bit {x : Int} {r : Nat} (hr : r < 8) (h0 : 0 ≤ x) (h1 : x % 2 ^ (r + 1) = 0) (h2 : x + 2 ^ r < 256) : ior .u8 x (ishl .u8 1 r) = x + 2 ^ r := by
  have hp : (2 : Int) ^ r = ((2 ^ r : Nat) : Int) := by push_cast; rfl
  have hs : ishl .u8 1 r = 2 ^ r := by
    unfold ishl
    rw [show min r IntKind.u8.bits = r by show min r 8 = r; omega, Int.one_mul]
    exact wrap_u8 (Int.pow_nonneg (by decide)) (by omega)
  have hq : (0 : Int) < 2 ^ r := Int.pow_pos (by decide)
  rw [hs, ior_nat (k := .u8) h0 (by show x < 2 ^ 8; rw [show (2 : Int) ^ 8 = 256 by decide]; omega) (by omega) (by show (2 : Int) ^ r < 2 ^ 8; rw [show (2 : Int) ^ 8 = 256 by decide]; omega)]
  have hx : x.toNat = 2 ^ (r + 1) * (x.toNat / 2 ^ (r + 1)) := by
    have : ((x.toNat : Nat) : Int) % ((2 ^ (r + 1) : Nat) : Int) = 0 := by
      rw [Int.toNat_of_nonneg h0]
      push_cast
      exact h1
    have h3 : x.toNat % 2 ^ (r + 1) = 0 := by omega
    have := Nat.div_add_mod x.toNat (2 ^ (r + 1))
    omega
  have hr2 : ((2 : Int) ^ r).toNat = 2 ^ r := by rw [hp, Int.toNat_natCast]
  rw [hr2, hx, ← Nat.two_pow_add_eq_or_of_lt (Nat.pow_lt_pow_right (by decide) (by omega)), ← hx, Int.natCast_add, Int.toNat_of_nonneg h0, ← hp]
  exact wrap_u8 (by omega) (by omega)
def wA : List (List Int) → AV
  | [] => .nils
  | a :: W => .osl 4 [] 32 0 (W.length + 1)
def wO : List (List Int) → OO
  | [] => []
  | a :: W => [(4, .row (.lst 32 (W.length + 1) ((a :: W).map dg)))]
theorem wA_snoc (W : List (List Int)) (x : List Int) : wA (W ++ [x]) = .osl 4 [] 32 0 (W.length + 1) := by
  cases W with
  | nil => rfl
  | cons a W => rw [List.cons_append, wA, List.length_append]; rfl
theorem wO_snoc (W : List (List Int)) (x : List Int) : wO (W ++ [x]) = [(4, .row (.lst 32 (W.length + 1) (W.map dg ++ [dg x])))] := by
  cases W with
  | nil => rfl
  | cons a W => rw [List.cons_append, wO, List.length_append, ← List.cons_append, List.map_append]; rfl
section
variable (S : List En) (index : List Int)
def accP (L : Nat) : List (List Int) := (nds (besF S index) (besN S index) L (256 - L)).reverse
theorem accP_some {k : Nat} (hk : k < 256) (h : besF S index k = true) : accP S index k = accP S index (k + 1) ++ [besN S index k] := by
  unfold accP
  rw [show 256 - k = (256 - (k + 1)) + 1 by omega, nds_first, if_pos h, List.reverse_append]
  rfl
theorem accP_none {k : Nat} (hk : k < 256) (h : besF S index k = false) : accP S index k = accP S index (k + 1) := by
  unfold accP
  rw [show 256 - k = (256 - (k + 1)) + 1 by omega, nds_first, if_neg (by rw [h]; decide)]
  rfl
theorem accP_len (L : Nat) : (accP S index L).length ≤ 256 := by
  unfold accP
  rw [List.length_reverse]
  have := nds_len (besF S index) (besN S index) L (256 - L)
  omega
theorem accP_top : accP S index 256 = [] := rfl
theorem accP_rev : (accP S index 0).reverse = ndsP S index := List.reverse_reverse _
theorem accP_good (L : Nat) : ∀ d ∈ accP S index L, goodD d := fun d hd => nds_good _ (besN_good S index) L (256 - L) d (List.mem_reverse.1 hd)
theorem besF_len (k : Nat) : besF S index k = decide (0 < (besG S index k).length) := by
  unfold besF
  cases besG S index k <;> simp
end
theorem prove_ok (l : List En) (n : Nat) (hn : l.length = n) (h : n ≤ 256) (hg : ∀ e ∈ l, goodE e) (hd : (l.map (·.1)).Nodup) (index : List Int) (hi : goodD index) :
    FnC Try.prog 53 [.sl (.lst 64 n (l.map enV)), .ints .u8 32 index] [] (.tup [.agg [.ints .u8 32 (knP (srtE l hg) index), .osl 0 [] 32 0 (ndsP (srtE l hg) index).length], .int .i64 0]) [(0, .row (.lst 32 (ndsP (srtE l hg) index).length ((ndsP (srtE l hg) index).map dg)))] := by
  have hs := sorted_ok l n hn h hg hd
  have hSg := srtE_good l hg
  have hSs := srtE_sorted l hg
  have hSl : (srtE l hg).length = n := by rw [srtE_len, hn]
  generalize srtE l hg = S at *
  have hSm : (S.map enV).length = n := by rw [List.length_map, hSl]
  refine fnN mix ((100005, []) :: pl53) 0 2 [.cell 4 88, .tmp 5] Try.func53 rfl (by kernel_rfl) (by kernel_rfl) rfl (by kernel_rfl) (by kernel_rfl) (by simp) ?_
  simp (implicitDefEqProofs := false) (disch := omega) only [go_sem, ↓reduceIte]
  refine callF 1 hs ?_
  simp (implicitDefEqProofs := false) (disch := omega) only [go_sem, ↓reduceIte]
  refine callF 1 empty17_spec ?_
  simp (implicitDefEqProofs := false) (disch := omega) only [go_sem, ↓reduceIte]
  refine Sy.cut 3 [(3, .ref 0 []), (4, .ref 1 []), (6, .sl (.lst 64 n (S.map enV))), (8, .ref 2 [])] [(0, .var (.ints .u8 32 index)), (1, .var (.agg [.ints .u8 32 (List.replicate 32 0), .nils])), (2, .var (.agg [.sl (.lst 32 257 ((empties 257).map dg))]))] [(0, 0), (1, 1), (2, 4)] [] [2, 3] rfl ?_ ?_ ?_ ?_
  · simp (implicitDefEqProofs := false) (disch := omega) only [go_sem, ↓reduceIte]
  · simp (implicitDefEqProofs := false) (disch := omega) only [go_sem, ↓reduceIte]
  · simp (implicitDefEqProofs := false) (disch := omega) only [go_sem, ↓reduceIte]
  simp (implicitDefEqProofs := false) (disch := omega) only [go_sem, ↓reduceIte]
  have hT256 : ownG S index 256 = S := ownG_top hSg hi
  refine loop (ι := Nat) 5 (fun i => i ≤ 256) (fun i => [(3, .ref 0 []), (4, .ref 1 []), (6, .sl (.lst 64 (ownG S index i).length ((ownG S index i).map enV))), (8, .ref 2 []), (9, .ref 3 []), (10, .int .i64 i)])
    (fun i => [(0, .var (.ints .u8 32 index)), (1, .var (.agg [.ints .u8 32 (List.replicate 32 0), .nils])), (2, .var (.agg [.sl (.lst 32 257 ((empties 257).map dg))])), (3, .var (.agg [.ints .u8 32 (knD (besF S index) i 256), wA (accP S index i)]))] ++ wO (accP S index i)) (fun i => i) 256 [(0, 0), (1, 1), (2, 2), (3, 3)] [] (Nat.le_refl _) rfl ?_ ?_ ?_ (fun i hi' => ?_)
  · simp (implicitDefEqProofs := false) (disch := omega) only [go_sem, ↓reduceIte]
  · simp (implicitDefEqProofs := false) (disch := omega) only [go_sem, ↓reduceIte, hT256, hSl]
  · simp (implicitDefEqProofs := false) (disch := omega) only [go_sem, ↓reduceIte, hT256, hSl, accP_top, wA, wO, knD_none, List.append_nil, List.cons_append, List.nil_append]
    rfl
  obtain _ | k := i
  · have hWl := accP_len S index 0
    have hkn : knP S index = knD (besF S index) 0 256 := rfl
    rw [hkn]
    cases hW : accP S index 0 with
    | nil =>
      have hR : ndsP S index = [] := by rw [← accP_rev, hW]; rfl
      rw [hR]
      simp (implicitDefEqProofs := false) (disch := omega) only [go_sem, ↓reduceIte, wA, wO, List.cons_append, List.nil_append, List.append_nil]
      refine call0 reverse_nil ?_
      simp (implicitDefEqProofs := false) (disch := omega) only [go_sem, ↓reduceIte]
      refine ⟨[], [0], [], rfl, ?_, ?_, ?_⟩ <;> simp (implicitDefEqProofs := false) (disch := omega) only [go_sem, ↓reduceIte, List.length_nil, List.map_nil]
    | cons w0 W =>
      have hR : ndsP S index = (w0 :: W).reverse := by rw [← accP_rev, hW]
      have hRl : (ndsP S index).length = W.length + 1 := by rw [hR, List.length_reverse, List.length_cons]
      rw [hW, List.length_cons] at hWl
      have hrev := reverse_spec (w0 :: W) (W.length + 1) rfl (by omega)
      rw [← hR] at hrev
      rw [hRl]
      simp (implicitDefEqProofs := false) (disch := omega) only [go_sem, ↓reduceIte, wA, wO, List.cons_append, List.nil_append, List.append_nil]
      refine callK false [(0, 4)] [(0, 4)] 5 hrev ?_ ?_
      · simp [keys]
      simp (implicitDefEqProofs := false) (disch := omega) only [go_sem, ↓reduceIte]
      refine ⟨[(0, 4)], [], [], rfl, ?_, ?_, ?_⟩ <;> simp (implicitDefEqProofs := false) (disch := omega) only [go_sem, ↓reduceIte]
  have hk : k < 256 := by omega
  obtain ⟨s1, s2⟩ := own_step hSg hSs hi hk
  have hTg : ∀ e ∈ ownG S index (k + 1), goodE e := fun e he => hSg e (grp_sub S _ _ he)
  have hTl : (ownG S index (k + 1)).length ≤ n := by rw [← hSl]; exact List.length_filter_le _ _
  have hBg : ∀ e ∈ besG S index k, goodE e := fun e he => hSg e (grp_sub S _ _ he)
  have hBn : (besG S index k).length ≤ n := by rw [← hSl]; exact List.length_filter_le _ _
  obtain ⟨m, hm⟩ : ∃ m, (ownG S index (k + 1)).length = m := ⟨_, rfl⟩
  have hcut := cut_spec k hk (ownG S index (k + 1)) m hm (by omega) hTg
  have hc := cutN_le k (ownG S index (k + 1))
  generalize hcc : cutN k (ownG S index (k + 1)) = c at *
  have hb := bit17_spec index (k : Int) hi
  have e1 : (k : Int) + 1 - 1 = k := by omega
  have hR : ((ownG S index (k + 1)).map enV).length = m := by rw [List.length_map, hm]
  have hsub : ∀ lo len κ, subC (.lst 64 m ((ownG S index (k + 1)).map enV)) lo len κ = (lo + len ≤ m ∧ κ (.lst 64 len ((((ownG S index (k + 1)).map enV).drop lo).take len))) := fun lo len κ => subC_lstlen 64 m _ lo len κ hR
  have t3 : (((ownG S index (k + 1)).map enV).drop c).take (m - c) = ((ownG S index (k + 1)).map enV).drop c := List.take_of_length_le (by rw [List.length_drop, hR]; exact Nat.le_refl _)
  -- the byte
  have t1 : (k : Int).tdiv 8 = ((k / 8 : Nat) : Int) := by rw [Int.tdiv_eq_ediv_of_nonneg (by omega)]; omega
  have t2 : (k : Int).tmod 8 = ((k % 8 : Nat) : Int) := by rw [Int.tmod_eq_emod_of_nonneg (by omega)]; omega
  have hw8 : IntKind.i64.wrap ((k / 8 : Nat) : Int) = ((k / 8 : Nat) : Int) := wrap_i64 (by omega) (by omega)
  have hkg := knD_get (besF S index) (k + 1) 256 (j := k / 8) (by omega)
  have hab := byteK_above (besF S index) k 256
  have hor := or_bit (r := k % 8) (by omega) (byteK_le (besF S index) (k + 1) 256 (k / 8)).1 hab.1 hab.2
  have ti8 : (((k / 8 : Nat) : Int)).toNat = k / 8 := Int.toNat_natCast _
  have tim : (((k % 8 : Nat) : Int)).toNat = k % 8 := Int.toNat_natCast _
  have hi8 : ((k / 8 : Nat) : Int) < 32 := by omega
  have hi8n : k / 8 < 32 := by omega
  have h08 : (0 : Int) ≤ ((k / 8 : Nat) : Int) := by omega
  have h0m : (0 : Int) ≤ ((k % 8 : Nat) : Int) := by omega
  have hnd := node_spec k (by omega) (besG S index k) (besG S index k).length rfl (by omega) hBg
  rw [hm]
  cases hW : accP S index (k + 1) with
  | nil =>
    have hWl := accP_len S index (k + 1)
    rw [hW] at hWl
    simp only [List.length_cons, List.length_nil] at hWl
    simp (implicitDefEqProofs := false) (disch := omega) only [go_sem, ↓reduceIte, wA, wO, List.cons_append, List.nil_append, List.append_nil]
    refine brd (fun h1 => ?_) (fun h1 => by omega)
    simp (implicitDefEqProofs := false) (disch := omega) only [go_sem, ↓reduceIte]
    refine call0 hcut ?_
    simp (implicitDefEqProofs := false) (disch := omega) only [go_sem, ↓reduceIte, ↓hsub, List.drop_zero, t3, e1]
    refine call0 hb ?_
    simp (implicitDefEqProofs := false) (disch := omega) only [go_sem, ↓reduceIte]
    refine brd (fun h2 => ?_) (fun h2 => ?_)
    · obtain ⟨eO, eB⟩ := s1 h2
      have eOm : (ownG S index k).map enV = ((ownG S index (k + 1)).map enV).drop c := by rw [eO, List.map_drop]
      have hBl : (besG S index k).length = c := by rw [eB, List.length_take]; omega
      have hOl : (ownG S index k).length = m - c := by rw [eO, List.length_drop]; omega
      simp (implicitDefEqProofs := false) (disch := omega) only [go_sem, ↓reduceIte]
      refine brd (fun h3 => ?_) (fun h3 => ?_)
      · have hF : besF S index k = true := by rw [besF_len]; exact decide_eq_true (by rw [hBl]; omega)
        have hka : knD (besF S index) k 256 = (knD (besF S index) (k + 1) 256).set (k / 8) (byteK (besF S index) (k + 1) 256 (k / 8) + 2 ^ (k % 8)) := knD_lo_some (by omega) hF
        have hac := accP_some S index hk hF
        rw [hW] at hac
        have eA : wA (accP S index k) = .osl 4 [] 32 0 (0 + 1) := by rw [hac]; rfl
        have eW : wO (accP S index k) = [(4, .row (.lst 32 (0 + 1) (([] : List AV) ++ [.ints .u8 32 (besN S index k)])))] := by rw [hac]; rfl
        rw [show nodeP k (besG S index k) = besN S index k from rfl, hBl, eB, List.map_take] at hnd
        simp (implicitDefEqProofs := false) (disch := omega) only [go_sem, ↓reduceIte, e1, t1, t2, hw8, hkg, hor, ti8, tim, hi8, hi8n, h08, h0m]
        refine call0 hnd ?_
        simp (implicitDefEqProofs := false) (disch := omega) only [go_sem, ↓reduceIte, List.nil_append]
        refine ⟨k, [(0, 0), (1, 1), (2, 2), (3, 3), (4, 6)], [], [], by dsimp only; omega, by dsimp only; omega, rfl, ?_, ?_, ?_⟩ <;> simp (implicitDefEqProofs := false) (disch := omega) only [go_sem, ↓reduceIte, e1, hka, eA, eW, hOl, eOm, List.nil_append]
      · have hF : besF S index k = false := by rw [besF_len]; exact decide_eq_false (by rw [hBl]; omega)
        have hka : knD (besF S index) k 256 = knD (besF S index) (k + 1) 256 := knD_lo_none hF
        have hac := accP_none S index hk hF
        rw [hW] at hac
        simp (implicitDefEqProofs := false) (disch := omega) only [go_sem, ↓reduceIte]
        refine ⟨k, [(0, 0), (1, 1), (2, 2), (3, 3)], [], [], by dsimp only; omega, by dsimp only; omega, rfl, ?_, ?_, ?_⟩ <;> simp (implicitDefEqProofs := false) (disch := omega) only [go_sem, ↓reduceIte, e1, hka, hac, wA, wO, hOl, eOm]
    · obtain ⟨eO, eB⟩ := s2 h2
      have eOm : (ownG S index k).map enV = ((ownG S index (k + 1)).map enV).take c := by rw [eO, List.map_take]
      have hBl : (besG S index k).length = m - c := by rw [eB, List.length_drop]; omega
      have hOl : (ownG S index k).length = c := by rw [eO, List.length_take]; omega
      simp (implicitDefEqProofs := false) (disch := omega) only [go_sem, ↓reduceIte]
      refine brd (fun h3 => ?_) (fun h3 => ?_)
      · have hF : besF S index k = true := by rw [besF_len]; exact decide_eq_true (by rw [hBl]; omega)
        have hka : knD (besF S index) k 256 = (knD (besF S index) (k + 1) 256).set (k / 8) (byteK (besF S index) (k + 1) 256 (k / 8) + 2 ^ (k % 8)) := knD_lo_some (by omega) hF
        have hac := accP_some S index hk hF
        rw [hW] at hac
        have eA : wA (accP S index k) = .osl 4 [] 32 0 (0 + 1) := by rw [hac]; rfl
        have eW : wO (accP S index k) = [(4, .row (.lst 32 (0 + 1) (([] : List AV) ++ [.ints .u8 32 (besN S index k)])))] := by rw [hac]; rfl
        rw [show nodeP k (besG S index k) = besN S index k from rfl, hBl, eB, List.map_drop] at hnd
        simp (implicitDefEqProofs := false) (disch := omega) only [go_sem, ↓reduceIte, e1, t1, t2, hw8, hkg, hor, ti8, tim, hi8, hi8n, h08, h0m]
        refine call0 hnd ?_
        simp (implicitDefEqProofs := false) (disch := omega) only [go_sem, ↓reduceIte, List.nil_append]
        refine ⟨k, [(0, 0), (1, 1), (2, 2), (3, 3), (4, 6)], [], [], by dsimp only; omega, by dsimp only; omega, rfl, ?_, ?_, ?_⟩ <;> simp (implicitDefEqProofs := false) (disch := omega) only [go_sem, ↓reduceIte, e1, hka, eA, eW, hOl, eOm, List.nil_append]
      · have hF : besF S index k = false := by rw [besF_len]; exact decide_eq_false (by rw [hBl]; omega)
        have hka : knD (besF S index) k 256 = knD (besF S index) (k + 1) 256 := knD_lo_none hF
        have hac := accP_none S index hk hF
        rw [hW] at hac
        simp (implicitDefEqProofs := false) (disch := omega) only [go_sem, ↓reduceIte]
        refine ⟨k, [(0, 0), (1, 1), (2, 2), (3, 3)], [], [], by dsimp only; omega, by dsimp only; omega, rfl, ?_, ?_, ?_⟩ <;> simp (implicitDefEqProofs := false) (disch := omega) only [go_sem, ↓reduceIte, e1, hka, hac, wA, wO, hOl, eOm]
  | cons w0 W =>
    have hWl := accP_len S index (k + 1)
    rw [hW] at hWl
    simp only [List.length_cons, List.length_nil] at hWl
    simp (implicitDefEqProofs := false) (disch := omega) only [go_sem, ↓reduceIte, wA, wO, List.cons_append, List.nil_append, List.append_nil]
    refine brd (fun h1 => ?_) (fun h1 => by omega)
    simp (implicitDefEqProofs := false) (disch := omega) only [go_sem, ↓reduceIte]
    refine call0 hcut ?_
    simp (implicitDefEqProofs := false) (disch := omega) only [go_sem, ↓reduceIte, ↓hsub, List.drop_zero, t3, e1]
    refine call0 hb ?_
    simp (implicitDefEqProofs := false) (disch := omega) only [go_sem, ↓reduceIte]
    refine brd (fun h2 => ?_) (fun h2 => ?_)
    · obtain ⟨eO, eB⟩ := s1 h2
      have eOm : (ownG S index k).map enV = ((ownG S index (k + 1)).map enV).drop c := by rw [eO, List.map_drop]
      have hBl : (besG S index k).length = c := by rw [eB, List.length_take]; omega
      have hOl : (ownG S index k).length = m - c := by rw [eO, List.length_drop]; omega
      simp (implicitDefEqProofs := false) (disch := omega) only [go_sem, ↓reduceIte]
      refine brd (fun h3 => ?_) (fun h3 => ?_)
      · have hF : besF S index k = true := by rw [besF_len]; exact decide_eq_true (by rw [hBl]; omega)
        have hka : knD (besF S index) k 256 = (knD (besF S index) (k + 1) 256).set (k / 8) (byteK (besF S index) (k + 1) 256 (k / 8) + 2 ^ (k % 8)) := knD_lo_some (by omega) hF
        have hac := accP_some S index hk hF
        rw [hW] at hac
        have eA : wA (accP S index k) = .osl 4 [] 32 0 ((W.length + 1) + 1) := by rw [hac]; exact wA_snoc _ _
        have eW : wO (accP S index k) = [(4, .row (.lst 32 ((W.length + 1) + 1) (((w0 :: W).map dg) ++ [.ints .u8 32 (besN S index k)])))] := by rw [hac]; exact wO_snoc _ _
        rw [show nodeP k (besG S index k) = besN S index k from rfl, hBl, eB, List.map_take] at hnd
        simp (implicitDefEqProofs := false) (disch := omega) only [go_sem, ↓reduceIte, e1, t1, t2, hw8, hkg, hor, ti8, tim, hi8, hi8n, h08, h0m]
        refine call0 hnd ?_
        simp (implicitDefEqProofs := false) (disch := omega) only [go_sem, ↓reduceIte, List.nil_append]
        refine ⟨k, [(0, 0), (1, 1), (2, 2), (3, 3), (4, 6)], [], [], by dsimp only; omega, by dsimp only; omega, rfl, ?_, ?_, ?_⟩ <;> simp (implicitDefEqProofs := false) (disch := omega) only [go_sem, ↓reduceIte, e1, hka, eA, eW, hOl, eOm, List.nil_append]
      · have hF : besF S index k = false := by rw [besF_len]; exact decide_eq_false (by rw [hBl]; omega)
        have hka : knD (besF S index) k 256 = knD (besF S index) (k + 1) 256 := knD_lo_none hF
        have hac := accP_none S index hk hF
        rw [hW] at hac
        simp (implicitDefEqProofs := false) (disch := omega) only [go_sem, ↓reduceIte]
        refine ⟨k, [(0, 0), (1, 1), (2, 2), (3, 3), (4, 4)], [], [], by dsimp only; omega, by dsimp only; omega, rfl, ?_, ?_, ?_⟩ <;> simp (implicitDefEqProofs := false) (disch := omega) only [go_sem, ↓reduceIte, e1, hka, hac, wA, wO, hOl, eOm]
    · obtain ⟨eO, eB⟩ := s2 h2
      have eOm : (ownG S index k).map enV = ((ownG S index (k + 1)).map enV).take c := by rw [eO, List.map_take]
      have hBl : (besG S index k).length = m - c := by rw [eB, List.length_drop]; omega
      have hOl : (ownG S index k).length = c := by rw [eO, List.length_take]; omega
      simp (implicitDefEqProofs := false) (disch := omega) only [go_sem, ↓reduceIte]
      refine brd (fun h3 => ?_) (fun h3 => ?_)
      · have hF : besF S index k = true := by rw [besF_len]; exact decide_eq_true (by rw [hBl]; omega)
        have hka : knD (besF S index) k 256 = (knD (besF S index) (k + 1) 256).set (k / 8) (byteK (besF S index) (k + 1) 256 (k / 8) + 2 ^ (k % 8)) := knD_lo_some (by omega) hF
        have hac := accP_some S index hk hF
        rw [hW] at hac
        have eA : wA (accP S index k) = .osl 4 [] 32 0 ((W.length + 1) + 1) := by rw [hac]; exact wA_snoc _ _
        have eW : wO (accP S index k) = [(4, .row (.lst 32 ((W.length + 1) + 1) (((w0 :: W).map dg) ++ [.ints .u8 32 (besN S index k)])))] := by rw [hac]; exact wO_snoc _ _
        rw [show nodeP k (besG S index k) = besN S index k from rfl, hBl, eB, List.map_drop] at hnd
        simp (implicitDefEqProofs := false) (disch := omega) only [go_sem, ↓reduceIte, e1, t1, t2, hw8, hkg, hor, ti8, tim, hi8, hi8n, h08, h0m]
        refine call0 hnd ?_
        simp (implicitDefEqProofs := false) (disch := omega) only [go_sem, ↓reduceIte, List.nil_append]
        refine ⟨k, [(0, 0), (1, 1), (2, 2), (3, 3), (4, 6)], [], [], by dsimp only; omega, by dsimp only; omega, rfl, ?_, ?_, ?_⟩ <;> simp (implicitDefEqProofs := false) (disch := omega) only [go_sem, ↓reduceIte, e1, hka, eA, eW, hOl, eOm, List.nil_append]
      · have hF : besF S index k = false := by rw [besF_len]; exact decide_eq_false (by rw [hBl]; omega)
        have hka : knD (besF S index) k 256 = knD (besF S index) (k + 1) 256 := knD_lo_none hF
        have hac := accP_none S index hk hF
        rw [hW] at hac
        simp (implicitDefEqProofs := false) (disch := omega) only [go_sem, ↓reduceIte]
        refine ⟨k, [(0, 0), (1, 1), (2, 2), (3, 3), (4, 4)], [], [], by dsimp only; omega, by dsimp only; omega, rfl, ?_, ?_, ?_⟩ <;> simp (implicitDefEqProofs := false) (disch := omega) only [go_sem, ↓reduceIte, e1, hka, hac, wA, wO, hOl, eOm]
end Go.Proofs.Ytclkaibkepaebaa
