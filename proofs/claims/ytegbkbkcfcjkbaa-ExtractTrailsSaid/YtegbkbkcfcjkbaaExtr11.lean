/- The trails are what the document says. -/
import Derived.Test.YtegbkbkcfcjkbaaExtr10
import Derived.Test.YtegbkbkcfcjkbaaSplit
namespace Go.Proofs.Ytegbkbkcfcjkbaa
open Go Go.Sy Go.Proofs.Try
set_option maxRecDepth 100000
set_option maxHeartbeats 8000000
set_option linter.unusedSimpArgs false
set_option linter.unusedVariables false
attribute [go_sem] pl44
/-- What is to be shown later, of one shape for several branches. -/
structure Wr (G : Prop) : Prop where
  un : G
theorem same_nil : FnC Try.prog 44 [.sl (.lst 1 0 []), .nils] [] (.bool true) [] := by
  refine fn0 mix pl44 0 2 [.tmp 4] Try.func44 rfl (by kernel_rfl) (by kernel_rfl) rfl (by kernel_rfl) (by kernel_rfl) (by simp) ?_
  simp (implicitDefEqProofs := false) (disch := omega) only [go_sem, ↓reduceIte]
  refine loop (ι := Nat) 0 (fun i => i = 0) (fun i => [(0, .sl (.lst 1 0 [])), (1, .nils), (5, .int .i64 i)]) (fun i => []) (fun i => 0) 0 [] [] rfl rfl ?_ ?_ ?_ (fun i hi => ?_)
  · simp (implicitDefEqProofs := false) (disch := omega) only [go_sem, ↓reduceIte]
  · simp (implicitDefEqProofs := false) (disch := omega) only [go_sem, ↓reduceIte]
  · simp (implicitDefEqProofs := false) (disch := omega) only [go_sem, ↓reduceIte]
  subst hi
  simp (implicitDefEqProofs := false) (disch := omega) only [go_sem, ↓reduceIte]
theorem same_rows (l : List (List Int)) (n : Nat) (hn : l.length = n) (hl : n ≤ 1000000) : FnC Try.prog 44 [.sl (.lst 1 n (l.map bsl)), .sl (.lst 1 n (l.map bsl))] [] (.bool true) [] := by
  have := same_spec l (by omega)
  rw [hn] at this
  exact this
section
variable (index : List Int) (hi : goodD index) (p : Bool) (c known : List Int) (hc : goodD c) (hkn : goodD known) (W way : List (List Int)) (hg : ∀ d ∈ W, goodD d) (hway : ∀ d ∈ way, goodD d) (t : List Int) (ht : ∀ x ∈ t, 0 ≤ x ∧ x < 256) (m n : Int)
include hi hc hkn hg hway ht
theorem extractTrails_spec (hwl : W.length ≤ 9223372036854775807) (hwyl : way.length ≤ 9223372036854775807) (htl : t.length ≤ 9223372036854775807) :
    FnC Try.prog 10 [.ints .u8 32 index, sdV p c known W.length W, .int .i64 m, .int .i64 n, .sl (.ints .u8 t.length t), .sl (.lst 32 way.length (way.map dg))] [] (.bool true) [] := by
  obtain ⟨L, hW⟩ : ∃ n, W.length = n := ⟨_, rfl⟩
  obtain ⟨w, hw⟩ : ∃ n, way.length = n := ⟨_, rfl⟩
  obtain ⟨k, hk⟩ : ∃ n, t.length = n := ⟨_, rfl⟩
  rw [hW] at hwl
  rw [hw] at hwyl
  rw [hk] at htl
  rw [hW, hw, hk]
  refine fn0 mix ((100009, []) :: (100019, []) :: []) 0 6 [.tmp 12] Try.func10 rfl (by kernel_rfl) (by kernel_rfl) rfl (by kernel_rfl) (by kernel_rfl) (by simp) ?_
  simp (implicitDefEqProofs := false) (disch := omega) only [go_sem, ↓reduceIte]
  refine brd (fun g1 => ?_) (fun g1 => ?_)
  · simp (implicitDefEqProofs := false) (disch := omega) only [go_sem, ↓reduceIte]
    refine call0 knows23_spec ?_
    simp (implicitDefEqProofs := false) (disch := omega) only [go_sem, ↓reduceIte]
  simp (implicitDefEqProofs := false) (disch := omega) only [go_sem, ↓reduceIte]
  refine brd (fun g2 => ?_) (fun g2 => ?_)
  · simp (implicitDefEqProofs := false) (disch := omega) only [go_sem, ↓reduceIte]
    refine call0 knows23_spec ?_
    simp (implicitDefEqProofs := false) (disch := omega) only [go_sem, ↓reduceIte]
  simp (implicitDefEqProofs := false) (disch := omega) only [go_sem, ↓reduceIte]
  refine brd (fun g3 => ?_) (fun g3 => ?_)
  · simp (implicitDefEqProofs := false) (disch := omega) only [go_sem, ↓reduceIte]
    refine call0 knows23_spec ?_
    simp (implicitDefEqProofs := false) (disch := omega) only [go_sem, ↓reduceIte]
  have hkl : k ≤ 100000 := by omega
  refine (fun (key : Wr ?G) => ?main) ⟨?rest⟩
  case main =>
    have hwhole := refwhole23_spec known hkn W L hW (by omega)
    by_cases hp : pops known = L
    · rw [decide_eq_true hp] at hwhole
      have h1 := treeTrail_ok index known hi hkn W L hW (by omega) hg p c hc hp
      have h2 := reftree_ok index known hi hkn W L hW (by omega) hg p c hc hp
      have hs := same_rows (rowN (trT index known W (leafTx p index c)) 257).reverse 257 (by rw [List.length_reverse, rowN, List.length_map, List.length_range]) (by omega)
      generalize (rowN (trT index known W (leafTx p index c)) 257).reverse = R at *
      simp (implicitDefEqProofs := false) (disch := omega) only [go_sem, ↓reduceIte]
      refine callF 1 h1 ?_
      simp (implicitDefEqProofs := false) (disch := omega) only [go_sem, ↓reduceIte]
      refine call0 hwhole ?_
      simp (implicitDefEqProofs := false) (disch := omega) only [go_sem, ↓reduceIte]
      refine callF 1 h2 ?_
      simp (implicitDefEqProofs := false) (disch := omega) only [go_sem, ↓reduceIte]
      refine callB hs ?_ ?_
      · simp (implicitDefEqProofs := false) (disch := omega) only [go_sem, ↓reduceIte]
      simp (implicitDefEqProofs := false) (disch := omega) only [go_sem, ↓reduceIte]
      refine cut 1 [(2, .int .i64 m), (3, .int .i64 n), (4, .sl (.ints .u8 k t)), (5, .sl (.lst 32 w (way.map dg))), (6, .ref 0 [])] [(0, .var (.ints .u8 32 index))] [(0, 0)] [] [] rfl ?_ ?_ ?_ ?_
      · simp (implicitDefEqProofs := false) (disch := omega) only [go_sem, ↓reduceIte]
      · simp (implicitDefEqProofs := false) (disch := omega) only [go_sem, ↓reduceIte]
      · simp (implicitDefEqProofs := false) (disch := omega) only [go_sem, ↓reduceIte]
      exact key.un
    · rw [decide_eq_false hp] at hwhole
      have h1 := treeTrail_bad index known hkn W L hW (by omega) p c hp
      simp (implicitDefEqProofs := false) (disch := omega) only [go_sem, ↓reduceIte]
      refine call0 h1 ?_
      simp (implicitDefEqProofs := false) (disch := omega) only [go_sem, ↓reduceIte]
      refine call0 hwhole ?_
      simp (implicitDefEqProofs := false) (disch := omega) only [go_sem, ↓reduceIte]
      refine cut 1 [(2, .int .i64 m), (3, .int .i64 n), (4, .sl (.ints .u8 k t)), (5, .sl (.lst 32 w (way.map dg))), (6, .ref 0 [])] [(0, .var (.ints .u8 32 index))] [(0, 0)] [] [] rfl ?_ ?_ ?_ ?_
      · simp (implicitDefEqProofs := false) (disch := omega) only [go_sem, ↓reduceIte]
      · simp (implicitDefEqProofs := false) (disch := omega) only [go_sem, ↓reduceIte]
      · simp (implicitDefEqProofs := false) (disch := omega) only [go_sem, ↓reduceIte]
      exact key.un
  case rest =>
    by_cases ha : n < 1 ∨ 200 < n ∨ m < 0 ∨ n < m
    · simp (implicitDefEqProofs := false) (disch := omega) only [go_sem, ↓reduceIte]
      refine call0 (textTrail_arg t k n m way w (by omega)) ?_
      simp (implicitDefEqProofs := false) (disch := omega) only [go_sem, ↓reduceIte]
      refine call0 (growTrail_arg index m n way w (by omega)) ?_
      simp (implicitDefEqProofs := false) (disch := omega) only [go_sem, ↓reduceIte]
      by_cases b1 : n < 1
      · have e1 : decide (n < 1) = true := decide_eq_true b1
        simp (implicitDefEqProofs := false) (disch := omega) only [go_sem, ↓reduceIte, e1]
        refine call0 knows23_spec ?_
        simp (implicitDefEqProofs := false) (disch := omega) only [go_sem, ↓reduceIte]
      have e1 : decide (n < 1) = false := decide_eq_false b1
      by_cases b2 : 200 < n
      · have e2 : decide (200 < n) = true := decide_eq_true b2
        simp (implicitDefEqProofs := false) (disch := omega) only [go_sem, ↓reduceIte, e1, e2]
        refine call0 knows23_spec ?_
        simp (implicitDefEqProofs := false) (disch := omega) only [go_sem, ↓reduceIte]
      have e2 : decide (200 < n) = false := decide_eq_false b2
      by_cases b3 : m < 0
      · have e3 : decide (m < 0) = true := decide_eq_true b3
        simp (implicitDefEqProofs := false) (disch := omega) only [go_sem, ↓reduceIte, e1, e2, e3]
        refine call0 knows23_spec ?_
        simp (implicitDefEqProofs := false) (disch := omega) only [go_sem, ↓reduceIte]
      have e3 : decide (m < 0) = false := decide_eq_false b3
      have e4 : decide (n < m) = true := decide_eq_true (by omega)
      simp (implicitDefEqProofs := false) (disch := omega) only [go_sem, ↓reduceIte, e1, e2, e3, e4]
      refine call0 knows23_spec ?_
      simp (implicitDefEqProofs := false) (disch := omega) only [go_sem, ↓reduceIte]
    obtain ⟨M, rfl⟩ := Int.eq_ofNat_of_zero_le (show 0 ≤ m by omega)
    obtain ⟨N, rfl⟩ := Int.eq_ofNat_of_zero_le (show 0 ≤ n by omega)
    have da : decide ((N : Int) < 1) = false := decide_eq_false (by omega)
    have db : decide ((200 : Int) < (N : Int)) = false := decide_eq_false (by omega)
    have dc : decide ((M : Int) < 0) = false := decide_eq_false (by omega)
    have dd : decide ((N : Int) < (M : Int)) = false := decide_eq_false (by omega)
    have hgs : ∀ (h1 : 1 ≤ M), ∃ d R, goodD d ∧ R.length ≤ N ∧ (depG N M N false = w → d = (groV index way N M N false).2 ∧ R = growT index way N M N false) ∧ GrowC index way M N w false (decide (depG N M N false = w)) d R := fun h1 => refgrow_spec index hi N M N false way w (Nat.le_refl _) (by omega) h1 (by omega) (by omega) hw (by omega) hway
    by_cases hG : 1 ≤ M ∧ depG N M N false = w
    · have hgt := growTrail_ok index M N way w hi hw (by omega) hway hG.1 (by omega) (by omega) hG.2
      obtain ⟨d, R, hd, hRl, hR, hgc⟩ := hgs hG.1
      obtain ⟨_, hRR⟩ := hR hG.2
      rw [← hRR] at hgt
      rw [decide_eq_true hG.2] at hgc
      refine (fun (key : Wr ?G2) => ?main2) ⟨?rest2⟩
      case main2 =>
        by_cases hMN : M = N
        · have de : decide ((M : Int) = (N : Int)) = true := decide_eq_true (by omega)
          simp (implicitDefEqProofs := false) (disch := omega) only [go_sem, ↓reduceIte]
          refine call0 (textTrail_arg t k N M way w (by omega)) ?_
          simp (implicitDefEqProofs := false) (disch := omega) only [go_sem, ↓reduceIte]
          refine callF 1 hgt ?_
          simp (implicitDefEqProofs := false) (disch := omega) only [go_sem, ↓reduceIte, da, db, dc, dd, de]
          refine cut 2 [(2, .int .i64 M), (3, .int .i64 N), (5, .sl (.lst 32 w (way.map dg))), (6, .ref 0 []), (15, .osl 1 [] 1 0 R.length)] [(0, .var (.ints .u8 32 index)), (1, .row (.lst 1 R.length (R.map bsl)))] [(0, 0), (1, 1)] [] [] rfl ?_ ?_ ?_ ?_
          · simp (implicitDefEqProofs := false) (disch := omega) only [go_sem, ↓reduceIte]
          · simp (implicitDefEqProofs := false) (disch := omega) only [go_sem, ↓reduceIte]
          · simp (implicitDefEqProofs := false) (disch := omega) only [go_sem, ↓reduceIte]
          exact key.un
        have de : decide ((M : Int) = (N : Int)) = false := decide_eq_false (by omega)
        by_cases hT : depH N N M = w
        · have hRx := reftext_ok t k hk ht hkl N N M way w (Nat.le_refl _) (by omega) (by omega) (by omega) hw (by omega) hway hT
          have hb := textTrail_ok t k N M way w hk ht hkl hw hway (by omega) (by omega) (by omega) hT
          have hs := same_rows (trailT (leafL t) way N N M ++ [0 :: t]) (w + 1) (by rw [List.length_append, trailT_len, hT, List.length_singleton]) (by omega)
          generalize trailT (leafL t) way N N M ++ [0 :: t] = RT at *
          simp (implicitDefEqProofs := false) (disch := omega) only [go_sem, ↓reduceIte]
          refine callF 1 hb ?_
          simp (implicitDefEqProofs := false) (disch := omega) only [go_sem, ↓reduceIte]
          refine callF 1 hgt ?_
          simp (implicitDefEqProofs := false) (disch := omega) only [go_sem, ↓reduceIte, da, db, dc, dd, de]
          refine callF 1 hRx ?_
          simp (implicitDefEqProofs := false) (disch := omega) only [go_sem, ↓reduceIte]
          refine callB hs ?_ ?_
          · simp (implicitDefEqProofs := false) (disch := omega) only [go_sem, ↓reduceIte]
          simp (implicitDefEqProofs := false) (disch := omega) only [go_sem, ↓reduceIte]
          refine cut 2 [(2, .int .i64 M), (3, .int .i64 N), (5, .sl (.lst 32 w (way.map dg))), (6, .ref 0 []), (15, .osl 1 [] 1 0 R.length)] [(0, .var (.ints .u8 32 index)), (1, .row (.lst 1 R.length (R.map bsl)))] [(0, 0), (1, 2)] [] [] rfl ?_ ?_ ?_ ?_
          · simp (implicitDefEqProofs := false) (disch := omega) only [go_sem, ↓reduceIte]
          · simp (implicitDefEqProofs := false) (disch := omega) only [go_sem, ↓reduceIte]
          · simp (implicitDefEqProofs := false) (disch := omega) only [go_sem, ↓reduceIte]
          exact key.un
        have hb := textTrail_len t k N M way w hw (by omega) (by omega) (by omega) hT
        by_cases h1 : N = 1
        · exact absurd hG.1 (by omega)
        · have hRx := reftext_bad t k hk hkl N N M way w (Nat.le_refl _) (by omega) (by omega) (by omega) hw (by omega) hway hT
          simp (implicitDefEqProofs := false) (disch := omega) only [go_sem, ↓reduceIte]
          refine call0 hb ?_
          simp (implicitDefEqProofs := false) (disch := omega) only [go_sem, ↓reduceIte]
          refine callF 1 hgt ?_
          simp (implicitDefEqProofs := false) (disch := omega) only [go_sem, ↓reduceIte, da, db, dc, dd, de]
          refine call0 hRx ?_
          simp (implicitDefEqProofs := false) (disch := omega) only [go_sem, ↓reduceIte]
          refine cut 2 [(2, .int .i64 M), (3, .int .i64 N), (5, .sl (.lst 32 w (way.map dg))), (6, .ref 0 []), (15, .osl 1 [] 1 0 R.length)] [(0, .var (.ints .u8 32 index)), (1, .row (.lst 1 R.length (R.map bsl)))] [(0, 0), (1, 1)] [] [] rfl ?_ ?_ ?_ ?_
          · simp (implicitDefEqProofs := false) (disch := omega) only [go_sem, ↓reduceIte]
          · simp (implicitDefEqProofs := false) (disch := omega) only [go_sem, ↓reduceIte]
          · simp (implicitDefEqProofs := false) (disch := omega) only [go_sem, ↓reduceIte]
          exact key.un
      case rest2 =>
        simp (implicitDefEqProofs := false) (disch := omega) only [go_sem, ↓reduceIte]
        refine brd (fun h => by omega) (fun h => ?_)
        rcases hgc with ⟨hR0, hc⟩ | ⟨hR0, hc⟩
        · subst hR0
          simp (implicitDefEqProofs := false) (disch := omega) only [go_sem, ↓reduceIte]
          refine call0 hc ?_
          simp (implicitDefEqProofs := false) (disch := omega) only [go_sem, ↓reduceIte]
          refine callB same_nil ?_ ?_
          · simp (implicitDefEqProofs := false) (disch := omega) only [go_sem, ↓reduceIte, List.map_nil, List.length_nil]
          simp (implicitDefEqProofs := false) (disch := omega) only [go_sem, ↓reduceIte]
          refine call0 knows23_spec ?_
          simp (implicitDefEqProofs := false) (disch := omega) only [go_sem, ↓reduceIte]
        · have hs := same_rows R R.length rfl (by omega)
          simp (implicitDefEqProofs := false) (disch := omega) only [go_sem, ↓reduceIte]
          refine callF 1 hc ?_
          simp (implicitDefEqProofs := false) (disch := omega) only [go_sem, ↓reduceIte]
          refine callB hs ?_ ?_
          · simp (implicitDefEqProofs := false) (disch := omega) only [go_sem, ↓reduceIte]
          simp (implicitDefEqProofs := false) (disch := omega) only [go_sem, ↓reduceIte]
          refine call0 knows23_spec ?_
          simp (implicitDefEqProofs := false) (disch := omega) only [go_sem, ↓reduceIte]
    · have hgt : FnC Try.prog 47 [.ints .u8 32 index, .int .i64 M, .int .i64 N, .sl (.lst 32 w (way.map dg))] [] .nils [] := by
        by_cases h1 : 1 ≤ M
        · exact growTrail_len index M N way w hi hw (by omega) hway h1 (by omega) (by omega) (fun e => hG ⟨h1, e⟩)
        · exact growTrail_arg index M N way w (by omega)
      refine (fun (key : Wr ?G3) => ?main3) ⟨?rest3⟩
      case main3 =>
        by_cases hMN : M = N
        · have de : decide ((M : Int) = (N : Int)) = true := decide_eq_true (by omega)
          simp (implicitDefEqProofs := false) (disch := omega) only [go_sem, ↓reduceIte]
          refine call0 (textTrail_arg t k N M way w (by omega)) ?_
          simp (implicitDefEqProofs := false) (disch := omega) only [go_sem, ↓reduceIte]
          refine call0 hgt ?_
          simp (implicitDefEqProofs := false) (disch := omega) only [go_sem, ↓reduceIte, da, db, dc, dd, de]
          refine cut 1 [(2, .int .i64 M), (3, .int .i64 N), (5, .sl (.lst 32 w (way.map dg))), (6, .ref 0 []), (15, .nils)] [(0, .var (.ints .u8 32 index))] [(0, 0)] [] [] rfl ?_ ?_ ?_ ?_
          · simp (implicitDefEqProofs := false) (disch := omega) only [go_sem, ↓reduceIte]
          · simp (implicitDefEqProofs := false) (disch := omega) only [go_sem, ↓reduceIte]
          · simp (implicitDefEqProofs := false) (disch := omega) only [go_sem, ↓reduceIte]
          exact key.un
        have de : decide ((M : Int) = (N : Int)) = false := decide_eq_false (by omega)
        by_cases hT : depH N N M = w
        · have hRx := reftext_ok t k hk ht hkl N N M way w (Nat.le_refl _) (by omega) (by omega) (by omega) hw (by omega) hway hT
          have hb := textTrail_ok t k N M way w hk ht hkl hw hway (by omega) (by omega) (by omega) hT
          have hs := same_rows (trailT (leafL t) way N N M ++ [0 :: t]) (w + 1) (by rw [List.length_append, trailT_len, hT, List.length_singleton]) (by omega)
          generalize trailT (leafL t) way N N M ++ [0 :: t] = RT at *
          simp (implicitDefEqProofs := false) (disch := omega) only [go_sem, ↓reduceIte]
          refine callF 1 hb ?_
          simp (implicitDefEqProofs := false) (disch := omega) only [go_sem, ↓reduceIte]
          refine call0 hgt ?_
          simp (implicitDefEqProofs := false) (disch := omega) only [go_sem, ↓reduceIte, da, db, dc, dd, de]
          refine callF 1 hRx ?_
          simp (implicitDefEqProofs := false) (disch := omega) only [go_sem, ↓reduceIte]
          refine callB hs ?_ ?_
          · simp (implicitDefEqProofs := false) (disch := omega) only [go_sem, ↓reduceIte]
          simp (implicitDefEqProofs := false) (disch := omega) only [go_sem, ↓reduceIte]
          refine cut 1 [(2, .int .i64 M), (3, .int .i64 N), (5, .sl (.lst 32 w (way.map dg))), (6, .ref 0 []), (15, .nils)] [(0, .var (.ints .u8 32 index))] [(0, 0)] [] [] rfl ?_ ?_ ?_ ?_
          · simp (implicitDefEqProofs := false) (disch := omega) only [go_sem, ↓reduceIte]
          · simp (implicitDefEqProofs := false) (disch := omega) only [go_sem, ↓reduceIte]
          · simp (implicitDefEqProofs := false) (disch := omega) only [go_sem, ↓reduceIte]
          exact key.un
        have hb := textTrail_len t k N M way w hw (by omega) (by omega) (by omega) hT
        by_cases h1 : N = 1
        · have hM0 : M = 0 := by omega
          have hw0 : w ≠ 0 := fun e => hT (by rw [h1, hM0, e]; rfl)
          have hRx : FnC Try.prog 48 [.int .i64 N, .int .i64 M, .sl (.ints .u8 k t), .sl (.lst 32 w (way.map dg))] [] (.tup [.osl 0 [] 1 0 1, .bool false]) [(0, .row (.lst 1 1 [bsl (0 :: t)]))] := by
            have := text1_spec t k hk hkl way w M hw (by omega)
            rw [decide_eq_false hw0] at this
            rw [h1]
            exact this
          simp (implicitDefEqProofs := false) (disch := omega) only [go_sem, ↓reduceIte]
          refine call0 hb ?_
          simp (implicitDefEqProofs := false) (disch := omega) only [go_sem, ↓reduceIte]
          refine call0 hgt ?_
          simp (implicitDefEqProofs := false) (disch := omega) only [go_sem, ↓reduceIte, da, db, dc, dd, de]
          refine callF 1 hRx ?_
          simp (implicitDefEqProofs := false) (disch := omega) only [go_sem, ↓reduceIte]
          refine cut 1 [(2, .int .i64 M), (3, .int .i64 N), (5, .sl (.lst 32 w (way.map dg))), (6, .ref 0 []), (15, .nils)] [(0, .var (.ints .u8 32 index))] [(0, 0)] [] [] rfl ?_ ?_ ?_ ?_
          · simp (implicitDefEqProofs := false) (disch := omega) only [go_sem, ↓reduceIte]
          · simp (implicitDefEqProofs := false) (disch := omega) only [go_sem, ↓reduceIte]
          · simp (implicitDefEqProofs := false) (disch := omega) only [go_sem, ↓reduceIte]
          exact key.un
        · have hRx := reftext_bad t k hk hkl N N M way w (Nat.le_refl _) (by omega) (by omega) (by omega) hw (by omega) hway hT
          simp (implicitDefEqProofs := false) (disch := omega) only [go_sem, ↓reduceIte]
          refine call0 hb ?_
          simp (implicitDefEqProofs := false) (disch := omega) only [go_sem, ↓reduceIte]
          refine call0 hgt ?_
          simp (implicitDefEqProofs := false) (disch := omega) only [go_sem, ↓reduceIte, da, db, dc, dd, de]
          refine call0 hRx ?_
          simp (implicitDefEqProofs := false) (disch := omega) only [go_sem, ↓reduceIte]
          refine cut 1 [(2, .int .i64 M), (3, .int .i64 N), (5, .sl (.lst 32 w (way.map dg))), (6, .ref 0 []), (15, .nils)] [(0, .var (.ints .u8 32 index))] [(0, 0)] [] [] rfl ?_ ?_ ?_ ?_
          · simp (implicitDefEqProofs := false) (disch := omega) only [go_sem, ↓reduceIte]
          · simp (implicitDefEqProofs := false) (disch := omega) only [go_sem, ↓reduceIte]
          · simp (implicitDefEqProofs := false) (disch := omega) only [go_sem, ↓reduceIte]
          exact key.un
      case rest3 =>
        simp (implicitDefEqProofs := false) (disch := omega) only [go_sem, ↓reduceIte]
        refine brd (fun h => ?_) (fun h => ?_)
        · simp (implicitDefEqProofs := false) (disch := omega) only [go_sem, ↓reduceIte]
          refine call0 knows23_spec ?_
          simp (implicitDefEqProofs := false) (disch := omega) only [go_sem, ↓reduceIte]
        obtain ⟨d, R, hd, hRl, hR, hgc⟩ := hgs (by omega)
        rw [decide_eq_false (fun e => hG ⟨by omega, e⟩)] at hgc
        rcases hgc with ⟨hR0, hc⟩ | ⟨hR0, hc⟩
        · simp (implicitDefEqProofs := false) (disch := omega) only [go_sem, ↓reduceIte]
          refine call0 hc ?_
          simp (implicitDefEqProofs := false) (disch := omega) only [go_sem, ↓reduceIte]
          refine call0 knows23_spec ?_
          simp (implicitDefEqProofs := false) (disch := omega) only [go_sem, ↓reduceIte]
        · simp (implicitDefEqProofs := false) (disch := omega) only [go_sem, ↓reduceIte]
          refine callF 1 hc ?_
          simp (implicitDefEqProofs := false) (disch := omega) only [go_sem, ↓reduceIte]
          refine call0 knows23_spec ?_
          simp (implicitDefEqProofs := false) (disch := omega) only [go_sem, ↓reduceIte]
end
end Go.Proofs.Ytegbkbkcfcjkbaa
