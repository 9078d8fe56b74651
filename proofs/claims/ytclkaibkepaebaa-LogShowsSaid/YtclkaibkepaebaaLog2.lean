/- Ways of logs: the contracts of log.Root, reversed, Way, From, and of planchetref19.Way and From. -/
import Derived.Test.YtclkaibkepaebaaLog
import Derived.Test.YtclkaibkepaebaaTree4
namespace Go.Proofs.Ytclkaibkepaebaa
open Go Go.Sy Go.Proofs.Try
set_option maxRecDepth 100000
set_option maxHeartbeats 8000000
set_option linter.unusedSimpArgs false
set_option linter.unusedVariables false
attribute [go_sem] pl30 pl31 pl34 pl35
theorem logroot_spec (l : List (List Int)) (n : Nat) (hn : l.length = n) (h2 : n ≤ 200) (ht : textsP l) : FnC Try.prog 29 [.sl (.lst 1 n (l.map bsl))] [] (.tup [.ints .u8 32 (rg l 0 n), .int .i64 0]) [] := by
  refine fn0 mix [] 0 1 [.cell 2 25, .tmp 3] Try.func29 rfl (by kernel_rfl) (by kernel_rfl) rfl (by kernel_rfl) (by kernel_rfl) (by simp) ?_
  simp (implicitDefEqProofs := false) (disch := omega) only [go_sem, ↓reduceIte]
  refine brd (fun h => by omega) (fun h => ?_)
  simp (implicitDefEqProofs := false) (disch := omega) only [go_sem, ↓reduceIte]
  refine call0 (root_spec19 l n hn (by omega) ht) ?_
  simp (implicitDefEqProofs := false) (disch := omega) only [go_sem, ↓reduceIte]
theorem logroot_full_spec (l : List (List Int)) (n : Nat) (h2 : 200 < n) : FnC Try.prog 29 [.sl (.lst 1 n (l.map bsl))] [] (.tup [.ints .u8 32 (List.replicate 32 0), .int .i64 3]) [] := by
  refine fn0 mix [] 0 1 [.cell 2 25, .tmp 3] Try.func29 rfl (by kernel_rfl) (by kernel_rfl) rfl (by kernel_rfl) (by kernel_rfl) (by simp) ?_
  simp (implicitDefEqProofs := false) (disch := omega) only [go_sem, ↓reduceIte]
  refine brd (fun h => ?_) (fun h => by omega)
  simp (implicitDefEqProofs := false) (disch := omega) only [go_sem, ↓reduceIte]
theorem reversed_spec (ds : List (List Int)) (n : Nat) (hn : ds.length = n) (h : n ≤ 1000) : FnC Try.prog 86 [.sl (.lst 32 n (ds.map dg))] [] (.osl 0 [] 32 0 n) [(0, .row (.lst 32 n (ds.reverse.map dg)))] := by
  have hle : (ds.map dg).length = n := by rw [List.length_map, hn]
  refine fnN mix [] 0 1 [.tmp 2] Try.func86 rfl (by kernel_rfl) (by kernel_rfl) rfl (by kernel_rfl) (by kernel_rfl) (by simp) ?_
  simp (implicitDefEqProofs := false) (disch := omega) only [go_sem, ↓reduceIte]
  refine loop (ι := Nat) 1 (fun c => c ≤ n) (fun c => [(0, .sl (.lst 32 n (ds.map dg))), (3, .osl 0 [] 32 0 c), (4, .int .i64 ((n : Int) - 1 - c))])
    (fun c => [(0, .row (.lst 32 c ((ds.reverse.take c).map dg)))]) (fun c => n - c) 0 [] [0] (Nat.zero_le _) rfl ?_ ?_ ?_ (fun c hc => ?_)
  · simp (implicitDefEqProofs := false) (disch := omega) only [go_sem, ↓reduceIte]
  · simp (implicitDefEqProofs := false) (disch := omega) only [go_sem, ↓reduceIte, List.take_zero, List.map_nil]
  · simp (implicitDefEqProofs := false) (disch := omega) only [go_sem, ↓reduceIte, List.take_zero, List.map_nil]
  simp (implicitDefEqProofs := false) (disch := omega) only [go_sem, ↓reduceIte]
  refine brd (fun h2 => ?_) (fun h2 => ?_)
  · have hcl : c < n := by omega
    have hd := getD_some' (row := ds) (i := n - 1 - c) (by omega)
    have hg0 := fun K => getP_map (f := dg) hd K
    have i2 : ((n : Int) - 1 - c).toNat = n - 1 - c := by omega
    have i3 : (n : Int) - 1 - c - 1 = (n : Int) - 1 - ((c : Int) + 1) := by omega
    have hr : ds.reverse[c]? = some (ds.getD (n - 1 - c) []) := by
      rw [List.getElem?_reverse (by omega), hn, hd]
    have ht := take_next' hr
    simp (implicitDefEqProofs := false) (disch := omega) only [go_sem, ↓reduceIte, i2, hg0, dg, hle]
    refine ⟨c + 1, [(0, 2)], [], [], by dsimp only; omega, by dsimp only; omega, rfl, ?_, ?_, ?_⟩ <;> simp (implicitDefEqProofs := false) (disch := omega) only [go_sem, ↓reduceIte, i3, ht, List.map_append, dg]
  · obtain rfl : c = n := by omega
    have ht : ds.reverse.take c = ds.reverse := List.take_of_length_le (by rw [List.length_reverse]; omega)
    simp (implicitDefEqProofs := false) (disch := omega) only [go_sem, ↓reduceIte]
    refine ⟨[(0, 0)], [], [], rfl, ?_, ?_, ?_⟩ <;> simp (implicitDefEqProofs := false) (disch := omega) only [go_sem, ↓reduceIte, ht]
/-- The way of a place: the nearest first. -/
def wayF : Nat → List (List Int) → Nat → List (List Int)
  | 0, _, _ => []
  | f + 1, l, i => if l.length ≤ 1 then [] else if i < halfN l.length then wayF f (l.take (halfN l.length)) i ++ [rg (l.drop (halfN l.length)) 0 (l.length - halfN l.length)]
    else wayF f (l.drop (halfN l.length)) (i - halfN l.length) ++ [rg (l.take (halfN l.length)) 0 (halfN l.length)]
theorem wayF_len : ∀ (f : Nat) (l : List (List Int)) (i : Nat), (wayF f l i).length ≤ f
  | 0, _, _ => Nat.le_refl _
  | f + 1, l, i => by
    rw [wayF]
    split
    · exact Nat.zero_le _
    · split
      · rw [List.length_append, List.length_singleton]; have := wayF_len f (l.take (halfN l.length)) i; omega
      · rw [List.length_append, List.length_singleton]; have := wayF_len f (l.drop (halfN l.length)) (i - halfN l.length); omega
theorem way_arg_spec (l : List (List Int)) (n : Nat) (i : Int) (h2 : n ≤ 200) (hi : i < 0 ∨ (n : Int) ≤ i) : FnC Try.prog 30 [.sl (.lst 1 n (l.map bsl)), .int .i64 i] [] (.tup [.nils, .int .i64 1]) [] := by
  refine fn0 mix pl30 0 2 [.tmp 4, .tmp 5] Try.func30 rfl (by kernel_rfl) (by kernel_rfl) rfl (by kernel_rfl) (by kernel_rfl) (by simp) ?_
  simp (implicitDefEqProofs := false) (disch := omega) only [go_sem, ↓reduceIte]
  refine brd (fun h => by omega) (fun h => ?_)
  simp (implicitDefEqProofs := false) (disch := omega) only [go_sem, ↓reduceIte]
  refine brd (fun h => ?_) (fun h => ?_)
  · simp (implicitDefEqProofs := false) (disch := omega) only [go_sem, ↓reduceIte]
  simp (implicitDefEqProofs := false) (disch := omega) only [go_sem, ↓reduceIte]
  refine brd (fun h => ?_) (fun h => by omega)
  simp (implicitDefEqProofs := false) (disch := omega) only [go_sem, ↓reduceIte]
theorem way_full_spec (l : List (List Int)) (n : Nat) (i : Int) (h2 : 200 < n) : FnC Try.prog 30 [.sl (.lst 1 n (l.map bsl)), .int .i64 i] [] (.tup [.nils, .int .i64 3]) [] := by
  refine fn0 mix pl30 0 2 [.tmp 4, .tmp 5] Try.func30 rfl (by kernel_rfl) (by kernel_rfl) rfl (by kernel_rfl) (by kernel_rfl) (by simp) ?_
  simp (implicitDefEqProofs := false) (disch := omega) only [go_sem, ↓reduceIte]
  refine brd (fun h => ?_) (fun h => by omega)
  simp (implicitDefEqProofs := false) (disch := omega) only [go_sem, ↓reduceIte]
theorem way_ok_spec (l : List (List Int)) (n i : Nat) (hn : l.length = n) (h2 : n ≤ 200) (hi : i < n) (ht : textsP l) : FnC Try.prog 30 [.sl (.lst 1 n (l.map bsl)), .int .i64 i] [] (.tup [.osl 0 [] 32 0 (wayF n l i).length, .int .i64 0]) [(0, .row (.lst 32 (wayF n l i).length ((wayF n l i).map dg)))] := by
  have hwl := wayF_len n l i
  generalize hW : wayF n l i = W at *
  refine fnN mix pl30 0 2 [.tmp 4, .tmp 5] Try.func30 rfl (by kernel_rfl) (by kernel_rfl) rfl (by kernel_rfl) (by kernel_rfl) (by simp) ?_
  simp (implicitDefEqProofs := false) (disch := omega) only [go_sem, ↓reduceIte]
  refine brd (fun h => by omega) (fun h => ?_)
  simp (implicitDefEqProofs := false) (disch := omega) only [go_sem, ↓reduceIte]
  refine brd (fun h => by omega) (fun h => ?_)
  simp (implicitDefEqProofs := false) (disch := omega) only [go_sem, ↓reduceIte]
  refine brd (fun h => by omega) (fun h => ?_)
  simp (implicitDefEqProofs := false) (disch := omega) only [go_sem, ↓reduceIte]
  refine loop (ι := List (List Int) × Nat × Nat × List (List Int) × Nat) 1 (fun k => k.1.length = k.2.1 ∧ k.2.2.1 < k.2.1 ∧ k.2.1 ≤ k.2.2.2.2 ∧ k.2.2.2.2 ≤ n ∧ textsP k.1 ∧ wayF k.2.2.2.2 k.1 k.2.2.1 ++ k.2.2.2.1.reverse = W)
    (fun k => [(0, .sl (.lst 1 k.2.1 (k.1.map bsl))), (1, .int .i64 k.2.2.1), (6, .osl 0 [] 32 0 k.2.2.2.1.length)])
    (fun k => [(0, .row (.lst 32 k.2.2.2.1.length (k.2.2.2.1.map dg)))]) (fun k => k.2.1) (l, n, i, [], n) [] [0] ⟨hn, hi, Nat.le_refl _, Nat.le_refl _, ht, by dsimp only; rw [List.reverse_nil, List.append_nil]; exact hW⟩ rfl ?_ ?_ ?_ (fun k hk => ?_)
  · simp (implicitDefEqProofs := false) (disch := omega) only [go_sem, ↓reduceIte, List.length_nil]
  · simp (implicitDefEqProofs := false) (disch := omega) only [go_sem, ↓reduceIte, List.length_nil]
  · simp (implicitDefEqProofs := false) (disch := omega) only [go_sem, ↓reduceIte, List.length_nil, List.map_nil]
  obtain ⟨L, N, j, out, f⟩ := k
  obtain ⟨hN, q2, q3, q4, q5, q6⟩ := hk
  dsimp only at hN q2 q3 q4 q5 q6 ⊢
  have hob : out.length ≤ n := by
    have := congrArg List.length q6
    simp only [List.length_append, List.length_reverse] at this
    omega
  simp (implicitDefEqProofs := false) (disch := omega) only [go_sem, ↓reduceIte]
  refine brd (fun h1 => ?_) (fun h1 => ?_)
  · have hN2 := hN
    have hk := halfN_lt (show 2 ≤ N by omega)
    have n1 : ¬ halfN N = N := by omega
    have n2 : ¬ N - halfN N = N := by omega
    have n3 : ¬ halfN N = 0 := by omega
    have hlm : (L.map bsl).length = N := by rw [List.length_map, hN]
    have etk : ((L.map bsl).drop (halfN N)).take (N - halfN N) = (L.map bsl).drop (halfN N) := List.take_of_length_le (by rw [List.length_drop, hlm]; exact Nat.le_refl _)
    have l1 : (L.take (halfN N)).length = halfN N := by rw [List.length_take]; omega
    have l2 : (L.drop (halfN N)).length = N - halfN N := by rw [List.length_drop]; omega
    obtain ⟨f, rfl⟩ : ∃ f', f = f' + 1 := ⟨f - 1, by omega⟩
    rw [wayF, hN, if_neg (by omega)] at q6
    have r1 := root_spec19 (L.take (halfN N)) (halfN N) l1 (by omega) (textsP_take q5 _)
    have r2 := root_spec19 (L.drop (halfN N)) (N - halfN N) l2 (by omega) (textsP_drop q5 _)
    rw [List.map_take] at r1
    rw [List.map_drop] at r2
    simp (implicitDefEqProofs := false) (disch := omega) only [go_sem, ↓reduceIte]
    refine call0 (half_spec N (by omega) (by omega)) ?_
    simp (implicitDefEqProofs := false) (disch := omega) only [go_sem, ↓reduceIte]
    refine brd (fun h3 => ?_) (fun h3 => ?_)
    · rw [if_pos (by omega)] at q6
      simp (implicitDefEqProofs := false) (disch := omega) only [go_sem, ↓reduceIte, n1, n2, n3, etk]
      refine call0 r2 ?_
      simp (implicitDefEqProofs := false) (disch := omega) only [go_sem, ↓reduceIte, n1, n2, n3, etk]
      have b6 : wayF f (L.take (halfN N)) j ++ (out ++ [rg (L.drop (halfN N)) 0 (N - halfN N)]).reverse = W := by rw [← q6]; simp
      refine ⟨(L.take (halfN N), halfN N, j, out ++ [rg (L.drop (halfN N)) 0 (N - halfN N)], f), [(0, 2)], [], [], ⟨l1, by dsimp only; omega, by dsimp only; omega, by dsimp only; omega, textsP_take q5 _, b6⟩, by dsimp only; omega, rfl, ?_, ?_, ?_⟩ <;> simp (implicitDefEqProofs := false) (disch := omega) only [go_sem, ↓reduceIte, List.map_take, List.map_append, dg, List.length_append, List.length_singleton]
    · rw [if_neg (by omega)] at q6
      have i3 : (j : Int) - (halfN N : Int) = ((j - halfN N : Nat) : Int) := by omega
      simp (implicitDefEqProofs := false) (disch := omega) only [go_sem, ↓reduceIte, n1, n2, n3, etk]
      refine call0 r1 ?_
      simp (implicitDefEqProofs := false) (disch := omega) only [go_sem, ↓reduceIte, n1, n2, n3, etk, i3]
      have b6 : wayF f (L.drop (halfN N)) (j - halfN N) ++ (out ++ [rg (L.take (halfN N)) 0 (halfN N)]).reverse = W := by rw [← q6]; simp
      refine ⟨(L.drop (halfN N), N - halfN N, j - halfN N, out ++ [rg (L.take (halfN N)) 0 (halfN N)], f), [(0, 2)], [], [], ⟨l2, by dsimp only; omega, by dsimp only; omega, by dsimp only; omega, textsP_drop q5 _, b6⟩, by dsimp only; omega, rfl, ?_, ?_, ?_⟩ <;> simp (implicitDefEqProofs := false) (disch := omega) only [go_sem, ↓reduceIte, List.map_drop, List.map_append, dg, List.length_append, List.length_singleton, i3]
  · obtain ⟨f, rfl⟩ : ∃ f', f = f' + 1 := ⟨f - 1, by omega⟩
    rw [wayF, hN, if_pos (by omega), List.nil_append] at q6
    have hol : W.length = out.length := by rw [← q6, List.length_reverse]
    have hrv := reversed_spec out _ rfl (by omega)
    rw [q6] at hrv
    simp (implicitDefEqProofs := false) (disch := omega) only [go_sem, ↓reduceIte]
    refine callBF 1 hrv (hq := by simp [OB.pf, AV.pf, pf_dg]) ?_ ?_
    · simp (implicitDefEqProofs := false) (disch := omega) only [go_sem, ↓reduceIte]
    simp (implicitDefEqProofs := false) (disch := omega) only [go_sem, ↓reduceIte]
    refine ⟨[(0, 1)], [], [], rfl, ?_, ?_, ?_⟩ <;> simp (implicitDefEqProofs := false) (disch := omega) only [go_sem, ↓reduceIte, hol]
theorem refway_spec19 : ∀ (f : Nat) (L : List (List Int)) (N i : Nat), L.length = N → N ≤ f → f ≤ 1000 → i < N → textsP L → FnC Try.prog 34 [.sl (.lst 1 N (L.map bsl)), .int .i64 i] [] (.osl 0 [] 32 0 (wayF f L i).length) [(0, .row (.lst 32 (wayF f L i).length ((wayF f L i).map dg)))] := by
  intro f
  induction f with
  | zero => intro L N i hN h1 h2 h3; omega
  | succ f ih =>
    intro L N i hN h1 h2 h3 ht
    rw [wayF, hN]
    refine fnN mix pl34 0 2 [.tmp 4] Try.func34 rfl (by kernel_rfl) (by kernel_rfl) rfl (by kernel_rfl) (by kernel_rfl) (by simp) ?_
    simp (implicitDefEqProofs := false) (disch := omega) only [go_sem, ↓reduceIte]
    refine brd (fun h => ?_) (fun h => ?_)
    · rw [if_pos (by omega)]
      simp (implicitDefEqProofs := false) (disch := omega) only [go_sem, ↓reduceIte]
      refine ⟨[], [0], [], rfl, ?_, ?_, ?_⟩ <;> simp (implicitDefEqProofs := false) (disch := omega) only [go_sem, ↓reduceIte, List.length_nil, List.map_nil]
    rw [if_neg (by omega)]
    have hk := halfN_lt (show 2 ≤ N by omega)
    have n1 : ¬ halfN N = N := by omega
    have n2 : ¬ N - halfN N = N := by omega
    have n3 : ¬ halfN N = 0 := by omega
    have hlm : (L.map bsl).length = N := by rw [List.length_map, hN]
    have etk : ((L.map bsl).drop (halfN N)).take (N - halfN N) = (L.map bsl).drop (halfN N) := List.take_of_length_le (by rw [List.length_drop, hlm]; exact Nat.le_refl _)
    have l1 : (L.take (halfN N)).length = halfN N := by rw [List.length_take]; omega
    have l2 : (L.drop (halfN N)).length = N - halfN N := by rw [List.length_drop]; omega
    have r1 := refroot_spec _ (L.take (halfN N)) (halfN N) l1 (Nat.le_refl _) (by omega) (textsP_take ht _)
    have r2 := refroot_spec _ (L.drop (halfN N)) (N - halfN N) l2 (Nat.le_refl _) (by omega) (textsP_drop ht _)
    rw [List.map_take] at r1
    rw [List.map_drop] at r2
    simp (implicitDefEqProofs := false) (disch := omega) only [go_sem, ↓reduceIte]
    refine call0 (refhalf_spec N N (Nat.le_refl _) (by omega) (by omega)) ?_
    simp (implicitDefEqProofs := false) (disch := omega) only [go_sem, ↓reduceIte]
    refine brd (fun h4 => ?_) (fun h4 => ?_)
    · rw [if_pos (by omega)]
      have hwn := wayF_len f (L.take (halfN N)) i
      have hw := ih (L.take (halfN N)) (halfN N) i l1 (by omega) (by omega) (by omega) (textsP_take ht _)
      rw [List.map_take] at hw
      simp (implicitDefEqProofs := false) (disch := omega) only [go_sem, ↓reduceIte, n1, n2, n3, etk]
      refine callF 1 hw ?_
      simp (implicitDefEqProofs := false) (disch := omega) only [go_sem, ↓reduceIte, n1, n2, n3, etk]
      refine call0 r2 ?_
      simp (implicitDefEqProofs := false) (disch := omega) only [go_sem, ↓reduceIte]
      refine ⟨[(0, 2)], [], [], rfl, ?_, ?_, ?_⟩ <;> simp (implicitDefEqProofs := false) (disch := omega) only [go_sem, ↓reduceIte, List.map_append, dg, List.length_append, List.length_singleton]
    · rw [if_neg (by omega)]
      have i3 : (i : Int) - (halfN N : Int) = ((i - halfN N : Nat) : Int) := by omega
      have hwn := wayF_len f (L.drop (halfN N)) (i - halfN N)
      have hw := ih (L.drop (halfN N)) (N - halfN N) (i - halfN N) l2 (by omega) (by omega) (by omega) (textsP_drop ht _)
      rw [List.map_drop] at hw
      simp (implicitDefEqProofs := false) (disch := omega) only [go_sem, ↓reduceIte, n1, n2, n3, etk, i3]
      refine callF 1 hw ?_
      simp (implicitDefEqProofs := false) (disch := omega) only [go_sem, ↓reduceIte, n1, n2, n3, etk]
      refine call0 r1 ?_
      simp (implicitDefEqProofs := false) (disch := omega) only [go_sem, ↓reduceIte]
      refine ⟨[(0, 2)], [], [], rfl, ?_, ?_, ?_⟩ <;> simp (implicitDefEqProofs := false) (disch := omega) only [go_sem, ↓reduceIte, List.map_append, dg, List.length_append, List.length_singleton]
/-- The way from a beginning: the nearest first. -/
def fromF : Nat → List (List Int) → Nat → Bool → List (List Int)
  | 0, _, _, _ => []
  | f + 1, l, m, cut => if m = l.length then (if cut = true then [rg l 0 l.length] else []) else if m ≤ halfN l.length then fromF f (l.take (halfN l.length)) m cut ++ [rg (l.drop (halfN l.length)) 0 (l.length - halfN l.length)]
    else fromF f (l.drop (halfN l.length)) (m - halfN l.length) true ++ [rg (l.take (halfN l.length)) 0 (halfN l.length)]
theorem fromF_len : ∀ (f : Nat) (l : List (List Int)) (m : Nat) (cut : Bool), (fromF f l m cut).length ≤ f
  | 0, _, _, _ => Nat.le_refl _
  | f + 1, l, m, cut => by
    rw [fromF]
    split
    · split
      · rw [List.length_singleton]; omega
      · exact Nat.zero_le _
    · split
      · rw [List.length_append, List.length_singleton]; have := fromF_len f (l.take (halfN l.length)) m cut; omega
      · rw [List.length_append, List.length_singleton]; have := fromF_len f (l.drop (halfN l.length)) (m - halfN l.length) true; omega
theorem from_arg_spec (l : List (List Int)) (n : Nat) (m : Int) (h2 : n ≤ 200) (hm : m < 1 ∨ (n : Int) < m) : FnC Try.prog 31 [.sl (.lst 1 n (l.map bsl)), .int .i64 m] [] (.tup [.nils, .int .i64 1]) [] := by
  refine fn0 mix pl31 0 2 [.tmp 4, .tmp 5] Try.func31 rfl (by kernel_rfl) (by kernel_rfl) rfl (by kernel_rfl) (by kernel_rfl) (by simp) ?_
  simp (implicitDefEqProofs := false) (disch := omega) only [go_sem, ↓reduceIte]
  refine brd (fun h => by omega) (fun h => ?_)
  simp (implicitDefEqProofs := false) (disch := omega) only [go_sem, ↓reduceIte]
  refine brd (fun h => ?_) (fun h => ?_)
  · simp (implicitDefEqProofs := false) (disch := omega) only [go_sem, ↓reduceIte]
  simp (implicitDefEqProofs := false) (disch := omega) only [go_sem, ↓reduceIte]
  refine brd (fun h => ?_) (fun h => by omega)
  simp (implicitDefEqProofs := false) (disch := omega) only [go_sem, ↓reduceIte]
theorem from_full_spec (l : List (List Int)) (n : Nat) (m : Int) (h2 : 200 < n) : FnC Try.prog 31 [.sl (.lst 1 n (l.map bsl)), .int .i64 m] [] (.tup [.nils, .int .i64 3]) [] := by
  refine fn0 mix pl31 0 2 [.tmp 4, .tmp 5] Try.func31 rfl (by kernel_rfl) (by kernel_rfl) rfl (by kernel_rfl) (by kernel_rfl) (by simp) ?_
  simp (implicitDefEqProofs := false) (disch := omega) only [go_sem, ↓reduceIte]
  refine brd (fun h => ?_) (fun h => by omega)
  simp (implicitDefEqProofs := false) (disch := omega) only [go_sem, ↓reduceIte]
theorem from_ok_spec (l : List (List Int)) (n m : Nat) (hn : l.length = n) (h2 : n ≤ 200) (hm1 : 1 ≤ m) (hm : m ≤ n) (ht : textsP l) : FnC Try.prog 31 [.sl (.lst 1 n (l.map bsl)), .int .i64 m] [] (.tup [.osl 0 [] 32 0 (fromF n l m false).length, .int .i64 0]) [(0, .row (.lst 32 (fromF n l m false).length ((fromF n l m false).map dg)))] := by
  have hwl := fromF_len n l m false
  generalize hW : fromF n l m false = W at *
  refine fnN mix pl31 0 2 [.tmp 4, .tmp 5] Try.func31 rfl (by kernel_rfl) (by kernel_rfl) rfl (by kernel_rfl) (by kernel_rfl) (by simp) ?_
  simp (implicitDefEqProofs := false) (disch := omega) only [go_sem, ↓reduceIte]
  refine brd (fun h => by omega) (fun h => ?_)
  simp (implicitDefEqProofs := false) (disch := omega) only [go_sem, ↓reduceIte]
  refine brd (fun h => by omega) (fun h => ?_)
  simp (implicitDefEqProofs := false) (disch := omega) only [go_sem, ↓reduceIte]
  refine brd (fun h => by omega) (fun h => ?_)
  simp (implicitDefEqProofs := false) (disch := omega) only [go_sem, ↓reduceIte]
  refine loop (ι := List (List Int) × Nat × Nat × List (List Int) × Nat × Bool) 1 (fun k => k.1.length = k.2.1 ∧ (1 ≤ k.2.2.1 ∧ k.2.2.1 ≤ k.2.1) ∧ k.2.1 ≤ k.2.2.2.2.1 ∧ k.2.2.2.2.1 ≤ n ∧ textsP k.1 ∧ fromF k.2.2.2.2.1 k.1 k.2.2.1 k.2.2.2.2.2 ++ k.2.2.2.1.reverse = W)
    (fun k => [(0, .sl (.lst 1 k.2.1 (k.1.map bsl))), (1, .int .i64 k.2.2.1), (6, .osl 0 [] 32 0 k.2.2.2.1.length), (7, .bool k.2.2.2.2.2)])
    (fun k => [(0, .row (.lst 32 k.2.2.2.1.length (k.2.2.2.1.map dg)))]) (fun k => k.2.1) (l, n, m, [], n, false) [] [0] ⟨hn, ⟨hm1, hm⟩, Nat.le_refl _, Nat.le_refl _, ht, by dsimp only; rw [List.reverse_nil, List.append_nil]; exact hW⟩ rfl ?_ ?_ ?_ (fun k hk => ?_)
  · simp (implicitDefEqProofs := false) (disch := omega) only [go_sem, ↓reduceIte, List.length_nil]
  · simp (implicitDefEqProofs := false) (disch := omega) only [go_sem, ↓reduceIte, List.length_nil]
  · simp (implicitDefEqProofs := false) (disch := omega) only [go_sem, ↓reduceIte, List.length_nil, List.map_nil]
  obtain ⟨L, N, j, out, f, cut⟩ := k
  obtain ⟨hN, q2, q3, q4, q5, q6⟩ := hk
  dsimp only at hN q2 q3 q4 q5 q6 ⊢
  obtain ⟨q2a, q2b⟩ := q2
  have hob : out.length ≤ n := by
    have := congrArg List.length q6
    simp only [List.length_append, List.length_reverse] at this
    omega
  obtain ⟨f, rfl⟩ : ∃ f', f = f' + 1 := ⟨f - 1, by omega⟩
  rw [fromF, hN] at q6
  simp (implicitDefEqProofs := false) (disch := omega) only [go_sem, ↓reduceIte]
  refine brd (fun h1 => ?_) (fun h1 => ?_)
  · have hN2 := hN
    rw [if_neg (by omega)] at q6
    have hk := halfN_lt (show 2 ≤ N by omega)
    have n1 : ¬ halfN N = N := by omega
    have n2 : ¬ N - halfN N = N := by omega
    have n3 : ¬ halfN N = 0 := by omega
    have hlm : (L.map bsl).length = N := by rw [List.length_map, hN]
    have etk : ((L.map bsl).drop (halfN N)).take (N - halfN N) = (L.map bsl).drop (halfN N) := List.take_of_length_le (by rw [List.length_drop, hlm]; exact Nat.le_refl _)
    have l1 : (L.take (halfN N)).length = halfN N := by rw [List.length_take]; omega
    have l2 : (L.drop (halfN N)).length = N - halfN N := by rw [List.length_drop]; omega
    have r1 := root_spec19 (L.take (halfN N)) (halfN N) l1 (by omega) (textsP_take q5 _)
    have r2 := root_spec19 (L.drop (halfN N)) (N - halfN N) l2 (by omega) (textsP_drop q5 _)
    rw [List.map_take] at r1
    rw [List.map_drop] at r2
    simp (implicitDefEqProofs := false) (disch := omega) only [go_sem, ↓reduceIte]
    refine call0 (half_spec N (by omega) (by omega)) ?_
    simp (implicitDefEqProofs := false) (disch := omega) only [go_sem, ↓reduceIte]
    refine brd (fun h3 => ?_) (fun h3 => ?_)
    · rw [if_pos (by omega)] at q6
      simp (implicitDefEqProofs := false) (disch := omega) only [go_sem, ↓reduceIte, n1, n2, n3, etk]
      refine call0 r2 ?_
      simp (implicitDefEqProofs := false) (disch := omega) only [go_sem, ↓reduceIte, n1, n2, n3, etk]
      have b6 : fromF f (L.take (halfN N)) j cut ++ (out ++ [rg (L.drop (halfN N)) 0 (N - halfN N)]).reverse = W := by rw [← q6]; simp
      refine ⟨(L.take (halfN N), halfN N, j, out ++ [rg (L.drop (halfN N)) 0 (N - halfN N)], f, cut), [(0, 2)], [], [], ⟨l1, ⟨q2a, by dsimp only; omega⟩, by dsimp only; omega, by dsimp only; omega, textsP_take q5 _, b6⟩, by dsimp only; omega, rfl, ?_, ?_, ?_⟩ <;> simp (implicitDefEqProofs := false) (disch := omega) only [go_sem, ↓reduceIte, List.map_take, List.map_append, dg, List.length_append, List.length_singleton]
    · rw [if_neg (by omega)] at q6
      have i3 : (j : Int) - (halfN N : Int) = ((j - halfN N : Nat) : Int) := by omega
      simp (implicitDefEqProofs := false) (disch := omega) only [go_sem, ↓reduceIte, n1, n2, n3, etk]
      refine call0 r1 ?_
      simp (implicitDefEqProofs := false) (disch := omega) only [go_sem, ↓reduceIte, n1, n2, n3, etk, i3]
      have b6 : fromF f (L.drop (halfN N)) (j - halfN N) true ++ (out ++ [rg (L.take (halfN N)) 0 (halfN N)]).reverse = W := by rw [← q6]; simp
      refine ⟨(L.drop (halfN N), N - halfN N, j - halfN N, out ++ [rg (L.take (halfN N)) 0 (halfN N)], f, true), [(0, 2)], [], [], ⟨l2, ⟨by dsimp only; omega, by dsimp only; omega⟩, by dsimp only; omega, by dsimp only; omega, textsP_drop q5 _, b6⟩, by dsimp only; omega, rfl, ?_, ?_, ?_⟩ <;> simp (implicitDefEqProofs := false) (disch := omega) only [go_sem, ↓reduceIte, List.map_drop, List.map_append, dg, List.length_append, List.length_singleton, i3]
  · rw [if_pos (by omega)] at q6
    have r0 := root_spec19 L N hN (by omega) q5
    cases cut
    · rw [if_neg (by decide), List.nil_append] at q6
      have hol : W.length = out.length := by rw [← q6, List.length_reverse]
      have hrv := reversed_spec out _ rfl (by omega)
      rw [q6] at hrv
      simp (implicitDefEqProofs := false) (disch := omega) only [go_sem, ↓reduceIte]
      refine callBF 1 hrv (hq := by simp [OB.pf, AV.pf, pf_dg]) ?_ ?_
      · simp (implicitDefEqProofs := false) (disch := omega) only [go_sem, ↓reduceIte]
      simp (implicitDefEqProofs := false) (disch := omega) only [go_sem, ↓reduceIte]
      refine ⟨[(0, 1)], [], [], rfl, ?_, ?_, ?_⟩ <;> simp (implicitDefEqProofs := false) (disch := omega) only [go_sem, ↓reduceIte, hol]
    · rw [if_pos rfl] at q6
      have hol : W.length = out.length + 1 := by rw [← q6]; simp
      have hrv := reversed_spec (out ++ [rg L 0 N]) (out.length + 1) (by simp) (by omega)
      have e6 : (out ++ [rg L 0 N]).reverse = W := by rw [← q6]; simp
      have em : (out ++ [rg L 0 N]).map dg = out.map dg ++ [.ints .u8 32 (rg L 0 N)] := by rw [List.map_append]; rfl
      rw [e6, em] at hrv
      simp (implicitDefEqProofs := false) (disch := omega) only [go_sem, ↓reduceIte]
      refine call0 r0 ?_
      simp (implicitDefEqProofs := false) (disch := omega) only [go_sem, ↓reduceIte]
      refine callBF 1 hrv (hq := by simp [OB.pf, AV.pf, pf_dg]) ?_ ?_
      · simp (implicitDefEqProofs := false) (disch := omega) only [go_sem, ↓reduceIte]
      simp (implicitDefEqProofs := false) (disch := omega) only [go_sem, ↓reduceIte]
      refine ⟨[(0, 3)], [], [], rfl, ?_, ?_, ?_⟩ <;> simp (implicitDefEqProofs := false) (disch := omega) only [go_sem, ↓reduceIte, hol]
theorem reffrom_spec19 : ∀ (f : Nat) (L : List (List Int)) (N m : Nat) (cut : Bool), L.length = N → N ≤ f → f ≤ 1000 → 1 ≤ m → m ≤ N → textsP L → FnC Try.prog 35 [.sl (.lst 1 N (L.map bsl)), .int .i64 m, .bool cut] [] (.osl 0 [] 32 0 (fromF f L m cut).length) [(0, .row (.lst 32 (fromF f L m cut).length ((fromF f L m cut).map dg)))] := by
  intro f
  induction f with
  | zero => intro L N m cut hN h1 h2 h3 h4; omega
  | succ f ih =>
    intro L N m cut hN h1 h2 h3 h4 ht
    rw [fromF, hN]
    refine fnN mix pl35 0 3 [.tmp 6] Try.func35 rfl (by kernel_rfl) (by kernel_rfl) rfl (by kernel_rfl) (by kernel_rfl) (by simp) ?_
    simp (implicitDefEqProofs := false) (disch := omega) only [go_sem, ↓reduceIte]
    refine brd (fun h => ?_) (fun h => ?_)
    · rw [if_pos (by omega)]
      have r0 := refroot_spec _ L N hN (Nat.le_refl _) (by omega) ht
      cases cut
      · rw [if_neg (by decide)]
        simp (implicitDefEqProofs := false) (disch := omega) only [go_sem, ↓reduceIte]
        refine ⟨[], [0], [], rfl, ?_, ?_, ?_⟩ <;> simp (implicitDefEqProofs := false) (disch := omega) only [go_sem, ↓reduceIte, List.length_nil, List.map_nil]
      · rw [if_pos rfl]
        simp (implicitDefEqProofs := false) (disch := omega) only [go_sem, ↓reduceIte]
        refine call0 r0 ?_
        simp (implicitDefEqProofs := false) (disch := omega) only [go_sem, ↓reduceIte]
        refine ⟨[(0, 1)], [], [], rfl, ?_, ?_, ?_⟩ <;> simp (implicitDefEqProofs := false) (disch := omega) only [go_sem, ↓reduceIte, List.length_singleton, List.map_cons, List.map_nil, dg]
    rw [if_neg (by omega)]
    have hk := halfN_lt (show 2 ≤ N by omega)
    have n1 : ¬ halfN N = N := by omega
    have n2 : ¬ N - halfN N = N := by omega
    have n3 : ¬ halfN N = 0 := by omega
    have hlm : (L.map bsl).length = N := by rw [List.length_map, hN]
    have etk : ((L.map bsl).drop (halfN N)).take (N - halfN N) = (L.map bsl).drop (halfN N) := List.take_of_length_le (by rw [List.length_drop, hlm]; exact Nat.le_refl _)
    have l1 : (L.take (halfN N)).length = halfN N := by rw [List.length_take]; omega
    have l2 : (L.drop (halfN N)).length = N - halfN N := by rw [List.length_drop]; omega
    have r1 := refroot_spec _ (L.take (halfN N)) (halfN N) l1 (Nat.le_refl _) (by omega) (textsP_take ht _)
    have r2 := refroot_spec _ (L.drop (halfN N)) (N - halfN N) l2 (Nat.le_refl _) (by omega) (textsP_drop ht _)
    rw [List.map_take] at r1
    rw [List.map_drop] at r2
    simp (implicitDefEqProofs := false) (disch := omega) only [go_sem, ↓reduceIte]
    refine call0 (refhalf_spec N N (Nat.le_refl _) (by omega) (by omega)) ?_
    simp (implicitDefEqProofs := false) (disch := omega) only [go_sem, ↓reduceIte]
    refine brd (fun h5 => ?_) (fun h5 => ?_)
    · rw [if_pos (by omega)]
      have hwn := fromF_len f (L.take (halfN N)) m cut
      have hw := ih (L.take (halfN N)) (halfN N) m cut l1 (by omega) (by omega) h3 (by omega) (textsP_take ht _)
      rw [List.map_take] at hw
      simp (implicitDefEqProofs := false) (disch := omega) only [go_sem, ↓reduceIte, n1, n2, n3, etk]
      refine callF 1 hw ?_
      simp (implicitDefEqProofs := false) (disch := omega) only [go_sem, ↓reduceIte, n1, n2, n3, etk]
      refine call0 r2 ?_
      simp (implicitDefEqProofs := false) (disch := omega) only [go_sem, ↓reduceIte]
      refine ⟨[(0, 2)], [], [], rfl, ?_, ?_, ?_⟩ <;> simp (implicitDefEqProofs := false) (disch := omega) only [go_sem, ↓reduceIte, List.map_append, dg, List.length_append, List.length_singleton]
    · rw [if_neg (by omega)]
      have i3 : (m : Int) - (halfN N : Int) = ((m - halfN N : Nat) : Int) := by omega
      have hwn := fromF_len f (L.drop (halfN N)) (m - halfN N) true
      have hw := ih (L.drop (halfN N)) (N - halfN N) (m - halfN N) true l2 (by omega) (by omega) (by omega) (by omega) (textsP_drop ht _)
      rw [List.map_drop] at hw
      simp (implicitDefEqProofs := false) (disch := omega) only [go_sem, ↓reduceIte, n1, n2, n3, etk, i3]
      refine callF 1 hw ?_
      simp (implicitDefEqProofs := false) (disch := omega) only [go_sem, ↓reduceIte, n1, n2, n3, etk]
      refine call0 r1 ?_
      simp (implicitDefEqProofs := false) (disch := omega) only [go_sem, ↓reduceIte]
      refine ⟨[(0, 2)], [], [], rfl, ?_, ?_, ?_⟩ <;> simp (implicitDefEqProofs := false) (disch := omega) only [go_sem, ↓reduceIte, List.map_append, dg, List.length_append, List.length_singleton]
end Go.Proofs.Ytclkaibkepaebaa
