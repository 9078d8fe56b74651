/- Entries as the document's; what is amiss with them; digests turned round. -/
import Derived.Test.YtclkaibkepaebaaGQ
import Derived.Test.YtclkaibkepaebaaGK
namespace Go.Proofs.Ytclkaibkepaebaa
open Go Go.Sy Go.Proofs.Try
set_option maxRecDepth 100000
set_option maxHeartbeats 8000000
set_option linter.unusedSimpArgs false
set_option linter.unusedVariables false
attribute [go_sem] pl50 pl51 pl102
theorem as17_spec (l : List En) (n : Nat) (hn : l.length = n) (hl : n ≤ 1000) : FnC Try.prog 51 [.sl (.lst 64 n (l.map enV))] [] (.osl 0 [] 64 0 n) [(0, .row (.lst 64 n (l.map enV)))] := by
  have hle : (l.map enV).length = n := by rw [List.length_map, hn]
  refine fnN mix pl51 0 1 [.tmp 2] Try.func51 rfl (by kernel_rfl) (by kernel_rfl) rfl (by kernel_rfl) (by kernel_rfl) (by simp) ?_
  simp (implicitDefEqProofs := false) (disch := omega) only [go_sem, ↓reduceIte]
  refine loop (ι := Nat) 1 (fun i => i ≤ n) (fun i => [(0, .sl (.lst 64 n (l.map enV))), (3, .osl 0 [] 64 0 i), (4, .int .i64 i)]) (fun i => [(0, .row (.lst 64 i ((l.take i).map enV)))]) (fun i => n - i) 0 [] [0] (Nat.zero_le _) rfl ?_ ?_ ?_ (fun i hi => ?_)
  · simp (implicitDefEqProofs := false) (disch := omega) only [go_sem, ↓reduceIte]
  · simp (implicitDefEqProofs := false) (disch := omega) only [go_sem, ↓reduceIte]
  · simp (implicitDefEqProofs := false) (disch := omega) only [go_sem, ↓reduceIte, List.take_zero, List.map_nil]
  simp (implicitDefEqProofs := false) (disch := omega) only [go_sem, ↓reduceIte]
  refine brd (fun h1 => ?_) (fun h1 => ?_)
  · obtain ⟨x, hx⟩ : ∃ x, l[i]? = some x := ⟨_, List.getElem?_eq_getElem (by omega)⟩
    have g1 := fun K => getEn hx K
    have eR : (l.take (i + 1)).map enV = (l.take i).map enV ++ [.agg [.ints .u8 32 x.1, .ints .u8 32 x.2]] := by
      rw [List.take_add_one, hx, List.map_append]
      rfl
    simp (implicitDefEqProofs := false) (disch := omega) only [go_sem, ↓reduceIte, ↓g1, hle]
    refine ⟨i + 1, [(0, 2)], [], [], by dsimp only; omega, by dsimp only; omega, rfl, ?_, ?_, ?_⟩ <;> simp (implicitDefEqProofs := false) (disch := omega) only [go_sem, ↓reduceIte, eR]
  · obtain rfl : i = n := by omega
    have ht : l.take i = l := List.take_of_length_le (by omega)
    simp (implicitDefEqProofs := false) (disch := omega) only [go_sem, ↓reduceIte]
    refine ⟨[(0, 0)], [], [], rfl, ?_, ?_, ?_⟩ <;> simp (implicitDefEqProofs := false) (disch := omega) only [go_sem, ↓reduceIte, ht]
theorem bad_full (l : List En) (n : Nat) (hn : l.length = n) (h : 256 < n) : FnC Try.prog 50 [.sl (.lst 64 n (l.map enV))] [] (.int .i64 3) [] := by
  refine fn0 mix pl50 0 1 [.tmp 2] Try.func50 rfl (by kernel_rfl) (by kernel_rfl) rfl (by kernel_rfl) (by kernel_rfl) (by simp) ?_
  simp (implicitDefEqProofs := false) (disch := omega) only [go_sem, ↓reduceIte]
  refine brd (fun h1 => ?_) (fun h1 => by omega)
  simp (implicitDefEqProofs := false) (disch := omega) only [go_sem, ↓reduceIte]
theorem nodup_ne {l : List En} {i k : Nat} {x y : En} (hd : ((l.take (i + 1)).map (·.1)).Nodup) (hx : l[i]? = some x) (hy : l[k]? = some y) (hk : k < i) : x.1 ≠ y.1 := by
  rw [take_next3 hx, List.nodup_append] at hd
  intro e
  refine hd.2.2 y.1 ?_ x.1 (List.mem_singleton.2 rfl) e.symm
  rw [List.mem_map]
  exact ⟨y, List.mem_of_getElem? (i := k) (by rw [List.getElem?_take_of_lt hk]; exact hy), rfl⟩
theorem bad_ok (l : List En) (n : Nat) (hn : l.length = n) (h : n ≤ 256) (hd : (l.map (·.1)).Nodup) : FnC Try.prog 50 [.sl (.lst 64 n (l.map enV))] [] (.int .i64 0) [] := by
  have hle : (l.map enV).length = n := by rw [List.length_map, hn]
  refine fn0 mix pl50 0 1 [.tmp 2] Try.func50 rfl (by kernel_rfl) (by kernel_rfl) rfl (by kernel_rfl) (by kernel_rfl) (by simp) ?_
  simp (implicitDefEqProofs := false) (disch := omega) only [go_sem, ↓reduceIte]
  refine brd (fun h1 => by omega) (fun h1 => ?_)
  simp (implicitDefEqProofs := false) (disch := omega) only [go_sem, ↓reduceIte]
  refine loop (ι := Nat) 0 (fun i => i ≤ n) (fun i => [(0, .sl (.lst 64 n (l.map enV))), (3, .int .i64 i)]) (fun _ => []) (fun i => n - i) 0 [] [] (Nat.zero_le _) rfl ?_ ?_ ?_ (fun i hi => ?_)
  · simp (implicitDefEqProofs := false) (disch := omega) only [go_sem, ↓reduceIte]
  · simp (implicitDefEqProofs := false) (disch := omega) only [go_sem, ↓reduceIte]
  · simp (implicitDefEqProofs := false) (disch := omega) only [go_sem, ↓reduceIte]
  simp (implicitDefEqProofs := false) (disch := omega) only [go_sem, ↓reduceIte]
  refine brd (fun h2 => ?_) (fun h2 => ?_)
  · obtain ⟨x, hx⟩ : ∃ x, l[i]? = some x := ⟨_, List.getElem?_eq_getElem (by omega)⟩
    have g1 := fun K => getEn hx K
    have hsub : ((l.take (i + 1)).map (·.1)).Nodup := List.Nodup.sublist ((List.take_sublist (i + 1) l).map _) hd
    simp (implicitDefEqProofs := false) (disch := omega) only [go_sem, ↓reduceIte]
    refine loop (ι := Nat) 0 (fun k => k ≤ i) (fun k => [(0, .sl (.lst 64 n (l.map enV))), (3, .int .i64 i), (4, .int .i64 k)]) (fun _ => []) (fun k => i - k) 0 [] [] (Nat.zero_le _) rfl ?_ ?_ ?_ (fun k hk => ?_)
    · simp (implicitDefEqProofs := false) (disch := omega) only [go_sem, ↓reduceIte]
    · simp (implicitDefEqProofs := false) (disch := omega) only [go_sem, ↓reduceIte]
    · simp (implicitDefEqProofs := false) (disch := omega) only [go_sem, ↓reduceIte]
    simp (implicitDefEqProofs := false) (disch := omega) only [go_sem, ↓reduceIte]
    refine brd (fun h3 => ?_) (fun h3 => ?_)
    · obtain ⟨y, hy⟩ : ∃ y, l[k]? = some y := ⟨_, List.getElem?_eq_getElem (by omega)⟩
      have g2 := fun K => getEn hy K
      have d1 : decide (x.1 = y.1) = false := decide_eq_false (nodup_ne hsub hx hy (by omega))
      simp (implicitDefEqProofs := false) (disch := omega) only [go_sem, ↓reduceIte, ↓g1, ↓g2, hle, d1]
      refine ⟨k + 1, [], [], [], by dsimp only; omega, by dsimp only; omega, rfl, ?_, ?_, ?_⟩ <;> simp (implicitDefEqProofs := false) (disch := omega) only [go_sem, ↓reduceIte]
    · simp (implicitDefEqProofs := false) (disch := omega) only [go_sem, ↓reduceIte]
      refine ⟨i + 1, [], [], [], by dsimp only; omega, by dsimp only; omega, rfl, ?_, ?_, ?_⟩ <;> simp (implicitDefEqProofs := false) (disch := omega) only [go_sem, ↓reduceIte]
  · simp (implicitDefEqProofs := false) (disch := omega) only [go_sem, ↓reduceIte]
theorem first_at {p : List Int} : ∀ (L : List (List Int)), p ∈ L → ∃ k, k < L.length ∧ L[k]? = some p ∧ ∀ j, j < k → L[j]? ≠ some p
  | [], h => by cases h
  | x :: L, h => by
    by_cases e : x = p
    · exact ⟨0, by simp, by rw [e]; rfl, fun j hj => by omega⟩
    · obtain ⟨k, h1, h2, h3⟩ := first_at L ((List.mem_cons.1 h).resolve_left fun h => e h.symm)
      refine ⟨k + 1, by simp; omega, h2, fun j hj => ?_⟩
      cases j with
      | zero => intro hh; cases hh; exact e rfl
      | succ j => exact h3 j (by omega)
theorem bad_twice (l : List En) (n : Nat) (hn : l.length = n) (h : n ≤ 256) (hd : ¬ (l.map (·.1)).Nodup) : FnC Try.prog 50 [.sl (.lst 64 n (l.map enV))] [] (.int .i64 5) [] := by
  obtain ⟨m, e, m1, m2, m3, m4⟩ := first_twice l hd
  obtain ⟨q, q1, q2, q3⟩ := first_at _ m4
  have hle : (l.map enV).length = n := by rw [List.length_map, hn]
  have hqm : q < m := by rw [List.length_map, List.length_take] at q1; omega
  refine fn0 mix pl50 0 1 [.tmp 2] Try.func50 rfl (by kernel_rfl) (by kernel_rfl) rfl (by kernel_rfl) (by kernel_rfl) (by simp) ?_
  simp (implicitDefEqProofs := false) (disch := omega) only [go_sem, ↓reduceIte]
  refine brd (fun h1 => by omega) (fun h1 => ?_)
  simp (implicitDefEqProofs := false) (disch := omega) only [go_sem, ↓reduceIte]
  refine loop (ι := Nat) 0 (fun i => i ≤ m) (fun i => [(0, .sl (.lst 64 n (l.map enV))), (3, .int .i64 i)]) (fun _ => []) (fun i => m - i) 0 [] [] (Nat.zero_le _) rfl ?_ ?_ ?_ (fun i hi => ?_)
  · simp (implicitDefEqProofs := false) (disch := omega) only [go_sem, ↓reduceIte]
  · simp (implicitDefEqProofs := false) (disch := omega) only [go_sem, ↓reduceIte]
  · simp (implicitDefEqProofs := false) (disch := omega) only [go_sem, ↓reduceIte]
  simp (implicitDefEqProofs := false) (disch := omega) only [go_sem, ↓reduceIte]
  refine brd (fun h2 => ?_) (fun h2 => by omega)
  obtain ⟨x, hx⟩ : ∃ x, l[i]? = some x := ⟨_, List.getElem?_eq_getElem (by omega)⟩
  have g1 := fun K => getEn hx K
  simp (implicitDefEqProofs := false) (disch := omega) only [go_sem, ↓reduceIte]
  by_cases hm : i = m
  · subst hm
    obtain rfl : x = e := by rw [hx] at m2; exact Option.some.inj m2
    refine loop (ι := Nat) 0 (fun k => k ≤ q) (fun k => [(0, .sl (.lst 64 n (l.map enV))), (3, .int .i64 i), (4, .int .i64 k)]) (fun _ => []) (fun k => q - k) 0 [] [] (Nat.zero_le _) rfl ?_ ?_ ?_ (fun k hk => ?_)
    · simp (implicitDefEqProofs := false) (disch := omega) only [go_sem, ↓reduceIte]
    · simp (implicitDefEqProofs := false) (disch := omega) only [go_sem, ↓reduceIte]
    · simp (implicitDefEqProofs := false) (disch := omega) only [go_sem, ↓reduceIte]
    simp (implicitDefEqProofs := false) (disch := omega) only [go_sem, ↓reduceIte]
    refine brd (fun h3 => ?_) (fun h3 => by omega)
    obtain ⟨y, hy⟩ : ∃ y, l[k]? = some y := ⟨_, List.getElem?_eq_getElem (by omega)⟩
    have g2 := fun K => getEn hy K
    have hky : ((l.take i).map (·.1))[k]? = some y.1 := by rw [List.getElem?_map, List.getElem?_take_of_lt (by omega), hy]; rfl
    by_cases hkq : k = q
    · subst hkq
      have d1 : decide (x.1 = y.1) = true := decide_eq_true (by rw [q2] at hky; exact Option.some.inj hky)
      simp (implicitDefEqProofs := false) (disch := omega) only [go_sem, ↓reduceIte, ↓g1, ↓g2, hle, d1]
      omega
    · have d1 : decide (x.1 = y.1) = false := decide_eq_false (fun ee => q3 k (by omega) (by rw [hky, ee]))
      simp (implicitDefEqProofs := false) (disch := omega) only [go_sem, ↓reduceIte, ↓g1, ↓g2, hle, d1]
      refine ⟨k + 1, [], [], [], by dsimp only; omega, by dsimp only; omega, rfl, ?_, ?_, ?_⟩ <;> simp (implicitDefEqProofs := false) (disch := omega) only [go_sem, ↓reduceIte]
  · have hsub : ((l.take (i + 1)).map (·.1)).Nodup := List.Nodup.sublist ((List.take_sublist_take_left (by omega)).map _) m3
    refine loop (ι := Nat) 0 (fun k => k ≤ i) (fun k => [(0, .sl (.lst 64 n (l.map enV))), (3, .int .i64 i), (4, .int .i64 k)]) (fun _ => []) (fun k => i - k) 0 [] [] (Nat.zero_le _) rfl ?_ ?_ ?_ (fun k hk => ?_)
    · simp (implicitDefEqProofs := false) (disch := omega) only [go_sem, ↓reduceIte]
    · simp (implicitDefEqProofs := false) (disch := omega) only [go_sem, ↓reduceIte]
    · simp (implicitDefEqProofs := false) (disch := omega) only [go_sem, ↓reduceIte]
    simp (implicitDefEqProofs := false) (disch := omega) only [go_sem, ↓reduceIte]
    refine brd (fun h3 => ?_) (fun h3 => ?_)
    · obtain ⟨y, hy⟩ : ∃ y, l[k]? = some y := ⟨_, List.getElem?_eq_getElem (by omega)⟩
      have g2 := fun K => getEn hy K
      have d1 : decide (x.1 = y.1) = false := decide_eq_false (nodup_ne hsub hx hy (by omega))
      simp (implicitDefEqProofs := false) (disch := omega) only [go_sem, ↓reduceIte, ↓g1, ↓g2, hle, d1]
      refine ⟨k + 1, [], [], [], by dsimp only; omega, by dsimp only; omega, rfl, ?_, ?_, ?_⟩ <;> simp (implicitDefEqProofs := false) (disch := omega) only [go_sem, ↓reduceIte]
    · simp (implicitDefEqProofs := false) (disch := omega) only [go_sem, ↓reduceIte]
      refine ⟨i + 1, [], [], [], by dsimp only; omega, by dsimp only; omega, rfl, ?_, ?_, ?_⟩ <;> simp (implicitDefEqProofs := false) (disch := omega) only [go_sem, ↓reduceIte]
/-- Digests, so many of which are turned round at both ends. -/
def turS (W : List (List Int)) : Nat → List (List Int)
  | 0 => W
  | i + 1 => ((turS W i).set i ((turS W i).getD (W.length - 1 - i) zs)).set (W.length - 1 - i) ((turS W i).getD i zs)
theorem turS_len (W : List (List Int)) : ∀ i, (turS W i).length = W.length
  | 0 => rfl
  | i + 1 => by rw [turS, List.length_set, List.length_set, turS_len W i]
theorem turS_get (W : List (List Int)) : ∀ i, 2 * i ≤ W.length → ∀ j, j < W.length → (turS W i).getD j zs = if j < i ∨ W.length - 1 - i < j then W.getD (W.length - 1 - j) zs else W.getD j zs
  | 0, _, j, hj => by rw [if_neg (by omega)]; rfl
  | i + 1, h, j, hj => by
    have hl := turS_len W i
    have g1 := turS_get W i (by omega) i (by omega)
    have g2 := turS_get W i (by omega) (W.length - 1 - i) (by omega)
    have g3 := turS_get W i (by omega) j hj
    rw [if_neg (by omega)] at g1 g2
    rw [turS, List.getD, List.getElem?_set, List.length_set, hl]
    by_cases c1 : W.length - 1 - i = j
    · rw [if_pos c1, if_pos (by omega), Option.getD_some, g1, if_pos (by omega)]
      congr 1
      omega
    · rw [if_neg c1, List.getElem?_set, hl]
      by_cases c2 : i = j
      · rw [if_pos c2, if_pos (by omega), Option.getD_some, g2, if_pos (by omega)]
        congr 1
        omega
      · rw [if_neg c2, ← List.getD, g3]
        by_cases c3 : j < i ∨ W.length - 1 - i < j
        · rw [if_pos c3, if_pos (by omega)]
        · rw [if_neg c3, if_neg (by omega)]
theorem turS_all (W : List (List Int)) {i : Nat} (h : 2 * i ≤ W.length) (h2 : W.length ≤ 2 * i + 1) : turS W i = W.reverse := by
  apply List.ext_getElem
  · rw [turS_len, List.length_reverse]
  · intro j h1 h3
    rw [turS_len] at h1
    have := turS_get W i h j h1
    rw [List.getElem_reverse]
    have e1 : (turS W i).getD j zs = (turS W i)[j]'(by rw [turS_len]; exact h1) := by rw [List.getD, List.getElem?_eq_getElem (by rw [turS_len]; exact h1), Option.getD_some]
    have e2 : W.getD (W.length - 1 - j) zs = W[W.length - 1 - j]'(by omega) := by rw [List.getD, List.getElem?_eq_getElem (by omega), Option.getD_some]
    rw [← e1, ← e2, this]
    by_cases c : j < i ∨ W.length - 1 - i < j
    · rw [if_pos c]
    · rw [if_neg c]
      congr 1
      omega
theorem reverse_spec (W : List (List Int)) (n : Nat) (hn : W.length = n) (hl : n ≤ 1000) : FnK Try.prog [0] 102 [.osl 0 [] 32 0 n] [(0, .row (.lst 32 n (W.map dg)))] (.tup []) [(0, .row (.lst 32 n (W.reverse.map dg)))] := by
  refine fnK [0] mix pl102 1 1 [] Try.func102 rfl (by kernel_rfl) (by kernel_rfl) rfl (by kernel_rfl) (by kernel_rfl) (by simp) ?_
  simp (implicitDefEqProofs := false) (disch := omega) only [go_sem, ↓reduceIte]
  refine loop (ι := Nat) 1 (fun i => 2 * i ≤ n + 0) (fun i => [(0, .osl 0 [] 32 0 n), (2, .int .i64 i), (3, .int .i64 ((n : Int) - 1 - i))]) (fun i => [(0, .row (.lst 32 n ((turS W i).map dg)))]) (fun i => n - i) 0 [(0, 0)] [] (by omega) rfl ?_ ?_ ?_ (fun i hi => ?_)
  · simp (implicitDefEqProofs := false) (disch := omega) only [go_sem, ↓reduceIte]
  · simp (implicitDefEqProofs := false) (disch := omega) only [go_sem, ↓reduceIte, Int.sub_zero, Int.natCast_zero]
  · simp (implicitDefEqProofs := false) (disch := omega) only [go_sem, ↓reduceIte, turS]
  simp (implicitDefEqProofs := false) (disch := omega) only [go_sem, ↓reduceIte]
  refine brd (fun h1 => ?_) (fun h1 => ?_)
  · have hlr := turS_len W i
    have ti : ((n : Int) - 1 - i).toNat = n - 1 - i := by omega
    have lr : ((turS W i).map dg).length = n := by rw [List.length_map, hlr, hn]
    have get : ∀ j, j < n → ∀ K, getP ((turS W i).map dg) j K = K (.ints .u8 32 ((turS W i).getD j zs)) := fun j hj K => getP_map (f := dg) (l := turS W i) (i := j) (a := (turS W i).getD j zs) (by rw [List.getD, List.getElem?_eq_getElem (by omega), Option.getD_some]) K
    have g1 := get i (by omega)
    have g2 := get (n - 1 - i) (by omega)
    have eS : (((turS W i).map dg).set i (.ints .u8 32 ((turS W i).getD (n - 1 - i) zs))).set (n - 1 - i) (.ints .u8 32 ((turS W i).getD i zs)) = (turS W (i + 1)).map dg := by
      rw [turS, List.map_set, List.map_set, hn]
      rfl
    have e1 : (n : Int) - 1 - (i : Int) - 1 = (n : Int) - 1 - ((i : Int) + 1) := by omega
    have g3 : ∀ K, getP (((turS W i).map dg).set i (.ints .u8 32 ((turS W i).getD (n - 1 - i) zs))) (n - 1 - i) K = K (.ints .u8 32 ((turS W i).getD (n - 1 - i) zs)) := fun K => by
      have := getP_map (f := dg) (l := (turS W i).set i ((turS W i).getD (n - 1 - i) zs)) (i := n - 1 - i) (a := (turS W i).getD (n - 1 - i) zs) (by
        rw [List.getElem?_set, if_neg (by omega), List.getD, List.getElem?_eq_getElem (by omega), Option.getD_some]) K
      rw [List.map_set] at this
      exact this
    have lr2 : (((turS W i).map dg).set i (.ints .u8 32 ((turS W i).getD (n - 1 - i) zs))).length = n := by rw [List.length_set, lr]
    simp (implicitDefEqProofs := false) (disch := omega) only [go_sem, ↓reduceIte, ti, ↓g1, ↓g2, ↓g3, lr, lr2]
    refine ⟨i + 1, [(0, 0)], [], [], by dsimp only; omega, by dsimp only; omega, rfl, ?_, ?_, ?_⟩ <;> simp (implicitDefEqProofs := false) (disch := omega) only [go_sem, ↓reduceIte, eS, e1]
  · have hr : turS W i = W.reverse := turS_all W (by omega) (by omega)
    simp (implicitDefEqProofs := false) (disch := omega) only [go_sem, ↓reduceIte]
    refine ⟨[(0, 0)], [], [], rfl, ?_, ?_, ?_⟩ <;> simp (implicitDefEqProofs := false) (disch := omega) only [go_sem, ↓reduceIte, hr]
end Go.Proofs.Ytclkaibkepaebaa
