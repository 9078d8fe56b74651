/- The package extract: nodes' texts, rows turned, steps, where rows part. -/
import Derived.Test.YtegbkbkcfcjkbaaTrail
import Derived.Test.YtegbkbkcfcjkbaaMacL
namespace Go.Proofs.Ytegbkbkcfcjkbaa
open Go Go.Sy Go.Proofs.Try
set_option maxRecDepth 100000
set_option maxHeartbeats 8000000
set_option linter.unusedSimpArgs false
set_option linter.unusedVariables false
attribute [go_sem] pl27 pl85
theorem sums1 {a : List Int} (ha : ∀ x ∈ a, 0 ≤ x ∧ x < 256) (hn : a.length ≤ 1000000) : FnC Try.prog 83 [.sl (.lst 1 1 [bsl a])] [] (.ints .u8 32 (sumD a)) [] := by
  have h := sums_spec [a] (fun p hp => by rw [List.mem_singleton] at hp; subst hp; exact ha) (by simpa [cat] using hn) (by simp)
  simpa [cat] using h
theorem getD_mem {l : List (List Int)} {i : Nat} (h : i < l.length) : l.getD i [] ∈ l := by
  simp only [List.getD, List.getElem?_eq_getElem h, Option.getD_some]; exact List.getElem_mem h
theorem equal23_spec (a b : List Int) (n m : Nat) (hn : a.length = n) (hm : b.length = m) (ha : ∀ x ∈ a, 0 ≤ x ∧ x < 256) (hb : ∀ x ∈ b, 0 ≤ x ∧ x < 256) : FnC Try.prog 65 [.sl (.ints .u8 n a), .sl (.ints .u8 m b)] [] (.bool (decide (a = b))) [] := by
  have e : decide ((a.map fun x => UInt8.ofNat x.toNat) = (b.map fun x => UInt8.ofNat x.toNat)) = decide (a = b) := decide_eq_decide.2 (bytes_inj ha hb)
  refine fn0 mix [] 0 2 [.tmp 4] Try.func65 rfl (by kernel_rfl) (by kernel_rfl) rfl (by kernel_rfl) (by kernel_rfl) (by simp) ?_
  simp (implicitDefEqProofs := false) (disch := omega) only [go_sem, ↓reduceIte, e]
theorem pair_len {a b : List Int} (ha : goodD a) (hb : goodD b) : (pairL a b).length = 65 := by
  unfold pairL; rw [List.length_cons, List.length_append, ha.1, hb.1]
theorem pair_mem {a b : List Int} (ha : goodD a) (hb : goodD b) : ∀ x ∈ pairL a b, 0 ≤ x ∧ x < 256 := by
  intro x hx
  rcases List.mem_cons.1 hx with rfl | hx
  · decide
  · exact app_mem ha.2 hb.2 x hx
theorem pair23_spec (a b : List Int) (ha : goodD a) (hb : goodD b) : FnC Try.prog 85 [.ints .u8 32 a, .ints .u8 32 b] [] (.osl 0 [] 1 0 65) [(0, .row (.ints .u8 65 (pairL a b)))] := by
  have l1 := ha.1
  have l2 := hb.1
  refine fnN mix pl85 0 2 [.tmp 4] Try.func85 rfl (by kernel_rfl) (by kernel_rfl) rfl (by kernel_rfl) (by kernel_rfl) (by simp) ?_
  simp (implicitDefEqProofs := false) (disch := omega) only [go_sem, ↓reduceIte]
  refine ⟨[(0, 4)], [], [], rfl, ?_, ?_, ?_⟩ <;> simp (implicitDefEqProofs := false) (disch := omega) only [go_sem, ↓reduceIte, pairL, List.cons_append, List.singleton_append]
def stV (b : Bool) : AV := .agg [.bool b]
theorem pf_stV (l : List Bool) : AV.pf.pfs (l.map stV) = true := by
  induction l with
  | nil => rfl
  | cons b l ih => simpa [AV.pf.pfs, AV.pf, stV] using ih
theorem turnS_spec (ds : List Bool) (n : Nat) (hn : ds.length = n) (h : n ≤ 1000) : FnC Try.prog 116 [.sl (.lst 1 n (ds.map stV))] [] (.osl 0 [] 1 0 n) [(0, .row (.lst 1 n (ds.reverse.map stV)))] := by
  have hle : (ds.map stV).length = n := by rw [List.length_map, hn]
  refine fnN mix [] 0 1 [.tmp 2] Try.func116 rfl (by kernel_rfl) (by kernel_rfl) rfl (by kernel_rfl) (by kernel_rfl) (by simp) ?_
  simp (implicitDefEqProofs := false) (disch := omega) only [go_sem, ↓reduceIte]
  refine loop (ι := Nat) 1 (fun c => c ≤ n) (fun c => [(0, .sl (.lst 1 n (ds.map stV))), (3, .osl 0 [] 1 0 c), (4, .int .i64 ((n : Int) - 1 - c))])
    (fun c => [(0, .row (.lst 1 c ((ds.reverse.take c).map stV)))]) (fun c => n - c) 0 [(0, 0)] [] (Nat.zero_le _) rfl ?_ ?_ ?_ (fun c hc => ?_)
  · simp (implicitDefEqProofs := false) (disch := omega) only [go_sem, ↓reduceIte]
  · simp (implicitDefEqProofs := false) (disch := omega) only [go_sem, ↓reduceIte, List.take_zero, List.map_nil]
  · simp (implicitDefEqProofs := false) (disch := omega) only [go_sem, ↓reduceIte, List.take_zero, List.map_nil]
  simp (implicitDefEqProofs := false) (disch := omega) only [go_sem, ↓reduceIte]
  refine brd (fun h2 => ?_) (fun h2 => ?_)
  · have hcl : c < n := by omega
    have hd : ds[n - 1 - c]? = some (ds.getD (n - 1 - c) false) := by simp only [List.getD, List.getElem?_eq_getElem (show n - 1 - c < ds.length by omega), Option.getD_some]
    have hg0 := fun K => getP_map (f := stV) hd K
    have i2 : ((n : Int) - 1 - c).toNat = n - 1 - c := by omega
    have i3 : (n : Int) - 1 - c - 1 = (n : Int) - 1 - ((c : Int) + 1) := by omega
    have hr : ds.reverse[c]? = some (ds.getD (n - 1 - c) false) := by
      rw [List.getElem?_reverse (by omega), hn, hd]
    have ht := take_next' hr
    simp (implicitDefEqProofs := false) (disch := omega) only [go_sem, ↓reduceIte, i2, hg0, stV, hle]
    refine ⟨c + 1, [(0, 2)], [], [], by dsimp only; omega, by dsimp only; omega, rfl, ?_, ?_, ?_⟩ <;> simp (implicitDefEqProofs := false) (disch := omega) only [go_sem, ↓reduceIte, i3, ht, List.map_append, stV]
  · obtain rfl : c = n := by omega
    have ht : ds.reverse.take c = ds.reverse := List.take_of_length_le (by rw [List.length_reverse]; omega)
    simp (implicitDefEqProofs := false) (disch := omega) only [go_sem, ↓reduceIte]
    refine ⟨[(0, 0)], [], [], rfl, ?_, ?_, ?_⟩ <;> simp (implicitDefEqProofs := false) (disch := omega) only [go_sem, ↓reduceIte, ht]
theorem turnT_spec (ts : List (List Int)) (n : Nat) (hn : ts.length = n) (h : n ≤ 1000) : FnC Try.prog 86 [.osl 0 [] 1 0 n] [(0, .row (.lst 1 n (ts.map bsl)))] (.osl 1 [] 1 0 n) [(1, .row (.lst 1 n (ts.reverse.map bsl)))] := by
  have hle : (ts.map bsl).length = n := by rw [List.length_map, hn]
  refine fnV mix [] 0 1 1 [.tmp 2] Try.func86 rfl (by kernel_rfl) (by kernel_rfl) rfl (by kernel_rfl) (by kernel_rfl) (by simp) rfl rfl ?_
  simp (implicitDefEqProofs := false) (disch := omega) only [go_sem, ↓reduceIte]
  refine loop (ι := Nat) 2 (fun c => c ≤ n) (fun c => [(0, .osl 0 [] 1 0 n), (3, .osl 1 [] 1 0 c), (4, .int .i64 ((n : Int) - 1 - c))])
    (fun c => [(0, .row (.lst 1 n (ts.map bsl))), (1, .row (.lst 1 c ((ts.reverse.take c).map bsl)))]) (fun c => n - c) 0 [(0, 0), (1, 1)] [] (Nat.zero_le _) rfl ?_ ?_ ?_ (fun c hc => ?_)
  · simp (implicitDefEqProofs := false) (disch := omega) only [go_sem, ↓reduceIte]
  · simp (implicitDefEqProofs := false) (disch := omega) only [go_sem, ↓reduceIte, List.take_zero, List.map_nil]
  · simp (implicitDefEqProofs := false) (disch := omega) only [go_sem, ↓reduceIte, List.take_zero, List.map_nil]
  simp (implicitDefEqProofs := false) (disch := omega) only [go_sem, ↓reduceIte]
  refine brd (fun h2 => ?_) (fun h2 => ?_)
  · have hcl : c < n := by omega
    have hd := getD_some' (row := ts) (i := n - 1 - c) (by omega)
    have hg0 := fun K => getB_map (l := ts) (show n - 1 - c < ts.length by omega) K
    have i2 : ((n : Int) - 1 - c).toNat = n - 1 - c := by omega
    have i3 : (n : Int) - 1 - c - 1 = (n : Int) - 1 - ((c : Int) + 1) := by omega
    have hr : ts.reverse[c]? = some (ts.getD (n - 1 - c) []) := by
      rw [List.getElem?_reverse (by omega), hn, hd]
    have ht := take_next' hr
    simp (implicitDefEqProofs := false) (disch := omega) only [go_sem, ↓reduceIte, i2, ↓hg0, hle]
    refine ⟨c + 1, [(0, 0), (1, 3)], [], [], by dsimp only; omega, by dsimp only; omega, rfl, ?_, ?_, ?_⟩ <;> simp (implicitDefEqProofs := false) (disch := omega) only [go_sem, ↓reduceIte, i3, ht, List.map_append, bsl]
  · obtain rfl : c = n := by omega
    have ht : ts.reverse.take c = ts.reverse := List.take_of_length_le (by rw [List.length_reverse]; omega)
    simp (implicitDefEqProofs := false) (disch := omega) only [go_sem, ↓reduceIte]
    refine ⟨[(1, 1)], [], [], rfl, ?_, ?_, ?_⟩ <;> simp (implicitDefEqProofs := false) (disch := omega) only [go_sem, ↓reduceIte, ht]
theorem half23_spec (n : Nat) (h : 2 ≤ n) (hn : n ≤ 1000) : FnC Try.prog 115 [.int .i64 n] [] (.int .i64 (halfN n)) [] := by
  refine fn0 mix [] 0 1 [.tmp 2] Try.func115 rfl (by kernel_rfl) (by kernel_rfl) rfl (by kernel_rfl) (by kernel_rfl) (by simp) ?_
  simp (implicitDefEqProofs := false) (disch := omega) only [go_sem, ↓reduceIte]
  refine loop (ι := Nat) 0 (fun j => pw j < n) (fun j => [(0, .int .i64 n), (3, .int .i64 (pw j))]) (fun j => []) (fun j => n - pw j) 0 [] [] (show 1 < n by omega) rfl ?_ ?_ ?_ (fun j hj => ?_)
  · simp (implicitDefEqProofs := false) (disch := omega) only [go_sem, ↓reduceIte]
  · simp (implicitDefEqProofs := false) (disch := omega) only [go_sem, ↓reduceIte, show pw 0 = 1 by rfl]
  · simp (implicitDefEqProofs := false) (disch := omega) only [go_sem, ↓reduceIte]
  have e := pw_succ j
  have hpp := pw_pos j
  simp (implicitDefEqProofs := false) (disch := omega) only [go_sem, ↓reduceIte]
  refine brd (fun h2 => ?_) (fun h2 => ?_)
  · simp (implicitDefEqProofs := false) (disch := omega) only [go_sem, ↓reduceIte, ← e]
    have hj2 : pw (j + 1) < n := by omega
    refine ⟨j + 1, [], [], [], hj2, by dsimp only; omega, rfl, ?_, ?_, ?_⟩ <;> simp (implicitDefEqProofs := false) (disch := omega) only [go_sem, ↓reduceIte, e]
  · have : halfN n = pw j := halfN_eq ⟨⟨j, rfl⟩, hj, by omega⟩ h
    rw [this]
    simp (implicitDefEqProofs := false) (disch := omega) only [go_sem, ↓reduceIte]
theorem downB_le : ∀ (f n i : Nat), (downB f n i).length ≤ f
  | 0, _, _ => Nat.le_refl _
  | f + 1, n, i => by
    rw [downB]
    split
    · exact Nat.zero_le _
    · split
      · rw [List.length_cons]; have := downB_le f (halfN n) i; omega
      · rw [List.length_cons]; have := downB_le f (n - halfN n) (i - halfN n); omega
theorem toB_le : ∀ (f m n : Nat), (toB f m n).length ≤ f
  | 0, _, _ => Nat.le_refl _
  | f + 1, m, n => by
    rw [toB]
    split
    · exact Nat.zero_le _
    · split
      · rw [List.length_cons]; have := toB_le f m (halfN n); omega
      · rw [List.length_cons]; have := toB_le f (m - halfN n) (n - halfN n); omega
theorem down_spec (n i : Nat) (h1 : 1 ≤ n) (h2 : n ≤ 200) (hi : i < n) : FnC Try.prog 91 [.int .i64 n, .int .i64 i] [] (.osl 0 [] 1 0 (downB n n i).length) [(0, .row (.lst 1 (downB n n i).length ((downB n n i).map stV)))] := by
  have hwl := downB_le n n i
  generalize hW : downB n n i = W at *
  refine fnN mix [] 0 2 [.tmp 4] Try.func91 rfl (by kernel_rfl) (by kernel_rfl) rfl (by kernel_rfl) (by kernel_rfl) (by simp) ?_
  simp (implicitDefEqProofs := false) (disch := omega) only [go_sem, ↓reduceIte]
  refine loop (ι := Nat × Nat × List Bool × Nat) 1 (fun k => k.2.1 < k.1 ∧ k.1 ≤ k.2.2.2 ∧ k.2.2.2 ≤ n ∧ k.2.2.1 ++ downB k.2.2.2 k.1 k.2.1 = W)
    (fun k => [(0, .int .i64 k.1), (1, .int .i64 k.2.1), (5, .osl 0 [] 1 0 k.2.2.1.length)])
    (fun k => [(0, .row (.lst 1 k.2.2.1.length (k.2.2.1.map stV)))]) (fun k => k.1) (n, i, [], n) [] [0] ⟨hi, Nat.le_refl _, Nat.le_refl _, hW⟩ rfl ?_ ?_ ?_ (fun k hk => ?_)
  · simp (implicitDefEqProofs := false) (disch := omega) only [go_sem, ↓reduceIte, List.length_nil]
  · simp (implicitDefEqProofs := false) (disch := omega) only [go_sem, ↓reduceIte, List.length_nil]
  · simp (implicitDefEqProofs := false) (disch := omega) only [go_sem, ↓reduceIte, List.length_nil, List.map_nil]
  obtain ⟨N, j, out, f⟩ := k
  obtain ⟨q2, q3, q4, q6⟩ := hk
  dsimp only at q2 q3 q4 q6 ⊢
  have hob : out.length ≤ n := by
    have := congrArg List.length q6
    simp only [List.length_append] at this
    omega
  obtain ⟨f, rfl⟩ : ∃ f', f = f' + 1 := ⟨f - 1, by omega⟩
  rw [downB] at q6
  simp (implicitDefEqProofs := false) (disch := omega) only [go_sem, ↓reduceIte]
  refine brd (fun h1 => ?_) (fun h1 => ?_)
  · rw [if_neg (by omega)] at q6
    have hk := halfN_lt (show 2 ≤ N by omega)
    simp (implicitDefEqProofs := false) (disch := omega) only [go_sem, ↓reduceIte]
    refine call0 (half23_spec N (by omega) (by omega)) ?_
    simp (implicitDefEqProofs := false) (disch := omega) only [go_sem, ↓reduceIte]
    refine brd (fun h3 => ?_) (fun h3 => ?_)
    · rw [if_pos (by omega)] at q6
      simp (implicitDefEqProofs := false) (disch := omega) only [go_sem, ↓reduceIte]
      have b6 : (out ++ [false]) ++ downB f (halfN N) j = W := by rw [← q6]; simp
      refine ⟨(halfN N, j, out ++ [false], f), [(0, 2)], [], [], ⟨by dsimp only; omega, by dsimp only; omega, by dsimp only; omega, b6⟩, by dsimp only; omega, rfl, ?_, ?_, ?_⟩ <;> simp (implicitDefEqProofs := false) (disch := omega) only [go_sem, ↓reduceIte, List.map_append, stV, List.length_append, List.length_singleton]
    · rw [if_neg (by omega)] at q6
      have i3 : (j : Int) - (halfN N : Int) = ((j - halfN N : Nat) : Int) := by omega
      have i4 : (N : Int) - (halfN N : Int) = ((N - halfN N : Nat) : Int) := by omega
      simp (implicitDefEqProofs := false) (disch := omega) only [go_sem, ↓reduceIte, i3, i4]
      have b6 : (out ++ [true]) ++ downB f (N - halfN N) (j - halfN N) = W := by rw [← q6]; simp
      refine ⟨(N - halfN N, j - halfN N, out ++ [true], f), [(0, 2)], [], [], ⟨by dsimp only; omega, by dsimp only; omega, by dsimp only; omega, b6⟩, by dsimp only; omega, rfl, ?_, ?_, ?_⟩ <;> simp (implicitDefEqProofs := false) (disch := omega) only [go_sem, ↓reduceIte, List.map_append, stV, List.length_append, List.length_singleton, i3, i4]
  · rw [if_pos (by omega), List.append_nil] at q6
    subst q6
    simp (implicitDefEqProofs := false) (disch := omega) only [go_sem, ↓reduceIte]
    refine ⟨[(0, 0)], [], [], rfl, ?_, ?_, ?_⟩ <;> simp (implicitDefEqProofs := false) (disch := omega) only [go_sem, ↓reduceIte]
theorem to_spec (n m : Nat) (h1 : 1 ≤ m) (h2 : n ≤ 200) (hm : m ≤ n) : FnC Try.prog 93 [.int .i64 m, .int .i64 n] [] (.tup [.osl 0 [] 1 0 (toB n m n).length, .bool (cutF n m n false)]) [(0, .row (.lst 1 (toB n m n).length ((toB n m n).map stV)))] := by
  have hwl := toB_le n m n
  generalize hW : toB n m n = W at *
  generalize hC : cutF n m n false = C at *
  refine fnN mix [] 0 2 [.tmp 4, .tmp 5] Try.func93 rfl (by kernel_rfl) (by kernel_rfl) rfl (by kernel_rfl) (by kernel_rfl) (by simp) ?_
  simp (implicitDefEqProofs := false) (disch := omega) only [go_sem, ↓reduceIte]
  refine loop (ι := Nat × Nat × List Bool × Nat × Bool) 1 (fun k => (1 ≤ k.2.1 ∧ k.2.1 ≤ k.1) ∧ k.1 ≤ k.2.2.2.1 ∧ k.2.2.2.1 ≤ n ∧ k.2.2.1 ++ toB k.2.2.2.1 k.2.1 k.1 = W ∧ cutF k.2.2.2.1 k.2.1 k.1 k.2.2.2.2 = C)
    (fun k => [(0, .int .i64 k.2.1), (1, .int .i64 k.1), (6, .osl 0 [] 1 0 k.2.2.1.length), (7, .bool k.2.2.2.2)])
    (fun k => [(0, .row (.lst 1 k.2.2.1.length (k.2.2.1.map stV)))]) (fun k => k.1) (n, m, [], n, false) [] [0] ⟨⟨h1, hm⟩, Nat.le_refl _, Nat.le_refl _, hW, hC⟩ rfl ?_ ?_ ?_ (fun k hk => ?_)
  · simp (implicitDefEqProofs := false) (disch := omega) only [go_sem, ↓reduceIte, List.length_nil]
  · simp (implicitDefEqProofs := false) (disch := omega) only [go_sem, ↓reduceIte, List.length_nil]
  · simp (implicitDefEqProofs := false) (disch := omega) only [go_sem, ↓reduceIte, List.length_nil, List.map_nil]
  obtain ⟨N, j, out, f, cut⟩ := k
  obtain ⟨⟨q2, q2'⟩, q3, q4, q6, q7⟩ := hk
  dsimp only at q2 q2' q3 q4 q6 q7 ⊢
  have hob : out.length ≤ n := by
    have := congrArg List.length q6
    simp only [List.length_append] at this
    omega
  obtain ⟨f, rfl⟩ : ∃ f', f = f' + 1 := ⟨f - 1, by omega⟩
  rw [toB] at q6
  rw [cutF] at q7
  simp (implicitDefEqProofs := false) (disch := omega) only [go_sem, ↓reduceIte]
  refine brd (fun h1 => ?_) (fun h1 => ?_)
  · rw [if_neg (by omega)] at q6 q7
    have hk := halfN_lt (show 2 ≤ N by omega)
    simp (implicitDefEqProofs := false) (disch := omega) only [go_sem, ↓reduceIte]
    refine call0 (half23_spec N (by omega) (by omega)) ?_
    simp (implicitDefEqProofs := false) (disch := omega) only [go_sem, ↓reduceIte]
    refine brd (fun h3 => ?_) (fun h3 => ?_)
    · rw [if_pos (by omega)] at q6 q7
      simp (implicitDefEqProofs := false) (disch := omega) only [go_sem, ↓reduceIte]
      have b6 : (out ++ [false]) ++ toB f j (halfN N) = W := by rw [← q6]; simp
      refine ⟨(halfN N, j, out ++ [false], f, cut), [(0, 2)], [], [], ⟨⟨by dsimp only; omega, by dsimp only; omega⟩, by dsimp only; omega, by dsimp only; omega, b6, q7⟩, by dsimp only; omega, rfl, ?_, ?_, ?_⟩ <;> simp (implicitDefEqProofs := false) (disch := omega) only [go_sem, ↓reduceIte, List.map_append, stV, List.length_append, List.length_singleton]
    · rw [if_neg (by omega)] at q6 q7
      have i3 : (j : Int) - (halfN N : Int) = ((j - halfN N : Nat) : Int) := by omega
      have i4 : (N : Int) - (halfN N : Int) = ((N - halfN N : Nat) : Int) := by omega
      simp (implicitDefEqProofs := false) (disch := omega) only [go_sem, ↓reduceIte, i3, i4]
      have b6 : (out ++ [true]) ++ toB f (j - halfN N) (N - halfN N) = W := by rw [← q6]; simp
      refine ⟨(N - halfN N, j - halfN N, out ++ [true], f, true), [(0, 2)], [], [], ⟨⟨by dsimp only; omega, by dsimp only; omega⟩, by dsimp only; omega, by dsimp only; omega, b6, q7⟩, by dsimp only; omega, rfl, ?_, ?_, ?_⟩ <;> simp (implicitDefEqProofs := false) (disch := omega) only [go_sem, ↓reduceIte, List.map_append, stV, List.length_append, List.length_singleton, i3, i4]
  · rw [if_pos (by omega)] at q6 q7
    rw [List.append_nil] at q6
    subst q6
    subst q7
    simp (implicitDefEqProofs := false) (disch := omega) only [go_sem, ↓reduceIte]
    refine ⟨[(0, 0)], [], [], rfl, ?_, ?_, ?_⟩ <;> simp (implicitDefEqProofs := false) (disch := omega) only [go_sem, ↓reduceIte]
/-! Where two rows part. -/
theorem part_none (l l' : List (List Int)) (n m : Nat) (hn : l.length = n) (hm : l'.length = m) (hnl : n ≤ 1000000) (hml : m ≤ 1000000) (hb : ∀ p ∈ l, ∀ x ∈ p, 0 ≤ x ∧ x < 256) (hb' : ∀ p ∈ l', ∀ x ∈ p, 0 ≤ x ∧ x < 256) (h : ∀ j, j < n → j < m → l.getD j [] = l'.getD j []) :
    FnC Try.prog 27 [.sl (.lst 1 n (l.map bsl)), .sl (.lst 1 m (l'.map bsl))] [] (.tup [.nils, .nils, .bool false]) [] := by
  obtain ⟨M, hM⟩ : ∃ M, M = min n m := ⟨_, rfl⟩
  have hmin : min (n : Int) (m : Int) = (M : Int) := by omega
  have hle : (l.map bsl).length = n := by rw [List.length_map, hn]
  have hle' : (l'.map bsl).length = m := by rw [List.length_map, hm]
  refine fn0 mix pl27 0 2 [.tmp 4, .tmp 5, .tmp 6] Try.func27 rfl (by kernel_rfl) (by kernel_rfl) rfl (by kernel_rfl) (by kernel_rfl) (by simp) ?_
  simp (implicitDefEqProofs := false) (disch := omega) only [go_sem, ↓reduceIte, hmin]
  refine loop (ι := Nat) 0 (fun i => i ≤ M) (fun i => [(0, .sl (.lst 1 n (l.map bsl))), (1, .sl (.lst 1 m (l'.map bsl))), (12, .int .i64 M), (13, .int .i64 i)]) (fun i => []) (fun i => M - i) 0 [] [] (Nat.zero_le _) rfl ?_ ?_ ?_ (fun i hi => ?_)
  · simp (implicitDefEqProofs := false) (disch := omega) only [go_sem, ↓reduceIte]
  · simp (implicitDefEqProofs := false) (disch := omega) only [go_sem, ↓reduceIte]
  · simp (implicitDefEqProofs := false) (disch := omega) only [go_sem, ↓reduceIte]
  simp (implicitDefEqProofs := false) (disch := omega) only [go_sem, ↓reduceIte]
  refine brd (fun h1 => ?_) (fun h1 => ?_)
  · have hg := fun K => getB_map (l := l) (show i < l.length by omega) K
    have hg' := fun K => getB_map (l := l') (show i < l'.length by omega) K
    have he := equal23_spec (l.getD i []) (l'.getD i []) _ _ rfl rfl (hb _ (getD_mem (by omega))) (hb' _ (getD_mem (by omega)))
    rw [decide_eq_true (h i (by omega) (by omega))] at he
    simp (implicitDefEqProofs := false) (disch := omega) only [go_sem, ↓reduceIte, ↓hg, ↓hg', hle, hle']
    refine call0 he ?_
    simp (implicitDefEqProofs := false) (disch := omega) only [go_sem, ↓reduceIte]
    refine ⟨i + 1, [], [], [], by dsimp only; omega, by dsimp only; omega, rfl, ?_, ?_, ?_⟩ <;> simp (implicitDefEqProofs := false) (disch := omega) only [go_sem, ↓reduceIte]
  · simp (implicitDefEqProofs := false) (disch := omega) only [go_sem, ↓reduceIte]
theorem part_some (l l' : List (List Int)) (n m p : Nat) (hn : l.length = n) (hm : l'.length = m) (hnl : n ≤ 1000000) (hml : m ≤ 1000000) (hb : ∀ p ∈ l, ∀ x ∈ p, 0 ≤ x ∧ x < 256) (hb' : ∀ p ∈ l', ∀ x ∈ p, 0 ≤ x ∧ x < 256)
    (hl : (l.getD p []).length ≤ 100000) (hl' : (l'.getD p []).length ≤ 100000) (h : PartsAt l l' p) :
    FnC Try.prog 27 [.sl (.lst 1 n (l.map bsl)), .sl (.lst 1 m (l'.map bsl))] [] (.tup [.osl 0 [] 1 0 (l.getD p []).length, .osl 1 [] 1 0 (l'.getD p []).length, .bool true])
      [(0, .row (.ints .u8 (l.getD p []).length (l.getD p []))), (1, .row (.ints .u8 (l'.getD p []).length (l'.getD p [])))] := by
  obtain ⟨M, hM⟩ : ∃ M, M = min n m := ⟨_, rfl⟩
  obtain ⟨p1, p2, p3, p4⟩ := h
  have hmin : min (n : Int) (m : Int) = (M : Int) := by omega
  have hle : (l.map bsl).length = n := by rw [List.length_map, hn]
  have hle' : (l'.map bsl).length = m := by rw [List.length_map, hm]
  refine fnN mix pl27 0 2 [.tmp 4, .tmp 5, .tmp 6] Try.func27 rfl (by kernel_rfl) (by kernel_rfl) rfl (by kernel_rfl) (by kernel_rfl) (by simp) ?_
  simp (implicitDefEqProofs := false) (disch := omega) only [go_sem, ↓reduceIte, hmin]
  refine loop (ι := Nat) 0 (fun i => i ≤ p) (fun i => [(0, .sl (.lst 1 n (l.map bsl))), (1, .sl (.lst 1 m (l'.map bsl))), (12, .int .i64 M), (13, .int .i64 i)]) (fun i => []) (fun i => M - i) 0 [] [] (Nat.zero_le _) rfl ?_ ?_ ?_ (fun i hi => ?_)
  · simp (implicitDefEqProofs := false) (disch := omega) only [go_sem, ↓reduceIte]
  · simp (implicitDefEqProofs := false) (disch := omega) only [go_sem, ↓reduceIte]
  · simp (implicitDefEqProofs := false) (disch := omega) only [go_sem, ↓reduceIte]
  simp (implicitDefEqProofs := false) (disch := omega) only [go_sem, ↓reduceIte]
  refine brd (fun h1 => ?_) (fun h1 => by omega)
  have hg := fun K => getB_map (l := l) (show i < l.length by omega) K
  have hg' := fun K => getB_map (l := l') (show i < l'.length by omega) K
  have he := equal23_spec (l.getD i []) (l'.getD i []) _ _ rfl rfl (hb _ (getD_mem (by omega))) (hb' _ (getD_mem (by omega)))
  by_cases hip : i = p
  · subst hip
    rw [decide_eq_false p4] at he
    simp (implicitDefEqProofs := false) (disch := omega) only [go_sem, ↓reduceIte, ↓hg, ↓hg', hle, hle']
    refine call0 he ?_
    simp (implicitDefEqProofs := false) (disch := omega) only [go_sem, ↓reduceIte, ↓hg, ↓hg', hle, hle', List.nil_append]
    refine ⟨[(0, 1), (1, 3)], [], [], rfl, ?_, ?_, ?_⟩ <;> simp (implicitDefEqProofs := false) (disch := omega) only [go_sem, ↓reduceIte]
  · rw [decide_eq_true (p3 i (by omega))] at he
    simp (implicitDefEqProofs := false) (disch := omega) only [go_sem, ↓reduceIte, ↓hg, ↓hg', hle, hle']
    refine call0 he ?_
    simp (implicitDefEqProofs := false) (disch := omega) only [go_sem, ↓reduceIte]
    refine ⟨i + 1, [], [], [], by dsimp only; omega, by dsimp only; omega, rfl, ?_, ?_, ?_⟩ <;> simp (implicitDefEqProofs := false) (disch := omega) only [go_sem, ↓reduceIte]
end Go.Proofs.Ytegbkbkcfcjkbaa
