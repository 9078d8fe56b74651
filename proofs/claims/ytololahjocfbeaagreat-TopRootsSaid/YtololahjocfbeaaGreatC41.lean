/- Texts, joined. -/
import Derived.Test.YtololahjocfbeaaGreatC40
namespace Go.Proofs.YtololahjocfbeaaGreat
open Go Go.Sy Go.Proofs.Tryz
set_option maxRecDepth 100000
set_option maxHeartbeats 8000000
set_option linter.unusedSimpArgs false
set_option linter.unusedVariables false
attribute [go_sem] pl93 pl169
theorem sums1 {a : List Int} (ha : ∀ x ∈ a, 0 ≤ x ∧ x < 256) (hn : a.length ≤ 1000000) : FnC Tryz.prog 167 [.sl (.lst 1 1 [bsl a])] [] (.ints .u8 32 (sumD a)) [] := by
  have h := sums_spec [a] (fun p hp => by rw [List.mem_singleton] at hp; subst hp; exact ha) (by simpa [cat] using hn) (by simp)
  simpa [cat] using h
theorem getD_mem {l : List (List Int)} {i : Nat} (h : i < l.length) : l.getD i [] ∈ l := by
  simp only [List.getD, List.getElem?_eq_getElem h, Option.getD_some]; exact List.getElem_mem h
theorem equal23_spec (a b : List Int) (n m : Nat) (hn : a.length = n) (hm : b.length = m) (ha : ∀ x ∈ a, 0 ≤ x ∧ x < 256) (hb : ∀ x ∈ b, 0 ≤ x ∧ x < 256) : FnC Tryz.prog 103 [.sl (.ints .u8 n a), .sl (.ints .u8 m b)] [] (.bool (decide (a = b))) [] := by
  have e : decide ((a.map fun x => UInt8.ofNat x.toNat) = (b.map fun x => UInt8.ofNat x.toNat)) = decide (a = b) := decide_eq_decide.2 (bytes_inj ha hb)
  refine fn0 mix [] 0 2 [.tmp 4] Tryz.func103 rfl (by kernel_rfl) (by kernel_rfl) rfl (by kernel_rfl) (by kernel_rfl) (by simp) ?_
  simp -implicitDefEqProofs (disch := omega) only [go_sem, ↓reduceIte, e]
theorem pair_len {a b : List Int} (ha : goodD a) (hb : goodD b) : (pairL a b).length = 65 := by
  unfold pairL; rw [List.length_cons, List.length_append, ha.1, hb.1]
theorem pair_mem {a b : List Int} (ha : goodD a) (hb : goodD b) : ∀ x ∈ pairL a b, 0 ≤ x ∧ x < 256 := by
  intro x hx
  rcases List.mem_cons.1 hx with rfl | hx
  · decide
  · exact app_mem ha.2 hb.2 x hx
theorem pair23_spec (a b : List Int) (ha : goodD a) (hb : goodD b) : FnC Tryz.prog 169 [.ints .u8 32 a, .ints .u8 32 b] [] (.osl 0 [] 1 0 65) [(0, .row (.ints .u8 65 (pairL a b)))] := by
  have l1 := ha.1
  have l2 := hb.1
  refine fnN mix pl169 0 2 [.tmp 4] Tryz.func169 rfl (by kernel_rfl) (by kernel_rfl) rfl (by kernel_rfl) (by kernel_rfl) (by simp) ?_
  simp -implicitDefEqProofs (disch := omega) only [go_sem, ↓reduceIte]
  refine ⟨[(0, 4)], [], [], rfl, ?_, ?_, ?_⟩ <;> simp -implicitDefEqProofs (disch := omega) only [go_sem, ↓reduceIte, pairL, List.cons_append, List.singleton_append]
def stV (b : Bool) : AV := .agg [.bool b]
theorem pf_stV (l : List Bool) : AV.pf.pfs (l.map stV) = true := by
  induction l with
  | nil => rfl
  | cons b l ih => simpa [AV.pf.pfs, AV.pf, stV] using ih
theorem turnS_spec (ds : List Bool) (n : Nat) (hn : ds.length = n) (h : n ≤ 1000) : FnC Tryz.prog 210 [.sl (.lst 1 n (ds.map stV))] [] (.osl 0 [] 1 0 n) [(0, .row (.lst 1 n (ds.reverse.map stV)))] := by
  have hle : (ds.map stV).length = n := by rw [List.length_map, hn]
  refine fnN mix [] 0 1 [.tmp 2] Tryz.func210 rfl (by kernel_rfl) (by kernel_rfl) rfl (by kernel_rfl) (by kernel_rfl) (by simp) ?_
  simp -implicitDefEqProofs (disch := omega) only [go_sem, ↓reduceIte]
  refine loop (ι := Nat) 1 (fun c => c ≤ n) (fun c => [(0, .sl (.lst 1 n (ds.map stV))), (3, .osl 0 [] 1 0 c), (4, .int .i64 ((n : Int) - 1 - c))])
    (fun c => [(0, .row (.lst 1 c ((ds.reverse.take c).map stV)))]) (fun c => n - c) 0 [(0, 0)] [] (Nat.zero_le _) rfl ?_ ?_ ?_ (fun c hc => ?_)
  · simp -implicitDefEqProofs (disch := omega) only [go_sem, ↓reduceIte]
  · simp -implicitDefEqProofs (disch := omega) only [go_sem, ↓reduceIte, List.take_zero, List.map_nil]
  · simp -implicitDefEqProofs (disch := omega) only [go_sem, ↓reduceIte, List.take_zero, List.map_nil]
  simp -implicitDefEqProofs (disch := omega) only [go_sem, ↓reduceIte]
  refine brd (fun h2 => ?_) (fun h2 => ?_)
  · have hcl : c < n := by omega
    have hd : ds[n - 1 - c]? = some (ds.getD (n - 1 - c) false) := by simp only [List.getD, List.getElem?_eq_getElem (show n - 1 - c < ds.length by omega), Option.getD_some]
    have hg0 := fun K => getP_map (f := stV) hd K
    have i2 : ((n : Int) - 1 - c).toNat = n - 1 - c := by omega
    have i3 : (n : Int) - 1 - c - 1 = (n : Int) - 1 - ((c : Int) + 1) := by omega
    have hr : ds.reverse[c]? = some (ds.getD (n - 1 - c) false) := by
      rw [List.getElem?_reverse (by omega), hn, hd]
    have ht := take_next' hr
    simp -implicitDefEqProofs (disch := omega) only [go_sem, ↓reduceIte, i2, hg0, stV, hle]
    refine ⟨c + 1, [(0, 2)], [], [], by dsimp only; omega, by dsimp only; omega, rfl, ?_, ?_, ?_⟩ <;> simp -implicitDefEqProofs (disch := omega) only [go_sem, ↓reduceIte, i3, ht, List.map_append, stV]
  · obtain rfl : c = n := by omega
    have ht : ds.reverse.take c = ds.reverse := List.take_of_length_le (by rw [List.length_reverse]; omega)
    simp -implicitDefEqProofs (disch := omega) only [go_sem, ↓reduceIte]
    refine ⟨[(0, 0)], [], [], rfl, ?_, ?_, ?_⟩ <;> simp -implicitDefEqProofs (disch := omega) only [go_sem, ↓reduceIte, ht]
theorem turnT_spec (ts : List (List Int)) (n : Nat) (hn : ts.length = n) (h : n ≤ 1000) : FnC Tryz.prog 150 [.osl 0 [] 1 0 n] [(0, .row (.lst 1 n (ts.map bsl)))] (.osl 1 [] 1 0 n) [(1, .row (.lst 1 n (ts.reverse.map bsl)))] := by
  have hle : (ts.map bsl).length = n := by rw [List.length_map, hn]
  refine fnV mix [] 0 1 1 [.tmp 2] Tryz.func150 rfl (by kernel_rfl) (by kernel_rfl) rfl (by kernel_rfl) (by kernel_rfl) (by simp) rfl rfl ?_
  simp -implicitDefEqProofs (disch := omega) only [go_sem, ↓reduceIte]
  refine loop (ι := Nat) 2 (fun c => c ≤ n) (fun c => [(0, .osl 0 [] 1 0 n), (3, .osl 1 [] 1 0 c), (4, .int .i64 ((n : Int) - 1 - c))])
    (fun c => [(0, .row (.lst 1 n (ts.map bsl))), (1, .row (.lst 1 c ((ts.reverse.take c).map bsl)))]) (fun c => n - c) 0 [(0, 0), (1, 1)] [] (Nat.zero_le _) rfl ?_ ?_ ?_ (fun c hc => ?_)
  · simp -implicitDefEqProofs (disch := omega) only [go_sem, ↓reduceIte]
  · simp -implicitDefEqProofs (disch := omega) only [go_sem, ↓reduceIte, List.take_zero, List.map_nil]
  · simp -implicitDefEqProofs (disch := omega) only [go_sem, ↓reduceIte, List.take_zero, List.map_nil]
  simp -implicitDefEqProofs (disch := omega) only [go_sem, ↓reduceIte]
  refine brd (fun h2 => ?_) (fun h2 => ?_)
  · have hcl : c < n := by omega
    have hd := getD_some' (row := ts) (i := n - 1 - c) (by omega)
    have hg0 := fun K => getB_map (l := ts) (show n - 1 - c < ts.length by omega) K
    have i2 : ((n : Int) - 1 - c).toNat = n - 1 - c := by omega
    have i3 : (n : Int) - 1 - c - 1 = (n : Int) - 1 - ((c : Int) + 1) := by omega
    have hr : ts.reverse[c]? = some (ts.getD (n - 1 - c) []) := by
      rw [List.getElem?_reverse (by omega), hn, hd]
    have ht := take_next' hr
    simp -implicitDefEqProofs (disch := omega) only [go_sem, ↓reduceIte, i2, ↓hg0, hle]
    refine ⟨c + 1, [(0, 0), (1, 3)], [], [], by dsimp only; omega, by dsimp only; omega, rfl, ?_, ?_, ?_⟩ <;> simp -implicitDefEqProofs (disch := omega) only [go_sem, ↓reduceIte, i3, ht, List.map_append, bsl]
  · obtain rfl : c = n := by omega
    have ht : ts.reverse.take c = ts.reverse := List.take_of_length_le (by rw [List.length_reverse]; omega)
    simp -implicitDefEqProofs (disch := omega) only [go_sem, ↓reduceIte]
    refine ⟨[(1, 1)], [], [], rfl, ?_, ?_, ?_⟩ <;> simp -implicitDefEqProofs (disch := omega) only [go_sem, ↓reduceIte, ht]
theorem half23_spec (n : Nat) (h : 2 ≤ n) (hn : n ≤ 1000) : FnC Tryz.prog 209 [.int .i64 n] [] (.int .i64 (halfN n)) [] := by
  refine fn0 mix [] 0 1 [.tmp 2] Tryz.func209 rfl (by kernel_rfl) (by kernel_rfl) rfl (by kernel_rfl) (by kernel_rfl) (by simp) ?_
  simp -implicitDefEqProofs (disch := omega) only [go_sem, ↓reduceIte]
  refine loop (ι := Nat) 0 (fun j => pw j < n) (fun j => [(0, .int .i64 n), (3, .int .i64 (pw j))]) (fun j => []) (fun j => n - pw j) 0 [] [] (show 1 < n by omega) rfl ?_ ?_ ?_ (fun j hj => ?_)
  · simp -implicitDefEqProofs (disch := omega) only [go_sem, ↓reduceIte]
  · simp -implicitDefEqProofs (disch := omega) only [go_sem, ↓reduceIte, show pw 0 = 1 by rfl]
  · simp -implicitDefEqProofs (disch := omega) only [go_sem, ↓reduceIte]
  have e := pw_succ j
  have hpp := pw_pos j
  simp -implicitDefEqProofs (disch := omega) only [go_sem, ↓reduceIte]
  refine brd (fun h2 => ?_) (fun h2 => ?_)
  · simp -implicitDefEqProofs (disch := omega) only [go_sem, ↓reduceIte, ← e]
    have hj2 : pw (j + 1) < n := by omega
    refine ⟨j + 1, [], [], [], hj2, by dsimp only; omega, rfl, ?_, ?_, ?_⟩ <;> simp -implicitDefEqProofs (disch := omega) only [go_sem, ↓reduceIte, e]
  · have : halfN n = pw j := halfN_eq ⟨⟨j, rfl⟩, hj, by omega⟩ h
    rw [this]
    simp -implicitDefEqProofs (disch := omega) only [go_sem, ↓reduceIte]
theorem toB_le : ∀ (f m n : Nat), (toB f m n).length ≤ f
  | 0, _, _ => Nat.le_refl _
  | f + 1, m, n => by
    rw [toB]
    split
    · exact Nat.zero_le _
    · split
      · rw [List.length_cons]; have := toB_le f m (halfN n); omega
      · rw [List.length_cons]; have := toB_le f (m - halfN n) (n - halfN n); omega
theorem exto_spec (n m : Nat) (h1 : 1 ≤ m) (h2 : n ≤ 200) (hm : m ≤ n) : FnC Tryz.prog 149 [.int .i64 m, .int .i64 n] [] (.tup [.osl 0 [] 1 0 (toB n m n).length, .bool (cutF n m n false)]) [(0, .row (.lst 1 (toB n m n).length ((toB n m n).map stV)))] := by
  have hwl := toB_le n m n
  generalize hW : toB n m n = W at *
  generalize hC : cutF n m n false = C at *
  refine fnN mix [] 0 2 [.tmp 4, .tmp 5] Tryz.func149 rfl (by kernel_rfl) (by kernel_rfl) rfl (by kernel_rfl) (by kernel_rfl) (by simp) ?_
  simp -implicitDefEqProofs (disch := omega) only [go_sem, ↓reduceIte]
  refine loop (ι := Nat × Nat × List Bool × Nat × Bool) 1 (fun k => (1 ≤ k.2.1 ∧ k.2.1 ≤ k.1) ∧ k.1 ≤ k.2.2.2.1 ∧ k.2.2.2.1 ≤ n ∧ k.2.2.1 ++ toB k.2.2.2.1 k.2.1 k.1 = W ∧ cutF k.2.2.2.1 k.2.1 k.1 k.2.2.2.2 = C)
    (fun k => [(0, .int .i64 k.2.1), (1, .int .i64 k.1), (6, .osl 0 [] 1 0 k.2.2.1.length), (7, .bool k.2.2.2.2)])
    (fun k => [(0, .row (.lst 1 k.2.2.1.length (k.2.2.1.map stV)))]) (fun k => k.1) (n, m, [], n, false) [] [0] ⟨⟨h1, hm⟩, Nat.le_refl _, Nat.le_refl _, hW, hC⟩ rfl ?_ ?_ ?_ (fun k hk => ?_)
  · simp -implicitDefEqProofs (disch := omega) only [go_sem, ↓reduceIte, List.length_nil]
  · simp -implicitDefEqProofs (disch := omega) only [go_sem, ↓reduceIte, List.length_nil]
  · simp -implicitDefEqProofs (disch := omega) only [go_sem, ↓reduceIte, List.length_nil, List.map_nil]
  obtain ⟨N, j, out, f, cut⟩ := k
  obtain ⟨⟨q2, q2'⟩, q3, q4, q6, q7⟩ := hk
  dsimp only at q2 q2' q3 q4 q6 q7 ⊢
  have hob : out.length ≤ n := by
    have := congrArg List.length q6
    simp only [List.length_append] at this
    omega
  obtain ⟨f, rfl⟩ : ∃ f', f = f' + 1 := ⟨f - 1, by omega⟩
  rw [toB] at q6
  rw [cutF] at q7
  simp -implicitDefEqProofs (disch := omega) only [go_sem, ↓reduceIte]
  refine brd (fun h1 => ?_) (fun h1 => ?_)
  · rw [if_neg (by omega)] at q6 q7
    have hk := halfN_lt (show 2 ≤ N by omega)
    simp -implicitDefEqProofs (disch := omega) only [go_sem, ↓reduceIte]
    refine call0 (half23_spec N (by omega) (by omega)) ?_
    simp -implicitDefEqProofs (disch := omega) only [go_sem, ↓reduceIte]
    refine brd (fun h3 => ?_) (fun h3 => ?_)
    · rw [if_pos (by omega)] at q6 q7
      simp -implicitDefEqProofs (disch := omega) only [go_sem, ↓reduceIte]
      have b6 : (out ++ [false]) ++ toB f j (halfN N) = W := by rw [← q6]; simp
      refine ⟨(halfN N, j, out ++ [false], f, cut), [(0, 2)], [], [], ⟨⟨by dsimp only; omega, by dsimp only; omega⟩, by dsimp only; omega, by dsimp only; omega, b6, q7⟩, by dsimp only; omega, rfl, ?_, ?_, ?_⟩ <;> simp -implicitDefEqProofs (disch := omega) only [go_sem, ↓reduceIte, List.map_append, stV, List.length_append, List.length_singleton]
    · rw [if_neg (by omega)] at q6 q7
      have i3 : (j : Int) - (halfN N : Int) = ((j - halfN N : Nat) : Int) := by omega
      have i4 : (N : Int) - (halfN N : Int) = ((N - halfN N : Nat) : Int) := by omega
      simp -implicitDefEqProofs (disch := omega) only [go_sem, ↓reduceIte, i3, i4]
      have b6 : (out ++ [true]) ++ toB f (j - halfN N) (N - halfN N) = W := by rw [← q6]; simp
      refine ⟨(N - halfN N, j - halfN N, out ++ [true], f, true), [(0, 2)], [], [], ⟨⟨by dsimp only; omega, by dsimp only; omega⟩, by dsimp only; omega, by dsimp only; omega, b6, q7⟩, by dsimp only; omega, rfl, ?_, ?_, ?_⟩ <;> simp -implicitDefEqProofs (disch := omega) only [go_sem, ↓reduceIte, List.map_append, stV, List.length_append, List.length_singleton, i3, i4]
  · rw [if_pos (by omega)] at q6 q7
    rw [List.append_nil] at q6
    subst q6
    subst q7
    simp -implicitDefEqProofs (disch := omega) only [go_sem, ↓reduceIte]
    refine ⟨[(0, 0)], [], [], rfl, ?_, ?_, ?_⟩ <;> simp -implicitDefEqProofs (disch := omega) only [go_sem, ↓reduceIte]
theorem part_some (l l' : List (List Int)) (n m p : Nat) (hn : l.length = n) (hm : l'.length = m) (hnl : n ≤ 1000000) (hml : m ≤ 1000000) (hb : ∀ p ∈ l, ∀ x ∈ p, 0 ≤ x ∧ x < 256) (hb' : ∀ p ∈ l', ∀ x ∈ p, 0 ≤ x ∧ x < 256)
    (hl : (l.getD p []).length ≤ 100000) (hl' : (l'.getD p []).length ≤ 100000) (h : PartsAt l l' p) :
    FnC Tryz.prog 93 [.sl (.lst 1 n (l.map bsl)), .sl (.lst 1 m (l'.map bsl))] [] (.tup [.osl 0 [] 1 0 (l.getD p []).length, .osl 1 [] 1 0 (l'.getD p []).length, .bool true])
      [(0, .row (.ints .u8 (l.getD p []).length (l.getD p []))), (1, .row (.ints .u8 (l'.getD p []).length (l'.getD p [])))] := by
  obtain ⟨M, hM⟩ : ∃ M, M = min n m := ⟨_, rfl⟩
  obtain ⟨p1, p2, p3, p4⟩ := h
  have hmin : min (n : Int) (m : Int) = (M : Int) := by omega
  have hle : (l.map bsl).length = n := by rw [List.length_map, hn]
  have hle' : (l'.map bsl).length = m := by rw [List.length_map, hm]
  refine fnN mix pl93 0 2 [.tmp 4, .tmp 5, .tmp 6] Tryz.func93 rfl (by kernel_rfl) (by kernel_rfl) rfl (by kernel_rfl) (by kernel_rfl) (by simp) ?_
  simp -implicitDefEqProofs (disch := omega) only [go_sem, ↓reduceIte, hmin]
  refine loop (ι := Nat) 0 (fun i => i ≤ p) (fun i => [(0, .sl (.lst 1 n (l.map bsl))), (1, .sl (.lst 1 m (l'.map bsl))), (12, .int .i64 M), (13, .int .i64 i)]) (fun i => []) (fun i => M - i) 0 [] [] (Nat.zero_le _) rfl ?_ ?_ ?_ (fun i hi => ?_)
  · simp -implicitDefEqProofs (disch := omega) only [go_sem, ↓reduceIte]
  · simp -implicitDefEqProofs (disch := omega) only [go_sem, ↓reduceIte]
  · simp -implicitDefEqProofs (disch := omega) only [go_sem, ↓reduceIte]
  simp -implicitDefEqProofs (disch := omega) only [go_sem, ↓reduceIte]
  refine brd (fun h1 => ?_) (fun h1 => by omega)
  have hg := fun K => getB_map (l := l) (show i < l.length by omega) K
  have hg' := fun K => getB_map (l := l') (show i < l'.length by omega) K
  have he := equal23_spec (l.getD i []) (l'.getD i []) _ _ rfl rfl (hb _ (getD_mem (by omega))) (hb' _ (getD_mem (by omega)))
  by_cases hip : i = p
  · subst hip
    rw [decide_eq_false p4] at he
    simp -implicitDefEqProofs (disch := omega) only [go_sem, ↓reduceIte, ↓hg, ↓hg', hle, hle']
    refine call0 he ?_
    simp -implicitDefEqProofs (disch := omega) only [go_sem, ↓reduceIte, ↓hg, ↓hg', hle, hle', List.nil_append]
    refine ⟨[(0, 1), (1, 3)], [], [], rfl, ?_, ?_, ?_⟩ <;> simp -implicitDefEqProofs (disch := omega) only [go_sem, ↓reduceIte]
  · rw [decide_eq_true (p3 i (by omega))] at he
    simp -implicitDefEqProofs (disch := omega) only [go_sem, ↓reduceIte, ↓hg, ↓hg', hle, hle']
    refine call0 he ?_
    simp -implicitDefEqProofs (disch := omega) only [go_sem, ↓reduceIte]
    refine ⟨i + 1, [], [], [], by dsimp only; omega, by dsimp only; omega, rfl, ?_, ?_, ?_⟩ <;> simp -implicitDefEqProofs (disch := omega) only [go_sem, ↓reduceIte]
attribute [go_sem] pl151
theorem stepT_mem {W : List (List Int)} (hW : ∀ d ∈ W, goodD d) {x : List Int} (hx : goodD x) (r : Bool) {j : Nat} (hj : j < W.length) : (stepT W r j x).length = 65 ∧ ∀ y ∈ stepT W r j x, 0 ≤ y ∧ y < 256 := by
  have hw := getD_good hW hj
  unfold stepT
  cases r
  · rw [if_neg (by decide)]; exact ⟨pair_len hx hw, pair_mem hx hw⟩
  · rw [if_pos rfl]; exact ⟨pair_len hw hx, pair_mem hw hx⟩
theorem sumD_good (b : List Int) : goodD (sumD b) := ⟨sumD_len _, sumD_mem _⟩
theorem upEnd_good (W : List (List Int)) : ∀ (rs : List Bool) (j : Nat) (x : List Int), goodD x → goodD (upEnd W rs j x)
  | [], _, _, h => h
  | r :: rs, j, x, _ => upEnd_good W rs (j + 1) _ (sumD_good _)
theorem upTx_mem {W : List (List Int)} (hW : ∀ d ∈ W, goodD d) : ∀ (rs : List Bool) (j : Nat) (x : List Int), goodD x → j + rs.length ≤ W.length → ∀ t ∈ upTx W rs j x, t.length = 65 ∧ ∀ y ∈ t, 0 ≤ y ∧ y < 256
  | [], _, _, _, _, t, h => by cases h
  | r :: rs, j, x, hx, hl, t, h => by
    rw [List.length_cons] at hl
    rw [upTx] at h
    rcases List.mem_cons.1 h with rfl | h
    · exact stepT_mem hW hx r (by omega)
    · exact upTx_mem hW rs (j + 1) _ (sumD_good _) (by omega) t h
theorem up_spec (x : List Int) (l : List Bool) (W : List (List Int)) (n m : Nat) (hx : goodD x) (hn : l.length = n) (hm : W.length = m) (hnm : n ≤ m) (hml : m ≤ 1000000) (hnl : n ≤ 1000) (hW : ∀ d ∈ W, goodD d) :
    FnC Tryz.prog 151 [.ints .u8 32 x, .osl 0 [] 1 0 n, .sl (.lst 32 m (W.map dg))] [(0, .row (.lst 1 n (l.map stV)))] (.osl 1 [] 1 0 n) [(1, .row (.lst 1 n ((upTx W l.reverse 0 x).map bsl)))] := by
  obtain ⟨rs, hrs⟩ : ∃ rs, rs = l.reverse := ⟨_, rfl⟩
  have hrl : rs.length = n := by rw [hrs, List.length_reverse, hn]
  have htu := turnS_spec l n hn hnl
  rw [← hrs] at htu ⊢
  have hle : (W.map dg).length = m := by rw [List.length_map, hm]
  have hle2 : (rs.map stV).length = n := by rw [List.length_map, hrl]
  refine fnV mix ((100008, []) :: pl151) 0 1 3 [.tmp 6] Tryz.func151 rfl (by kernel_rfl) (by kernel_rfl) rfl (by kernel_rfl) (by kernel_rfl) (by simp) rfl rfl ?_
  simp -implicitDefEqProofs (disch := omega) only [go_sem, ↓reduceIte]
  refine callBF 1 htu (hq := by simp [OB.pf, AV.pf, pf_stV]) ?_ ?_
  · simp -implicitDefEqProofs (disch := omega) only [go_sem, ↓reduceIte]
  simp -implicitDefEqProofs (disch := omega) only [go_sem, ↓reduceIte]
  refine loop (ι := Nat) 3 (fun j => j ≤ n) (fun j => [(2, .sl (.lst 32 m (W.map dg))), (3, .ref 0 []), (7, .osl 2 [] 1 0 j), (12, .osl 1 [] 1 0 n), (13, .int .i64 n), (14, .int .i64 j)])
    (fun j => [(0, .var (.ints .u8 32 (upEnd W (rs.take j) 0 x))), (1, .row (.lst 1 n (rs.map stV))), (2, .row (.lst 1 j ((upTx W (rs.take j) 0 x).map bsl)))]) (fun j => n - j) 0 [(0, 1), (1, 2)] [2] (Nat.zero_le _) rfl ?_ ?_ ?_ (fun j hj => ?_)
  · simp -implicitDefEqProofs (disch := omega) only [go_sem, ↓reduceIte]
  · simp -implicitDefEqProofs (disch := omega) only [go_sem, ↓reduceIte]
  · simp -implicitDefEqProofs (disch := omega) only [go_sem, ↓reduceIte, List.take_zero, upEnd, upTx, List.map_nil]
  simp -implicitDefEqProofs (disch := omega) only [go_sem, ↓reduceIte]
  refine brd (fun h1 => ?_) (fun h1 => ?_)
  · obtain ⟨r, hr⟩ : ∃ r, r = rs.getD j false := ⟨_, rfl⟩
    have hd : rs[j]? = some r := by rw [hr]; simp only [List.getD, List.getElem?_eq_getElem (show j < rs.length by omega), Option.getD_some]
    have hg0 : ∀ K, getP (rs.map stV) j K = K (.agg [.bool r]) := fun K => getP_map (f := stV) hd K
    have hw0 : ∀ K, getP (W.map dg) j K = K (.ints .u8 32 (W.getD j [])) := fun K => getP_map (f := dg) (getD_some' (by omega)) K
    have htk := take_next' hd
    have hsu := up_snoc W r (rs.take j) 0 x
    rw [← htk, List.length_take, Nat.zero_add, show min j rs.length = j by omega] at hsu
    have hX := upEnd_good W (rs.take j) 0 x hx
    have hwj := getD_good hW (show j < W.length by omega)
    generalize upEnd W (rs.take j) 0 x = X at *
    simp -implicitDefEqProofs (disch := omega) only [go_sem, ↓reduceIte, ↓hg0, ↓hw0, hle, hle2]
    refine callF 1 (pair23_spec X (W.getD j []) hX hwj) ?_
    simp -implicitDefEqProofs (disch := omega) only [go_sem, ↓reduceIte]
    by_cases hrr : r = true
    · have hr := hrr
      rw [hrr]
      simp -implicitDefEqProofs (disch := omega) only [go_sem, ↓reduceIte, ↓hw0, hle]
      refine callF 1 (pair23_spec (W.getD j []) X hwj hX) ?_
      simp -implicitDefEqProofs (disch := omega) only [go_sem, ↓reduceIte]
      have hst := stepT_mem hW (x := X) hX r (show j < W.length by omega)
      have hto : stepT W r j X = pairL (W.getD j []) X := by rw [hr]; rfl
      rw [hto] at hst
      have hsm := sums1 hst.2 (by rw [hst.1]; decide)
      rw [bsl, hst.1] at hsm
      refine cut 3 [(2, .sl (.lst 32 m (W.map dg))), (3, .ref 0 []), (7, .osl 2 [] 1 0 j), (10, .sl (.ints .u8 65 (pairL (W.getD j []) X))), (12, .osl 1 [] 1 0 n), (13, .int .i64 n), (14, .int .i64 j)]
        [(0, .var (.ints .u8 32 X)), (1, .row (.lst 1 n (rs.map stV))), (2, .row (.lst 1 j ((upTx W (rs.take j) 0 x).map bsl)))] [(0, 0), (1, 1), (2, 2)] [] [5] rfl ?_ ?_ ?_ ?_
      · simp -implicitDefEqProofs (disch := omega) only [go_sem, ↓reduceIte]
      · simp -implicitDefEqProofs (disch := omega) only [go_sem, ↓reduceIte]
      · simp -implicitDefEqProofs (disch := omega) only [go_sem, ↓reduceIte]
      simp -implicitDefEqProofs (disch := omega) only [go_sem, ↓reduceIte]
      refine callB hsm ?_ ?_
      · simp -implicitDefEqProofs (disch := omega) only [go_sem, ↓reduceIte]
      simp -implicitDefEqProofs (disch := omega) only [go_sem, ↓reduceIte]
      have e1 : upEnd W (rs.take (j + 1)) 0 x = sumD (pairL (W.getD j []) X) := by rw [hsu.2, hto]
      have e2 : (upTx W (rs.take (j + 1)) 0 x).map bsl = (upTx W (rs.take j) 0 x).map bsl ++ [.sl (.ints .u8 65 (pairL (W.getD j []) X))] := by
        rw [hsu.1, List.map_append, hto]
        show _ ++ [AV.sl (.ints .u8 (List.length (pairL (W.getD j []) X)) (pairL (W.getD j []) X))] = _
        rw [hst.1]
      refine ⟨j + 1, [(0, 0), (1, 1), (2, 4)], [], [], by dsimp only; omega, by dsimp only; omega, rfl, ?_, ?_, ?_⟩ <;> simp -implicitDefEqProofs (disch := omega) only [go_sem, ↓reduceIte, e1, e2]
    · have hr : r = false := by simpa using hrr
      rw [hr]
      simp -implicitDefEqProofs (disch := omega) only [go_sem, ↓reduceIte]
      have hst := stepT_mem hW (x := X) hX r (show j < W.length by omega)
      have hto : stepT W r j X = pairL X (W.getD j []) := by rw [hr]; rfl
      rw [hto] at hst
      have hsm := sums1 hst.2 (by rw [hst.1]; decide)
      rw [bsl, hst.1] at hsm
      refine cut 3 [(2, .sl (.lst 32 m (W.map dg))), (3, .ref 0 []), (7, .osl 2 [] 1 0 j), (10, .sl (.ints .u8 65 (pairL X (W.getD j [])))), (12, .osl 1 [] 1 0 n), (13, .int .i64 n), (14, .int .i64 j)]
        [(0, .var (.ints .u8 32 X)), (1, .row (.lst 1 n (rs.map stV))), (2, .row (.lst 1 j ((upTx W (rs.take j) 0 x).map bsl)))] [(0, 0), (1, 1), (2, 2)] [] [4] rfl ?_ ?_ ?_ ?_
      · simp -implicitDefEqProofs (disch := omega) only [go_sem, ↓reduceIte]
      · simp -implicitDefEqProofs (disch := omega) only [go_sem, ↓reduceIte]
      · simp -implicitDefEqProofs (disch := omega) only [go_sem, ↓reduceIte]
      simp -implicitDefEqProofs (disch := omega) only [go_sem, ↓reduceIte]
      refine callB hsm ?_ ?_
      · simp -implicitDefEqProofs (disch := omega) only [go_sem, ↓reduceIte]
      simp -implicitDefEqProofs (disch := omega) only [go_sem, ↓reduceIte]
      have e1 : upEnd W (rs.take (j + 1)) 0 x = sumD (pairL X (W.getD j [])) := by rw [hsu.2, hto]
      have e2 : (upTx W (rs.take (j + 1)) 0 x).map bsl = (upTx W (rs.take j) 0 x).map bsl ++ [.sl (.ints .u8 65 (pairL X (W.getD j [])))] := by
        rw [hsu.1, List.map_append, hto]
        show _ ++ [AV.sl (.ints .u8 (List.length (pairL X (W.getD j []))) (pairL X (W.getD j [])))] = _
        rw [hst.1]
      refine ⟨j + 1, [(0, 0), (1, 1), (2, 4)], [], [], by dsimp only; omega, by dsimp only; omega, rfl, ?_, ?_, ?_⟩ <;> simp -implicitDefEqProofs (disch := omega) only [go_sem, ↓reduceIte, e1, e2]
  · obtain rfl : j = n := by omega
    have ht : rs.take j = rs := List.take_of_length_le (by omega)
    simp -implicitDefEqProofs (disch := omega) only [go_sem, ↓reduceIte]
    refine ⟨[(1, 2)], [], [], rfl, ?_, ?_, ?_⟩ <;> simp -implicitDefEqProofs (disch := omega) only [go_sem, ↓reduceIte, ht]
attribute [go_sem] pl94
theorem growTrail_ok (a : List Int) (m n : Nat) (W : List (List Int)) (w : Nat) (ha : goodD a) (hw : W.length = w) (hwl : w ≤ 1000000) (hW : ∀ d ∈ W, goodD d) (h1 : 1 ≤ m) (h2 : m ≤ n) (h3 : n ≤ 200) (hd : depG n m n false = w) :
    FnC Tryz.prog 94 [.ints .u8 32 a, .int .i64 m, .int .i64 n, .sl (.lst 32 w (W.map dg))] [] (.osl 0 [] 1 0 (growT a W n m n false).length) [(0, .row (.lst 1 (growT a W n m n false).length ((growT a W n m n false).map bsl)))] := by
  have hdl := toB_len n m n false (Nat.le_refl _) h1 h2
  have hts := exto_spec n m h1 h3 h2
  have hbl := toB_le n m n
  have hgu := (grow_up a W n m n false (Nat.le_refl _) h1 h2).2
  have hup := fun hx hl hW' => up_spec (gro0 a W (cutF n m n false)) (toB n m n) (groW W (cutF n m n false)) (toB n m n).length (toB n m n).length hx rfl hl (Nat.le_refl _) (by omega) (by omega) hW'
  have hul := upTx_len (groW W (cutF n m n false)) (toB n m n).reverse 0 (gro0 a W (cutF n m n false))
  have hgl : (growT a W n m n false).length = (toB n m n).length := by rw [← hgu, List.length_reverse, hul, List.length_reverse]
  have htt := turnT_spec (upTx (groW W (cutF n m n false)) (toB n m n).reverse 0 (gro0 a W (cutF n m n false))) (toB n m n).length (by rw [hul, List.length_reverse]) (by omega)
  rw [hgu] at htt
  rw [hgl]
  generalize growT a W n m n false = G at *
  generalize upTx (groW W (cutF n m n false)) (toB n m n).reverse 0 (gro0 a W (cutF n m n false)) = U at *
  generalize hB : toB n m n = B at *
  generalize hC : cutF n m n false = C at *
  generalize hL : B.length = L at *
  refine fnN mix pl94 0 4 [.tmp 8] Tryz.func94 rfl (by kernel_rfl) (by kernel_rfl) rfl (by kernel_rfl) (by kernel_rfl) (by simp) ?_
  simp -implicitDefEqProofs (disch := omega) only [go_sem, ↓reduceIte]
  refine brd (fun h1 => by omega) (fun h1 => ?_)
  simp -implicitDefEqProofs (disch := omega) only [go_sem, ↓reduceIte]
  refine brd (fun h2 => by omega) (fun h2 => ?_)
  simp -implicitDefEqProofs (disch := omega) only [go_sem, ↓reduceIte]
  refine brd (fun h3 => by omega) (fun h3 => ?_)
  simp -implicitDefEqProofs (disch := omega) only [go_sem, ↓reduceIte]
  refine callF 1 hts ?_
  cases C
  · rw [if_neg (by decide)] at hdl
    obtain rfl : L = w := by omega
    have hup := hup ha hw hW
    have hg1 : groW W false = W := rfl
    have hg2 : gro0 a W false = a := rfl
    rw [hg1, hg2] at hup
    simp -implicitDefEqProofs (disch := omega) only [go_sem, ↓reduceIte]
    refine callG false [(0, 1)] [(1, 3)] 4 hup ?_ ?_
    · simp [keys]
    simp -implicitDefEqProofs (disch := omega) only [go_sem, ↓reduceIte]
    refine callG false [(0, 3)] [(1, 4)] 5 htt ?_ ?_
    · simp [keys]
    simp -implicitDefEqProofs (disch := omega) only [go_sem, ↓reduceIte]
    refine ⟨[(0, 4)], [], [], rfl, ?_, ?_, ?_⟩ <;> simp -implicitDefEqProofs (disch := omega) only [go_sem, ↓reduceIte]
  · rw [if_pos rfl] at hdl
    obtain rfl : w = L + 1 := by omega
    have hle : (W.map dg).length = L + 1 := by rw [List.length_map, hw]
    have hw0 : ∀ K, getP (W.map dg) 0 K = K (.ints .u8 32 (W.getD 0 [])) := fun K => getP_map (f := dg) (getD_some' (by omega)) K
    have i1 : L + 1 - 1 = L := by omega
    have i2 : (L : Int) + 1 - 1 = L := by omega
    have e0 : decide ((L : Int) + 1 = 0) = false := decide_eq_false (by omega)
    have hdr : ((W.map dg).drop 1).take L = (W.drop 1).map dg := by
      rw [List.take_of_length_le (by rw [List.length_drop, hle]; omega), List.map_drop]
    have hup := hup (getD_good hW (show 0 < W.length by omega)) (by show (W.drop 1).length = L; rw [List.length_drop]; omega) (fun d hd => hW d (List.mem_of_mem_drop hd))
    have hg1 : groW W true = W.drop 1 := rfl
    have hg2 : gro0 a W true = W.getD 0 [] := rfl
    rw [hg1, hg2] at hup
    simp -implicitDefEqProofs (disch := omega) only [go_sem, ↓reduceIte, ↓hw0, hle, e0, i1, i2, hdr]
    refine callG false [(0, 1)] [(1, 3)] 4 hup ?_ ?_
    · simp [keys]
    simp -implicitDefEqProofs (disch := omega) only [go_sem, ↓reduceIte]
    refine callG false [(0, 3)] [(1, 4)] 5 htt ?_ ?_
    · simp [keys]
    simp -implicitDefEqProofs (disch := omega) only [go_sem, ↓reduceIte]
    refine ⟨[(0, 4)], [], [], rfl, ?_, ?_, ?_⟩ <;> simp -implicitDefEqProofs (disch := omega) only [go_sem, ↓reduceIte]
end Go.Proofs.YtololahjocfbeaaGreat
