/- Texts, joined. -/
import Derived.Test.YtololahjocfbeaaGreatC20
import Derived.Test.YtololahjocfbeaaGreatC26
import Derived.Test.YtololahjocfbeaaGreatC27
import Derived.Test.YtololahjocfbeaaGreatC31
import Derived.Test.YtololahjocfbeaaGreatC40
import Derived.Test.YtololahjocfbeaaGreatC41
namespace Go.Proofs.YtololahjocfbeaaGreat
open Go Go.Sy Go.Proofs.Tryz
set_option maxRecDepth 100000
set_option maxHeartbeats 8000000
set_option linter.unusedSimpArgs false
set_option linter.unusedVariables false
attribute [go_sem] pl42
theorem growT_len (a : List Int) (W : List (List Int)) (f m n : Nat) (cut : Bool) (h1 : n ≤ f) (h2 : 1 ≤ m) (h3 : m ≤ n) : (growT a W f m n cut).length ≤ f := by
  rw [← (grow_up a W f m n cut h1 h2 h3).2, List.length_reverse, upTx_len, List.length_reverse]
  exact toB_le _ _ _
theorem growT_mem {a : List Int} (ha : goodD a) {W : List (List Int)} (hW : ∀ d ∈ W, goodD d) (f m n : Nat) (cut : Bool) (h1 : n ≤ f) (h2 : 1 ≤ m) (h3 : m ≤ n) (h : depG f m n cut ≤ W.length) : ∀ t ∈ growT a W f m n cut, t.length = 65 ∧ ∀ y ∈ t, 0 ≤ y ∧ y < 256 := by
  intro t ht
  rw [← (grow_up a W f m n cut h1 h2 h3).2, List.mem_reverse] at ht
  have hl := toB_len f m n cut h1 h2 h3
  generalize cutF f m n cut = C at *
  refine upTx_mem ?_ _ _ _ ?_ ?_ t ht
  · unfold groW
    cases C
    · rw [if_neg (by decide)]; exact hW
    · rw [if_pos rfl]; exact fun d hd => hW d (List.mem_of_mem_drop hd)
  · unfold gro0
    cases C
    · rw [if_neg (by decide)]; exact ha
    · rw [if_pos rfl] at hl ⊢
      exact getD_good hW (by omega)
  · rw [List.length_reverse]
    unfold groW
    cases C
    · rw [if_neg (by decide)] at hl ⊢; omega
    · rw [if_pos rfl] at hl ⊢; rw [List.length_drop]; omega
theorem logs_ok (d a b : List Int) (n m : Int) (W W' : List (List Int)) (w w' : Nat) (hd : goodD d) (ha : goodD a) (hb : goodD b) (hw : W.length = w) (hw' : W'.length = w') (hwl : w ≤ 1000000) (hwl' : w' ≤ 1000000)
    (hW : ∀ d ∈ W, goodD d) (hW' : ∀ d ∈ W', goodD d) (h1 : a ≠ b) (h2 : growsP a m d n W) (h3 : growsP b m d n W') :
    ∃ x y, x ≠ y ∧ sumD x = sumD y ∧ (∀ z ∈ x, 0 ≤ z ∧ z < 256) ∧ (∀ z ∈ y, 0 ≤ z ∧ z < 256) ∧ x.length ≤ 100000 ∧ y.length ≤ 100000 ∧
    FnC Tryz.prog 42 [.ints .u8 32 d, .int .i64 n, .int .i64 m, .ints .u8 32 a, .ints .u8 32 b, .sl (.lst 32 w (W.map dg)), .sl (.lst 32 w' (W'.map dg))] [] (.tup [.osl 0 [] 1 0 x.length, .osl 1 [] 1 0 y.length, .bool true])
      [(0, .row (.ints .u8 x.length x)), (1, .row (.ints .u8 y.length y))] := by
  have e1 : decide (a = b) = false := decide_eq_false h1
  have c2 := grows_spec a d m n W w ha hd hw hwl hW
  have c3 := grows_spec b d m n W' w' hb hd hw' hwl' hW'
  rw [decide_eq_true h2] at c2
  rw [decide_eq_true h3] at c3
  unfold growsP at h2 h3
  obtain ⟨N, rfl⟩ := Int.eq_ofNat_of_zero_le (show 0 ≤ n by omega)
  obtain ⟨M, rfl⟩ := Int.eq_ofNat_of_zero_le (show 0 ≤ m by omega)
  rw [Int.toNat_natCast, Int.toNat_natCast] at h2 h3
  obtain ⟨g1, g2, g3, g4, g5⟩ := h2
  obtain ⟨_, _, _, k4, k5⟩ := h3
  have t1 := growTrail_ok a M N W w ha hw hwl hW (by omega) (by omega) (by omega) (by omega)
  have t2 := growTrail_ok b M N W' w' hb hw' hwl' hW' (by omega) (by omega) (by omega) (by omega)
  have hfo := grow_found ha hb hW hW' N M N false (Nat.le_refl _) (by omega) (by omega) (by omega) (by omega) (by rw [g5, k5]) (by rw [g5, k5]; exact h1)
  have m1 := growT_mem ha hW N M N false (Nat.le_refl _) (by omega) (by omega) (by omega)
  have m2 := growT_mem hb hW' N M N false (Nat.le_refl _) (by omega) (by omega) (by omega)
  have el1 := growT_len a W N M N false (Nat.le_refl _) (by omega) (by omega)
  have el2 := growT_len b W' N M N false (Nat.le_refl _) (by omega) (by omega)
  generalize growT a W N M N false = T at *
  generalize growT b W' N M N false = T' at *
  obtain ⟨p, hp, hs⟩ := hfo
  have ex := m1 _ (getD_mem hp.1)
  have ey := m2 _ (getD_mem hp.2.1)
  have hpt := part_some _ _ _ _ p rfl rfl (by omega) (by omega) (fun t ht => (m1 t ht).2) (fun t ht => (m2 t ht).2) (by omega) (by omega) hp
  refine ⟨_, _, hp.2.2.2, hs, ex.2, ey.2, by omega, by omega, ?_⟩
  generalize T.getD p [] = x at *
  generalize T'.getD p [] = y at *
  refine fnN mix pl42 0 7 [.tmp 14, .tmp 15, .tmp 16] Tryz.func42 rfl (by kernel_rfl) (by kernel_rfl) rfl (by kernel_rfl) (by kernel_rfl) (by simp) ?_
  simp -implicitDefEqProofs (disch := omega) only [go_sem, ↓reduceIte, e1]
  refine call0 c2 ?_
  simp -implicitDefEqProofs (disch := omega) only [go_sem, ↓reduceIte]
  refine call0 c3 ?_
  simp -implicitDefEqProofs (disch := omega) only [go_sem, ↓reduceIte]
  refine callF 1 t1 ?_
  simp -implicitDefEqProofs (disch := omega) only [go_sem, ↓reduceIte]
  refine callF 1 t2 ?_
  simp -implicitDefEqProofs (disch := omega) only [go_sem, ↓reduceIte]
  refine callBF 2 hpt ?_ ?_
  · simp -implicitDefEqProofs (disch := omega) only [go_sem, ↓reduceIte]
  simp -implicitDefEqProofs (disch := omega) only [go_sem, ↓reduceIte]
  refine ⟨[(0, 5), (1, 6)], [], [], rfl, ?_, ?_, ?_⟩ <;> simp -implicitDefEqProofs (disch := omega) only [go_sem, ↓reduceIte]
theorem toU_inj {x y : List Int} (hx : ∀ z ∈ x, 0 ≤ z ∧ z < 256) (hy : ∀ z ∈ y, 0 ≤ z ∧ z < 256) (h : x ≠ y) : (x.map fun z => UInt8.ofNat z.toNat) ≠ y.map fun z => UInt8.ofNat z.toNat := by
  intro e
  apply h
  have k : ∀ {l : List Int}, (∀ z ∈ l, 0 ≤ z ∧ z < 256) → (l.map fun z => UInt8.ofNat z.toNat).map (fun u => (u.toNat : Int)) = l := fun {l} hl => by
    rw [List.map_map]
    conv => rhs; rw [← List.map_id l]
    refine List.map_congr_left fun z hz => ?_
    have := hl z hz
    show ((UInt8.ofNat z.toNat).toNat : Int) = z
    rw [UInt8.toNat_ofNat']
    omega
  rw [← k hx, ← k hy, e]
theorem unlike_ok (x y : List Int) (n m : Nat) (hn : x.length = n) (hm : y.length = m) (hnl : n ≤ 100000) (hml : m ≤ 100000) (hx : ∀ z ∈ x, 0 ≤ z ∧ z < 256) (hy : ∀ z ∈ y, 0 ≤ z ∧ z < 256) (h : x ≠ y) (hs : sumD x = sumD y) :
    FnC Tryz.prog 43 [.sl (.ints .u8 n x), .sl (.ints .u8 m y), .bool true] [] (.bool true) [] := by
  have k1 := refsum_spec x hx (by omega)
  have k2 := refsum_spec y hy (by omega)
  rw [hn] at k1
  rw [hm] at k2
  have d1 : decide ((x.map fun z => UInt8.ofNat z.toNat) = y.map fun z => UInt8.ofNat z.toNat) = false := decide_eq_false (toU_inj hx hy h)
  have d2 : decide (sumD x = sumD y) = true := decide_eq_true hs
  generalize sumD x = X at *
  generalize sumD y = Y at *
  refine fn0 mix [] 0 3 [.tmp 6] Tryz.func43 rfl (by kernel_rfl) (by kernel_rfl) rfl (by kernel_rfl) (by kernel_rfl) (by simp) ?_
  simp -implicitDefEqProofs (disch := omega) only [go_sem, ↓reduceIte, d1]
  refine call0 k1 ?_
  simp -implicitDefEqProofs (disch := omega) only [go_sem, ↓reduceIte]
  refine call0 k2 ?_
  simp -implicitDefEqProofs (disch := omega) only [go_sem, ↓reduceIte, d2]
theorem topRoots_walk (ak ae bk be' lk le : Int) (at' al bt bl lt ll : List Int) (ha : goodD al) (hb : goodD bl) (hl : goodD ll) (W W' : List (List Int)) (hW : ∀ d ∈ W, goodD d) (hW' : ∀ d ∈ W', goodD d) (hwl : W.length ≤ 9223372036854775807) (hwl' : W'.length ≤ 9223372036854775807)
    (hw : FnC Tryz.prog 11 [] [] (.bool true) []) :
    FnC Tryz.prog 7 [.agg [.int .i64 ak, .int .i64 ae, .ints .u8 32 at', .ints .u8 32 al], .agg [.int .i64 bk, .int .i64 be', .ints .u8 32 bt, .ints .u8 32 bl], .agg [.int .i64 lk, .int .i64 le, .ints .u8 32 lt, .ints .u8 32 ll], .sl (.lst 32 W.length (W.map dg)), .sl (.lst 32 W'.length (W'.map dg))] [] (.bool true) [] := by
  by_cases c1 : 40 < W.length
  · have d1 : decide ((40 : Int) < (W.length : Int)) = true := decide_eq_true (by omega)
    refine fn0 mix [] 0 5 [.tmp 10] Tryz.func7 rfl (by kernel_rfl) (by kernel_rfl) rfl (by kernel_rfl) (by kernel_rfl) (by simp) ?_
    simp -implicitDefEqProofs (disch := omega) only [go_sem, ↓reduceIte, d1]
    refine call0 hw ?_
    simp -implicitDefEqProofs (disch := omega) only [go_sem, ↓reduceIte]
  have d1 : decide ((40 : Int) < (W.length : Int)) = false := decide_eq_false (by omega)
  by_cases c2 : 40 < W'.length
  · have d2 : decide ((40 : Int) < (W'.length : Int)) = true := decide_eq_true (by omega)
    refine fn0 mix [] 0 5 [.tmp 10] Tryz.func7 rfl (by kernel_rfl) (by kernel_rfl) rfl (by kernel_rfl) (by kernel_rfl) (by simp) ?_
    simp -implicitDefEqProofs (disch := omega) only [go_sem, ↓reduceIte, d1, d2]
    refine call0 hw ?_
    simp -implicitDefEqProofs (disch := omega) only [go_sem, ↓reduceIte]
  have d2 : decide ((40 : Int) < (W'.length : Int)) = false := decide_eq_false (by omega)
  by_cases c3 : ae = be'
  case neg =>
    have d3 : decide (ae = be') = false := decide_eq_false c3
    refine fn0 mix [] 0 5 [.tmp 10] Tryz.func7 rfl (by kernel_rfl) (by kernel_rfl) rfl (by kernel_rfl) (by kernel_rfl) (by simp) ?_
    simp -implicitDefEqProofs (disch := omega) only [go_sem, ↓reduceIte, d1, d2, d3]
    refine call0 hw ?_
    simp -implicitDefEqProofs (disch := omega) only [go_sem, ↓reduceIte]
  have d3 : decide (ae = be') = true := decide_eq_true c3
  by_cases c4 : al = bl
  · have d4 : decide (al = bl) = true := decide_eq_true c4
    refine fn0 mix [] 0 5 [.tmp 10] Tryz.func7 rfl (by kernel_rfl) (by kernel_rfl) rfl (by kernel_rfl) (by kernel_rfl) (by simp) ?_
    simp -implicitDefEqProofs (disch := omega) only [go_sem, ↓reduceIte, d1, d2, d3, d4]
    refine call0 hw ?_
    simp -implicitDefEqProofs (disch := omega) only [go_sem, ↓reduceIte]
  have d4 : decide (al = bl) = false := decide_eq_false c4
  have k1 := grows22_spec al ll at' lt ak lk ae le W W.length ha hl rfl (by omega) hW
  have k2 := grows22_spec bl ll bt lt bk lk be' le W' W'.length hb hl rfl (by omega) hW'
  by_cases c5 : growsP al ae ll le W
  case neg =>
    rw [decide_eq_false c5] at k1
    refine fn0 mix [] 0 5 [.tmp 10] Tryz.func7 rfl (by kernel_rfl) (by kernel_rfl) rfl (by kernel_rfl) (by kernel_rfl) (by simp) ?_
    simp -implicitDefEqProofs (disch := omega) only [go_sem, ↓reduceIte, d1, d2, d3, d4]
    refine call0 k1 ?_
    simp -implicitDefEqProofs (disch := omega) only [go_sem, ↓reduceIte]
    refine call0 hw ?_
    simp -implicitDefEqProofs (disch := omega) only [go_sem, ↓reduceIte]
  rw [decide_eq_true c5] at k1
  by_cases c6 : growsP bl be' ll le W'
  case neg =>
    rw [decide_eq_false c6] at k2
    refine fn0 mix [] 0 5 [.tmp 10] Tryz.func7 rfl (by kernel_rfl) (by kernel_rfl) rfl (by kernel_rfl) (by kernel_rfl) (by simp) ?_
    simp -implicitDefEqProofs (disch := omega) only [go_sem, ↓reduceIte, d1, d2, d3, d4]
    refine call0 k1 ?_
    simp -implicitDefEqProofs (disch := omega) only [go_sem, ↓reduceIte]
    refine call0 k2 ?_
    simp -implicitDefEqProofs (disch := omega) only [go_sem, ↓reduceIte]
    refine call0 hw ?_
    simp -implicitDefEqProofs (disch := omega) only [go_sem, ↓reduceIte]
  rw [decide_eq_true c6] at k2
  obtain ⟨x, y, hxy, hs, hx, hy, hxl, hyl, k3⟩ := logs_ok ll al bl le ae W W' W.length W'.length hl ha hb rfl rfl (by omega) (by omega) hW hW' c4 c5 (by rw [c3]; exact c6)
  have k4 := unlike_ok x y x.length y.length rfl rfl hxl hyl hx hy hxy hs
  refine fn0 mix [] 0 5 [.tmp 10] Tryz.func7 rfl (by kernel_rfl) (by kernel_rfl) rfl (by kernel_rfl) (by kernel_rfl) (by simp) ?_
  simp -implicitDefEqProofs (disch := omega) only [go_sem, ↓reduceIte, d1, d2, d3, d4]
  refine call0 k1 ?_
  simp -implicitDefEqProofs (disch := omega) only [go_sem, ↓reduceIte]
  refine call0 k2 ?_
  simp -implicitDefEqProofs (disch := omega) only [go_sem, ↓reduceIte]
  refine callF 2 k3 ?_
  simp -implicitDefEqProofs (disch := omega) only [go_sem, ↓reduceIte]
  refine callB k4 ?_ ?_
  · simp -implicitDefEqProofs (disch := omega) only [go_sem, ↓reduceIte]
  simp -implicitDefEqProofs (disch := omega) only [go_sem, ↓reduceIte]
  refine call0 hw ?_
  simp -implicitDefEqProofs (disch := omega) only [go_sem, ↓reduceIte]
end Go.Proofs.YtololahjocfbeaaGreat
