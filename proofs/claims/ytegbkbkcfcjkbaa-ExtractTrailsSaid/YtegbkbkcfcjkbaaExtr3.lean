/- The package extract: trails of texts and of logs that grow; the examples. -/
import Derived.Test.YtegbkbkcfcjkbaaExtr2
namespace Go.Proofs.Ytegbkbkcfcjkbaa
open Go Go.Sy Go.Proofs.Try
set_option maxRecDepth 100000
set_option maxHeartbeats 8000000
set_option linter.unusedSimpArgs false
set_option linter.unusedVariables false
attribute [go_sem] pl47
theorem textTrail_arg (t : List Int) (k : Nat) (n i : Int) (W : List (List Int)) (m : Nat) (h : n < 1 ∨ 200 < n ∨ i < 0 ∨ n ≤ i) : FnC Try.prog 46 [.int .i64 n, .int .i64 i, .sl (.ints .u8 k t), .sl (.lst 32 m (W.map dg))] [] .nils [] := by
  refine fn0 mix [] 0 4 [.tmp 8] Try.func46 rfl (by kernel_rfl) (by kernel_rfl) rfl (by kernel_rfl) (by kernel_rfl) (by simp) ?_
  simp (implicitDefEqProofs := false) (disch := omega) only [go_sem, ↓reduceIte]
  refine brd (fun h1 => ?_) (fun h1 => ?_)
  · simp (implicitDefEqProofs := false) (disch := omega) only [go_sem, ↓reduceIte]
  simp (implicitDefEqProofs := false) (disch := omega) only [go_sem, ↓reduceIte]
  refine brd (fun h2 => ?_) (fun h2 => ?_)
  · simp (implicitDefEqProofs := false) (disch := omega) only [go_sem, ↓reduceIte]
  simp (implicitDefEqProofs := false) (disch := omega) only [go_sem, ↓reduceIte]
  refine brd (fun h3 => ?_) (fun h3 => ?_)
  · simp (implicitDefEqProofs := false) (disch := omega) only [go_sem, ↓reduceIte]
  simp (implicitDefEqProofs := false) (disch := omega) only [go_sem, ↓reduceIte]
  refine brd (fun h4 => ?_) (fun h4 => ?_)
  · simp (implicitDefEqProofs := false) (disch := omega) only [go_sem, ↓reduceIte]
  omega
theorem textTrail_len (t : List Int) (k n i : Nat) (W : List (List Int)) (m : Nat) (hm : W.length = m) (h1 : 1 ≤ n) (h2 : n ≤ 200) (hi : i < n) (hd : depH n n i ≠ m) : FnC Try.prog 46 [.int .i64 n, .int .i64 i, .sl (.ints .u8 k t), .sl (.lst 32 m (W.map dg))] [] .nils [] := by
  have e1 : decide ((m : Int) = (depH n n i : Int)) = false := decide_eq_false (by omega)
  have hdl := downB_len n n i
  refine fn0 mix [] 0 4 [.tmp 8] Try.func46 rfl (by kernel_rfl) (by kernel_rfl) rfl (by kernel_rfl) (by kernel_rfl) (by simp) ?_
  simp (implicitDefEqProofs := false) (disch := omega) only [go_sem, ↓reduceIte]
  refine brd (fun h1 => by omega) (fun h1 => ?_)
  simp (implicitDefEqProofs := false) (disch := omega) only [go_sem, ↓reduceIte]
  refine brd (fun h2 => by omega) (fun h2 => ?_)
  simp (implicitDefEqProofs := false) (disch := omega) only [go_sem, ↓reduceIte]
  refine brd (fun h3 => by omega) (fun h3 => ?_)
  simp (implicitDefEqProofs := false) (disch := omega) only [go_sem, ↓reduceIte]
  refine brd (fun h4 => by omega) (fun h4 => ?_)
  simp (implicitDefEqProofs := false) (disch := omega) only [go_sem, ↓reduceIte]
  refine callF 1 (down_spec n i (by omega) (by omega) hi) ?_
  simp (implicitDefEqProofs := false) (disch := omega) only [go_sem, ↓reduceIte, hdl, e1]
theorem textTrail_ok (t : List Int) (k n i : Nat) (W : List (List Int)) (m : Nat) (hk : t.length = k) (ht : ∀ x ∈ t, 0 ≤ x ∧ x < 256) (hkl : k ≤ 100000) (hm : W.length = m) (hW : ∀ d ∈ W, goodD d) (h1 : 1 ≤ n) (h2 : n ≤ 200) (hi : i < n) (hd : depH n n i = m) :
    FnC Try.prog 46 [.int .i64 n, .int .i64 i, .sl (.ints .u8 k t), .sl (.lst 32 m (W.map dg))] [] (.osl 0 [] 1 0 (m + 1)) [(0, .row (.lst 1 (m + 1) ((trailT (leafL t) W n n i ++ [0 :: t]).map bsl)))] := by
  have hdl := downB_len n n i
  have hdm : m ≤ 200 := by have := downB_le n n i; omega
  have hds := down_spec n i h1 h2 hi
  have hwu := way_up (leafL t) W n n i
  have hul := upTx_len W (downB n n i).reverse 0 (leafL t)
  rw [hdl, hd] at hds
  rw [hd] at hdl
  rw [List.length_reverse, hdl] at hul
  have hup := up_spec (leafL t) (downB n n i) W m m (leafL_good t) hdl hm (Nat.le_refl _) (by omega) (by omega) hW
  have htt := turnT_spec (upTx W (downB n n i).reverse 0 (leafL t)) m hul (by omega)
  rw [hwu.2] at htt
  have em : (trailT (leafL t) W n n i ++ [0 :: t]).map bsl = (trailT (leafL t) W n n i).map bsl ++ [.sl (.ints .u8 (1 + k) (0 :: t))] := by
    rw [List.map_append]
    show _ ++ [AV.sl (.ints .u8 (List.length (0 :: t)) (0 :: t))] = _
    rw [List.length_cons, hk, Nat.add_comm k 1]
  rw [em]
  generalize upTx W (downB n n i).reverse 0 (leafL t) = U at *
  generalize downB n n i = B at *
  refine fnN mix [] 0 4 [.tmp 8] Try.func46 rfl (by kernel_rfl) (by kernel_rfl) rfl (by kernel_rfl) (by kernel_rfl) (by simp) ?_
  simp (implicitDefEqProofs := false) (disch := omega) only [go_sem, ↓reduceIte]
  refine brd (fun h1 => by omega) (fun h1 => ?_)
  simp (implicitDefEqProofs := false) (disch := omega) only [go_sem, ↓reduceIte]
  refine brd (fun h2 => by omega) (fun h2 => ?_)
  simp (implicitDefEqProofs := false) (disch := omega) only [go_sem, ↓reduceIte]
  refine brd (fun h3 => by omega) (fun h3 => ?_)
  simp (implicitDefEqProofs := false) (disch := omega) only [go_sem, ↓reduceIte]
  refine brd (fun h4 => by omega) (fun h4 => ?_)
  simp (implicitDefEqProofs := false) (disch := omega) only [go_sem, ↓reduceIte]
  refine callF 1 hds ?_
  simp (implicitDefEqProofs := false) (disch := omega) only [go_sem, ↓reduceIte]
  refine call0 (leaf_spec19 t k hk ht hkl) ?_
  simp (implicitDefEqProofs := false) (disch := omega) only [go_sem, ↓reduceIte]
  refine callG false [(0, 0)] [(1, 3)] 4 hup ?_ ?_
  · simp [keys]
  simp (implicitDefEqProofs := false) (disch := omega) only [go_sem, ↓reduceIte]
  refine callG false [(0, 3)] [(1, 4)] 5 htt ?_ ?_
  · simp [keys]
  simp (implicitDefEqProofs := false) (disch := omega) only [go_sem, ↓reduceIte, List.singleton_append]
  refine ⟨[(0, 6)], [], [], rfl, ?_, ?_, ?_⟩ <;> simp (implicitDefEqProofs := false) (disch := omega) only [go_sem, ↓reduceIte]
theorem growTrail_arg (a : List Int) (m n : Int) (W : List (List Int)) (w : Nat) (h : m < 1 ∨ n < m ∨ 200 < n) : FnC Try.prog 47 [.ints .u8 32 a, .int .i64 m, .int .i64 n, .sl (.lst 32 w (W.map dg))] [] .nils [] := by
  refine fn0 mix pl47 0 4 [.tmp 8] Try.func47 rfl (by kernel_rfl) (by kernel_rfl) rfl (by kernel_rfl) (by kernel_rfl) (by simp) ?_
  simp (implicitDefEqProofs := false) (disch := omega) only [go_sem, ↓reduceIte]
  refine brd (fun h1 => ?_) (fun h1 => ?_)
  · simp (implicitDefEqProofs := false) (disch := omega) only [go_sem, ↓reduceIte]
  simp (implicitDefEqProofs := false) (disch := omega) only [go_sem, ↓reduceIte]
  refine brd (fun h2 => ?_) (fun h2 => ?_)
  · simp (implicitDefEqProofs := false) (disch := omega) only [go_sem, ↓reduceIte]
  simp (implicitDefEqProofs := false) (disch := omega) only [go_sem, ↓reduceIte]
  refine brd (fun h3 => ?_) (fun h3 => ?_)
  · simp (implicitDefEqProofs := false) (disch := omega) only [go_sem, ↓reduceIte]
  omega
theorem growTrail_len (a : List Int) (m n : Nat) (W : List (List Int)) (w : Nat) (ha : goodD a) (hw : W.length = w) (hwl : w ≤ 1000000) (hW : ∀ d ∈ W, goodD d) (h1 : 1 ≤ m) (h2 : m ≤ n) (h3 : n ≤ 200) (hd : depG n m n false ≠ w) :
    FnC Try.prog 47 [.ints .u8 32 a, .int .i64 m, .int .i64 n, .sl (.lst 32 w (W.map dg))] [] .nils [] := by
  have hdl := toB_len n m n false (Nat.le_refl _) h1 h2
  have hts := to_spec n m h1 h3 h2
  generalize hB : toB n m n = B at *
  generalize hC : cutF n m n false = C at *
  refine fn0 mix pl47 0 4 [.tmp 8] Try.func47 rfl (by kernel_rfl) (by kernel_rfl) rfl (by kernel_rfl) (by kernel_rfl) (by simp) ?_
  simp (implicitDefEqProofs := false) (disch := omega) only [go_sem, ↓reduceIte]
  refine brd (fun h1 => by omega) (fun h1 => ?_)
  simp (implicitDefEqProofs := false) (disch := omega) only [go_sem, ↓reduceIte]
  refine brd (fun h2 => by omega) (fun h2 => ?_)
  simp (implicitDefEqProofs := false) (disch := omega) only [go_sem, ↓reduceIte]
  refine brd (fun h3 => by omega) (fun h3 => ?_)
  simp (implicitDefEqProofs := false) (disch := omega) only [go_sem, ↓reduceIte]
  refine callF 1 hts ?_
  cases C
  · rw [if_neg (by decide)] at hdl
    have e1 : decide ((w : Int) = (B.length : Int)) = false := decide_eq_false (by omega)
    simp (implicitDefEqProofs := false) (disch := omega) only [go_sem, ↓reduceIte, e1]
  · rw [if_pos rfl] at hdl
    simp (implicitDefEqProofs := false) (disch := omega) only [go_sem, ↓reduceIte]
    refine brd (fun h4 => ?_) (fun h4 => ?_)
    · simp (implicitDefEqProofs := false) (disch := omega) only [go_sem, ↓reduceIte]
    obtain ⟨v, rfl⟩ : ∃ v, w = v + 1 := ⟨w - 1, by omega⟩
    have hle : (W.map dg).length = v + 1 := by rw [List.length_map, hw]
    have hw0 : ∀ K, getP (W.map dg) 0 K = K (.ints .u8 32 (W.getD 0 [])) := fun K => getP_map (f := dg) (getD_some' (by omega)) K
    have e1 : decide ((v : Int) = (B.length : Int)) = false := decide_eq_false (by omega)
    have i1 : v + 1 - 1 = v := by omega
    have i2 : (v : Int) + 1 - 1 = v := by omega
    simp (implicitDefEqProofs := false) (disch := omega) only [go_sem, ↓reduceIte, ↓hw0, hle, e1, i1, i2]
    omega
theorem growTrail_ok (a : List Int) (m n : Nat) (W : List (List Int)) (w : Nat) (ha : goodD a) (hw : W.length = w) (hwl : w ≤ 1000000) (hW : ∀ d ∈ W, goodD d) (h1 : 1 ≤ m) (h2 : m ≤ n) (h3 : n ≤ 200) (hd : depG n m n false = w) :
    FnC Try.prog 47 [.ints .u8 32 a, .int .i64 m, .int .i64 n, .sl (.lst 32 w (W.map dg))] [] (.osl 0 [] 1 0 (growT a W n m n false).length) [(0, .row (.lst 1 (growT a W n m n false).length ((growT a W n m n false).map bsl)))] := by
  have hdl := toB_len n m n false (Nat.le_refl _) h1 h2
  have hts := to_spec n m h1 h3 h2
  have hbl := toB_le n m n
  have hgu := (grow_up a W n m n false (Nat.le_refl _) h1 h2).2
  have hup := fun hx hl hW' => up_spec (gro0 a W (cutF n m n false)) (toB n m n) (groW W (cutF n m n false)) (toB n m n).length (toB n m n).length hx rfl hl (Nat.le_refl _) (by omega) (by omega) hW'
  have hul := upTx_len (groW W (cutF n m n false)) (toB n m n).reverse 0 (gro0 a W (cutF n m n false))
  have hgl : (growT a W n m n false).length = (toB n m n).length := by rw [← hgu, List.length_reverse, hul, List.length_reverse]
  have htt := turnT_spec (upTx (groW W (cutF n m n false)) (toB n m n).reverse 0 (gro0 a W (cutF n m n false))) (toB n m n).length (by rw [hul, List.length_reverse]) (by omega)
  rw [hgu] at htt
  rw [hgl]
  generalize growT a W n m n false = G at *
  generalize upTx (groW W (cutF n m n false)) (toB n m n).reverse 0 (gro0 a W (cutF n m n false)) = U at *
  generalize hB : toB n m n = B at *
  generalize hC : cutF n m n false = C at *
  generalize hL : B.length = L at *
  refine fnN mix pl47 0 4 [.tmp 8] Try.func47 rfl (by kernel_rfl) (by kernel_rfl) rfl (by kernel_rfl) (by kernel_rfl) (by simp) ?_
  simp (implicitDefEqProofs := false) (disch := omega) only [go_sem, ↓reduceIte]
  refine brd (fun h1 => by omega) (fun h1 => ?_)
  simp (implicitDefEqProofs := false) (disch := omega) only [go_sem, ↓reduceIte]
  refine brd (fun h2 => by omega) (fun h2 => ?_)
  simp (implicitDefEqProofs := false) (disch := omega) only [go_sem, ↓reduceIte]
  refine brd (fun h3 => by omega) (fun h3 => ?_)
  simp (implicitDefEqProofs := false) (disch := omega) only [go_sem, ↓reduceIte]
  refine callF 1 hts ?_
  cases C
  · rw [if_neg (by decide)] at hdl
    obtain rfl : L = w := by omega
    have hup := hup ha hw hW
    have hg1 : groW W false = W := rfl
    have hg2 : gro0 a W false = a := rfl
    rw [hg1, hg2] at hup
    simp (implicitDefEqProofs := false) (disch := omega) only [go_sem, ↓reduceIte]
    refine callG false [(0, 1)] [(1, 3)] 4 hup ?_ ?_
    · simp [keys]
    simp (implicitDefEqProofs := false) (disch := omega) only [go_sem, ↓reduceIte]
    refine callG false [(0, 3)] [(1, 4)] 5 htt ?_ ?_
    · simp [keys]
    simp (implicitDefEqProofs := false) (disch := omega) only [go_sem, ↓reduceIte]
    refine ⟨[(0, 4)], [], [], rfl, ?_, ?_, ?_⟩ <;> simp (implicitDefEqProofs := false) (disch := omega) only [go_sem, ↓reduceIte]
  · rw [if_pos rfl] at hdl
    obtain rfl : w = L + 1 := by omega
    have hle : (W.map dg).length = L + 1 := by rw [List.length_map, hw]
    have hw0 : ∀ K, getP (W.map dg) 0 K = K (.ints .u8 32 (W.getD 0 [])) := fun K => getP_map (f := dg) (getD_some' (by omega)) K
    have i1 : L + 1 - 1 = L := by omega
    have i2 : (L : Int) + 1 - 1 = L := by omega
    have e0 : decide ((L : Int) + 1 = 0) = false := decide_eq_false (by omega)
    have hdr : ((W.map dg).drop 1).take L = (W.drop 1).map dg := by
      rw [List.take_of_length_le (by rw [List.length_drop, hle]; omega), List.map_drop]
    have hup := hup (getD_good hW (show 0 < W.length by omega)) (by show (W.drop 1).length = L; rw [List.length_drop]; omega) (fun d hd => hW d (List.mem_of_mem_drop hd))
    have hg1 : groW W true = W.drop 1 := rfl
    have hg2 : gro0 a W true = W.getD 0 [] := rfl
    rw [hg1, hg2] at hup
    simp (implicitDefEqProofs := false) (disch := omega) only [go_sem, ↓reduceIte, ↓hw0, hle, e0, i1, i2, hdr]
    refine callG false [(0, 1)] [(1, 3)] 4 hup ?_ ?_
    · simp [keys]
    simp (implicitDefEqProofs := false) (disch := omega) only [go_sem, ↓reduceIte]
    refine callG false [(0, 3)] [(1, 4)] 5 htt ?_ ?_
    · simp [keys]
    simp (implicitDefEqProofs := false) (disch := omega) only [go_sem, ↓reduceIte]
    refine ⟨[(0, 4)], [], [], rfl, ?_, ?_, ?_⟩ <;> simp (implicitDefEqProofs := false) (disch := omega) only [go_sem, ↓reduceIte]
theorem none_spec : FnC Try.prog 29 [.nils, .nils, .bool false] [] (.bool true) [] := by
  refine fn0 mix [] 0 3 [.tmp 6] Try.func29 rfl (by kernel_rfl) (by kernel_rfl) rfl (by kernel_rfl) (by kernel_rfl) (by simp) ?_
  simp (implicitDefEqProofs := false) (disch := omega) only [go_sem, ↓reduceIte]
theorem found_spec (x y : List Int) (n m : Nat) (hn : x.length = n) (hm : y.length = m) (hx : ∀ z ∈ x, 0 ≤ z ∧ z < 256) (hy : ∀ z ∈ y, 0 ≤ z ∧ z < 256) (hnl : n ≤ 100000) (hml : m ≤ 100000) (hne : x ≠ y) (hs : sumD x = sumD y) :
    FnC Try.prog 37 [.sl (.ints .u8 n x), .sl (.ints .u8 m y), .bool true] [] (.bool true) [] := by
  have e : decide ((x.map fun x => UInt8.ofNat x.toNat) = (y.map fun x => UInt8.ofNat x.toNat)) = false := decide_eq_false (fun h => hne ((bytes_inj hx hy).1 h))
  have h1 := refsum_spec x hx (by omega)
  have h2 := refsum_spec y hy (by omega)
  rw [hn] at h1
  rw [hm] at h2
  refine fn0 mix [] 0 3 [.tmp 6] Try.func37 rfl (by kernel_rfl) (by kernel_rfl) rfl (by kernel_rfl) (by kernel_rfl) (by simp) ?_
  simp (implicitDefEqProofs := false) (disch := omega) only [go_sem, ↓reduceIte, e]
  refine call0 h1 ?_
  simp (implicitDefEqProofs := false) (disch := omega) only [go_sem, ↓reduceIte]
  refine call0 h2 ?_
  simp (implicitDefEqProofs := false) (disch := omega) only [go_sem, ↓reduceIte, hs]
theorem textTrail_a : FnC Try.prog 46 [.int .i64 1, .int .i64 0, .osl 0 [] 1 0 1, .nils] [(0, .row (.ints .u8 1 [97]))] (.osl 1 [] 1 0 1) [(1, .row (.lst 1 1 [.sl (.ints .u8 2 [0, 97])]))] := by
  have hds := down_spec 1 0 (by decide) (by decide) (by decide)
  have hup := (up_spec (leafL [97]) [] [] 0 0 (leafL_good _) rfl rfl (by decide) (by decide) (by decide) (by simp)).nz (args' := [.ints .u8 32 (leafL [97]), .osl 0 [] 1 0 0, .nils]) (by simp [Go.Sy.nz, nzs, AV.void])
  have htt := turnT_spec [] 0 rfl (by decide)
  have e1 : downB 1 1 0 = [] := rfl
  have e2 : upTx [] ([] : List Bool).reverse 0 (leafL [97]) = [] := rfl
  rw [e1] at hds
  rw [e2] at hup
  simp only [List.length_nil, List.map_nil, List.reverse_nil] at hds hup htt
  refine fnV mix [] 0 1 4 [.tmp 8] Try.func46 rfl (by kernel_rfl) (by kernel_rfl) rfl (by kernel_rfl) (by kernel_rfl) (by simp) rfl rfl ?_
  simp (implicitDefEqProofs := false) (disch := omega) only [go_sem, ↓reduceIte]
  refine callF 1 hds ?_
  simp (implicitDefEqProofs := false) (disch := omega) only [go_sem, ↓reduceIte]
  refine callB (leaf_spec19 [97] 1 rfl (by decide) (by decide)) ?_ ?_
  · simp (implicitDefEqProofs := false) (disch := omega) only [go_sem, ↓reduceIte]
  simp (implicitDefEqProofs := false) (disch := omega) only [go_sem, ↓reduceIte]
  refine callG false [(0, 1)] [(1, 4)] 5 hup ?_ ?_
  · simp [keys]
  simp (implicitDefEqProofs := false) (disch := omega) only [go_sem, ↓reduceIte]
  refine callG false [(0, 4)] [(1, 5)] 6 htt ?_ ?_
  · simp [keys]
  simp (implicitDefEqProofs := false) (disch := omega) only [go_sem, ↓reduceIte]
  refine ⟨[(1, 7)], [], [], rfl, ?_, ?_, ?_⟩ <;> simp (implicitDefEqProofs := false) (disch := omega) only [go_sem, ↓reduceIte]
theorem knows23_spec : FnC Try.prog 26 [] [] (.bool true) [] := by
  have r2 : FnC Try.prog 27 [.sl (.lst 1 1 [.sl (.ints .u8 2 [0, 97])]), .sl (.lst 1 1 [.sl (.ints .u8 2 [0, 97])])] [] (.tup [.nils, .nils, .bool false]) [] :=
    part_none [[0, 97]] [[0, 97]] 1 1 rfl rfl (by decide) (by decide) (by decide) (by decide) (fun j _ _ => rfl)
  have pa : PartsAt [[1], [2]] [[1], [3]] 1 := ⟨by decide, by decide, fun j hj => by
    have : j = 0 := Nat.lt_one_iff.1 hj
    subst this
    rfl, by decide⟩
  have r3 : FnC Try.prog 27 [.sl (.lst 1 2 [.sl (.ints .u8 1 [1]), .sl (.ints .u8 1 [2])]), .sl (.lst 1 2 [.sl (.ints .u8 1 [1]), .sl (.ints .u8 1 [3])])] [] (.tup [.osl 0 [] 1 0 1, .osl 1 [] 1 0 1, .bool true]) [(0, .row (.ints .u8 1 [2])), (1, .row (.ints .u8 1 [3]))] :=
    part_some [[1], [2]] [[1], [3]] 2 2 1 rfl rfl (by decide) (by decide) (by decide) (by decide) (by decide) (by decide) pa
  have r4 := (growTrail_arg (List.replicate 32 0) 0 1 [] 0 (.inl (by decide))).nz (args' := [.ints .u8 32 (List.replicate 32 0), .int .i64 0, .int .i64 1, .nils]) (by simp [Go.Sy.nz, nzs, AV.void])
  refine fn0 mix [] 0 0 [.tmp 0] Try.func26 rfl (by kernel_rfl) (by kernel_rfl) rfl (by kernel_rfl) (by kernel_rfl) (by simp) ?_
  simp (implicitDefEqProofs := false) (disch := omega) only [go_sem, ↓reduceIte]
  refine callG false [(0, 0)] [(1, 1)] 2 textTrail_a ?_ ?_
  · simp [keys]
  simp (implicitDefEqProofs := false) (disch := omega) only [go_sem, ↓reduceIte]
  refine callB r2 ?_ ?_
  · simp (implicitDefEqProofs := false) (disch := omega) only [go_sem, ↓reduceIte]
  simp (implicitDefEqProofs := false) (disch := omega) only [go_sem, ↓reduceIte]
  refine callBF 2 r3 ?_ ?_
  · simp (implicitDefEqProofs := false) (disch := omega) only [go_sem, ↓reduceIte]
  have u1 : decide ([UInt8.ofNat 0, UInt8.ofNat 97] = [0, 97]) = true := by decide
  have u2 : decide ([UInt8.ofNat 2] = [2]) = true := by decide
  have u3 : decide ([UInt8.ofNat 3] = [3]) = true := by decide
  simp (implicitDefEqProofs := false) (disch := omega) only [go_sem, ↓reduceIte, u1, u2, u3]
  refine call0 r4 ?_
  simp (implicitDefEqProofs := false) (disch := omega) only [go_sem, ↓reduceIte]
end Go.Proofs.Ytegbkbkcfcjkbaa
