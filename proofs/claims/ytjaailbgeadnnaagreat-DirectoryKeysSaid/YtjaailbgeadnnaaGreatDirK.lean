/- A directory on a disk that was all 0. -/
import Derived.Test.YtjaailbgeadnnaaGreatDirZ
import Derived.Test.YtjaailbgeadnnaaGreatSecr
namespace Go.Proofs.YtjaailbgeadnnaaGreat
open Go Go.Sy Go.Proofs.Tryz
set_option maxRecDepth 100000
set_option maxHeartbeats 8000000
set_option linter.unusedSimpArgs false
set_option linter.unusedVariables false
attribute [go_sem] pl7 pl11 pl26
abbrev cfgV (a n b : Int) (ma na : List Int) : AV := .agg [.agg [.int .i64 a, .int .i64 n], .int .i64 b, .ints .u8 32 ma, .ints .u8 32 na]
abbrev nwV (p q : Nat) (a n b : Int) (ma na : List Int) : AV := .agg [.agg [.ints .u8 32 na, .nils, .nils, .mp p, .mp q], cfgV a n b ma na, .ref 0 [], .ref 3 [], .ref 4 [], .int .i64 0, .nils, .bool false]
/-- A new directory's objects: its disk, fence, signer's slots, signer, slots, maps, itself. -/
abbrev nwO (i j p q : Nat) (a n : Int) (ma na : List Int) : OO := [(0, .var (dskV i j dY)), (1, .var (fcV (opF (0, 0, 0) ⟨0, 0, 0, 0, 0, []⟩))), (2, .var (slV ⟨1, tx xZ, false⟩)), (3, .var (sgV 2 1 xZ (manyD a n) 1 0 false)), (4, .var (slVA 2 ⟨0, [], false⟩)), (5, .var (nwV p q a n 1 ma na)),
  (i, .row (.ints .u8 dY.b.length dY.b)), (j, .row (.lst 2 dY.wait.length (dY.wait.map wtV))), (p, .map []), (q, .map [])]
attribute [go_sem] cfgV nwV nwO
attribute [simp] nwO
section
variable (a n : Int) (ma na : List Int)
theorem area_new : FnC Tryz.prog 25 [.ref 5 []] (nwO 6 7 8 9 a n ma na) (.osl 14 [] 1 1600 400) (nwO 10 11 12 13 a n ma na ++ [(14, .row (.ints .u8 2000 dY.b))]) := by
  have k1 := image_spec dY dY_ok
  have k2 := dsize_spec dY
  rw [dY_len] at k1
  have hs : (dY.sz : Int) = 400 := rfl
  rw [hs] at k2
  refine fnV mix [] 6 10 1 [.tmp 2] Tryz.func25 rfl (by kernel_rfl) (by kernel_rfl) rfl (by kernel_rfl) (by kernel_rfl) (by simp) rfl rfl ?_
  simp (implicitDefEqProofs := false) (disch := omega) only [go_sem, ↓reduceIte]
  refine callG false [(0, 0), (1, 6), (2, 7)] [(0, 0), (3, 10), (4, 11), (5, 12)] 13 k1 ?_ ?_
  · simp [keys]
  simp (implicitDefEqProofs := false) (disch := omega) only [go_sem, ↓reduceIte]
  refine callG false [(0, 0), (1, 10), (2, 11)] [(0, 0), (3, 13), (4, 14)] 15 k2 ?_ ?_
  · simp [keys]
  have hmin : (min (2000 : Int) 1600).toNat = 1600 := by decide
  simp (implicitDefEqProofs := false) (disch := omega) only [go_sem, ↓reduceIte, hmin]
  refine ⟨[(0, 0), (1, 1), (2, 2), (3, 3), (4, 4), (5, 5), (10, 13), (11, 14), (12, 8), (13, 9), (14, 12)], [], [], rfl, ?_, ?_, ?_⟩ <;> simp (implicitDefEqProofs := false) (disch := omega) only [go_sem, ↓reduceIte]
theorem load_new (B : List Int) : FnC Tryz.prog 26 [.ref 5 [], .osl 10 [] 1 1600 0] (nwO 6 7 8 9 a n ma na ++ [(10, .row (.ints .u8 2000 B))]) (.bool true) (nwO 11 12 13 14 a n ma na) := by
  refine fnV mix pl26 6 11 2 [.tmp 4] Tryz.func26 rfl (by kernel_rfl) (by kernel_rfl) rfl (by kernel_rfl) (by kernel_rfl) (by simp) rfl rfl ?_
  simp (implicitDefEqProofs := false) (disch := omega) only [go_sem, ↓reduceIte, List.cons_append, List.nil_append]
  refine loop (ι := Nat) 11 (fun i => i = 0) (fun i => [(0, .ref 5 []), (1, .osl 10 [] 1 1600 0)]) (fun i => nwO 6 7 8 9 a n ma na ++ [(10, .row (.ints .u8 2000 B))]) (fun i => 0) 0 [(0, 0), (1, 1), (2, 2), (3, 3), (4, 4), (5, 5), (6, 6), (7, 7), (8, 8), (9, 9), (10, 10)] [] rfl rfl ?_ ?_ ?_ (fun i hi => ?_)
  · simp (implicitDefEqProofs := false) (disch := omega) only [go_sem, ↓reduceIte]
  · simp (implicitDefEqProofs := false) (disch := omega) only [go_sem, ↓reduceIte, List.cons_append, List.nil_append]
  · simp (implicitDefEqProofs := false) (disch := omega) only [go_sem, ↓reduceIte, List.cons_append, List.nil_append]
  simp (implicitDefEqProofs := false) (disch := omega) only [go_sem, ↓reduceIte, List.cons_append, List.nil_append]
  refine ⟨[(0, 0), (1, 1), (2, 2), (3, 3), (4, 4), (5, 5), (11, 6), (12, 7), (13, 8), (14, 9)], [], [], rfl, ?_, ?_, ?_⟩ <;> simp (implicitDefEqProofs := false) (disch := omega) only [go_sem, ↓reduceIte, List.cons_append, List.nil_append]
theorem public_new (hm : goodD ma) (hr : rightP a n) (k : Int) : FnC Tryz.prog 11 [.ref 5 [], .int .i64 k] (nwO 6 7 8 9 a n ma na) (.agg [.agg [.int .i64 a, .int .i64 n], .ints .u8 32 (keyR (secK ma k 1) (secK ma k 3) a n), .ints .u8 32 (secK ma k 3)]) (nwO 10 11 12 13 a n ma na) := by
  have k1 := secret_spec ma hm k
  have k2 := key_spec (secK ma k 1) (secK ma k 2) (secK ma k 3) a n (secK_good _ _ _) (secK_good _ _ _) hr
  generalize keyR (secK ma k 1) (secK ma k 3) a n = X at *
  refine fnV mix pl11 6 10 2 [.cell 4 43] Tryz.func11 rfl (by kernel_rfl) (by kernel_rfl) rfl (by kernel_rfl) (by kernel_rfl) (by simp) rfl rfl ?_
  simp (implicitDefEqProofs := false) (disch := omega) only [go_sem, ↓reduceIte]
  refine call0 k1 ?_
  simp (implicitDefEqProofs := false) (disch := omega) only [go_sem, ↓reduceIte]
  refine call0 k2 ?_
  simp (implicitDefEqProofs := false) (disch := omega) only [go_sem, ↓reduceIte]
  refine ⟨[(0, 0), (1, 1), (2, 2), (3, 3), (4, 4), (5, 5), (10, 6), (11, 7), (12, 8), (13, 9)], [], [], rfl, ?_, ?_, ?_⟩ <;> simp (implicitDefEqProofs := false) (disch := omega) only [go_sem, ↓reduceIte]
end
theorem open_bad (a n b : Int) (ma na : List Int) (hr : ¬ rightP a n) : FnC Tryz.prog 7 [cfgV a n b ma na, .nilp, .nilp] [] (.tup [.nilp, .int .i64 1]) [] := by
  have k := right_spec11 a n
  rw [decide_eq_false hr] at k
  refine fn0 mix pl7 0 3 [.tmp 6, .tmp 7] Tryz.func7 rfl (by kernel_rfl) (by kernel_rfl) rfl (by kernel_rfl) (by kernel_rfl) (by simp) ?_
  simp (implicitDefEqProofs := false) (disch := omega) only [go_sem, ↓reduceIte]
  refine call0 k ?_
  simp (implicitDefEqProofs := false) (disch := omega) only [go_sem, ↓reduceIte]
def plDO : List (Nat × Plan) := [(3, [(0, [], none), (1, [0], none), (2, [0, 1], none), (3, [0, 1], none), (4, [0, 1], none), (5, [0, 1, 2, 3, 4], none), (6, [0, 1, 2, 3, 4], none), (7, [], some [19, 20, 23, 25]), (8, [], none), (9, [], none), (10, [9], none), (11, [10], none), (12, [], none)])]
attribute [go_sem] plDO
theorem many_le {a n : Int} (h : rightP a n) : (2 : Int) ≤ manyD a n ∧ (manyD a n : Int) ≤ 65536 := by
  have h1 := mul_16 h
  have h2 := manyD_le a n
  have h3 : manyD a n = 2 ^ (a * n).toNat := by unfold manyD; rw [if_pos h]
  have := Nat.pow_le_pow_right (n := 2) (by decide) (show 1 ≤ (a * n).toNat by omega)
  omega
theorem open_new (a n : Int) (ma na : List Int) (hr : rightP a n) : FnC Tryz.prog 7 [cfgV a n 1 ma na, .ref 0 [], .ref 1 []] [(0, .var (dskV 2 3 dZ)), (1, .var (fcV (0, 0, 0))), (2, .row (.ints .u8 dZ.b.length dZ.b)), (3, .row (.lst 2 dZ.wait.length (dZ.wait.map wtV)))]
    (.tup [.ref 7 [], .int .i64 0]) [(0, .var (dskV 8 9 dY)), (1, .var (fcV (opF (0, 0, 0) ⟨0, 0, 0, 0, 0, []⟩))), (12, .var (slV ⟨1, tx xZ, false⟩)), (13, .var (sgV 12 1 xZ (manyD a n) 1 0 false)), (4, .var (slVA 2 ⟨0, [], false⟩)), (5, .map []), (6, .map []), (7, .var (.agg [.agg [.ints .u8 32 na, .nils, .nils, .mp 5, .mp 6], cfgV a n 1 ma na, .ref 0 [], .ref 13 [], .ref 4 [], .int .i64 0, .nils, .bool false])), (8, .row (.ints .u8 dY.b.length dY.b)), (9, .row (.lst 2 dY.wait.length (dY.wait.map wtV)))] := by
  have k := right_spec11 a n
  rw [decide_eq_true hr] at k
  have k0 := many_spec a n
  have k1 := sopen_new (manyD a n) (many_le hr)
  have k2 := eopen_new
  have k3 := text_specA 2 dY ⟨0, [], false⟩ (by decide)
  have k4 := turn_specA 2 dY ⟨0, [], false⟩
  refine fnV mix plDO 2 4 3 [.tmp 6, .tmp 7] Tryz.func7 rfl (by kernel_rfl) (by kernel_rfl) rfl (by kernel_rfl) (by kernel_rfl) (by simp) rfl rfl ?_
  simp (implicitDefEqProofs := false) (disch := omega) only [go_sem, ↓reduceIte]
  refine call0 k ?_
  simp (implicitDefEqProofs := false) (disch := omega) only [go_sem, ↓reduceIte]
  refine call0 k0 ?_
  simp (implicitDefEqProofs := false) (disch := omega) only [go_sem, ↓reduceIte]
  refine callG false [(0, 0), (1, 1), (2, 2), (3, 3)] [(0, 0), (1, 1), (6, 5), (7, 6), (4, 7), (5, 8)] 9 k1 ?_ ?_
  · simp [keys]
  simp (implicitDefEqProofs := false) (disch := omega) only [go_sem, ↓reduceIte]
  refine callG false [(0, 0), (1, 7), (2, 8)] [(0, 0), (3, 9), (4, 10), (6, 11)] 12 k2 ?_ ?_
  · simp [keys]
  simp (implicitDefEqProofs := false) (disch := omega) only [go_sem, ↓reduceIte, List.cons_append, List.nil_append]
  refine callG false [(0, 0), (1, 11), (2, 9), (3, 10)] [(0, 0), (1, 11), (4, 15), (5, 16), (6, 17)] 18 k3 ?_ ?_
  · simp [keys]
  simp (implicitDefEqProofs := false) (disch := omega) only [go_sem, ↓reduceIte, List.cons_append, List.nil_append]
  refine callG false [(0, 0), (1, 11), (2, 15), (3, 16)] [(0, 0), (1, 11), (4, 18), (5, 19)] 20 k4 ?_ ?_
  · simp [keys]
  simp (implicitDefEqProofs := false) (disch := omega) only [go_sem, ↓reduceIte, List.cons_append, List.nil_append]
  refine callG false [(0, 0), (1, 1), (2, 5), (3, 6), (4, 11), (5, 14), (6, 18), (7, 19), (8, 12), (9, 13)] [(0, 0), (1, 1), (2, 5), (3, 6), (4, 11), (5, 14), (10, 20), (11, 21), (12, 22), (13, 23), (14, 24)] 25 (area_new a n ma na) ?_ ?_
  · simp [keys]
  simp (implicitDefEqProofs := false) (disch := omega) only [go_sem, ↓reduceIte, List.cons_append, List.nil_append]
  refine callG false [(0, 0), (1, 1), (2, 5), (3, 6), (4, 11), (5, 14), (6, 20), (7, 21), (8, 22), (9, 23), (10, 24)] [(0, 0), (1, 1), (2, 5), (3, 6), (4, 11), (5, 14), (11, 25), (12, 26), (13, 27), (14, 28)] 29 (load_new a n ma na dY.b) ?_ ?_
  · simp [keys]
  simp (implicitDefEqProofs := false) (disch := omega) only [go_sem, ↓reduceIte, List.cons_append, List.nil_append]
  refine ⟨[(0, 0), (1, 1), (12, 5), (13, 6), (4, 11), (7, 14), (8, 25), (9, 26), (5, 27), (6, 28)], [], [], rfl, ?_, ?_, ?_⟩ <;> simp (implicitDefEqProofs := false) (disch := omega) only [go_sem, ↓reduceIte]
end Go.Proofs.YtjaailbgeadnnaaGreat
