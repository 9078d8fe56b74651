/- What any deeds come to on a disk: the walk of DiskPlays. -/
import Derived.Test.YtegbkbkcfcjkbaaPlays
namespace Go.Proofs.Ytegbkbkcfcjkbaa
open Go Go.Sy Go.Proofs.Try
set_option maxRecDepth 100000
set_option maxHeartbeats 8000000
set_option linter.unusedSimpArgs false
set_option linter.unusedVariables false

structure Deed where
  w : Int
  n : Int
  b : List Int
  k : List Int
def deV (x : Deed) : AV := .agg [.int .i64 x.w, .int .i64 x.n, .sl (.ints .u8 x.b.length x.b), .sl (.ints .i64 x.k.length x.k)]
def plDP : List (Nat × Plan) := [(19, [(0, [], none), (1, [], some [105]), (3, [0, 1], none), (4, [], some [108]), (2, [3, 4], none), (5, [], none), (6, [], none), (7, [], none), (8, [], none), (9, [], none)])]
attribute [go_sem] plDP
theorem diskPlays_spec (s z : Int) (l : List Deed) (hs : s < 9223372036854775808) (hz : z < 9223372036854775808) (hl : l.length ≤ 9223372036854775807) (hb : ∀ x ∈ l, x.b.length ≤ 9223372036854775807 ∧ x.k.length ≤ 9223372036854775807 ∧ -9223372036854775808 ≤ x.n ∧ x.n < 9223372036854775808) :
    FnC Try.prog 4 [.int .i64 s, .int .i64 z, .sl (.lst 4 l.length (l.map deV))] [] (.bool true) [] := by
  obtain ⟨nl, hnl⟩ : ∃ n, l.length = n := ⟨_, rfl⟩
  rw [hnl] at hl ⊢
  have hle : (l.map deV).length = nl := by rw [List.length_map, hnl]
  refine fn0 mix plDP 0 3 [.tmp 6] Try.func4 rfl (by kernel_rfl) (by kernel_rfl) rfl (by kernel_rfl) (by kernel_rfl) (by simp) ?_
  simp (implicitDefEqProofs := false) (disch := omega) only [go_sem, ↓reduceIte]
  refine brd (fun g1 => ?_) (fun g1 => ?_)
  · simp (implicitDefEqProofs := false) (disch := omega) only [go_sem, ↓reduceIte]
    refine call0 knows12_spec ?_
    simp (implicitDefEqProofs := false) (disch := omega) only [go_sem, ↓reduceIte]
  by_cases hbad : s < 1 ∨ 64 < s ∨ z < 1 ∨ 512 < z
  · simp (implicitDefEqProofs := false) (disch := omega) only [go_sem, ↓reduceIte]
    refine call0 (new_bad s z hbad) ?_
    simp (implicitDefEqProofs := false) (disch := omega) only [go_sem, ↓reduceIte]
    refine brd (fun g => ?_) (fun g2 => ?_)
    · simp (implicitDefEqProofs := false) (disch := omega) only [go_sem, ↓reduceIte]
      refine call0 knows12_spec ?_
      simp (implicitDefEqProofs := false) (disch := omega) only [go_sem, ↓reduceIte]
    simp (implicitDefEqProofs := false) (disch := omega) only [go_sem, ↓reduceIte]
    refine brd (fun g => ?_) (fun g3 => ?_)
    · simp (implicitDefEqProofs := false) (disch := omega) only [go_sem, ↓reduceIte]
      refine call0 knows12_spec ?_
      simp (implicitDefEqProofs := false) (disch := omega) only [go_sem, ↓reduceIte]
    simp (implicitDefEqProofs := false) (disch := omega) only [go_sem, ↓reduceIte]
    refine brd (fun g => ?_) (fun g4 => ?_)
    · simp (implicitDefEqProofs := false) (disch := omega) only [go_sem, ↓reduceIte]
      refine call0 knows12_spec ?_
      simp (implicitDefEqProofs := false) (disch := omega) only [go_sem, ↓reduceIte]
    simp (implicitDefEqProofs := false) (disch := omega) only [go_sem, ↓reduceIte]
    refine brd (fun g => ?_) (fun g5 => ?_)
    · simp (implicitDefEqProofs := false) (disch := omega) only [go_sem, ↓reduceIte]
      refine call0 knows12_spec ?_
      simp (implicitDefEqProofs := false) (disch := omega) only [go_sem, ↓reduceIte]
    omega
  obtain ⟨ns, rfl⟩ := Int.eq_ofNat_of_zero_le (show 0 ≤ s by omega)
  obtain ⟨sz, rfl⟩ := Int.eq_ofNat_of_zero_le (show 0 ≤ z by omega)
  have hsz : ns * sz ≤ 64 * 512 := Nat.mul_le_mul (by omega) (by omega)
  have hzl : (List.replicate (ns * sz) (0 : Int)).length = ns * sz := List.length_replicate
  have r0 := new_ok ns sz (by omega) (by omega) (by omega) (by omega)
  have m0 := refnew_spec ns sz (by omega) (by omega) (by omega) (by omega)
  have hok : okP ns sz 0 ⟨sz, List.replicate (ns * sz) 0, [], false, false, 0, []⟩ :=
    ⟨⟨by dsimp only; omega, by dsimp only; omega, by dsimp only; omega, Nat.zero_le _, Nat.zero_le _, fun w h => by cases h⟩, ⟨by omega, hzl, fun e => by cases e⟩, rfl, Nat.le_refl _⟩
  have k1 := sectors_spec _ hok.d
  have k2 := dsize_spec ⟨sz, List.replicate (ns * sz) 0, [], false, false, 0, []⟩
  have e1 : (List.replicate (ns * sz) (0 : Int)).length / sz = ns := by rw [hzl, Nat.mul_div_cancel _ (by omega : 0 < sz)]
  dsimp only at k1 k2
  rw [e1] at k1
  generalize List.replicate (ns * sz) (0 : Int) = B0 at *
  simp (implicitDefEqProofs := false) (disch := omega) only [go_sem, ↓reduceIte]
  refine callF 3 r0 ?_
  simp (implicitDefEqProofs := false) (disch := omega) only [go_sem, ↓reduceIte]
  refine brd (fun g => by omega) (fun g2 => ?_)
  simp (implicitDefEqProofs := false) (disch := omega) only [go_sem, ↓reduceIte]
  refine brd (fun g => by omega) (fun g3 => ?_)
  simp (implicitDefEqProofs := false) (disch := omega) only [go_sem, ↓reduceIte]
  refine brd (fun g => by omega) (fun g4 => ?_)
  simp (implicitDefEqProofs := false) (disch := omega) only [go_sem, ↓reduceIte]
  refine brd (fun g => by omega) (fun g5 => ?_)
  simp (implicitDefEqProofs := false) (disch := omega) only [go_sem, ↓reduceIte]
  refine callG false [(0, 0), (1, 1), (2, 2)] [(0, 0), (3, 3), (4, 4)] 5 k1 ?_ ?_
  · simp [keys]
  simp (implicitDefEqProofs := false) (disch := omega) only [go_sem, ↓reduceIte]
  refine callG false [(0, 0), (1, 3), (2, 4)] [(0, 0), (3, 5), (4, 6)] 7 k2 ?_ ?_
  · simp [keys]
  simp (implicitDefEqProofs := false) (disch := omega) only [go_sem, ↓reduceIte]
  refine callF 4 m0 ?_
  simp (implicitDefEqProofs := false) (disch := omega) only [go_sem, ↓reduceIte]
  refine loop (ι := Nat × DS × List UInt8) 7 (fun k => k.1 ≤ nl ∧ okP ns sz k.1 k.2.1 ∧ k.2.2.length ≤ 32768) (fun k => [(2, .sl (.lst 4 nl (l.map deV))), (7, .ref 0 []), (9, .ref 1 []), (10, .str k.2.2), (11, .int .i64 k.1)])
    (fun k => plO 2 3 4 5 6 ns k.2.1) (fun k => nl - k.1) (0, ⟨sz, B0, [], false, false, 0, []⟩, []) [(0, 0), (2, 5), (3, 6), (1, 7), (4, 8), (5, 9), (6, 10)] [] ⟨Nat.zero_le _, hok, by simp⟩ rfl ?_ ?_ ?_ (fun k hk => ?_)
  · simp (implicitDefEqProofs := false) (disch := omega) only [go_sem, ↓reduceIte]
  · simp (implicitDefEqProofs := false) (disch := omega) only [go_sem, ↓reduceIte]
  · simp (implicitDefEqProofs := false) (disch := omega) only [go_sem, ↓reduceIte]
  obtain ⟨i, D, img⟩ := k
  obtain ⟨q1, q2, q3⟩ := hk
  dsimp only at q1 q2 q3 ⊢
  obtain rfl := q2.s
  simp (implicitDefEqProofs := false) (disch := omega) only [go_sem, ↓reduceIte]
  refine brd (fun h1 => ?_) (fun h1 => ?_)
  · have hi : i < l.length := by omega
    have hgd : ∀ K, getP (l.map deV) i K = K (.agg [.int .i64 (l[i]).w, .int .i64 (l[i]).n, .sl (.ints .u8 (l[i]).b.length (l[i]).b), .sl (.ints .i64 (l[i]).k.length (l[i]).k)]) := fun K => getP_map (f := deV) (List.getElem?_eq_getElem hi) K
    have hbi := hb _ (List.getElem_mem hi)
    generalize l[i] = x at *
    obtain ⟨w, n, b, ks⟩ := x
    dsimp only at hbi hgd
    simp (implicitDefEqProofs := false) (disch := omega) only [go_sem, ↓reduceIte, ↓hgd, hle]
    refine brd (fun h2 => ?_) (fun h2 => ?_)
    · simp (implicitDefEqProofs := false) (disch := omega) only [go_sem, ↓reduceIte]
      refine call0 knows12_spec ?_
      simp (implicitDefEqProofs := false) (disch := omega) only [go_sem, ↓reduceIte]
    simp (implicitDefEqProofs := false) (disch := omega) only [go_sem, ↓reduceIte, ↓hgd, hle]
    refine brd (fun h3 => ?_) (fun h3 => ?_)
    · simp (implicitDefEqProofs := false) (disch := omega) only [go_sem, ↓reduceIte]
      refine call0 knows12_spec ?_
      simp (implicitDefEqProofs := false) (disch := omega) only [go_sem, ↓reduceIte]
    have hst := step_spec ns D i q2 (by omega) img q3 w n b ks _ _ rfl rfl (by omega) (by omega) hbi.2.2
    have hnx := playD_okP q2 (by omega) img w n b ks hbi.2.2.2 (by omega)
    have himg : (playD ns D img w n b ks).2.length ≤ 32768 := by
      have hbb := q2.d.bl
      unfold playD
      repeat' split
      all_goals first | exact q3 | (show (toU D.b).length ≤ 32768; rw [toU_len]; exact hbb)
    generalize hP : playD ns D img w n b ks = P at *
    obtain ⟨D', img'⟩ := P
    dsimp only at hst hnx himg
    simp (implicitDefEqProofs := false) (disch := omega) only [go_sem, ↓reduceIte, ↓hgd, hle]
    refine callG false [(0, 0), (2, 2), (3, 3), (1, 1), (4, 4), (5, 5), (6, 6)] [(0, 0), (7, 7), (8, 8), (1, 1), (9, 9), (10, 10), (11, 11)] 12 hst ?_ ?_
    · simp [keys]
    simp (implicitDefEqProofs := false) (disch := omega) only [go_sem, ↓reduceIte]
    refine ⟨(i + 1, D', img'), [(0, 0), (2, 7), (3, 8), (1, 1), (4, 9), (5, 10), (6, 11)], [], [], ⟨by dsimp only; omega, hnx, himg⟩, by dsimp only; omega, rfl, ?_, ?_, ?_⟩ <;> simp (implicitDefEqProofs := false) (disch := omega) only [go_sem, ↓reduceIte]
  · have k3 := image_spec D q2.d
    have k4 := refimage_spec ns D q2.d q2.r
    simp (implicitDefEqProofs := false) (disch := omega) only [go_sem, ↓reduceIte]
    refine callG false [(0, 0), (1, 2), (2, 3)] [(0, 0), (3, 7), (4, 8), (5, 9)] 10 k3 ?_ ?_
    · simp [keys]
    simp (implicitDefEqProofs := false) (disch := omega) only [go_sem, ↓reduceIte]
    refine callG false [(0, 1), (1, 4), (2, 5), (3, 6)] [(0, 1), (4, 10), (5, 11), (6, 12)] 13 k4 ?_ ?_
    · simp [keys]
    simp (implicitDefEqProofs := false) (disch := omega) only [go_sem, ↓reduceIte, toU]
    refine call0 knows12_spec ?_
    simp (implicitDefEqProofs := false) (disch := omega) only [go_sem, ↓reduceIte]
end Go.Proofs.Ytegbkbkcfcjkbaa
