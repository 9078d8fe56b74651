/- Two sectors that keep one text: it is replaced. -/
import Derived.Test.YtegbkbkcfcjkbaaSlots
namespace Go.Proofs.Ytegbkbkcfcjkbaa
open Go Go.Sy Go.Proofs.Try
set_option maxRecDepth 100000
set_option maxHeartbeats 8000000
set_option linter.unusedSimpArgs false
set_option linter.unusedVariables false
attribute [go_sem] pl17 pl31 pl33
theorem write_any_own (D : DS) (h : okD D) (hw : D.wait.length ≤ 90000) (i : Int) (t : List Int) (n : Nat) (hn : t.length = n) (hnl : n ≤ 9223372036854775807) :
    FnC Try.prog 13 [.ref 0 [], .int .i64 i, .osl 5 [] 1 0 n] ((5, .row (.ints .u8 n t)) :: dskO 1 2 D) (.int .i64 (writeD D i t).1) (dskO 3 4 (writeD D i t).2) := by
  refine (write_spec D h hw i t n hn hnl).sub [(0, 0), (1, 1), (2, 2)] [] [5] rfl ?_ ?_
  · simp (implicitDefEqProofs := false) (disch := omega) only [go_sem, ↓reduceIte]
  · simp (implicitDefEqProofs := false) (disch := omega) only [go_sem, ↓reduceIte]
def replD (D : DS) (S : SS) (b : List Int) : Int × DS × SS :=
  if (writeD D ((S.turn + 1) % 2 : Nat) (sectorL D.sz (S.turn + 1) b)).1 = 0 then
    (if (syncD (writeD D ((S.turn + 1) % 2 : Nat) (sectorL D.sz (S.turn + 1) b)).2).1 = 0 then (0, (syncD (writeD D ((S.turn + 1) % 2 : Nat) (sectorL D.sz (S.turn + 1) b)).2).2, { S with turn := S.turn + 1, text := b })
    else ((syncD (writeD D ((S.turn + 1) % 2 : Nat) (sectorL D.sz (S.turn + 1) b)).2).1, (syncD (writeD D ((S.turn + 1) % 2 : Nat) (sectorL D.sz (S.turn + 1) b)).2).2, { S with gone := true }))
  else ((writeD D ((S.turn + 1) % 2 : Nat) (sectorL D.sz (S.turn + 1) b)).1, (writeD D ((S.turn + 1) % 2 : Nat) (sectorL D.sz (S.turn + 1) b)).2, { S with gone := true })
theorem writeD_okD {D : DS} (h : okD D) (hw : D.wait.length ≤ 90000) (i : Int) (t : List Int) : okD (writeD D i t).2 := by
  unfold writeD
  split
  · exact h
  split
  · rename_i c
    obtain ⟨I, rfl, hI⟩ := there_at h c.1
    rw [Int.toNat_natCast]
    have o1 := okD_wait h hw hI c.2
    dsimp only
    generalize { D with wait := D.wait ++ [(I, t)] } = D1 at *
    unfold failedD
    split
    · exact crashD_ok o1 _
    · exact ⟨o1.sz1, o1.sz2, o1.bl, o1.wl, o1.kl, o1.wt⟩
  · exact h
theorem replace_big (D : DS) (h : okD D) (S : SS) (b : List Int) (n : Nat) (hl : D.sz < n + 18) (hnl : n ≤ 1000000000) : FnC Try.prog 33 [.ref 1 [], .sl (.ints .u8 n b)] (slO 2 3 D S) (.int .i64 1) (slO 4 5 D S) := by
  have h2 := h.sz2
  have e1 : decide ((D.sz : Int) - 18 < (n : Int)) = true := decide_eq_true (by omega)
  refine fnV mix pl33 2 4 2 [.tmp 4] Try.func33 rfl (by kernel_rfl) (by kernel_rfl) rfl (by kernel_rfl) (by kernel_rfl) (by simp) rfl rfl ?_
  simp (implicitDefEqProofs := false) (disch := omega) only [go_sem, ↓reduceIte]
  refine callG false [(0, 0), (1, 1), (2, 2), (3, 3)] [(0, 0), (1, 1), (4, 4), (5, 5)] 6 (room_spec D h S) ?_ ?_
  · simp [keys]
  simp (implicitDefEqProofs := false) (disch := omega) only [go_sem, ↓reduceIte, e1]
  refine ⟨[(0, 0), (1, 1), (4, 4), (5, 5)], [], [], rfl, ?_, ?_, ?_⟩ <;> simp (implicitDefEqProofs := false) (disch := omega) only [go_sem, ↓reduceIte]
theorem replace_nil : FnC Try.prog 33 [.nilp, .nils] [] (.int .i64 9) [] := by
  refine fn0 mix pl33 0 2 [.tmp 4] Try.func33 rfl (by kernel_rfl) (by kernel_rfl) rfl (by kernel_rfl) (by kernel_rfl) (by simp) ?_
  simp (implicitDefEqProofs := false) (disch := omega) only [go_sem, ↓reduceIte]
theorem replace_spec (D : DS) (h : okD D) (hw : D.wait.length ≤ 90000) (S : SS) (hg : S.gone = false) (hT : S.turn ≤ 4611686018427387000) (b : List Int) (n : Nat) (hn : b.length = n) (hl : n + 18 ≤ D.sz) :
    FnC Try.prog 33 [.ref 1 [], .sl (.ints .u8 n b)] (slO 2 3 D S) (.int .i64 (replD D S b).1) (slO 4 5 (replD D S b).2.1 (replD D S b).2.2) := by
  have h2 := h.sz2
  obtain ⟨T, t, g⟩ := S
  dsimp only at hg hT
  subst hg
  have e1 : decide ((D.sz : Int) - 18 < (n : Int)) = false := decide_eq_false (by omega)
  have k1 := room_spec D h ⟨T, t, false⟩
  have k2 := sector_pp D h ⟨T, t, false⟩ (T + 1) (by omega) b n hn hl
  have hsl := sectorL_len (z := D.sz) (T := T + 1) (t := b) (by omega)
  have k3 := write_any_own D h hw ((T + 1) % 2 : Nat) (sectorL D.sz (T + 1) b) D.sz hsl (by omega)
  have hok1 := writeD_okD h hw ((T + 1) % 2 : Nat) (sectorL D.sz (T + 1) b)
  have k4 := sync_spec _ hok1
  have tm : ((T : Int) + 1).tmod 2 = ((T + 1) % 2 : Nat) := by rw [Int.tmod_eq_emod_of_nonneg (by omega)]; omega
  unfold replD
  dsimp only
  generalize sectorL D.sz (T + 1) b = X at *
  have hj : (T + 1) % 2 ≤ 1 := by omega
  generalize (T + 1) % 2 = j at *
  generalize writeD D j X = R at *
  obtain ⟨w1, D1⟩ := R
  dsimp only at k3 k4 hok1 ⊢
  generalize syncD D1 = Y at *
  obtain ⟨y1, D2⟩ := Y
  dsimp only at k4 ⊢
  refine fnV mix pl33 2 4 2 [.tmp 4] Try.func33 rfl (by kernel_rfl) (by kernel_rfl) rfl (by kernel_rfl) (by kernel_rfl) (by simp) rfl rfl ?_
  simp (implicitDefEqProofs := false) (disch := omega) only [go_sem, ↓reduceIte]
  refine callG false [(0, 0), (1, 1), (2, 2), (3, 3)] [(0, 0), (1, 1), (4, 4), (5, 5)] 6 k1 ?_ ?_
  · simp [keys]
  simp (implicitDefEqProofs := false) (disch := omega) only [go_sem, ↓reduceIte, e1]
  refine callBF 1 k2 ?_ ?_
  · simp (implicitDefEqProofs := false) (disch := omega) only [go_sem, ↓reduceIte]
  simp (implicitDefEqProofs := false) (disch := omega) only [go_sem, ↓reduceIte, tm]
  refine callG false [(5, 6), (0, 0), (1, 4), (2, 5)] [(0, 0), (3, 9), (4, 10)] 11 k3 ?_ ?_
  · simp [keys]
  by_cases c1 : w1 = 0
  · rw [if_pos c1]
    have d1 : decide (w1 = 0) = true := decide_eq_true c1
    simp (implicitDefEqProofs := false) (disch := omega) only [go_sem, ↓reduceIte, d1]
    refine callG false [(0, 0), (1, 9), (2, 10)] [(0, 0), (3, 11), (4, 12)] 13 k4 ?_ ?_
    · simp [keys]
    by_cases c2 : y1 = 0
    · rw [if_pos c2]
      have d2 : decide (y1 = 0) = true := decide_eq_true c2
      simp (implicitDefEqProofs := false) (disch := omega) only [go_sem, ↓reduceIte, d2, List.nil_append]
      refine ⟨[(0, 0), (1, 1), (4, 11), (5, 12)], [], [14], rfl, ?_, ?_, ?_⟩ <;> simp (implicitDefEqProofs := false) (disch := omega) only [go_sem, ↓reduceIte, hn]
    · rw [if_neg c2]
      have d2 : decide (y1 = 0) = false := decide_eq_false c2
      simp (implicitDefEqProofs := false) (disch := omega) only [go_sem, ↓reduceIte, d2]
      refine ⟨[(0, 0), (1, 1), (4, 11), (5, 12)], [], [], rfl, ?_, ?_, ?_⟩ <;> simp (implicitDefEqProofs := false) (disch := omega) only [go_sem, ↓reduceIte]
  · rw [if_neg c1]
    have d1 : decide (w1 = 0) = false := decide_eq_false c1
    simp (implicitDefEqProofs := false) (disch := omega) only [go_sem, ↓reduceIte, d1]
    refine ⟨[(0, 0), (1, 1), (4, 9), (5, 10)], [], [], rfl, ?_, ?_, ?_⟩ <;> simp (implicitDefEqProofs := false) (disch := omega) only [go_sem, ↓reduceIte]
theorem read_nil : FnC Try.prog 17 [.nilp, .int .i64 0] [] (.tup [.nils, .int .i64 9]) [] := by
  refine fn0 mix pl17 0 2 [.tmp 4, .tmp 5] Try.func17 rfl (by kernel_rfl) (by kernel_rfl) rfl (by kernel_rfl) (by kernel_rfl) (by simp) ?_
  simp (implicitDefEqProofs := false) (disch := omega) only [go_sem, ↓reduceIte]
  refine call0 gone_nil ?_
  simp (implicitDefEqProofs := false) (disch := omega) only [go_sem, ↓reduceIte]
theorem open_nil : FnC Try.prog 31 [.nilp, .int .i64 0] [] (.tup [.nilp, .int .i64 9]) [] := by
  refine fn0 mix pl31 0 2 [.tmp 4, .tmp 5] Try.func31 rfl (by kernel_rfl) (by kernel_rfl) rfl (by kernel_rfl) (by kernel_rfl) (by simp) ?_
  simp (implicitDefEqProofs := false) (disch := omega) only [go_sem, ↓reduceIte]
  refine call0 read_nil ?_
  simp (implicitDefEqProofs := false) (disch := omega) only [go_sem, ↓reduceIte]
theorem failed_calm2 {D : DS} (h : D.set = false) : failedD D = (false, { D with left := IntKind.i64.wrap (D.left - 1) }) := failed_calm h
/-- Without a failure the text is replaced. -/
theorem repl_calm {D : DS} (ho : D.off = false) (hs : D.set = false) (hw : D.wait = []) (S : SS) (b : List Int) (hi : thereD D ((S.turn + 1) % 2 : Nat)) (hl : b.length + 18 ≤ D.sz) :
    replD D S b = (0, { D with b := putB D.sz D.b ((S.turn + 1) % 2) (sectorL D.sz (S.turn + 1) b) D.sz, wait := [], left := IntKind.i64.wrap (IntKind.i64.wrap (D.left - 1) - 1) }, { S with turn := S.turn + 1, text := b }) := by
  have hsl := sectorL_len (z := D.sz) (T := S.turn + 1) (t := b) hl
  obtain ⟨sz, B, W, off, set, left, kp⟩ := D
  dsimp only at ho hs hw hsl ⊢
  subst ho; subst hs; subst hw
  have e1 : writeD ⟨sz, B, [], false, false, left, kp⟩ ((S.turn + 1) % 2 : Nat) (sectorL sz (S.turn + 1) b) = (0, ⟨sz, B, [((S.turn + 1) % 2, sectorL sz (S.turn + 1) b)], false, false, IntKind.i64.wrap (left - 1), kp⟩) := by
    unfold writeD
    rw [if_neg (fun h => by cases h), if_pos ⟨hi, hsl⟩, Int.toNat_natCast, failed_calm rfl]
    rfl
  have e2 : syncD ⟨sz, B, [((S.turn + 1) % 2, sectorL sz (S.turn + 1) b)], false, false, IntKind.i64.wrap (left - 1), kp⟩ = (0, ⟨sz, putB sz B ((S.turn + 1) % 2) (sectorL sz (S.turn + 1) b) sz, [], false, false, IntKind.i64.wrap (IntKind.i64.wrap (left - 1) - 1), kp⟩) := by
    unfold syncD
    rw [if_neg (fun h => by cases h), failed_calm rfl, if_neg (fun h => by cases h)]
    rfl
  unfold replD
  rw [e1, if_pos rfl, e2, if_pos rfl]
theorem replace_own (D : DS) (h : okD D) (hw : D.wait.length ≤ 90000) (S : SS) (hg : S.gone = false) (hT : S.turn ≤ 4611686018427387000) (b : List Int) (n : Nat) (hn : b.length = n) (hl : n + 18 ≤ D.sz) :
    FnC Try.prog 33 [.ref 1 [], .osl 6 [] 1 0 n] ((6, .row (.ints .u8 n b)) :: slO 2 3 D S) (.int .i64 (replD D S b).1) (slO 4 5 (replD D S b).2.1 (replD D S b).2.2) := by
  refine (replace_spec D h hw S hg hT b n hn hl).sub [(0, 0), (1, 1), (2, 2), (3, 3)] [] [6] rfl ?_ ?_
  · simp (implicitDefEqProofs := false) (disch := omega) only [go_sem, ↓reduceIte]
  · simp (implicitDefEqProofs := false) (disch := omega) only [go_sem, ↓reduceIte]
theorem replace_big_own (D : DS) (h : okD D) (S : SS) (b : List Int) (n : Nat) (hl : D.sz < n + 18) (hnl : n ≤ 1000000000) : FnC Try.prog 33 [.ref 1 [], .osl 6 [] 1 0 n] ((6, .row (.ints .u8 n b)) :: slO 2 3 D S) (.int .i64 1) (slO 4 5 D S) := by
  refine (replace_big D h S b n hl hnl).sub [(0, 0), (1, 1), (2, 2), (3, 3)] [] [6] rfl ?_ ?_
  · simp (implicitDefEqProofs := false) (disch := omega) only [go_sem, ↓reduceIte]
  · simp (implicitDefEqProofs := false) (disch := omega) only [go_sem, ↓reduceIte]
theorem knows13_spec : FnC Try.prog 30 [] [] (.bool true) [] := by
  have z40 : List.replicate (2 * 20) (0 : Int) = List.replicate 40 0 := rfl
  have r0 := new_ok 2 20 (by decide) (by decide) (by decide) (by decide)
  rw [z40] at r0
  have o0 : okD ⟨20, List.replicate 40 0, [], false, false, 0, []⟩ := ⟨by decide, by decide, by decide, by decide, by decide, fun w h => by cases h⟩
  have r1 := open_spec ⟨20, List.replicate 40 0, [], false, false, 0, []⟩ o0 rfl (by decide) (by decide) (fun I hI => by
    have : I = 0 ∨ I = 1 := by omega
    rcases this with rfl | rfl <;> decide)
  have e1 : openS ⟨20, List.replicate 40 0, [], false, false, 0, []⟩ = ⟨0, [], false⟩ := by rfl
  rw [e1] at r1
  have r2 := room_spec ⟨20, List.replicate 40 0, [], false, false, 0, []⟩ o0 ⟨0, [], false⟩
  have r3 := turn_spec ⟨20, List.replicate 40 0, [], false, false, 0, []⟩ ⟨0, [], false⟩
  have r4 := replace_own ⟨20, List.replicate 40 0, [], false, false, 0, []⟩ o0 (by decide) ⟨0, [], false⟩ rfl (by decide) [97, 98] 2 rfl (by decide)
  rw [repl_calm rfl rfl rfl _ _ (by decide) (by decide)] at r4
  dsimp only at r4
  have hbl : (putB 20 (List.replicate 40 0) ((0 + 1) % 2) (sectorL 20 (0 + 1) [97, 98]) 20).length = 40 := by decide
  generalize putB 20 (List.replicate 40 0) ((0 + 1) % 2) (sectorL 20 (0 + 1) [97, 98]) 20 = B1 at *
  generalize IntKind.i64.wrap (IntKind.i64.wrap (0 - 1) - 1) = L at *
  have o1 : okD ⟨20, B1, [], false, false, L, []⟩ := ⟨by dsimp only; omega, by dsimp only; omega, by dsimp only; omega, Nat.zero_le _, Nat.zero_le _, fun w h => by cases h⟩
  have r5 := replace_big_own ⟨20, B1, [], false, false, L, []⟩ o1 ⟨0 + 1, [97, 98], false⟩ [97, 98, 99] 3 (by dsimp only; decide) (by decide)
  have r6 := text_spec ⟨20, B1, [], false, false, L, []⟩ ⟨0 + 1, [97, 98], false⟩ (by decide)
  have r7 := turn_spec ⟨20, B1, [], false, false, L, []⟩ ⟨0 + 1, [97, 98], false⟩
  have u1 : decide ([UInt8.ofNat 97, UInt8.ofNat 98] = [97, 98]) = true := by decide
  dsimp only at r1 r2 r3 r5 r6 r7
  generalize hB0 : List.replicate 40 (0 : Int) = B0 at *
  refine fn0 mix [] 0 0 [.tmp 0] Try.func30 rfl (by kernel_rfl) (by kernel_rfl) rfl (by kernel_rfl) (by kernel_rfl) (by simp) ?_
  simp (implicitDefEqProofs := false) (disch := omega) only [go_sem, ↓reduceIte]
  refine callF 3 r0 ?_
  simp (implicitDefEqProofs := false) (disch := omega) only [go_sem, ↓reduceIte]
  refine callG false [(0, 0), (1, 1), (2, 2)] [(0, 0), (3, 3), (4, 4), (6, 5)] 6 r1 ?_ ?_
  · simp [keys]
  simp (implicitDefEqProofs := false) (disch := omega) only [go_sem, ↓reduceIte]
  refine call0 open_nil ?_
  simp (implicitDefEqProofs := false) (disch := omega) only [go_sem, ↓reduceIte]
  refine callG false [(0, 0), (1, 5), (2, 3), (3, 4)] [(0, 0), (1, 5), (4, 6), (5, 7)] 8 r2 ?_ ?_
  · simp [keys]
  simp (implicitDefEqProofs := false) (disch := omega) only [go_sem, ↓reduceIte]
  refine callG false [(0, 0), (1, 5), (2, 6), (3, 7)] [(0, 0), (1, 5), (4, 8), (5, 9)] 10 r3 ?_ ?_
  · simp [keys]
  simp (implicitDefEqProofs := false) (disch := omega) only [go_sem, ↓reduceIte]
  refine callG false [(6, 10), (0, 0), (1, 5), (2, 8), (3, 9)] [(0, 0), (1, 5), (4, 11), (5, 12)] 13 r4 ?_ ?_
  · simp [keys]
  simp (implicitDefEqProofs := false) (disch := omega) only [go_sem, ↓reduceIte]
  refine callG false [(6, 13), (0, 0), (1, 5), (2, 11), (3, 12)] [(0, 0), (1, 5), (4, 14), (5, 15)] 16 r5 ?_ ?_
  · simp [keys]
  simp (implicitDefEqProofs := false) (disch := omega) only [go_sem, ↓reduceIte]
  refine callG false [(0, 0), (1, 5), (2, 14), (3, 15)] [(0, 0), (1, 5), (4, 16), (5, 17), (6, 18)] 19 r6 ?_ ?_
  · simp [keys]
  simp (implicitDefEqProofs := false) (disch := omega) only [go_sem, ↓reduceIte, u1]
  refine callG false [(0, 0), (1, 5), (2, 16), (3, 17)] [(0, 0), (1, 5), (4, 19), (5, 20)] 21 r7 ?_ ?_
  · simp [keys]
  simp (implicitDefEqProofs := false) (disch := omega) only [go_sem, ↓reduceIte]
  refine call0 room_nil ?_
  simp (implicitDefEqProofs := false) (disch := omega) only [go_sem, ↓reduceIte]
  refine call0 replace_nil ?_
  simp (implicitDefEqProofs := false) (disch := omega) only [go_sem, ↓reduceIte]
end Go.Proofs.Ytegbkbkcfcjkbaa
