/- Two sectors that keep one text: it is replaced. -/
import Derived.Test.YtjaailbgeadnnaaGreatSlots
namespace Go.Proofs.YtjaailbgeadnnaaGreat
open Go Go.Sy Go.Proofs.Tryz
set_option maxRecDepth 100000
set_option maxHeartbeats 8000000
set_option linter.unusedSimpArgs false
set_option linter.unusedVariables false
attribute [go_sem] pl21 pl56 pl88
theorem write_any_own (D : DS) (h : okD D) (hw : D.wait.length ≤ 90000) (i : Int) (t : List Int) (n : Nat) (hn : t.length = n) (hnl : n ≤ 9223372036854775807) :
    FnC Tryz.prog 86 [.ref 0 [], .int .i64 i, .osl 5 [] 1 0 n] ((5, .row (.ints .u8 n t)) :: dskO 1 2 D) (.int .i64 (writeD D i t).1) (dskO 3 4 (writeD D i t).2) := by
  refine (dwrite_spec D h hw i t n hn hnl).sub [(0, 0), (1, 1), (2, 2)] [] [5] rfl ?_ ?_
  · simp (implicitDefEqProofs := false) (disch := omega) only [go_sem, ↓reduceIte]
  · simp (implicitDefEqProofs := false) (disch := omega) only [go_sem, ↓reduceIte]
def replD (D : DS) (S : SS) (b : List Int) : Int × DS × SS :=
  if (writeD D ((S.turn + 1) % 2 : Nat) (sectorL D.sz (S.turn + 1) b)).1 = 0 then
    (if (syncD (writeD D ((S.turn + 1) % 2 : Nat) (sectorL D.sz (S.turn + 1) b)).2).1 = 0 then (0, (syncD (writeD D ((S.turn + 1) % 2 : Nat) (sectorL D.sz (S.turn + 1) b)).2).2, { S with turn := S.turn + 1, text := b })
    else ((syncD (writeD D ((S.turn + 1) % 2 : Nat) (sectorL D.sz (S.turn + 1) b)).2).1, (syncD (writeD D ((S.turn + 1) % 2 : Nat) (sectorL D.sz (S.turn + 1) b)).2).2, { S with gone := true }))
  else ((writeD D ((S.turn + 1) % 2 : Nat) (sectorL D.sz (S.turn + 1) b)).1, (writeD D ((S.turn + 1) % 2 : Nat) (sectorL D.sz (S.turn + 1) b)).2, { S with gone := true })
theorem writeD_okD {D : DS} (h : okD D) (hw : D.wait.length ≤ 90000) (i : Int) (t : List Int) : okD (writeD D i t).2 := by
  unfold writeD
  split
  · exact h
  split
  · rename_i c
    obtain ⟨I, rfl, hI⟩ := there_at h c.1
    rw [Int.toNat_natCast]
    have o1 := okD_wait h hw hI c.2
    dsimp only
    generalize { D with wait := D.wait ++ [(I, t)] } = D1 at *
    unfold failedD
    split
    · exact crashD_ok o1 _
    · exact ⟨o1.sz1, o1.sz2, o1.bl, o1.wl, o1.kl, o1.wt⟩
  · exact h
theorem replace_big (D : DS) (h : okD D) (S : SS) (b : List Int) (n : Nat) (hl : D.sz < n + 18) (hnl : n ≤ 1000000000) : FnC Tryz.prog 88 [.ref 1 [], .sl (.ints .u8 n b)] (slO 2 3 D S) (.int .i64 1) (slO 4 5 D S) := by
  have h2 := h.sz2
  have e1 : decide ((D.sz : Int) - 18 < (n : Int)) = true := decide_eq_true (by omega)
  refine fnV mix pl88 2 4 2 [.tmp 4] Tryz.func88 rfl (by kernel_rfl) (by kernel_rfl) rfl (by kernel_rfl) (by kernel_rfl) (by simp) rfl rfl ?_
  simp (implicitDefEqProofs := false) (disch := omega) only [go_sem, ↓reduceIte]
  refine callG false [(0, 0), (1, 1), (2, 2), (3, 3)] [(0, 0), (1, 1), (4, 4), (5, 5)] 6 (room_spec D h S) ?_ ?_
  · simp [keys]
  simp (implicitDefEqProofs := false) (disch := omega) only [go_sem, ↓reduceIte, e1]
  refine ⟨[(0, 0), (1, 1), (4, 4), (5, 5)], [], [], rfl, ?_, ?_, ?_⟩ <;> simp (implicitDefEqProofs := false) (disch := omega) only [go_sem, ↓reduceIte]
theorem replace_nil : FnC Tryz.prog 88 [.nilp, .nils] [] (.int .i64 9) [] := by
  refine fn0 mix pl88 0 2 [.tmp 4] Tryz.func88 rfl (by kernel_rfl) (by kernel_rfl) rfl (by kernel_rfl) (by kernel_rfl) (by simp) ?_
  simp (implicitDefEqProofs := false) (disch := omega) only [go_sem, ↓reduceIte]
theorem replace_spec (D : DS) (h : okD D) (hw : D.wait.length ≤ 90000) (S : SS) (hg : S.gone = false) (hT : S.turn ≤ 4611686018427387000) (b : List Int) (n : Nat) (hn : b.length = n) (hl : n + 18 ≤ D.sz) :
    FnC Tryz.prog 88 [.ref 1 [], .sl (.ints .u8 n b)] (slO 2 3 D S) (.int .i64 (replD D S b).1) (slO 4 5 (replD D S b).2.1 (replD D S b).2.2) := by
  have h2 := h.sz2
  obtain ⟨T, t, g⟩ := S
  dsimp only at hg hT
  subst hg
  have e1 : decide ((D.sz : Int) - 18 < (n : Int)) = false := decide_eq_false (by omega)
  have k1 := room_spec D h ⟨T, t, false⟩
  have k2 := sector_pp D h ⟨T, t, false⟩ (T + 1) (by omega) b n hn hl
  have hsl := sectorL_len (z := D.sz) (T := T + 1) (t := b) (by omega)
  have k3 := write_any_own D h hw ((T + 1) % 2 : Nat) (sectorL D.sz (T + 1) b) D.sz hsl (by omega)
  have hok1 := writeD_okD h hw ((T + 1) % 2 : Nat) (sectorL D.sz (T + 1) b)
  have k4 := sync_spec _ hok1
  have tm : ((T : Int) + 1).tmod 2 = ((T + 1) % 2 : Nat) := by rw [Int.tmod_eq_emod_of_nonneg (by omega)]; omega
  unfold replD
  dsimp only
  generalize sectorL D.sz (T + 1) b = X at *
  have hj : (T + 1) % 2 ≤ 1 := by omega
  generalize (T + 1) % 2 = j at *
  generalize writeD D j X = R at *
  obtain ⟨w1, D1⟩ := R
  dsimp only at k3 k4 hok1 ⊢
  generalize syncD D1 = Y at *
  obtain ⟨y1, D2⟩ := Y
  dsimp only at k4 ⊢
  refine fnV mix pl88 2 4 2 [.tmp 4] Tryz.func88 rfl (by kernel_rfl) (by kernel_rfl) rfl (by kernel_rfl) (by kernel_rfl) (by simp) rfl rfl ?_
  simp (implicitDefEqProofs := false) (disch := omega) only [go_sem, ↓reduceIte]
  refine callG false [(0, 0), (1, 1), (2, 2), (3, 3)] [(0, 0), (1, 1), (4, 4), (5, 5)] 6 k1 ?_ ?_
  · simp [keys]
  simp (implicitDefEqProofs := false) (disch := omega) only [go_sem, ↓reduceIte, e1]
  refine callBF 1 k2 ?_ ?_
  · simp (implicitDefEqProofs := false) (disch := omega) only [go_sem, ↓reduceIte]
  simp (implicitDefEqProofs := false) (disch := omega) only [go_sem, ↓reduceIte, tm]
  refine callG false [(5, 6), (0, 0), (1, 4), (2, 5)] [(0, 0), (3, 9), (4, 10)] 11 k3 ?_ ?_
  · simp [keys]
  by_cases c1 : w1 = 0
  · rw [if_pos c1]
    have d1 : decide (w1 = 0) = true := decide_eq_true c1
    simp (implicitDefEqProofs := false) (disch := omega) only [go_sem, ↓reduceIte, d1]
    refine callG false [(0, 0), (1, 9), (2, 10)] [(0, 0), (3, 11), (4, 12)] 13 k4 ?_ ?_
    · simp [keys]
    by_cases c2 : y1 = 0
    · rw [if_pos c2]
      have d2 : decide (y1 = 0) = true := decide_eq_true c2
      simp (implicitDefEqProofs := false) (disch := omega) only [go_sem, ↓reduceIte, d2, List.nil_append]
      refine ⟨[(0, 0), (1, 1), (4, 11), (5, 12)], [], [14], rfl, ?_, ?_, ?_⟩ <;> simp (implicitDefEqProofs := false) (disch := omega) only [go_sem, ↓reduceIte, hn]
    · rw [if_neg c2]
      have d2 : decide (y1 = 0) = false := decide_eq_false c2
      simp (implicitDefEqProofs := false) (disch := omega) only [go_sem, ↓reduceIte, d2]
      refine ⟨[(0, 0), (1, 1), (4, 11), (5, 12)], [], [], rfl, ?_, ?_, ?_⟩ <;> simp (implicitDefEqProofs := false) (disch := omega) only [go_sem, ↓reduceIte]
  · rw [if_neg c1]
    have d1 : decide (w1 = 0) = false := decide_eq_false c1
    simp (implicitDefEqProofs := false) (disch := omega) only [go_sem, ↓reduceIte, d1]
    refine ⟨[(0, 0), (1, 1), (4, 9), (5, 10)], [], [], rfl, ?_, ?_, ?_⟩ <;> simp (implicitDefEqProofs := false) (disch := omega) only [go_sem, ↓reduceIte]
theorem read_nil : FnC Tryz.prog 56 [.nilp, .int .i64 0] [] (.tup [.nils, .int .i64 9]) [] := by
  refine fn0 mix pl56 0 2 [.tmp 4, .tmp 5] Tryz.func56 rfl (by kernel_rfl) (by kernel_rfl) rfl (by kernel_rfl) (by kernel_rfl) (by simp) ?_
  simp (implicitDefEqProofs := false) (disch := omega) only [go_sem, ↓reduceIte]
  refine call0 gone_nil ?_
  simp (implicitDefEqProofs := false) (disch := omega) only [go_sem, ↓reduceIte]
theorem open_nil : FnC Tryz.prog 21 [.nilp, .int .i64 0] [] (.tup [.nilp, .int .i64 9]) [] := by
  refine fn0 mix pl21 0 2 [.tmp 4, .tmp 5] Tryz.func21 rfl (by kernel_rfl) (by kernel_rfl) rfl (by kernel_rfl) (by kernel_rfl) (by simp) ?_
  simp (implicitDefEqProofs := false) (disch := omega) only [go_sem, ↓reduceIte]
  refine call0 read_nil ?_
  simp (implicitDefEqProofs := false) (disch := omega) only [go_sem, ↓reduceIte]
theorem failed_calm2 {D : DS} (h : D.set = false) : failedD D = (false, { D with left := IntKind.i64.wrap (D.left - 1) }) := failed_calm h
/-- Without a failure the text is replaced. -/
theorem repl_calm {D : DS} (ho : D.off = false) (hs : D.set = false) (hw : D.wait = []) (S : SS) (b : List Int) (hi : thereD D ((S.turn + 1) % 2 : Nat)) (hl : b.length + 18 ≤ D.sz) :
    replD D S b = (0, { D with b := putB D.sz D.b ((S.turn + 1) % 2) (sectorL D.sz (S.turn + 1) b) D.sz, wait := [], left := IntKind.i64.wrap (IntKind.i64.wrap (D.left - 1) - 1) }, { S with turn := S.turn + 1, text := b }) := by
  have hsl := sectorL_len (z := D.sz) (T := S.turn + 1) (t := b) hl
  obtain ⟨sz, B, W, off, set, left, kp⟩ := D
  dsimp only at ho hs hw hsl ⊢
  subst ho; subst hs; subst hw
  have e1 : writeD ⟨sz, B, [], false, false, left, kp⟩ ((S.turn + 1) % 2 : Nat) (sectorL sz (S.turn + 1) b) = (0, ⟨sz, B, [((S.turn + 1) % 2, sectorL sz (S.turn + 1) b)], false, false, IntKind.i64.wrap (left - 1), kp⟩) := by
    unfold writeD
    rw [if_neg (fun h => by cases h), if_pos ⟨hi, hsl⟩, Int.toNat_natCast, failed_calm rfl]
    rfl
  have e2 : syncD ⟨sz, B, [((S.turn + 1) % 2, sectorL sz (S.turn + 1) b)], false, false, IntKind.i64.wrap (left - 1), kp⟩ = (0, ⟨sz, putB sz B ((S.turn + 1) % 2) (sectorL sz (S.turn + 1) b) sz, [], false, false, IntKind.i64.wrap (IntKind.i64.wrap (left - 1) - 1), kp⟩) := by
    unfold syncD
    rw [if_neg (fun h => by cases h), failed_calm rfl, if_neg (fun h => by cases h)]
    rfl
  unfold replD
  rw [e1, if_pos rfl, e2, if_pos rfl]
theorem replace_own (D : DS) (h : okD D) (hw : D.wait.length ≤ 90000) (S : SS) (hg : S.gone = false) (hT : S.turn ≤ 4611686018427387000) (b : List Int) (n : Nat) (hn : b.length = n) (hl : n + 18 ≤ D.sz) :
    FnC Tryz.prog 88 [.ref 1 [], .osl 6 [] 1 0 n] ((6, .row (.ints .u8 n b)) :: slO 2 3 D S) (.int .i64 (replD D S b).1) (slO 4 5 (replD D S b).2.1 (replD D S b).2.2) := by
  refine (replace_spec D h hw S hg hT b n hn hl).sub [(0, 0), (1, 1), (2, 2), (3, 3)] [] [6] rfl ?_ ?_
  · simp (implicitDefEqProofs := false) (disch := omega) only [go_sem, ↓reduceIte]
  · simp (implicitDefEqProofs := false) (disch := omega) only [go_sem, ↓reduceIte]
theorem replace_big_own (D : DS) (h : okD D) (S : SS) (b : List Int) (n : Nat) (hl : D.sz < n + 18) (hnl : n ≤ 1000000000) : FnC Tryz.prog 88 [.ref 1 [], .osl 6 [] 1 0 n] ((6, .row (.ints .u8 n b)) :: slO 2 3 D S) (.int .i64 1) (slO 4 5 D S) := by
  refine (replace_big D h S b n hl hnl).sub [(0, 0), (1, 1), (2, 2), (3, 3)] [] [6] rfl ?_ ?_
  · simp (implicitDefEqProofs := false) (disch := omega) only [go_sem, ↓reduceIte]
  · simp (implicitDefEqProofs := false) (disch := omega) only [go_sem, ↓reduceIte]
end Go.Proofs.YtjaailbgeadnnaaGreat
