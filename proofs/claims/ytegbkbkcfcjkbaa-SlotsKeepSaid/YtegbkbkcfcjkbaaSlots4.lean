/- The walk of SlotsKeep. -/
import Derived.Test.YtegbkbkcfcjkbaaSlots3
import Derived.Test.YtegbkbkcfcjkbaaRefD2
namespace Go.Proofs.Ytegbkbkcfcjkbaa
open Go Go.Sy Go.Proofs.Try
set_option maxRecDepth 100000
set_option maxHeartbeats 8000000
set_option linter.unusedSimpArgs false
set_option linter.unusedVariables false

structure Sd where
  b : List Int
  c : Bool
  a : Int
  k : List Int
  g : Bool
def sdV (x : Sd) : AV := .agg [.sl (.ints .u8 x.b.length x.b), .bool x.c, .int .i64 x.a, .sl (.ints .i64 x.k.length x.k), .bool x.g]
theorem slotsKeep_spec (l : List Sd) (hl : l.length ≤ 9223372036854775807) (hb : ∀ x ∈ l, x.b.length ≤ 9223372036854775807 ∧ x.k.length ≤ 9223372036854775807 ∧ ∀ y ∈ x.b, 0 ≤ y ∧ y < 256) :
    FnC Try.prog 6 [.sl (.lst 5 l.length (l.map sdV))] [] (.bool true) [] := by
  obtain ⟨nl, hnl⟩ : ∃ n, l.length = n := ⟨_, rfl⟩
  rw [hnl] at hl ⊢
  have hle : (l.map sdV).length = nl := by rw [List.length_map, hnl]
  have r0 := new_ok 2 100 (by decide) (by decide) (by decide) (by decide)
  have i0 := inv_new
  have e200 : List.replicate (2 * 100) (0 : Int) = List.replicate 200 0 := rfl
  rw [e200] at r0
  generalize hD0 : (⟨100, List.replicate 200 0, [], false, false, 0, []⟩ : DS) = D0 at *
  have rO := open_spec D0 i0.d i0.o (by rw [i0.s]; omega) (inv_there i0 (j := 1) (by omega)) (fun I hI' => by
    have e : readB D0 I = chunk 100 D0.b I := by unfold readB; rw [i0.w, i0.s]; rfl
    rw [e]; exact chunk_mem i0.c.bb)
  rw [cont_open i0.s i0.w i0.c] at rO
  refine fn0 mix [] 0 1 [.tmp 2] Try.func6 rfl (by kernel_rfl) (by kernel_rfl) rfl (by kernel_rfl) (by kernel_rfl) (by simp) ?_
  simp (implicitDefEqProofs := false) (disch := omega) only [go_sem, ↓reduceIte]
  refine callF 3 r0 ?_
  simp (implicitDefEqProofs := false) (disch := omega) only [go_sem, ↓reduceIte]
  refine brd (fun g1 => ?_) (fun g1 => ?_)
  · simp (implicitDefEqProofs := false) (disch := omega) only [go_sem, ↓reduceIte]
    refine call0 knows13_spec ?_
    simp (implicitDefEqProofs := false) (disch := omega) only [go_sem, ↓reduceIte]
  simp (implicitDefEqProofs := false) (disch := omega) only [go_sem, ↓reduceIte]
  refine callG false [(0, 0), (1, 1), (2, 2)] [(0, 0), (3, 3), (4, 4), (6, 5)] 6 rO ?_ ?_
  · simp [keys]
  simp (implicitDefEqProofs := false) (disch := omega) only [go_sem, ↓reduceIte]
  refine loop (ι := Nat × DS × Nat × List Int) 4 (fun k => k.1 ≤ nl ∧ k.2.2.1 ≤ k.1 ∧ Inv k.2.2.1 k.2.2.2 k.2.1) (fun k => [(0, .sl (.lst 5 nl (l.map sdV))), (3, .ref 0 []), (5, .ref 1 []), (7, .str (toU k.2.2.2)), (8, .int .i64 k.1)])
    (fun k => slO 2 3 k.2.1 ⟨k.2.2.1, k.2.2.2, false⟩) (fun k => nl - k.1) (0, D0, 0, []) [(0, 0), (1, 5), (2, 3), (3, 4)] [] ⟨Nat.zero_le _, Nat.le_refl _, i0⟩ rfl ?_ ?_ ?_ (fun k hk => ?_)
  · simp (implicitDefEqProofs := false) (disch := omega) only [go_sem, ↓reduceIte]
  · simp (implicitDefEqProofs := false) (disch := omega) only [go_sem, ↓reduceIte, toU, List.map_nil]
  · simp (implicitDefEqProofs := false) (disch := omega) only [go_sem, ↓reduceIte]
  obtain ⟨i, D, T, t⟩ := k
  obtain ⟨q1, q2, hI⟩ := hk
  dsimp only at q1 q2 hI ⊢
  have htl := hI.c.tl
  simp (implicitDefEqProofs := false) (disch := omega) only [go_sem, ↓reduceIte]
  refine brd (fun h1 => ?_) (fun h1 => ?_)
  case' refine_2 =>
    simp (implicitDefEqProofs := false) (disch := omega) only [go_sem, ↓reduceIte]
    refine call0 knows13_spec ?_
    simp (implicitDefEqProofs := false) (disch := omega) only [go_sem, ↓reduceIte]
  have hi : i < l.length := by omega
  have hgd : ∀ K, getP (l.map sdV) i K = K (.agg [.sl (.ints .u8 (l[i]).b.length (l[i]).b), .bool (l[i]).c, .int .i64 (l[i]).a, .sl (.ints .i64 (l[i]).k.length (l[i]).k), .bool (l[i]).g]) := fun K => getP_map (f := sdV) (List.getElem?_eq_getElem hi) K
  have hbi := hb _ (List.getElem_mem hi)
  generalize l[i] = x at *
  obtain ⟨b, c, a, k, g⟩ := x
  dsimp only at hbi hgd
  have hbm := hbi.2.2
  simp (implicitDefEqProofs := false) (disch := omega) only [go_sem, ↓reduceIte, ↓hgd, hle]
  refine brd (fun h2 => ?_) (fun h2 => ?_)
  · simp (implicitDefEqProofs := false) (disch := omega) only [go_sem, ↓reduceIte]
    refine call0 knows13_spec ?_
    simp (implicitDefEqProofs := false) (disch := omega) only [go_sem, ↓reduceIte]
  simp (implicitDefEqProofs := false) (disch := omega) only [go_sem, ↓reduceIte]
  refine brd (fun h3 => ?_) (fun h3 => ?_)
  · simp (implicitDefEqProofs := false) (disch := omega) only [go_sem, ↓reduceIte]
    refine call0 knows13_spec ?_
    simp (implicitDefEqProofs := false) (disch := omega) only [go_sem, ↓reduceIte]
  have hbl : b.length ≤ 82 := by omega
  cases c
  · simp (implicitDefEqProofs := false) (disch := omega) only [go_sem, ↓reduceIte]
    rcases inv_repl hI (by omega) hbl hbm with ⟨r1, r2, r3⟩ | ⟨r1, r2, r3, r4⟩
    · have hre := replace_spec D (hI).d (by rw [(hI).w]; simp) ⟨T, t, false⟩ rfl (by dsimp only; omega) b b.length rfl (by rw [(hI).s]; omega)
      rw [r1, r2] at hre
      generalize (replD D ⟨T, t, false⟩ b).2.1 = D2 at *
      refine callG false [(0, 0), (1, 1), (2, 2), (3, 3)] [(0, 0), (1, 1), (4, 15), (5, 16)] 17 hre ?_ ?_
      · simp [keys]
      simp (implicitDefEqProofs := false) (disch := omega) only [go_sem, ↓reduceIte]
      cases g
      · have htx := text_spec D2 ⟨T + 1, b, false⟩ (by dsimp only; omega)
        simp (implicitDefEqProofs := false) (disch := omega) only [go_sem, ↓reduceIte]
        refine callG false [(0, 0), (1, 1), (2, 15), (3, 16)] [(0, 0), (1, 1), (4, 17), (5, 18), (6, 19)] 20 htx ?_ ?_
        · simp [keys]
        simp (implicitDefEqProofs := false) (disch := omega) only [go_sem, ↓reduceIte]
        refine ⟨(i + 1, D2, T + 1, b), [(0, 0), (1, 1), (2, 17), (3, 18)], [], [], ⟨by dsimp only; omega, by dsimp only; omega, r3⟩, by dsimp only; omega, rfl, ?_, ?_, ?_⟩ <;> simp (implicitDefEqProofs := false) (disch := omega) only [go_sem, ↓reduceIte, toU]
      · have hcr := crash_spec D2 r3.d k k.length rfl (by omega)
        have hbo := boot_spec (crashD D2 k)
        have hI := inv_boot r3 k
        have hop := open_spec (bootD (crashD D2 k)) hI.d hI.o (by rw [hI.s]; omega) (inv_there hI (j := 1) (by omega)) (fun I hI' => by
          have e : readB (bootD (crashD D2 k)) I = chunk 100 (bootD (crashD D2 k)).b I := by unfold readB; rw [hI.w, hI.s]; rfl
          rw [e]; exact chunk_mem hI.c.bb)
        rw [cont_open hI.s hI.w hI.c] at hop
        have htx := text_spec (bootD (crashD D2 k)) ⟨T + 1, b, false⟩ (by dsimp only; omega)
        generalize bootD (crashD D2 k) = D3 at *
        generalize crashD D2 k = D4 at *
        simp (implicitDefEqProofs := false) (disch := omega) only [go_sem, ↓reduceIte]
        refine callG false [(0, 0), (1, 15), (2, 16)] [(0, 0), (3, 21), (4, 22)] 23 hcr ?_ ?_
        · simp [keys]
        simp (implicitDefEqProofs := false) (disch := omega) only [go_sem, ↓reduceIte]
        refine callG false [(0, 0), (1, 21), (2, 22)] [(0, 0), (3, 23), (4, 24)] 25 hbo ?_ ?_
        · simp [keys]
        simp (implicitDefEqProofs := false) (disch := omega) only [go_sem, ↓reduceIte]
        refine callG false [(0, 0), (1, 23), (2, 24)] [(0, 0), (3, 25), (4, 26), (6, 27)] 28 hop ?_ ?_
        · simp [keys]
        simp (implicitDefEqProofs := false) (disch := omega) only [go_sem, ↓reduceIte]
        refine callG false [(0, 0), (1, 27), (2, 25), (3, 26)] [(0, 0), (1, 27), (4, 28), (5, 29), (6, 30)] 31 htx ?_ ?_
        · simp [keys]
        simp (implicitDefEqProofs := false) (disch := omega) only [go_sem, ↓reduceIte]
        refine ⟨(i + 1, D3, T + 1, b), [(0, 0), (1, 27), (2, 28), (3, 29)], [], [], ⟨by dsimp only; omega, by dsimp only; omega, hI⟩, by dsimp only; omega, rfl, ?_, ?_, ?_⟩ <;> simp (implicitDefEqProofs := false) (disch := omega) only [go_sem, ↓reduceIte, toU]
    · have hre := replace_spec D (hI).d (by rw [(hI).w]; simp) ⟨T, t, false⟩ rfl (by dsimp only; omega) b b.length rfl (by rw [(hI).s]; omega)
      rw [r1] at hre
      generalize (replD D ⟨T, t, false⟩ b).2.2 = S2 at *
      generalize (replD D ⟨T, t, false⟩ b).2.1 = D2 at *
      have hcr := crash_spec D2 r2 k k.length rfl (by omega)
      have ecr : crashD D2 k = D2 := by unfold crashD; rw [if_pos r3]
      rw [ecr] at hcr
      have hbo := boot_spec D2
      have fin : ∀ (T' : Nat) (t' : List Int), Inv T' t' (bootD D2) → FnC Try.prog 31 [.ref 0 [], .int .i64 0] (dskO 1 2 (bootD D2)) (.tup [.ref 6 [], .int .i64 0]) (dskO 3 4 (bootD D2) ++ [(6, .var (slV ⟨T', t', false⟩))]) := fun T' t' hI => by
        have hop := open_spec (bootD D2) hI.d hI.o (by rw [hI.s]; omega) (inv_there hI (j := 1) (by omega)) (fun I hI' => by
          have e : readB (bootD D2) I = chunk 100 (bootD D2).b I := by unfold readB; rw [hI.w, hI.s]; rfl
          rw [e]; exact chunk_mem hI.c.bb)
        rw [cont_open hI.s hI.w hI.c] at hop
        exact hop
      refine callG false [(0, 0), (1, 1), (2, 2), (3, 3)] [(0, 0), (1, 1), (4, 15), (5, 16)] 17 hre ?_ ?_
      · simp [keys]
      simp (implicitDefEqProofs := false) (disch := omega) only [go_sem, ↓reduceIte]
      rcases r4 with hI | hI
      · have hop := fin _ _ hI
        have htx := text_spec (bootD D2) ⟨T + 1, b, false⟩ (by dsimp only; omega)
        generalize bootD D2 = D3 at *
        refine callG false [(0, 0), (1, 15), (2, 16)] [(0, 0), (3, 21), (4, 22)] 23 hcr ?_ ?_
        · simp [keys]
        simp (implicitDefEqProofs := false) (disch := omega) only [go_sem, ↓reduceIte]
        refine callG false [(0, 0), (1, 21), (2, 22)] [(0, 0), (3, 23), (4, 24)] 25 hbo ?_ ?_
        · simp [keys]
        simp (implicitDefEqProofs := false) (disch := omega) only [go_sem, ↓reduceIte]
        refine callG false [(0, 0), (1, 23), (2, 24)] [(0, 0), (3, 25), (4, 26), (6, 27)] 28 hop ?_ ?_
        · simp [keys]
        simp (implicitDefEqProofs := false) (disch := omega) only [go_sem, ↓reduceIte]
        refine callG false [(0, 0), (1, 27), (2, 25), (3, 26)] [(0, 0), (1, 27), (4, 28), (5, 29), (6, 30)] 31 htx ?_ ?_
        · simp [keys]
        by_cases cc : toU b = toU t
        · have c1 : decide ((b.map fun x => UInt8.ofNat x.toNat) = toU t) = true := decide_eq_true cc
          simp (implicitDefEqProofs := false) (disch := omega) only [go_sem, ↓reduceIte, c1]
          refine ⟨(i + 1, D3, T + 1, b), [(0, 0), (1, 27), (2, 28), (3, 29)], [], [], ⟨by dsimp only; omega, by dsimp only; omega, hI⟩, by dsimp only; omega, rfl, ?_, ?_, ?_⟩ <;> simp (implicitDefEqProofs := false) (disch := omega) only [go_sem, ↓reduceIte, toU]
        · have c1 : decide ((b.map fun x => UInt8.ofNat x.toNat) = toU t) = false := decide_eq_false cc
          simp (implicitDefEqProofs := false) (disch := omega) only [go_sem, ↓reduceIte, c1]
          refine ⟨(i + 1, D3, T + 1, b), [(0, 0), (1, 27), (2, 28), (3, 29)], [], [], ⟨by dsimp only; omega, by dsimp only; omega, hI⟩, by dsimp only; omega, rfl, ?_, ?_, ?_⟩ <;> simp (implicitDefEqProofs := false) (disch := omega) only [go_sem, ↓reduceIte, toU]
      · have hop := fin _ _ hI
        have htx := text_spec (bootD D2) ⟨T, t, false⟩ (by dsimp only; omega)
        generalize bootD D2 = D3 at *
        refine callG false [(0, 0), (1, 15), (2, 16)] [(0, 0), (3, 21), (4, 22)] 23 hcr ?_ ?_
        · simp [keys]
        simp (implicitDefEqProofs := false) (disch := omega) only [go_sem, ↓reduceIte]
        refine callG false [(0, 0), (1, 21), (2, 22)] [(0, 0), (3, 23), (4, 24)] 25 hbo ?_ ?_
        · simp [keys]
        simp (implicitDefEqProofs := false) (disch := omega) only [go_sem, ↓reduceIte]
        refine callG false [(0, 0), (1, 23), (2, 24)] [(0, 0), (3, 25), (4, 26), (6, 27)] 28 hop ?_ ?_
        · simp [keys]
        simp (implicitDefEqProofs := false) (disch := omega) only [go_sem, ↓reduceIte]
        refine callG false [(0, 0), (1, 27), (2, 25), (3, 26)] [(0, 0), (1, 27), (4, 28), (5, 29), (6, 30)] 31 htx ?_ ?_
        · simp [keys]
        have c1 : decide ((t.map fun x => UInt8.ofNat x.toNat) = toU t) = true := decide_eq_true rfl
        simp (implicitDefEqProofs := false) (disch := omega) only [go_sem, ↓reduceIte, c1]
        refine ⟨(i + 1, D3, T, t), [(0, 0), (1, 27), (2, 28), (3, 29)], [], [], ⟨by dsimp only; omega, by dsimp only; omega, hI⟩, by dsimp only; omega, rfl, ?_, ?_, ?_⟩ <;> simp (implicitDefEqProofs := false) (disch := omega) only [go_sem, ↓reduceIte, toU]
  · have hfa := fail_spec D a k (by omega)
    have hI := inv_fail hI a k (by omega)
    generalize failD D a k = D1 at *
    simp (implicitDefEqProofs := false) (disch := omega) only [go_sem, ↓reduceIte]
    refine callG false [(0, 0), (1, 2), (2, 3)] [(0, 0), (3, 5), (4, 6)] 7 hfa ?_ ?_
    · simp [keys]
    simp (implicitDefEqProofs := false) (disch := omega) only [go_sem, ↓reduceIte]
    rcases inv_repl hI (by omega) hbl hbm with ⟨r1, r2, r3⟩ | ⟨r1, r2, r3, r4⟩
    · have hre := replace_spec D1 (hI).d (by rw [(hI).w]; simp) ⟨T, t, false⟩ rfl (by dsimp only; omega) b b.length rfl (by rw [(hI).s]; omega)
      rw [r1, r2] at hre
      generalize (replD D1 ⟨T, t, false⟩ b).2.1 = D2 at *
      refine callG false [(0, 0), (1, 1), (2, 5), (3, 6)] [(0, 0), (1, 1), (4, 15), (5, 16)] 17 hre ?_ ?_
      · simp [keys]
      simp (implicitDefEqProofs := false) (disch := omega) only [go_sem, ↓reduceIte]
      cases g
      · have htx := text_spec D2 ⟨T + 1, b, false⟩ (by dsimp only; omega)
        simp (implicitDefEqProofs := false) (disch := omega) only [go_sem, ↓reduceIte]
        refine callG false [(0, 0), (1, 1), (2, 15), (3, 16)] [(0, 0), (1, 1), (4, 17), (5, 18), (6, 19)] 20 htx ?_ ?_
        · simp [keys]
        simp (implicitDefEqProofs := false) (disch := omega) only [go_sem, ↓reduceIte]
        refine ⟨(i + 1, D2, T + 1, b), [(0, 0), (1, 1), (2, 17), (3, 18)], [], [], ⟨by dsimp only; omega, by dsimp only; omega, r3⟩, by dsimp only; omega, rfl, ?_, ?_, ?_⟩ <;> simp (implicitDefEqProofs := false) (disch := omega) only [go_sem, ↓reduceIte, toU]
      · have hcr := crash_spec D2 r3.d k k.length rfl (by omega)
        have hbo := boot_spec (crashD D2 k)
        have hI := inv_boot r3 k
        have hop := open_spec (bootD (crashD D2 k)) hI.d hI.o (by rw [hI.s]; omega) (inv_there hI (j := 1) (by omega)) (fun I hI' => by
          have e : readB (bootD (crashD D2 k)) I = chunk 100 (bootD (crashD D2 k)).b I := by unfold readB; rw [hI.w, hI.s]; rfl
          rw [e]; exact chunk_mem hI.c.bb)
        rw [cont_open hI.s hI.w hI.c] at hop
        have htx := text_spec (bootD (crashD D2 k)) ⟨T + 1, b, false⟩ (by dsimp only; omega)
        generalize bootD (crashD D2 k) = D3 at *
        generalize crashD D2 k = D4 at *
        simp (implicitDefEqProofs := false) (disch := omega) only [go_sem, ↓reduceIte]
        refine callG false [(0, 0), (1, 15), (2, 16)] [(0, 0), (3, 21), (4, 22)] 23 hcr ?_ ?_
        · simp [keys]
        simp (implicitDefEqProofs := false) (disch := omega) only [go_sem, ↓reduceIte]
        refine callG false [(0, 0), (1, 21), (2, 22)] [(0, 0), (3, 23), (4, 24)] 25 hbo ?_ ?_
        · simp [keys]
        simp (implicitDefEqProofs := false) (disch := omega) only [go_sem, ↓reduceIte]
        refine callG false [(0, 0), (1, 23), (2, 24)] [(0, 0), (3, 25), (4, 26), (6, 27)] 28 hop ?_ ?_
        · simp [keys]
        simp (implicitDefEqProofs := false) (disch := omega) only [go_sem, ↓reduceIte]
        refine callG false [(0, 0), (1, 27), (2, 25), (3, 26)] [(0, 0), (1, 27), (4, 28), (5, 29), (6, 30)] 31 htx ?_ ?_
        · simp [keys]
        simp (implicitDefEqProofs := false) (disch := omega) only [go_sem, ↓reduceIte]
        refine ⟨(i + 1, D3, T + 1, b), [(0, 0), (1, 27), (2, 28), (3, 29)], [], [], ⟨by dsimp only; omega, by dsimp only; omega, hI⟩, by dsimp only; omega, rfl, ?_, ?_, ?_⟩ <;> simp (implicitDefEqProofs := false) (disch := omega) only [go_sem, ↓reduceIte, toU]
    · have hre := replace_spec D1 (hI).d (by rw [(hI).w]; simp) ⟨T, t, false⟩ rfl (by dsimp only; omega) b b.length rfl (by rw [(hI).s]; omega)
      rw [r1] at hre
      generalize (replD D1 ⟨T, t, false⟩ b).2.2 = S2 at *
      generalize (replD D1 ⟨T, t, false⟩ b).2.1 = D2 at *
      have hcr := crash_spec D2 r2 k k.length rfl (by omega)
      have ecr : crashD D2 k = D2 := by unfold crashD; rw [if_pos r3]
      rw [ecr] at hcr
      have hbo := boot_spec D2
      have fin : ∀ (T' : Nat) (t' : List Int), Inv T' t' (bootD D2) → FnC Try.prog 31 [.ref 0 [], .int .i64 0] (dskO 1 2 (bootD D2)) (.tup [.ref 6 [], .int .i64 0]) (dskO 3 4 (bootD D2) ++ [(6, .var (slV ⟨T', t', false⟩))]) := fun T' t' hI => by
        have hop := open_spec (bootD D2) hI.d hI.o (by rw [hI.s]; omega) (inv_there hI (j := 1) (by omega)) (fun I hI' => by
          have e : readB (bootD D2) I = chunk 100 (bootD D2).b I := by unfold readB; rw [hI.w, hI.s]; rfl
          rw [e]; exact chunk_mem hI.c.bb)
        rw [cont_open hI.s hI.w hI.c] at hop
        exact hop
      refine callG false [(0, 0), (1, 1), (2, 5), (3, 6)] [(0, 0), (1, 1), (4, 15), (5, 16)] 17 hre ?_ ?_
      · simp [keys]
      simp (implicitDefEqProofs := false) (disch := omega) only [go_sem, ↓reduceIte]
      rcases r4 with hI | hI
      · have hop := fin _ _ hI
        have htx := text_spec (bootD D2) ⟨T + 1, b, false⟩ (by dsimp only; omega)
        generalize bootD D2 = D3 at *
        refine callG false [(0, 0), (1, 15), (2, 16)] [(0, 0), (3, 21), (4, 22)] 23 hcr ?_ ?_
        · simp [keys]
        simp (implicitDefEqProofs := false) (disch := omega) only [go_sem, ↓reduceIte]
        refine callG false [(0, 0), (1, 21), (2, 22)] [(0, 0), (3, 23), (4, 24)] 25 hbo ?_ ?_
        · simp [keys]
        simp (implicitDefEqProofs := false) (disch := omega) only [go_sem, ↓reduceIte]
        refine callG false [(0, 0), (1, 23), (2, 24)] [(0, 0), (3, 25), (4, 26), (6, 27)] 28 hop ?_ ?_
        · simp [keys]
        simp (implicitDefEqProofs := false) (disch := omega) only [go_sem, ↓reduceIte]
        refine callG false [(0, 0), (1, 27), (2, 25), (3, 26)] [(0, 0), (1, 27), (4, 28), (5, 29), (6, 30)] 31 htx ?_ ?_
        · simp [keys]
        by_cases cc : toU b = toU t
        · have c1 : decide ((b.map fun x => UInt8.ofNat x.toNat) = toU t) = true := decide_eq_true cc
          simp (implicitDefEqProofs := false) (disch := omega) only [go_sem, ↓reduceIte, c1]
          refine ⟨(i + 1, D3, T + 1, b), [(0, 0), (1, 27), (2, 28), (3, 29)], [], [], ⟨by dsimp only; omega, by dsimp only; omega, hI⟩, by dsimp only; omega, rfl, ?_, ?_, ?_⟩ <;> simp (implicitDefEqProofs := false) (disch := omega) only [go_sem, ↓reduceIte, toU]
        · have c1 : decide ((b.map fun x => UInt8.ofNat x.toNat) = toU t) = false := decide_eq_false cc
          simp (implicitDefEqProofs := false) (disch := omega) only [go_sem, ↓reduceIte, c1]
          refine ⟨(i + 1, D3, T + 1, b), [(0, 0), (1, 27), (2, 28), (3, 29)], [], [], ⟨by dsimp only; omega, by dsimp only; omega, hI⟩, by dsimp only; omega, rfl, ?_, ?_, ?_⟩ <;> simp (implicitDefEqProofs := false) (disch := omega) only [go_sem, ↓reduceIte, toU]
      · have hop := fin _ _ hI
        have htx := text_spec (bootD D2) ⟨T, t, false⟩ (by dsimp only; omega)
        generalize bootD D2 = D3 at *
        refine callG false [(0, 0), (1, 15), (2, 16)] [(0, 0), (3, 21), (4, 22)] 23 hcr ?_ ?_
        · simp [keys]
        simp (implicitDefEqProofs := false) (disch := omega) only [go_sem, ↓reduceIte]
        refine callG false [(0, 0), (1, 21), (2, 22)] [(0, 0), (3, 23), (4, 24)] 25 hbo ?_ ?_
        · simp [keys]
        simp (implicitDefEqProofs := false) (disch := omega) only [go_sem, ↓reduceIte]
        refine callG false [(0, 0), (1, 23), (2, 24)] [(0, 0), (3, 25), (4, 26), (6, 27)] 28 hop ?_ ?_
        · simp [keys]
        simp (implicitDefEqProofs := false) (disch := omega) only [go_sem, ↓reduceIte]
        refine callG false [(0, 0), (1, 27), (2, 25), (3, 26)] [(0, 0), (1, 27), (4, 28), (5, 29), (6, 30)] 31 htx ?_ ?_
        · simp [keys]
        have c1 : decide ((t.map fun x => UInt8.ofNat x.toNat) = toU t) = true := decide_eq_true rfl
        simp (implicitDefEqProofs := false) (disch := omega) only [go_sem, ↓reduceIte, c1]
        refine ⟨(i + 1, D3, T, t), [(0, 0), (1, 27), (2, 28), (3, 29)], [], [], ⟨by dsimp only; omega, by dsimp only; omega, hI⟩, by dsimp only; omega, rfl, ?_, ?_, ?_⟩ <;> simp (implicitDefEqProofs := false) (disch := omega) only [go_sem, ↓reduceIte, toU]
end Go.Proofs.Ytegbkbkcfcjkbaa
