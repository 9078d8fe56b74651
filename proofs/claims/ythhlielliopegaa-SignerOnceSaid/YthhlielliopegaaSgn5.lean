/- Without failures a key deals, and rolls over. -/
import Derived.Test.YthhlielliopegaaSgn4
namespace Go.Proofs.Ythhlielliopegaa
open Go Go.Sy Go.Proofs.Try
set_option maxRecDepth 100000
set_option maxHeartbeats 8000000
set_option linter.unusedSimpArgs false
set_option linter.unusedVariables false

theorem tx_mem (x : ST) : ∀ v ∈ tx x, 0 ≤ v ∧ v < 256 := rowS_mem
theorem calm {T : Nat} {t : List Int} {D : DS} (h : Inv 400 T t D) (hs : D.set = false) (hT : T ≤ 900) (x : ST) (hm : x.msg.length ≤ 200) : ∃ D', replD D ⟨T, t, false⟩ (tx x) = (0, D', ⟨T + 1, tx x, false⟩) ∧ Inv 400 (T + 1) (tx x) D' ∧ D'.set = false := by
  have hl : (tx x).length + 18 ≤ 400 := by rw [tx_len]; omega
  have e := repl_calm h.o hs h.w ⟨T, t, false⟩ (tx x) (inv_there h (j := (T + 1) % 2) (by omega)) (by rw [h.s]; exact hl)
  rcases inv_repl h hT hl (tx_mem x) with ⟨_, _, r⟩ | ⟨r, _⟩
  · rw [e] at r ⊢
    exact ⟨_, rfl, r, hs⟩
  · rw [e] at r; exact absurd (show (0 : Int) = 9 from r) (by omega)
theorem inv0 : Inv 400 0 [] ⟨400, List.replicate 800 0, [], false, false, 0, []⟩ :=
  ⟨⟨by decide, by decide, by rw [List.length_replicate]; decide, by decide, by decide, fun w h => by cases h⟩, rfl, rfl, rfl, ⟨by decide, by decide, by decide, by decide, fun _ => rfl, by rw [List.length_replicate], fun x hx => by rw [(List.mem_replicate.1 hx).2]; decide, by
    show chunk 400 (List.replicate 800 0) 0 = sectorL 400 0 []
    have e : sectorL 400 0 [] = List.replicate 400 0 := by
      unfold sectorL
      rw [show be (0 : Nat) 8 = List.replicate 8 0 by decide, show be (([] : List Int).length : Nat) 2 = List.replicate 2 0 by decide, show ([] : List Int) = List.replicate 0 0 from rfl]
      simp only [List.append_nil, List.replicate_append_replicate, List.replicate_zero, List.length_nil]
    rw [e]; unfold chunk; rw [List.drop_replicate, List.take_replicate]; rfl, by
    show inact 400 0 (chunk 400 (List.replicate 800 0) 1)
    have e : chunk 400 (List.replicate 800 (0 : Int)) 1 = List.replicate 400 0 := by unfold chunk; rw [List.drop_replicate, List.take_replicate]; rfl
    rw [e]
    refine ⟨?_, .inr ?_⟩
    · simp only [List.getD, List.getElem?_replicate]; rfl
    · rw [List.drop_replicate]; decide⟩⟩
theorem inv_readB {T : Nat} {t : List Int} {D : DS} (h : Inv 400 T t D) : ∀ I : Nat, I ≤ 1 → ∀ x ∈ readB D I, 0 ≤ x ∧ x < 256 := fun I _ => by
  have e : readB D I = chunk 400 D.b I := by unfold readB; rw [h.w, h.s]; rfl
  rw [e]; exact chunk_mem h.c.bb
/-- The signer opened, and nothing fails. -/
theorem sopen_calm {T : Nat} {t : List Int} {D : DS} (h : Inv 400 T t D) (hs : D.set = false) (hT : T ≤ 900) (F : Int × Int × Int) (x : ST) (total batch : Int) (ht : 2 ≤ total ∧ total ≤ 65536) (hbt : 1 ≤ batch ∧ batch ≤ 16)
    (hx : (T = 0 ∧ x = ⟨0, 0, 0, 0, 0, []⟩) ∨ (1 ≤ T ∧ t = tx x ∧ x.msg.length ≤ 200 ∧ ∀ v ∈ [x.gen, x.key, x.res, x.lk, x.li], 0 ≤ v ∧ v ≤ 4611686018427387904)) (hF : 0 ≤ F.1 ∧ F.1 ≤ 4611686018427387000) :
    ∃ D', FnC Try.prog 6 [.ref 0 [], .int .i64 0, .ref 1 [], .int .i64 total, .int .i64 batch] [(0, .var (dskV 2 3 D)), (1, .var (fcV F)), (2, .row (.ints .u8 D.b.length D.b)), (3, .row (.lst 2 D.wait.length (D.wait.map wtV)))]
      (.tup [.ref 7 [], .int .i64 0]) (spO 4 5 6 7 D' ⟨T + 1, tx (opX F x), false⟩ (opF F x) (opX F x) total batch (opX F x).res false) ∧ Inv 400 (T + 1) (tx (opX F x)) D' ∧ D'.set = false := by
  have hm : (opX F x).msg.length ≤ 200 := by
    show x.msg.length ≤ 200
    rcases hx with ⟨_, rfl⟩ | ⟨_, _, h, _⟩
    · exact Nat.zero_le _
    · exact h
  obtain ⟨D', e, hI, hs'⟩ := calm h hs hT (opX F x) hm
  have k := sopen_spec D h.d h.o (by rw [h.s]; omega) (inv_there h (j := 1) (by omega)) (inv_readB h) h.w F x total batch ht hbt T t h.c.T1 (cont_open h.s h.w h.c) hx hF (by rw [e])
  rw [e] at k
  exact ⟨D', k, hI, hs'⟩
theorem open_nilf (D : DS) (total batch : Int) : FnC Try.prog 6 [.ref 0 [], .int .i64 0, .nilp, .int .i64 total, .int .i64 batch] (dskO 1 2 D) (.tup [.nilp, .int .i64 1]) (dskO 3 4 D) := by
  refine fnV mix plSO 1 3 5 [.tmp 10, .tmp 11] Try.func6 rfl (by kernel_rfl) (by kernel_rfl) rfl (by kernel_rfl) (by kernel_rfl) (by simp) rfl rfl ?_
  simp (implicitDefEqProofs := false) (disch := omega) only [go_sem, ↓reduceIte]
  refine ⟨[(0, 0), (3, 1), (4, 2)], [], [], rfl, ?_, ?_, ?_⟩ <;> simp (implicitDefEqProofs := false) (disch := omega) only [go_sem, ↓reduceIte]
theorem deal_calm {T : Nat} {t : List Int} {D : DS} (h : Inv 400 T t D) (hs : D.set = false) (hT : T ≤ 900) (F : Int × Int × Int) (x : ST) (total batch next : Int) (m : List Int) (n : Nat) (hn : m.length = n) (hc : ¬ (n = 0 ∨ 200 < n)) (he : toU m ≠ x.msg) (hx : 0 ≤ next) (hsp : ¬ total - 1 ≤ next) (ht : 0 ≤ total ∧ total ≤ 65536) (hb : 0 ≤ batch ∧ batch ≤ 100) :
    ∃ D', FnC Try.prog 8 [.ref 3 [], .sl (.ints .u8 n m)] (sgO 4 5 D ⟨T, t, false⟩ F x total batch next false) (.tup [.int .i64 x.key, .int .i64 next, .int .i64 0])
      (sgO 6 7 D' ⟨T + 1, tx (dealY x total batch next (toU m)), false⟩ (dealF F x total batch next) (dealY x total batch next (toU m)) total batch (next + 1) false) ∧ Inv 400 (T + 1) (tx (dealY x total batch next (toU m))) D' ∧ D'.set = false := by
  have hm : (dealY x total batch next (toU m)).msg.length ≤ 200 := by show (toU m).length ≤ 200; rw [toU_len]; omega
  obtain ⟨D', e, hI, hs'⟩ := calm h hs hT (dealY x total batch next (toU m)) hm
  have k := deal_new D h.d (by rw [h.w]; simp) ⟨T, t, false⟩ rfl (by dsimp only; omega) (by rw [h.s]; omega) F x total batch next m n hn hc he hsp ht hb hx
  rw [e] at k
  exact ⟨D', k, hI, hs'⟩
theorem roll_calm {T : Nat} {t : List Int} {D : DS} (h : Inv 400 T t D) (hs : D.set = false) (hT : T ≤ 900) (F : Int × Int × Int) (x : ST) (total batch next : Int) (m : List Int) (n : Nat) (hn : m.length = n) (hc : ¬ (n = 0 ∨ 200 < n)) (he : toU m ≠ x.msg) (hsp : ¬ total ≤ next) (hk : 0 ≤ x.key ∧ x.key ≤ 4611686018427387000) :
    ∃ D', FnC Try.prog 9 [.ref 3 [], .sl (.ints .u8 n m)] (sgO 4 5 D ⟨T, t, false⟩ F x total batch next false) (.tup [.int .i64 x.key, .int .i64 next, .int .i64 0])
      (sgO 6 7 D' ⟨T + 1, tx (rollY x next (toU m)), false⟩ (lst3 F (x.gen, x.key + 1, 0)) (rollY x next (toU m)) total batch 0 false) ∧ Inv 400 (T + 1) (tx (rollY x next (toU m))) D' ∧ D'.set = false := by
  have hm : (rollY x next (toU m)).msg.length ≤ 200 := by show (toU m).length ≤ 200; rw [toU_len]; omega
  obtain ⟨D', e, hI, hs'⟩ := calm h hs hT (rollY x next (toU m)) hm
  have k := roll_new D h.d (by rw [h.w]; simp) ⟨T, t, false⟩ rfl (by dsimp only; omega) (by rw [h.s]; omega) F x total batch next m n hn hc he hsp hk
  rw [e] at k
  exact ⟨D', k, hI, hs'⟩
theorem own_spec {f : FuncId} {r : AV} {O' : OO} {n : Nat} {m : List Int} {D : DS} {S : SS} {F : Int × Int × Int} {x : ST} {total batch next : Int} (h : FnC Try.prog f [.ref 3 [], .sl (.ints .u8 n m)] (sgO 4 5 D S F x total batch next false) r O') :
    FnC Try.prog f [.ref 3 [], .osl 8 [] 1 0 n] ((8, .row (.ints .u8 n m)) :: sgO 4 5 D S F x total batch next false) r O' := by
  refine h.sub [(0, 0), (1, 1), (2, 2), (3, 3), (4, 4), (5, 5)] [] [8] rfl ?_ ?_
  · simp (implicitDefEqProofs := false) (disch := omega) only [go_sem, ↓reduceIte]
  · simp (implicitDefEqProofs := false) (disch := omega) only [go_sem, ↓reduceIte]
theorem knows15_spec : FnC Try.prog 12 [] [] (.bool true) [] := by
  have r0 := new_ok 2 400 (by decide) (by decide) (by decide) (by decide)
  have i0 := inv0
  have e0 : List.replicate (2 * 400) (0 : Int) = List.replicate 800 0 := rfl
  rw [e0] at r0
  have s0 : DS.set ⟨400, List.replicate 800 0, [], false, false, 0, []⟩ = false := rfl
  generalize (⟨400, List.replicate 800 0, [], false, false, 0, []⟩ : DS) = D0 at *
  obtain ⟨D1, r1, i1, s1⟩ := sopen_calm i0 s0 (by omega) (0, 0, 0) ⟨0, 0, 0, 0, 0, []⟩ 2 1 (by decide) (by decide) (.inl ⟨rfl, rfl⟩) (by decide)
  have r2 := open_nilf D1 2 1
  have ex1 : opX (0, 0, 0) ⟨0, 0, 0, 0, 0, []⟩ = ⟨1, 0, 0, 0, 0, []⟩ := by rfl
  rw [ex1] at r1 i1
  generalize opF (0, 0, 0) ⟨0, 0, 0, 0, 0, []⟩ = F1 at *
  obtain ⟨D2, r3, i2, s2⟩ := deal_calm i1 s1 (by omega) F1 ⟨1, 0, 0, 0, 0, []⟩ 2 1 0 [97] 1 rfl (by decide) (by decide) (by decide) (by decide) (by decide) (by decide)
  have ex2 : dealY ⟨1, 0, 0, 0, 0, []⟩ 2 1 0 (toU [97]) = ⟨1, 0, 1, 0, 0, [97]⟩ := by rfl
  rw [ex2] at r3 i2
  generalize dealF F1 ⟨1, 0, 0, 0, 0, []⟩ 2 1 0 = F2 at *
  have r4 := deal_spent D2 ⟨0 + 1 + 1, tx ⟨1, 0, 1, 0, 0, [97]⟩, false⟩ F2 ⟨1, 0, 1, 0, 0, [97]⟩ 2 1 (0 + 1) [98] 1 rfl (by decide) (by decide) (by decide) (by decide)
  obtain ⟨D3, r5, i3, s3⟩ := roll_calm i2 s2 (by omega) F2 ⟨1, 0, 1, 0, 0, [97]⟩ 2 1 (0 + 1) [114] 1 rfl (by decide) (by decide) (by decide) (by decide)
  have ex3 : rollY ⟨1, 0, 1, 0, 0, [97]⟩ (0 + 1) (toU [114]) = ⟨1, 1, 0, 0, 1, [114]⟩ := by rfl
  rw [ex3] at r5 i3
  generalize lst3 F2 (ST.gen ⟨1, 0, 1, 0, 0, [97]⟩, ST.key ⟨1, 0, 1, 0, 0, [97]⟩ + 1, 0) = F3 at *
  obtain ⟨D4, r6, i4, s4⟩ := deal_calm i3 s3 (by omega) F3 ⟨1, 1, 0, 0, 1, [114]⟩ 2 1 0 [98] 1 rfl (by decide) (by decide) (by decide) (by decide) (by decide) (by decide)
  have ex4 : dealY ⟨1, 1, 0, 0, 1, [114]⟩ 2 1 0 (toU [98]) = ⟨1, 1, 1, 1, 0, [98]⟩ := by rfl
  rw [ex4] at r6 i4
  generalize dealF F3 ⟨1, 1, 0, 0, 1, [114]⟩ 2 1 0 = F4 at *
  have r7 := key_spec D4 ⟨0 + 1 + 1 + 1 + 1, tx ⟨1, 1, 1, 1, 0, [98]⟩, false⟩ F4 ⟨1, 1, 1, 1, 0, [98]⟩ 2 1 (0 + 1) false
  have r8 := next_spec D4 ⟨0 + 1 + 1 + 1 + 1, tx ⟨1, 1, 1, 1, 0, [98]⟩, false⟩ F4 ⟨1, 1, 1, 1, 0, [98]⟩ 2 1 (0 + 1) false
  dsimp only [Nat.reduceAdd, Int.reduceAdd] at r1 r2 r3 r4 r5 r6 r7 r8
  have hne : ¬ (5 : Nat) = 4 := by decide
  refine fn0 mix [] 0 0 [.tmp 0] Try.func12 rfl (by kernel_rfl) (by kernel_rfl) rfl (by kernel_rfl) (by kernel_rfl) (by simp) ?_
  simp (implicitDefEqProofs := false) (disch := omega) only [go_sem, ↓reduceIte]
  refine callF 3 r0 ?_
  simp (implicitDefEqProofs := false) (disch := omega) only [go_sem, ↓reduceIte]
  refine callF 1 new_spec ?_
  simp (implicitDefEqProofs := false) (disch := omega) only [go_sem, ↓reduceIte]
  refine callG false [(0, 0), (1, 3), (2, 1), (3, 2)] [(0, 0), (1, 3), (6, 4), (7, 5), (4, 6), (5, 7)] 8 r1 ?_ ?_
  · simp [keys]
  simp (implicitDefEqProofs := false) (disch := omega) only [go_sem, ↓reduceIte]
  refine callG false [(0, 0), (1, 6), (2, 7)] [(0, 0), (3, 8), (4, 9)] 10 r2 ?_ ?_
  · simp [keys]
  simp (implicitDefEqProofs := false) (disch := omega) only [go_sem, ↓reduceIte]
  refine callG false [(8, 10), (0, 0), (1, 4), (2, 3), (3, 5), (4, 8), (5, 9)] [(0, 0), (1, 4), (2, 3), (3, 5), (6, 11), (7, 12)] 13 (own_spec r3) ?_ ?_
  · simp [keys]
  simp (implicitDefEqProofs := false) (disch := omega) only [go_sem, ↓reduceIte]
  refine callG false [(8, 13), (0, 0), (1, 4), (2, 3), (3, 5), (4, 11), (5, 12)] [(0, 0), (1, 4), (2, 3), (3, 5), (6, 14), (7, 15)] 16 (own_spec r4) ?_ ?_
  · simp [keys]
  simp (implicitDefEqProofs := false) (disch := omega) only [go_sem, ↓reduceIte]
  refine callG false [(8, 16), (0, 0), (1, 4), (2, 3), (3, 5), (4, 14), (5, 15)] [(0, 0), (1, 4), (2, 3), (3, 5), (6, 17), (7, 18)] 19 (own_spec r5) ?_ ?_
  · simp [keys]
  simp (implicitDefEqProofs := false) (disch := omega) only [go_sem, ↓reduceIte]
  refine callG false [(8, 19), (0, 0), (1, 4), (2, 3), (3, 5), (4, 17), (5, 18)] [(0, 0), (1, 4), (2, 3), (3, 5), (6, 20), (7, 21)] 22 (own_spec r6) ?_ ?_
  · simp [keys]
  simp (implicitDefEqProofs := false) (disch := omega) only [go_sem, ↓reduceIte]
  refine callG false [(0, 0), (1, 4), (2, 3), (3, 5), (4, 20), (5, 21)] [(0, 0), (1, 4), (2, 3), (3, 5), (6, 22), (7, 23)] 24 r7 ?_ ?_
  · simp [keys]
  simp (implicitDefEqProofs := false) (disch := omega) only [go_sem, ↓reduceIte]
  refine callG false [(0, 0), (1, 4), (2, 3), (3, 5), (4, 22), (5, 23)] [(0, 0), (1, 4), (2, 3), (3, 5), (6, 24), (7, 25)] 26 r8 ?_ ?_
  · simp [keys]
  simp (implicitDefEqProofs := false) (disch := omega) only [go_sem, ↓reduceIte]
end Go.Proofs.Ythhlielliopegaa
