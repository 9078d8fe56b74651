/- The contracts of the package sha: a hash's sum. -/
import Derived.Test.YthhlielliopegaaGreatSha2
namespace Go.Proofs.YthhlielliopegaaGreat
open Go Go.Sy Go.Proofs.Tryz
set_option maxRecDepth 100000
set_option maxHeartbeats 8000000
set_option linter.unusedSimpArgs false
set_option linter.unusedVariables false
attribute [go_sem] pl106
theorem bytesA_get : ∀ (ws : List Int) (i : Nat), i < 4 * ws.length → (bytesA ws).getD i 0 = (be (ws.getD (i / 4) 0) 4).getD (i % 4) 0
  | [], i, h => by simp at h
  | w :: ws, i, h => by
    have e : bytesA (w :: ws) = be w 4 ++ bytesA ws := rfl
    rw [e]
    by_cases hi : i < 4
    · rw [getD_left (by rw [be_len]; exact hi), show i / 4 = 0 by omega, show i % 4 = i by omega, List.getD_cons_zero]
    · have ih := bytesA_get ws (i - 4) (by simp only [List.length_cons] at h; omega)
      have : (be w 4 ++ bytesA ws).getD i 0 = (bytesA ws).getD (i - 4) 0 := by
        simp only [List.getD, List.getElem?_append_right (show (be w 4).length ≤ i by rw [be_len]; omega), be_len]
      rw [this, ih, show i / 4 = (i - 4) / 4 + 1 by omega, List.getD_cons_succ, show i % 4 = (i - 4) % 4 by omega]
theorem be4_get (w : Int) {k : Nat} (h : k < 4) : (be w 4).getD k 0 = w / 2 ^ (24 - 8 * k) % 256 := by
  rcases (by omega : k = 0 ∨ k = 1 ∨ k = 2 ∨ k = 3) with rfl | rfl | rfl | rfl <;> rfl
theorem be8_get (w : Int) {k : Nat} (h : k < 8) : (be w 8).getD k 0 = w / 2 ^ (8 * (7 - k)) % 256 := by
  rcases (by omega : k = 0 ∨ k = 1 ∨ k = 2 ∨ k = 3 ∨ k = 4 ∨ k = 5 ∨ k = 6 ∨ k = 7) with rfl | rfl | rfl | rfl | rfl | rfl | rfl | rfl <;> rfl
theorem take_next {l : List Int} {c : Nat} (h : c < l.length) : l.take c ++ [l.getD c 0] = l.take (c + 1) := by
  rw [List.take_add_one, List.getElem?_eq_getElem h]
  simp only [Option.toList_some, List.getD, List.getElem?_eq_getElem h, Option.getD_some]
/-- What is put behind r bytes left over of n. -/
def padR (rl : Nat) (n : Int) : List Int := 128 :: (List.replicate ((119 - rl) % 64) 0 ++ be (n * 8) 8)
def sumR (st r : List Int) (n : Int) : List Int := outB (runB st (r ++ padR r.length n) ((r ++ padR r.length n).length / 64))
theorem padR_mem (rl : Nat) (n : Int) : ∀ x ∈ padR rl n, 0 ≤ x ∧ x < 256 := by
  intro x hx
  simp only [padR, List.mem_append, List.mem_cons, List.mem_replicate] at hx
  rcases hx with rfl | ⟨_, rfl⟩ | hx
  · decide
  · decide
  · exact be_mem _ _ x hx
theorem sum_spec (st r : List Int) (n : Int) (hs : st.length = 8) (hw : ∀ x ∈ st, isW x) (hr : r.length < 64) (hb : ∀ x ∈ r, 0 ≤ x ∧ x < 256) (hn : 0 ≤ n) (hn' : n < 1000000000) :
    FnC Tryz.prog 106 [.ref 0 []] [(0, .var (.agg [.ints .u32 8 st, .osl 1 [] 1 0 r.length, .int .i64 n])), (1, .row (.ints .u8 r.length r))] (.ints .u8 32 (sumR st r n))
      [(0, .var (.agg [.ints .u32 8 st, .osl 1 [] 1 0 r.length, .int .i64 n])), (1, .row (.ints .u8 r.length r))] := by
  refine fnN mix pl106 2 1 [.cell 2 23] Tryz.func106 rfl (by kernel_rfl) (by kernel_rfl) rfl (by kernel_rfl) (by kernel_rfl) (by simp) ?_
  simp (implicitDefEqProofs := false) (disch := omega) only [go_sem, ↓reduceIte]
  refine loop (ι := Nat) 7 (fun z => z ≤ (119 - r.length) % 64) (fun z => [(4, .osl 6 [] 1 0 (z + 1)), (3, .ref 5 []), (2, .ref 2 []), (0, .ref 0 [])]) (fun z => [(6, .row (.ints .u8 (z + 1) (128 :: List.replicate z 0))), (5, .var (.agg [.ints .u32 8 st, .osl 4 [] 1 0 r.length, .int .i64 0])), (2, .var (.ints .u8 32 (List.replicate 32 0))), (0, .var (.agg [.ints .u32 8 st, .osl 1 [] 1 0 r.length, .int .i64 n])), (1, .row (.ints .u8 r.length r)), (4, .row (.ints .u8 r.length r))]) (fun z => (119 - r.length) % 64 - z) 0 [(0, 0), (1, 1), (2, 2), (4, 4), (5, 5), (6, 6)] [] (Nat.zero_le _) rfl ?_ ?_ ?_ (fun z hz => ?_)
  · simp (implicitDefEqProofs := false) (disch := omega) only [go_sem, ↓reduceIte]
  · simp (implicitDefEqProofs := false) (disch := omega) only [go_sem, ↓reduceIte]
  · simp (implicitDefEqProofs := false) (disch := omega) only [go_sem, ↓reduceIte]
  simp (implicitDefEqProofs := false) (disch := omega) only [go_sem, ↓reduceIte]
  have t1 : ((r.length : Int) + (z + 1) + 8).tmod 64 = (r.length + (z + 1) + 8) % 64 := Int.tmod_eq_emod_of_nonneg (by omega)
  rw [t1]
  refine brd (fun h => ?_) (fun h => ?_)
  case' refine_2 =>
    have hr1 : 128 :: List.replicate z (0 : Int) ++ [0] = 128 :: List.replicate (z + 1) 0 := by rw [List.replicate_succ']; rfl
    simp (implicitDefEqProofs := false) (disch := omega) only [go_sem, ↓reduceIte, hr1]
    refine ⟨z + 1, [(0, 0), (1, 1), (2, 2), (4, 4), (5, 5), (6, 8)], [], [], by dsimp only; omega, by dsimp only; omega, rfl, ?_, ?_, ?_⟩ <;> simp (implicitDefEqProofs := false) (disch := omega) only [go_sem, ↓reduceIte]
  obtain rfl : z = (119 - r.length) % 64 := by omega
  simp (implicitDefEqProofs := false) (disch := omega) only [go_sem, ↓reduceIte]
  have hpd : padR r.length n = 128 :: (List.replicate ((119 - r.length) % 64) 0 ++ be (n * 8) 8) := rfl
  have hZ : (119 - r.length) % 64 < 64 := by omega
  have hPm : ∀ x ∈ padR r.length n, 0 ≤ x ∧ x < 256 := padR_mem _ _
  have hSR : sumR st r n = outB (runB st (r ++ padR r.length n) ((r ++ padR r.length n).length / 64)) := rfl
  clear t1 h hz
  generalize (119 - r.length) % 64 = z at *
  refine loop (ι := Nat) 7 (fun c => c ≤ 8) (fun c => [(4, .osl 6 [] 1 0 (z + 1 + c)), (5, .int .i64 (7 - c)), (3, .ref 5 []), (2, .ref 2 []), (0, .ref 0 [])]) (fun c => [(6, .row (.ints .u8 (z + 1 + c) (128 :: (List.replicate z 0 ++ (be (n * 8) 8).take c)))), (5, .var (.agg [.ints .u32 8 st, .osl 4 [] 1 0 r.length, .int .i64 0])), (2, .var (.ints .u8 32 (List.replicate 32 0))), (0, .var (.agg [.ints .u32 8 st, .osl 1 [] 1 0 r.length, .int .i64 n])), (1, .row (.ints .u8 r.length r)), (4, .row (.ints .u8 r.length r))]) (fun c => 8 - c) 0 [(0, 0), (1, 1), (2, 2), (4, 4), (5, 5), (6, 6)] [] (Nat.zero_le _) rfl ?_ ?_ ?_ (fun c hc => ?_)
  · simp (implicitDefEqProofs := false) (disch := omega) only [go_sem, ↓reduceIte]
  · simp (implicitDefEqProofs := false) (disch := omega) only [go_sem, ↓reduceIte]
  · simp (implicitDefEqProofs := false) (disch := omega) only [go_sem, ↓reduceIte, List.append_nil]
  simp (implicitDefEqProofs := false) (disch := omega) only [go_sem, ↓reduceIte]
  refine brd (fun h => ?_) (fun h => ?_)
  · have b1 : (8 * ((7 : Int) - c)).toNat = 8 * (7 - c) := by omega
    have b2 := be8_get (n * 8) (show c < 8 by omega)
    have b3 : ishr .u64 (n * 8) (8 * (7 - c)) = n * 8 / 2 ^ (8 * (7 - c)) := ishr_div _ _ _ (by show 8 * (7 - c) ≤ 64; omega)
    have b4 := take_next (l := be (n * 8) 8) (show c < (be (n * 8) 8).length by rw [be_len]; omega)
    rw [b2] at b4
    have b5 : List.replicate z 0 ++ (be (n * 8) 8).take c ++ [n * 8 / 2 ^ (8 * (7 - c)) % 256] = List.replicate z 0 ++ (be (n * 8) 8).take (c + 1) := by rw [List.append_assoc, b4]
    have b6 : (7 : Int) - c - 1 = 7 - (c + 1) := by omega
    simp (implicitDefEqProofs := false) (disch := omega) only [go_sem, ↓reduceIte, b1, b3, u8_mod, b5]
    refine ⟨c + 1, [(0, 0), (1, 1), (2, 2), (4, 4), (5, 5), (6, 8)], [], [], by dsimp only; omega, by dsimp only; omega, rfl, ?_, ?_, ?_⟩ <;> simp (implicitDefEqProofs := false) (disch := omega) only [go_sem, ↓reduceIte, b6, Nat.add_assoc]
  obtain rfl : c = 8 := by omega
  rw [List.take_of_length_le (show (be (n * 8) 8).length ≤ 8 by rw [be_len]; exact Nat.le_refl _), ← hpd]
  have hpl : (padR r.length n).length = z + 1 + 8 := by rw [hpd]; simp [be_len]
  have hwr := write_spec st r (padR r.length n) 0 hs hw hr (fun x hx => by
    rcases List.mem_append.1 hx with hx | hx
    · exact hb x hx
    · exact hPm x hx) (by omega) (by decide) (by decide)
  rw [hpl] at hwr
  simp (implicitDefEqProofs := false) (disch := omega) only [go_sem, ↓reduceIte]
  have hlen : (r ++ padR r.length n).length = r.length + (z + 1 + 8) := by rw [List.length_append, hpl]
  refine callG true [(0, 5), (1, 4)] [(0, 5), (1, 7)] 8 hwr ?_ ?_
  · simp [keys]
  simp (implicitDefEqProofs := false) (disch := omega) only [go_sem, ↓reduceIte, AV.pf, AV.pf.pfs, OB.pf]
  refine ⟨fun p hp => by simp only [List.mem_cons, List.not_mem_nil, or_false] at hp; rcases hp with rfl | rfl <;> rfl, ?_⟩
  have hSl := runB_len (r ++ padR r.length n) hs ((r ++ padR r.length n).length / 64)
  have hSw := runB_isW (r ++ padR r.length n) hw ((r ++ padR r.length n).length / 64)
  rw [hSR]
  clear hwr hSR
  generalize runB st (r ++ padR r.length n) ((r ++ padR r.length n).length / 64) = S at *
  generalize (r ++ padR r.length n).length - 64 * ((r ++ padR r.length n).length / 64) = q
  have hol : (outB S).length = 32 := by show (bytesA S).length = 32; rw [bytesA_len, hSl]
  refine loop (ι := Nat) 9 (fun i => i ≤ 32) (fun i => [(59, .int .i64 i), (6, .ref 8 []), (3, .ref 5 []), (2, .ref 2 [])]) (fun i => [(8, .var (.ints .u8 32 ((outB S).take i ++ List.replicate (32 - i) 0))), (5, .var (.agg [.ints .u32 8 S, .osl 7 [] 1 0 q, .int .i64 (z + 1 + 8)])), (2, .var (.ints .u8 32 (List.replicate 32 0))), (0, .var (.agg [.ints .u32 8 st, .osl 1 [] 1 0 r.length, .int .i64 n])), (1, .row (.ints .u8 r.length r))]) (fun i => 32 - i) 0 [(0, 0), (1, 1), (2, 2), (5, 5), (7, 7), (8, 8)] [] (Nat.zero_le _) rfl ?_ ?_ ?_ (fun i hi => ?_)
  · simp (implicitDefEqProofs := false) (disch := omega) only [go_sem, ↓reduceIte]
  · simp (implicitDefEqProofs := false) (disch := omega) only [go_sem, ↓reduceIte]
  · simp (implicitDefEqProofs := false) (disch := omega) only [go_sem, ↓reduceIte, List.nil_append]
  simp (implicitDefEqProofs := false) (disch := omega) only [go_sem, ↓reduceIte]
  refine brd (fun h3 => ?_) (fun h3 => ?_)
  · have d1 : ((i : Int)).tdiv 4 = (i / 4 : Nat) := by rw [Int.tdiv_eq_ediv_of_nonneg (by omega)]; omega
    have d2 : ((i : Int)).tmod 4 = (i % 4 : Nat) := by rw [Int.tmod_eq_emod_of_nonneg (by omega)]; omega
    have d3 : ((24 : Int) - 8 * (i % 4 : Nat)).toNat = 24 - 8 * (i % 4) := by omega
    have d4 : ishr .u32 (S.getD (i / 4) 0) (24 - 8 * (i % 4)) = S.getD (i / 4) 0 / 2 ^ (24 - 8 * (i % 4)) := ishr_div _ _ _ (by show 24 - 8 * (i % 4) ≤ 32; omega)
    have hx : (outB S).getD i 0 = S.getD (i / 4) 0 / 2 ^ (24 - 8 * (i % 4)) % 256 := by
      show (bytesA S).getD i 0 = _
      rw [bytesA_get S i (by omega), be4_get _ (by omega)]
    have hset := set_step hol (show i < 32 by omega) hx
    have hq : i / 4 < 8 := by omega
    simp (implicitDefEqProofs := false) (disch := omega) only [go_sem, ↓reduceIte, d1, d2, d3, d4, u8_mod]
    refine ⟨i + 1, [(0, 0), (1, 1), (2, 2), (5, 5), (7, 7), (8, 8)], [], [], by dsimp only; omega, by dsimp only; omega, rfl, ?_, ?_, ?_⟩ <;> simp (implicitDefEqProofs := false) (disch := omega) only [go_sem, ↓reduceIte, hset]
  obtain rfl : i = 32 := by omega
  have e0 : List.take 32 (outB S) ++ List.replicate (32 - 32) 0 = outB S := by rw [List.take_of_length_le (by omega)]; exact List.append_nil _
  rw [e0]
  simp (implicitDefEqProofs := false) (disch := omega) only [go_sem, ↓reduceIte]
  refine ⟨[(0, 0), (1, 1)], [], [], rfl, ?_, ?_, ?_⟩ <;> simp (implicitDefEqProofs := false) (disch := omega) only [go_sem, ↓reduceIte]
end Go.Proofs.YthhlielliopegaaGreat
