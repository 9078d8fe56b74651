/- The contracts of planchetref01. -/
import Derived.Test.YtjaailbgeadnnaaGreatGS
namespace Go.Proofs.YtjaailbgeadnnaaGreat
open Go Go.Sy Go.Proofs.Tryz
set_option maxRecDepth 100000
set_option maxHeartbeats 8000000
set_option linter.unusedSimpArgs false
set_option linter.unusedVariables false

def wsum (ps : List (List Int)) : Int := ps.foldl (fun n p => IntKind.i64.wrap (n + p.length)) 0
theorem wsum_succ {ps : List (List Int)} {i : Nat} {b : List Int} (h : ps[i]? = some b) : wsum (ps.take (i + 1)) = IntKind.i64.wrap (wsum (ps.take i) + b.length) := by
  unfold wsum
  rw [List.take_add_one, h, List.foldl_append]
  rfl
theorem wsum_eq (ps : List (List Int)) (h : ∀ p ∈ ps, p.length ≤ 140737488351232) : ∀ i, i ≤ 100 → i ≤ ps.length → wsum (ps.take i) = (cat (ps.take i)).length ∧ (cat (ps.take i)).length ≤ i * 140737488351232
  | 0, _, _ => ⟨rfl, by simp [cat]⟩
  | i + 1, hi, hl => by
    have h' := List.getElem?_eq_getElem (show i < ps.length by omega)
    have hb := h _ (List.getElem_mem (show i < ps.length by omega))
    obtain ⟨e1, e2⟩ := wsum_eq ps h i (by omega) (by omega)
    rw [wsum_succ h', cat_succ h', e1, List.length_append]
    exact ⟨by rw [wrap_i64 (by omega) (by omega)]; omega, by omega⟩
theorem tail_law (n : Int) (hn : 0 ≤ n) : be (n / 32) 7 ++ [n % 32 * 8 % 256] = be (n * 8) 8 := by
  rw [be_snoc (n * 8) 7, show n * 8 / 256 = n / 32 by omega, show n * 8 % 256 = n % 32 * 8 % 256 by omega]
theorem padded_spec (b : List Int) (hb : b.length ≤ 1000000) : FnC Tryz.prog 97 [.sl (.ints .u8 b.length b)] [] (.osl 0 [] 1 0 (b ++ padN b.length).length) [(0, .row (.ints .u8 (b ++ padN b.length).length (b ++ padN b.length)))] := by
  refine fnN mix [] 0 1 [.tmp 2] Tryz.func97 rfl (by kernel_rfl) (by kernel_rfl) rfl (by kernel_rfl) (by kernel_rfl) (by simp) ?_
  simp (implicitDefEqProofs := false) (disch := omega) only [go_sem, ↓reduceIte]
  refine loop (ι := Nat) 4 (fun z => z ≤ (119 - b.length % 64) % 64) (fun z => [(0, .sl (.ints .u8 b.length b)), (3, .osl 3 [] 1 0 (b.length + 1 + z))]) (fun z => [(3, .row (.ints .u8 (b.length + 1 + z) (b ++ (128 :: List.replicate z 0))))]) (fun z => (119 - b.length % 64) % 64 - z) 0 [(3, 3)] [] (Nat.zero_le _) rfl ?_ ?_ ?_ (fun z hz => ?_)
  · simp (implicitDefEqProofs := false) (disch := omega) only [go_sem, ↓reduceIte]
  · simp (implicitDefEqProofs := false) (disch := omega) only [go_sem, ↓reduceIte]
  · simp (implicitDefEqProofs := false) (disch := omega) only [go_sem, ↓reduceIte]
  simp (implicitDefEqProofs := false) (disch := omega) only [go_sem, ↓reduceIte]
  have t1 : ((b.length : Int) + 1 + z).tmod 64 = (b.length + 1 + z) % 64 := Int.tmod_eq_emod_of_nonneg (by omega)
  rw [t1]
  refine brd (fun h => ?_) (fun h => ?_)
  case' refine_2 =>
    have hr1 : b ++ 128 :: List.replicate z (0 : Int) ++ [0] = b ++ 128 :: List.replicate (z + 1) 0 := by rw [List.replicate_succ', List.append_assoc]; rfl
    simp (implicitDefEqProofs := false) (disch := omega) only [go_sem, ↓reduceIte, hr1]
    refine ⟨z + 1, [(3, 5)], [], [], by dsimp only; omega, by dsimp only; omega, rfl, ?_, ?_, ?_⟩ <;> simp (implicitDefEqProofs := false) (disch := omega) only [go_sem, ↓reduceIte, Nat.add_assoc]
  obtain rfl : z = (119 - b.length % 64) % 64 := by omega
  have hpd : padN b.length = 128 :: (List.replicate ((119 - b.length % 64) % 64) 0 ++ be ((b.length : Int) * 8) 8) := rfl
  have d1 : (b.length : Int).tmod 32 = (b.length : Int) % 32 := Int.tmod_eq_emod_of_nonneg (by omega)
  have d2 : (b.length : Int).tdiv 32 = (b.length : Int) / 32 := Int.tdiv_eq_ediv_of_nonneg (by omega)
  clear t1 h hz
  have hz : (119 - b.length % 64) % 64 < 64 := by omega
  generalize (119 - b.length % 64) % 64 = z at *
  simp (implicitDefEqProofs := false) (disch := omega) only [go_sem, ↓reduceIte, d1, d2, u8_mod]
  refine loop (ι := Nat) 6 (fun c => c ≤ 7) (fun c => [(3, .osl 3 [] 1 0 (b.length + 1 + z)), (4, .int .i64 ((b.length : Int) / 32 / 256 ^ c)), (5, .osl 5 [] 1 0 (c + 1)), (7, .int .i64 c)]) (fun c => [(3, .row (.ints .u8 (b.length + 1 + z) (b ++ (128 :: List.replicate z 0)))), (5, .row (.ints .u8 (c + 1) (be ((b.length : Int) / 32) c ++ [(b.length : Int) % 32 * 8 % 256])))]) (fun c => 7 - c) 0 [(3, 3), (5, 5)] [] (Nat.zero_le _) rfl ?_ ?_ ?_ (fun c hc => ?_)
  · simp (implicitDefEqProofs := false) (disch := omega) only [go_sem, ↓reduceIte]
  · simp (implicitDefEqProofs := false) (disch := omega) only [go_sem, ↓reduceIte, Int.pow_zero, Int.ediv_one]
  · simp (implicitDefEqProofs := false) (disch := omega) only [go_sem, ↓reduceIte, be, List.nil_append]
  simp (implicitDefEqProofs := false) (disch := omega) only [go_sem, ↓reduceIte]
  refine brd (fun h => ?_) (fun h => ?_)
  · have hp : 0 ≤ (b.length : Int) / 32 / 256 ^ c := Int.ediv_nonneg (by omega) (Int.le_of_lt (Int.pow_pos (by decide)))
    have hp2 : (b.length : Int) / 32 / 256 ^ c ≤ (b.length : Int) / 32 := Int.ediv_le_self _ (by omega)
    have e1 : ((b.length : Int) / 32 / 256 ^ c).tmod 256 = (b.length : Int) / 32 / 256 ^ c % 256 := Int.tmod_eq_emod_of_nonneg hp
    have e2 : ((b.length : Int) / 32 / 256 ^ c).tdiv 256 = (b.length : Int) / 32 / 256 ^ (c + 1) := by rw [Int.tdiv_eq_ediv_of_nonneg hp]; exact pow_next _ c
    have hq : 0 ≤ (b.length : Int) / 32 / 256 ^ (c + 1) := Int.ediv_nonneg (by omega) (Int.le_of_lt (Int.pow_pos (by decide)))
    have hq2 : (b.length : Int) / 32 / 256 ^ (c + 1) ≤ (b.length : Int) / 32 := Int.ediv_le_self _ (by omega)
    have e3 : 1 + (c + 1) = c + 1 + 1 := by omega
    simp (implicitDefEqProofs := false) (disch := omega) only [go_sem, ↓reduceIte, e1, e2]
    refine ⟨c + 1, [(3, 3), (5, 7)], [], [], by dsimp only; omega, by dsimp only; omega, rfl, ?_, ?_, ?_⟩ <;> simp (implicitDefEqProofs := false) (disch := omega) only [go_sem, ↓reduceIte, e3, be]
  obtain rfl : c = 7 := by omega
  rw [tail_law _ (by omega)]
  have hlen : (b ++ padN b.length).length = b.length + 1 + z + 8 := by rw [hpd]; simp [be_len]; omega
  have hl2 : b ++ (128 :: List.replicate z 0) ++ be ((b.length : Int) * 8) 8 = b ++ padN b.length := by rw [hpd, List.append_assoc]; rfl
  simp (implicitDefEqProofs := false) (disch := omega) only [go_sem, ↓reduceIte]
  refine ⟨[(0, 6)], [], [], rfl, ?_, ?_, ?_⟩ <;> simp (implicitDefEqProofs := false) (disch := omega) only [go_sem, ↓reduceIte, hlen, hl2]
end Go.Proofs.YtjaailbgeadnnaaGreat
