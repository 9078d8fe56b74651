/- Which nodes are known: bits, told from above down, and from below up. -/
import Derived.Test.YtclkaibkepaebaaGR
import Derived.Test.YtclkaibkepaebaaGQ
import Derived.Test.YtclkaibkepaebaaGK
namespace Go.Proofs.Ytclkaibkepaebaa
open Go Go.Sy Go.Proofs.Try
set_option maxRecDepth 100000
set_option linter.unusedSimpArgs false
set_option linter.unusedVariables false
/-- Is a level one of those, and known? -/
def bitI (f : Nat → Bool) (lo hi k : Nat) : Int := if lo ≤ k ∧ k < hi ∧ f k = true then 1 else 0
def byteK (f : Nat → Bool) (lo hi j : Nat) : Int :=
  bitI f lo hi (8 * j + 0) + 2 * bitI f lo hi (8 * j + 1) + 4 * bitI f lo hi (8 * j + 2) + 8 * bitI f lo hi (8 * j + 3) + 16 * bitI f lo hi (8 * j + 4) + 32 * bitI f lo hi (8 * j + 5) + 64 * bitI f lo hi (8 * j + 6) + 128 * bitI f lo hi (8 * j + 7)
def knD (f : Nat → Bool) (lo hi : Nat) : List Int := (List.range 32).map (byteK f lo hi)
theorem bitI_le (f : Nat → Bool) (lo hi k : Nat) : 0 ≤ bitI f lo hi k ∧ bitI f lo hi k ≤ 1 := by
  unfold bitI
  split <;> omega
theorem byteK_le (f : Nat → Bool) (lo hi j : Nat) : 0 ≤ byteK f lo hi j ∧ byteK f lo hi j < 256 := by
  have h := bitI_le f lo hi
  have h0 := h (8 * j + 0); have h1 := h (8 * j + 1); have h2 := h (8 * j + 2); have h3 := h (8 * j + 3)
  have h4 := h (8 * j + 4); have h5 := h (8 * j + 5); have h6 := h (8 * j + 6); have h7 := h (8 * j + 7)
  unfold byteK
  omega
theorem knD_good (f : Nat → Bool) (lo hi : Nat) : goodD (knD f lo hi) := by
  refine ⟨by rw [knD, List.length_map, List.length_range], fun x hx => ?_⟩
  rw [knD, List.mem_map] at hx
  obtain ⟨j, _, rfl⟩ := hx
  exact byteK_le f lo hi j
theorem knD_get (f : Nat → Bool) (lo hi : Nat) {j : Nat} (hj : j < 32) : (knD f lo hi).getD j 0 = byteK f lo hi j := by
  rw [List.getD, knD, List.getElem?_map, List.getElem?_range hj]
  rfl
theorem bitI_none (f : Nat → Bool) (a k : Nat) : bitI f a a k = 0 := by
  unfold bitI
  rw [if_neg (by omega)]
theorem knD_none (f : Nat → Bool) (a : Nat) : knD f a a = zs := by
  have h : ∀ j, byteK f a a j = 0 := fun j => by
    unfold byteK
    simp only [bitI_none]
    decide
  show (List.range 32).map (byteK f a a) = _
  rw [show byteK f a a = fun _ => 0 from funext h]
  decide
theorem bitI_lo (f : Nat → Bool) (hi a k : Nat) : bitI f a hi k = bitI f (a + 1) hi k + if k = a then bitI f a hi a else 0 := by
  unfold bitI
  by_cases e : k = a
  · subst e
    rw [if_neg (c := k + 1 ≤ k ∧ k < hi ∧ f k = true) (by omega), if_pos rfl, Int.zero_add]
  · rw [if_neg (c := k = a) e, Int.add_zero]
    by_cases c : a ≤ k ∧ k < hi ∧ f k = true
    · rw [if_pos c, if_pos ⟨by omega, c.2⟩]
    · rw [if_neg c, if_neg fun h => c ⟨by omega, h.2⟩]
theorem bitI_hi (f : Nat → Bool) (lo a k : Nat) : bitI f lo (a + 1) k = bitI f lo a k + if k = a then bitI f lo (a + 1) a else 0 := by
  unfold bitI
  by_cases e : k = a
  · subst e
    rw [if_neg (c := lo ≤ k ∧ k < k ∧ f k = true) (by omega), if_pos rfl, Int.zero_add]
  · rw [if_neg (c := k = a) e, Int.add_zero]
    by_cases c : lo ≤ k ∧ k < a ∧ f k = true
    · rw [if_pos c, if_pos ⟨c.1, by omega, c.2.2⟩]
    · rw [if_neg c, if_neg fun h => c ⟨h.1, by omega, h.2.2⟩]
theorem pow8 {r : Nat} (h : r < 8) : r = 0 ∧ (2 : Int) ^ r = 1 ∨ r = 1 ∧ (2 : Int) ^ r = 2 ∨ r = 2 ∧ (2 : Int) ^ r = 4 ∨ r = 3 ∧ (2 : Int) ^ r = 8 ∨ r = 4 ∧ (2 : Int) ^ r = 16 ∨ r = 5 ∧ (2 : Int) ^ r = 32 ∨ r = 6 ∧ (2 : Int) ^ r = 64 ∨ r = 7 ∧ (2 : Int) ^ r = 128 := by
  have : r = 0 ∨ r = 1 ∨ r = 2 ∨ r = 3 ∨ r = 4 ∨ r = 5 ∨ r = 6 ∨ r = 7 := by omega
  rcases this with rfl | rfl | rfl | rfl | rfl | rfl | rfl | rfl <;> simp
theorem byte_step {g h : Nat → Int} {a : Nat} {v : Int} (e : ∀ k, g k = h k + if k = a then v else 0) (j : Nat) :
    g (8 * j + 0) + 2 * g (8 * j + 1) + 4 * g (8 * j + 2) + 8 * g (8 * j + 3) + 16 * g (8 * j + 4) + 32 * g (8 * j + 5) + 64 * g (8 * j + 6) + 128 * g (8 * j + 7)
    = h (8 * j + 0) + 2 * h (8 * j + 1) + 4 * h (8 * j + 2) + 8 * h (8 * j + 3) + 16 * h (8 * j + 4) + 32 * h (8 * j + 5) + 64 * h (8 * j + 6) + 128 * h (8 * j + 7) + if j = a / 8 then v * 2 ^ (a % 8) else 0 := by
  obtain ⟨q, r, hr, rfl⟩ : ∃ q r, r < 8 ∧ a = 8 * q + r := ⟨a / 8, a % 8, by omega, by omega⟩
  rw [show (8 * q + r) / 8 = q by omega, show (8 * q + r) % 8 = r by omega]
  rw [e (8 * j + 0), e (8 * j + 1), e (8 * j + 2), e (8 * j + 3), e (8 * j + 4), e (8 * j + 5), e (8 * j + 6), e (8 * j + 7)]
  by_cases hj : j = q
  · subst hj
    rw [if_pos (rfl : j = j)]
    rcases pow8 hr with ⟨rfl, e⟩ | ⟨rfl, e⟩ | ⟨rfl, e⟩ | ⟨rfl, e⟩ | ⟨rfl, e⟩ | ⟨rfl, e⟩ | ⟨rfl, e⟩ | ⟨rfl, e⟩ <;> rw [e] <;> simp (disch := omega) only [if_pos, if_neg, ↓reduceIte] <;> omega
  · rw [if_neg hj]
    simp (disch := omega) only [if_neg]
    omega
theorem byteK_lo (f : Nat → Bool) (hi a j : Nat) : byteK f a hi j = byteK f (a + 1) hi j + if j = a / 8 then bitI f a hi a * 2 ^ (a % 8) else 0 := byte_step (bitI_lo f hi a) j
theorem byteK_hi (f : Nat → Bool) (lo a j : Nat) : byteK f lo (a + 1) j = byteK f lo a j + if j = a / 8 then bitI f lo (a + 1) a * 2 ^ (a % 8) else 0 := byte_step (bitI_hi f lo a) j
theorem map_set (g h : Nat → Int) (n a : Nat) (v : Int) (e : ∀ j, g j = if j = a then v else h j) : (List.range n).map g = ((List.range n).map h).set a v := by
  apply List.ext_getElem?
  intro i
  rw [List.getElem?_set, List.getElem?_map, List.length_map, List.length_range, List.getElem?_map]
  by_cases hi : i < n
  · rw [List.getElem?_range hi]
    by_cases ha : a = i
    · subst ha
      rw [if_pos rfl, if_pos hi, Option.map_some, e, if_pos rfl]
    · rw [if_neg ha, Option.map_some, Option.map_some, e, if_neg (fun h => ha h.symm)]
  · rw [List.getElem?_eq_none (by rw [List.length_range]; omega)]
    by_cases ha : a = i
    · subst ha
      rw [if_pos rfl, if_neg hi]
      rfl
    · rw [if_neg ha]
      rfl
theorem knD_lo_some {f : Nat → Bool} {k hi : Nat} (hk : k < hi) (hf : f k = true) : knD f k hi = (knD f (k + 1) hi).set (k / 8) (byteK f (k + 1) hi (k / 8) + 2 ^ (k % 8)) := by
  refine map_set _ _ _ _ _ fun j => ?_
  have hb : bitI f k hi k = 1 := by unfold bitI; rw [if_pos ⟨Nat.le_refl _, hk, hf⟩]
  rw [byteK_lo, hb, Int.one_mul]
  split
  · rename_i h; rw [h]
  · rw [Int.add_zero]
theorem knD_lo_none {f : Nat → Bool} {k hi : Nat} (hf : f k = false) : knD f k hi = knD f (k + 1) hi := by
  have hb : bitI f k hi k = 0 := by unfold bitI; rw [if_neg (by rw [hf]; simp)]
  refine List.map_congr_left fun j _ => ?_
  rw [byteK_lo, hb, Int.zero_mul, ite_self, Int.add_zero]
theorem knD_hi_some {f : Nat → Bool} {k lo : Nat} (hk : lo ≤ k) (hf : f k = true) : knD f lo (k + 1) = (knD f lo k).set (k / 8) (byteK f lo k (k / 8) + 2 ^ (k % 8)) := by
  refine map_set _ _ _ _ _ fun j => ?_
  have hb : bitI f lo (k + 1) k = 1 := by unfold bitI; rw [if_pos ⟨hk, by omega, hf⟩]
  rw [byteK_hi, hb, Int.one_mul]
  split
  · rename_i h; rw [h]
  · rw [Int.add_zero]
theorem knD_hi_none {f : Nat → Bool} {k lo : Nat} (hf : f k = false) : knD f lo (k + 1) = knD f lo k := by
  have hb : bitI f lo (k + 1) k = 0 := by unfold bitI; rw [if_neg (by rw [hf]; simp)]
  refine List.map_congr_left fun j _ => ?_
  rw [byteK_hi, hb, Int.zero_mul, ite_self, Int.add_zero]
theorem bitI_low (f : Nat → Bool) {a hi k : Nat} (h : k < a) : bitI f a hi k = 0 := by
  unfold bitI
  rw [if_neg (by omega)]
theorem bitI_high (f : Nat → Bool) {lo a k : Nat} (h : a ≤ k) : bitI f lo a k = 0 := by
  unfold bitI
  rw [if_neg (by omega)]
/-- What is there ahead of a bit told from below: less than it. -/
theorem byteK_below (f : Nat → Bool) (k : Nat) : byteK f 0 k (k / 8) < 2 ^ (k % 8) := by
  obtain ⟨q, r, hr, rfl⟩ : ∃ q r, r < 8 ∧ k = 8 * q + r := ⟨k / 8, k % 8, by omega, by omega⟩
  rw [show (8 * q + r) / 8 = q by omega, show (8 * q + r) % 8 = r by omega]
  have h := bitI_le f 0 (8 * q + r)
  have h0 := h (8 * q + 0); have h1 := h (8 * q + 1); have h2 := h (8 * q + 2); have h3 := h (8 * q + 3)
  have h4 := h (8 * q + 4); have h5 := h (8 * q + 5); have h6 := h (8 * q + 6); have h7 := h (8 * q + 7)
  unfold byteK
  rcases pow8 hr with ⟨rfl, e⟩ | ⟨rfl, e⟩ | ⟨rfl, e⟩ | ⟨rfl, e⟩ | ⟨rfl, e⟩ | ⟨rfl, e⟩ | ⟨rfl, e⟩ | ⟨rfl, e⟩ <;> rw [e] <;> simp (disch := omega) only [bitI_high] <;> omega
/-- What is there ahead of a bit told from above: no bit so low. -/
theorem byteK_above (f : Nat → Bool) (k hi : Nat) : byteK f (k + 1) hi (k / 8) % 2 ^ (k % 8 + 1) = 0 ∧ byteK f (k + 1) hi (k / 8) + 2 ^ (k % 8) < 256 := by
  obtain ⟨q, r, hr, rfl⟩ : ∃ q r, r < 8 ∧ k = 8 * q + r := ⟨k / 8, k % 8, by omega, by omega⟩
  rw [show (8 * q + r) / 8 = q by omega, show (8 * q + r) % 8 = r by omega]
  have h := bitI_le f (8 * q + r + 1) hi
  have h0 := h (8 * q + 0); have h1 := h (8 * q + 1); have h2 := h (8 * q + 2); have h3 := h (8 * q + 3)
  have h4 := h (8 * q + 4); have h5 := h (8 * q + 5); have h6 := h (8 * q + 6); have h7 := h (8 * q + 7)
  unfold byteK
  rw [Int.pow_succ]
  rcases pow8 hr with ⟨rfl, e⟩ | ⟨rfl, e⟩ | ⟨rfl, e⟩ | ⟨rfl, e⟩ | ⟨rfl, e⟩ | ⟨rfl, e⟩ | ⟨rfl, e⟩ | ⟨rfl, e⟩ <;> rw [e] <;> simp (disch := omega) only [bitI_low] <;> omega
theorem kb_knD (f : Nat → Bool) {k : Nat} (hk : k < 256) : kb (knD f 0 256) k = f k := by
  have hb : bitI f 0 256 k = if f k = true then 1 else 0 := by
    unfold bitI
    by_cases c : f k = true
    · rw [if_pos ⟨Nat.zero_le _, hk, c⟩, if_pos c]
    · rw [if_neg (fun h => c h.2.2), if_neg c]
  have hv : (byteK f 0 256 (k / 8) / 2 ^ (k % 8)) % 2 = bitI f 0 256 k := by
    clear hb
    obtain ⟨q, r, hr, rfl⟩ : ∃ q r, r < 8 ∧ k = 8 * q + r := ⟨k / 8, k % 8, by omega, by omega⟩
    rw [show (8 * q + r) / 8 = q by omega, show (8 * q + r) % 8 = r by omega]
    have h := bitI_le f 0 256
    have h0 := h (8 * q + 0); have h1 := h (8 * q + 1); have h2 := h (8 * q + 2); have h3 := h (8 * q + 3)
    have h4 := h (8 * q + 4); have h5 := h (8 * q + 5); have h6 := h (8 * q + 6); have h7 := h (8 * q + 7)
    unfold byteK
    rcases pow8 hr with ⟨rfl, e⟩ | ⟨rfl, e⟩ | ⟨rfl, e⟩ | ⟨rfl, e⟩ | ⟨rfl, e⟩ | ⟨rfl, e⟩ | ⟨rfl, e⟩ | ⟨rfl, e⟩ <;> rw [e] <;> omega
  unfold kb
  rw [knD_get f 0 256 (by omega), hv, hb]
  cases f k <;> rfl
/-- The nodes of known levels. -/
def nds (f : Nat → Bool) (g : Nat → List Int) (a n : Nat) : List (List Int) := ((List.range' a n).filter f).map g
theorem nds_next (f : Nat → Bool) (g : Nat → List Int) (a n : Nat) : nds f g a (n + 1) = nds f g a n ++ if f (a + n) = true then [g (a + n)] else [] := by
  unfold nds
  rw [List.range'_concat, List.filter_append, List.map_append, Nat.one_mul]
  congr 1
  rw [List.filter_cons, List.filter_nil]
  split <;> rfl
theorem nds_first (f : Nat → Bool) (g : Nat → List Int) (a n : Nat) : nds f g a (n + 1) = (if f a = true then [g a] else []) ++ nds f g (a + 1) n := by
  unfold nds
  rw [List.range'_succ, List.filter_cons]
  split <;> rfl
theorem nds_len (f : Nat → Bool) (g : Nat → List Int) (a n : Nat) : (nds f g a n).length ≤ n := by
  unfold nds
  rw [List.length_map]
  exact Nat.le_trans (List.length_filter_le _ _) (by rw [List.length_range']; exact Nat.le_refl _)
theorem nds_good (f : Nat → Bool) {g : Nat → List Int} (hg : ∀ k, goodD (g k)) (a n : Nat) : ∀ d ∈ nds f g a n, goodD d := fun d hd => by
  rw [nds, List.mem_map] at hd
  obtain ⟨k, _, rfl⟩ := hd
  exact hg k
theorem cntK_nds {f : Nat → Bool} (g : Nat → List Int) {known : List Int} (h : ∀ k, k < 256 → kb known k = f k) : ∀ k, k ≤ 256 → cntK known k = (nds f g 0 k).length
  | 0, _ => rfl
  | k + 1, hk => by
    rw [cntK, cntK_nds g h k (by omega), nds_next, h k (by omega), List.length_append, Nat.zero_add]
    split <;> rfl
theorem nds_at {f : Nat → Bool} (g : Nat → List Int) {k : Nat} (hf : f k = true) : ∀ n, k < n → (nds f g 0 n).getD (nds f g 0 k).length zs = g k
  | n + 1, h => by
    rw [nds_next]
    by_cases e : k = n
    · subst e
      rw [Nat.zero_add, if_pos hf, List.getD, List.getElem?_append_right (Nat.le_refl _), Nat.sub_self]
      rfl
    · have ih := nds_at g hf n (by omega)
      have hlt : ∀ m, k < m → (nds f g 0 k).length < (nds f g 0 m).length := fun m hm => by
        induction m with
        | zero => omega
        | succ m ihm =>
          rw [nds_next, List.length_append]
          by_cases e : k = m
          · subst e
            rw [Nat.zero_add, if_pos hf, List.length_singleton]
            omega
          · have := ihm (by omega)
            omega
      rw [List.getD, List.getElem?_append_left (hlt n (by omega)), ← List.getD]
      exact ih
end Go.Proofs.Ytclkaibkepaebaa
/- The nodes beside an index's way among sorted entries; where one comes to by them. -/
namespace Go.Proofs.Ytclkaibkepaebaa
open Go Go.Sy Go.Proofs.Try
set_option maxRecDepth 100000
set_option linter.unusedSimpArgs false
set_option linter.unusedVariables false
/-- The entries below the way's place of a level; those below the place beside. -/
def ownG (S : List En) (index : List Int) (k : Nat) : List En := grp S k (ofb (halfs index k))
def besG (S : List En) (index : List Int) (k : Nat) : List En := grp S k (ofb (besD (halfs index k)))
def besF (S : List En) (index : List Int) (k : Nat) : Bool := !(besG S index k).isEmpty
def besN (S : List En) (index : List Int) (k : Nat) : List Int := nodeP k (besG S index k)
def ndsP (S : List En) (index : List Int) : List (List Int) := nds (besF S index) (besN S index) 0 256
def knP (S : List En) (index : List Int) : List Int := knD (besF S index) 0 256
theorem besN_good (S : List En) (index : List Int) (k : Nat) : goodD (besN S index k) := nodeP_good _ _
theorem besN_empty {S : List En} {index : List Int} {k : Nat} (h : besF S index k = false) : besN S index k = emptyD k := by
  unfold besF at h
  have : besG S index k = [] := by
    cases hb : besG S index k with
    | nil => rfl
    | cons a l => rw [hb] at h; cases h
  rw [besN, this, nodeP_nil]
theorem grp_sub (S : List En) (k : Nat) (p : Int) {e : En} (h : e ∈ grp S k p) : e ∈ S := (List.mem_filter.1 h).1
section
variable {S : List En} {index : List Int} (hg : ∀ e ∈ S, goodE e) (hs : S.Pairwise (fun a b => ofb a.1 ≤ ofb b.1)) (hi : goodD index)
include hi in
theorem half_top : ofb (halfs index 256) = 0 := by
  rw [ofb_halfs hi]
  have h1 := ofb_lt hi.2 32
  rw [take_all hi] at h1
  exact Int.ediv_eq_zero_of_lt h1.1 (by have := h1.2; rw [show (256 : Int) ^ 32 = 2 ^ 256 by decide] at this; exact this)
include hg hi in
theorem ownG_top : ownG S index 256 = S := by
  rw [ownG, half_top hi, grp_top hg]
include hi in
theorem half_bit {k : Nat} (hk : k < 256) : ofb (halfs index k) % 2 = bitD index (k : Int) ∧ ofb (halfs index (k + 1)) = ofb (halfs index k) / 2 := by
  rw [bitD_num hi hk, ofb_halfs hi k, ofb_halfs hi (k + 1), next_half]
  exact ⟨rfl, rfl⟩
include hg hs hi in
theorem own_step {k : Nat} (hk : k < 256) :
    (bitD index (k : Int) = 1 → ownG S index k = (ownG S index (k + 1)).drop (cutN k (ownG S index (k + 1))) ∧ besG S index k = (ownG S index (k + 1)).take (cutN k (ownG S index (k + 1)))) ∧
    (bitD index (k : Int) ≠ 1 → ownG S index k = (ownG S index (k + 1)).take (cutN k (ownG S index (k + 1))) ∧ besG S index k = (ownG S index (k + 1)).drop (cutN k (ownG S index (k + 1)))) := by
  obtain ⟨hb, hh⟩ := half_bit hi hk
  have hgood := halfs_good hi k
  have hbes := ofb_besD hgood
  obtain ⟨h1, h2⟩ := cut_filter hk (P := ofb (halfs index (k + 1))) (ownG S index (k + 1)) (hs.sublist List.filter_sublist) (fun e he => by
    unfold ownG grp at he
    rw [List.mem_filter, decide_eq_true_eq] at he
    exact ⟨hg e he.1, he.2⟩)
  obtain ⟨h3, h4⟩ := grp_low hg hk (ofb (halfs index (k + 1)))
  rw [h1, h2]
  show (_ → grp S k (ofb (halfs index k)) = (grp S (k + 1) (ofb (halfs index (k + 1)))).filter _ ∧ grp S k (ofb (besD (halfs index k))) = (grp S (k + 1) (ofb (halfs index (k + 1)))).filter _) ∧ (_ → grp S k (ofb (halfs index k)) = (grp S (k + 1) (ofb (halfs index (k + 1)))).filter _ ∧ grp S k (ofb (besD (halfs index k))) = (grp S (k + 1) (ofb (halfs index (k + 1)))).filter _)
  rw [h3, h4, hbes, hh, ← hb]
  constructor
  · intro h
    rw [if_neg (by omega)]
    constructor <;> congr 1 <;> omega
  · intro h
    rw [if_pos (by omega)]
    constructor <;> congr 1 <;> omega
include hg hs hi in
/-- The node of the way's place of the next level. -/
theorem own_node {k : Nat} (hk : k < 256) : nodeP (k + 1) (ownG S index (k + 1)) = if bitD index (k : Int) = 0 then nodeL (nodeP k (ownG S index k)) (besN S index k) else nodeL (besN S index k) (nodeP k (ownG S index k)) := by
  obtain ⟨hb, hh⟩ := half_bit hi hk
  obtain ⟨s1, s2⟩ := own_step hg hs hi hk
  have hN : nodeP (k + 1) (ownG S index (k + 1)) = nodeL (nodeP k ((ownG S index (k + 1)).take (cutN k (ownG S index (k + 1))))) (nodeP k ((ownG S index (k + 1)).drop (cutN k (ownG S index (k + 1))))) := by
    by_cases e : ownG S index (k + 1) = []
    · rw [e, List.take_nil, List.drop_nil, nodeP_nil, nodeP_nil]
      rfl
    · exact nodeP_succ k e
  by_cases h : bitD index (k : Int) = 1
  · rw [if_neg (by omega), hN, besN, (s1 h).1, (s1 h).2]
  · rw [if_pos (by omega), hN, besN, (s2 h).1, (s2 h).2]
theorem sideD_is (S : List En) (index : List Int) {k : Nat} (hk : k < 256) : sideD (knP S index) (ndsP S index) k = besN S index k := by
  unfold sideD knP ndsP
  rw [kb_knD _ hk]
  by_cases h : besF S index k = true
  · rw [if_pos h, cntK_nds (besN S index) (fun k hk => kb_knD (besF S index) hk) k (by omega)]
    exact nds_at (besN S index) h 256 hk
  · rw [if_neg h, besN_empty (by simpa using h)]
include hg hs hi in
theorem climb_own {x : List Int} (hx : x = nodeP 0 (ownG S index 0)) : ∀ k, k ≤ 256 → climbR index (knP S index) (ndsP S index) x k = nodeP k (ownG S index k)
  | 0, _ => by rw [climbR, hx]
  | k + 1, h => by
    rw [climbR, climb_own hx k (by omega), own_node hg hs hi (by omega), climbS, sideD_is S index (by omega)]
include hg hs hi in
theorem climb_all {x : List Int} (hx : x = nodeP 0 (ownG S index 0)) : climbR index (knP S index) (ndsP S index) x 256 = nodeP 256 S := by
  rw [climb_own hg hs hi hx 256 (Nat.le_refl _), ownG_top hg hi]
theorem knP_pops (S : List En) (index : List Int) : pops (knP S index) = ((ndsP S index).length : Nat) := by
  unfold knP
  rw [← cntK_all (knD_good _ _ _).1, cntK_nds (besN S index) (fun k hk => kb_knD (besF S index) hk) 256 (Nat.le_refl _)]
  rfl
end
/-- What stands in a row of the document beside the way. -/
theorem find_bes {l S : List En} {index : List Int} (hg : ∀ e ∈ l, goodE e) (hp : S.Perm l) (hs : S.Pairwise (fun a b => ofb a.1 ≤ ofb b.1)) (hd : (l.map (·.1)).Nodup) (hi : goodD index) {k : Nat} (hk : k ≤ 256) :
    findO (besD (halfs index k)) (lvlR l k) = if besF S index k = true then some (besN S index k) else none := by
  have hgS : ∀ e ∈ S, goodE e := fun e he => hg e (hp.mem_iff.1 he)
  have hb := besD_good (halfs_good hi k)
  obtain ⟨h1, h2, h3⟩ := lvl_inv l S hg hp hs hd k hk
  cases hf : findO (besD (halfs index k)) (lvlR l k) with
  | some v =>
    obtain ⟨e, g1, g2, g3⟩ := findO_is hf
    obtain ⟨⟨x, hx, hex⟩, hv⟩ := h2 e g1
    have hm : x ∈ besG S index k := by
      unfold besG grp
      rw [List.mem_filter, decide_eq_true_eq, ← ofb_halfs (hg x hx).1, ← hex, g2]
      exact ⟨hp.mem_iff.2 hx, rfl⟩
    have hne : besF S index k = true := by
      unfold besF
      cases hb : besG S index k with
      | nil => rw [hb] at hm; cases hm
      | cons a r => rfl
    rw [if_pos hne, besN, besG, ← g2, ← hv, g3]
  | none =>
    have hno := findO_none hf
    have hemp : besF S index k = false := by
      unfold besF
      cases hb2 : besG S index k with
      | nil => rfl
      | cons y r =>
        exfalso
        have hy : y ∈ besG S index k := by rw [hb2]; exact List.mem_cons_self ..
        unfold besG grp at hy
        rw [List.mem_filter, decide_eq_true_eq] at hy
        obtain ⟨hyS, hyy⟩ := hy
        rw [← ofb_halfs (hgS y hyS).1] at hyy
        have e1 := ofb_inj (halfs_good (hgS y hyS).1 k) hb hyy
        obtain ⟨e2, g1, g2⟩ := h3 y (hp.mem_iff.1 hyS)
        exact hno e2 g1 (g2.trans e1)
    rw [if_neg (by rw [hemp]; decide)]
end Go.Proofs.Ytclkaibkepaebaa
/- Entries as the document's; what is amiss with them; digests turned round. -/
namespace Go.Proofs.Ytclkaibkepaebaa
open Go Go.Sy Go.Proofs.Try
set_option maxRecDepth 100000
set_option maxHeartbeats 8000000
set_option linter.unusedSimpArgs false
set_option linter.unusedVariables false
attribute [go_sem] pl50 pl51 pl102
theorem as17_spec (l : List En) (n : Nat) (hn : l.length = n) (hl : n ≤ 1000) : FnC Try.prog 51 [.sl (.lst 64 n (l.map enV))] [] (.osl 0 [] 64 0 n) [(0, .row (.lst 64 n (l.map enV)))] := by
  have hle : (l.map enV).length = n := by rw [List.length_map, hn]
  refine fnN mix pl51 0 1 [.tmp 2] Try.func51 rfl (by kernel_rfl) (by kernel_rfl) rfl (by kernel_rfl) (by kernel_rfl) (by simp) ?_
  simp (implicitDefEqProofs := false) (disch := omega) only [go_sem, ↓reduceIte]
  refine loop (ι := Nat) 1 (fun i => i ≤ n) (fun i => [(0, .sl (.lst 64 n (l.map enV))), (3, .osl 0 [] 64 0 i), (4, .int .i64 i)]) (fun i => [(0, .row (.lst 64 i ((l.take i).map enV)))]) (fun i => n - i) 0 [] [0] (Nat.zero_le _) rfl ?_ ?_ ?_ (fun i hi => ?_)
  · simp (implicitDefEqProofs := false) (disch := omega) only [go_sem, ↓reduceIte]
  · simp (implicitDefEqProofs := false) (disch := omega) only [go_sem, ↓reduceIte]
  · simp (implicitDefEqProofs := false) (disch := omega) only [go_sem, ↓reduceIte, List.take_zero, List.map_nil]
  simp (implicitDefEqProofs := false) (disch := omega) only [go_sem, ↓reduceIte]
  refine brd (fun h1 => ?_) (fun h1 => ?_)
  · obtain ⟨x, hx⟩ : ∃ x, l[i]? = some x := ⟨_, List.getElem?_eq_getElem (by omega)⟩
    have g1 := fun K => getEn hx K
    have eR : (l.take (i + 1)).map enV = (l.take i).map enV ++ [.agg [.ints .u8 32 x.1, .ints .u8 32 x.2]] := by
      rw [List.take_add_one, hx, List.map_append]
      rfl
    simp (implicitDefEqProofs := false) (disch := omega) only [go_sem, ↓reduceIte, ↓g1, hle]
    refine ⟨i + 1, [(0, 2)], [], [], by dsimp only; omega, by dsimp only; omega, rfl, ?_, ?_, ?_⟩ <;> simp (implicitDefEqProofs := false) (disch := omega) only [go_sem, ↓reduceIte, eR]
  · obtain rfl : i = n := by omega
    have ht : l.take i = l := List.take_of_length_le (by omega)
    simp (implicitDefEqProofs := false) (disch := omega) only [go_sem, ↓reduceIte]
    refine ⟨[(0, 0)], [], [], rfl, ?_, ?_, ?_⟩ <;> simp (implicitDefEqProofs := false) (disch := omega) only [go_sem, ↓reduceIte, ht]
theorem bad_full (l : List En) (n : Nat) (hn : l.length = n) (h : 256 < n) : FnC Try.prog 50 [.sl (.lst 64 n (l.map enV))] [] (.int .i64 3) [] := by
  refine fn0 mix pl50 0 1 [.tmp 2] Try.func50 rfl (by kernel_rfl) (by kernel_rfl) rfl (by kernel_rfl) (by kernel_rfl) (by simp) ?_
  simp (implicitDefEqProofs := false) (disch := omega) only [go_sem, ↓reduceIte]
  refine brd (fun h1 => ?_) (fun h1 => by omega)
  simp (implicitDefEqProofs := false) (disch := omega) only [go_sem, ↓reduceIte]
theorem nodup_ne {l : List En} {i k : Nat} {x y : En} (hd : ((l.take (i + 1)).map (·.1)).Nodup) (hx : l[i]? = some x) (hy : l[k]? = some y) (hk : k < i) : x.1 ≠ y.1 := by
  rw [take_next3 hx, List.nodup_append] at hd
  intro e
  refine hd.2.2 y.1 ?_ x.1 (List.mem_singleton.2 rfl) e.symm
  rw [List.mem_map]
  exact ⟨y, List.mem_of_getElem? (i := k) (by rw [List.getElem?_take_of_lt hk]; exact hy), rfl⟩
theorem bad_ok (l : List En) (n : Nat) (hn : l.length = n) (h : n ≤ 256) (hd : (l.map (·.1)).Nodup) : FnC Try.prog 50 [.sl (.lst 64 n (l.map enV))] [] (.int .i64 0) [] := by
  have hle : (l.map enV).length = n := by rw [List.length_map, hn]
  refine fn0 mix pl50 0 1 [.tmp 2] Try.func50 rfl (by kernel_rfl) (by kernel_rfl) rfl (by kernel_rfl) (by kernel_rfl) (by simp) ?_
  simp (implicitDefEqProofs := false) (disch := omega) only [go_sem, ↓reduceIte]
  refine brd (fun h1 => by omega) (fun h1 => ?_)
  simp (implicitDefEqProofs := false) (disch := omega) only [go_sem, ↓reduceIte]
  refine loop (ι := Nat) 0 (fun i => i ≤ n) (fun i => [(0, .sl (.lst 64 n (l.map enV))), (3, .int .i64 i)]) (fun _ => []) (fun i => n - i) 0 [] [] (Nat.zero_le _) rfl ?_ ?_ ?_ (fun i hi => ?_)
  · simp (implicitDefEqProofs := false) (disch := omega) only [go_sem, ↓reduceIte]
  · simp (implicitDefEqProofs := false) (disch := omega) only [go_sem, ↓reduceIte]
  · simp (implicitDefEqProofs := false) (disch := omega) only [go_sem, ↓reduceIte]
  simp (implicitDefEqProofs := false) (disch := omega) only [go_sem, ↓reduceIte]
  refine brd (fun h2 => ?_) (fun h2 => ?_)
  · obtain ⟨x, hx⟩ : ∃ x, l[i]? = some x := ⟨_, List.getElem?_eq_getElem (by omega)⟩
    have g1 := fun K => getEn hx K
    have hsub : ((l.take (i + 1)).map (·.1)).Nodup := List.Nodup.sublist ((List.take_sublist (i + 1) l).map _) hd
    simp (implicitDefEqProofs := false) (disch := omega) only [go_sem, ↓reduceIte]
    refine loop (ι := Nat) 0 (fun k => k ≤ i) (fun k => [(0, .sl (.lst 64 n (l.map enV))), (3, .int .i64 i), (4, .int .i64 k)]) (fun _ => []) (fun k => i - k) 0 [] [] (Nat.zero_le _) rfl ?_ ?_ ?_ (fun k hk => ?_)
    · simp (implicitDefEqProofs := false) (disch := omega) only [go_sem, ↓reduceIte]
    · simp (implicitDefEqProofs := false) (disch := omega) only [go_sem, ↓reduceIte]
    · simp (implicitDefEqProofs := false) (disch := omega) only [go_sem, ↓reduceIte]
    simp (implicitDefEqProofs := false) (disch := omega) only [go_sem, ↓reduceIte]
    refine brd (fun h3 => ?_) (fun h3 => ?_)
    · obtain ⟨y, hy⟩ : ∃ y, l[k]? = some y := ⟨_, List.getElem?_eq_getElem (by omega)⟩
      have g2 := fun K => getEn hy K
      have d1 : decide (x.1 = y.1) = false := decide_eq_false (nodup_ne hsub hx hy (by omega))
      simp (implicitDefEqProofs := false) (disch := omega) only [go_sem, ↓reduceIte, ↓g1, ↓g2, hle, d1]
      refine ⟨k + 1, [], [], [], by dsimp only; omega, by dsimp only; omega, rfl, ?_, ?_, ?_⟩ <;> simp (implicitDefEqProofs := false) (disch := omega) only [go_sem, ↓reduceIte]
    · simp (implicitDefEqProofs := false) (disch := omega) only [go_sem, ↓reduceIte]
      refine ⟨i + 1, [], [], [], by dsimp only; omega, by dsimp only; omega, rfl, ?_, ?_, ?_⟩ <;> simp (implicitDefEqProofs := false) (disch := omega) only [go_sem, ↓reduceIte]
  · simp (implicitDefEqProofs := false) (disch := omega) only [go_sem, ↓reduceIte]
theorem first_at {p : List Int} : ∀ (L : List (List Int)), p ∈ L → ∃ k, k < L.length ∧ L[k]? = some p ∧ ∀ j, j < k → L[j]? ≠ some p
  | [], h => by cases h
  | x :: L, h => by
    by_cases e : x = p
    · exact ⟨0, by simp, by rw [e]; rfl, fun j hj => by omega⟩
    · obtain ⟨k, h1, h2, h3⟩ := first_at L ((List.mem_cons.1 h).resolve_left fun h => e h.symm)
      refine ⟨k + 1, by simp; omega, h2, fun j hj => ?_⟩
      cases j with
      | zero => intro hh; cases hh; exact e rfl
      | succ j => exact h3 j (by omega)
theorem bad_twice (l : List En) (n : Nat) (hn : l.length = n) (h : n ≤ 256) (hd : ¬ (l.map (·.1)).Nodup) : FnC Try.prog 50 [.sl (.lst 64 n (l.map enV))] [] (.int .i64 5) [] := by
  obtain ⟨m, e, m1, m2, m3, m4⟩ := first_twice l hd
  obtain ⟨q, q1, q2, q3⟩ := first_at _ m4
  have hle : (l.map enV).length = n := by rw [List.length_map, hn]
  have hqm : q < m := by rw [List.length_map, List.length_take] at q1; omega
  refine fn0 mix pl50 0 1 [.tmp 2] Try.func50 rfl (by kernel_rfl) (by kernel_rfl) rfl (by kernel_rfl) (by kernel_rfl) (by simp) ?_
  simp (implicitDefEqProofs := false) (disch := omega) only [go_sem, ↓reduceIte]
  refine brd (fun h1 => by omega) (fun h1 => ?_)
  simp (implicitDefEqProofs := false) (disch := omega) only [go_sem, ↓reduceIte]
  refine loop (ι := Nat) 0 (fun i => i ≤ m) (fun i => [(0, .sl (.lst 64 n (l.map enV))), (3, .int .i64 i)]) (fun _ => []) (fun i => m - i) 0 [] [] (Nat.zero_le _) rfl ?_ ?_ ?_ (fun i hi => ?_)
  · simp (implicitDefEqProofs := false) (disch := omega) only [go_sem, ↓reduceIte]
  · simp (implicitDefEqProofs := false) (disch := omega) only [go_sem, ↓reduceIte]
  · simp (implicitDefEqProofs := false) (disch := omega) only [go_sem, ↓reduceIte]
  simp (implicitDefEqProofs := false) (disch := omega) only [go_sem, ↓reduceIte]
  refine brd (fun h2 => ?_) (fun h2 => by omega)
  obtain ⟨x, hx⟩ : ∃ x, l[i]? = some x := ⟨_, List.getElem?_eq_getElem (by omega)⟩
  have g1 := fun K => getEn hx K
  simp (implicitDefEqProofs := false) (disch := omega) only [go_sem, ↓reduceIte]
  by_cases hm : i = m
  · subst hm
    obtain rfl : x = e := by rw [hx] at m2; exact Option.some.inj m2
    refine loop (ι := Nat) 0 (fun k => k ≤ q) (fun k => [(0, .sl (.lst 64 n (l.map enV))), (3, .int .i64 i), (4, .int .i64 k)]) (fun _ => []) (fun k => q - k) 0 [] [] (Nat.zero_le _) rfl ?_ ?_ ?_ (fun k hk => ?_)
    · simp (implicitDefEqProofs := false) (disch := omega) only [go_sem, ↓reduceIte]
    · simp (implicitDefEqProofs := false) (disch := omega) only [go_sem, ↓reduceIte]
    · simp (implicitDefEqProofs := false) (disch := omega) only [go_sem, ↓reduceIte]
    simp (implicitDefEqProofs := false) (disch := omega) only [go_sem, ↓reduceIte]
    refine brd (fun h3 => ?_) (fun h3 => by omega)
    obtain ⟨y, hy⟩ : ∃ y, l[k]? = some y := ⟨_, List.getElem?_eq_getElem (by omega)⟩
    have g2 := fun K => getEn hy K
    have hky : ((l.take i).map (·.1))[k]? = some y.1 := by rw [List.getElem?_map, List.getElem?_take_of_lt (by omega), hy]; rfl
    by_cases hkq : k = q
    · subst hkq
      have d1 : decide (x.1 = y.1) = true := decide_eq_true (by rw [q2] at hky; exact Option.some.inj hky)
      simp (implicitDefEqProofs := false) (disch := omega) only [go_sem, ↓reduceIte, ↓g1, ↓g2, hle, d1]
      omega
    · have d1 : decide (x.1 = y.1) = false := decide_eq_false (fun ee => q3 k (by omega) (by rw [hky, ee]))
      simp (implicitDefEqProofs := false) (disch := omega) only [go_sem, ↓reduceIte, ↓g1, ↓g2, hle, d1]
      refine ⟨k + 1, [], [], [], by dsimp only; omega, by dsimp only; omega, rfl, ?_, ?_, ?_⟩ <;> simp (implicitDefEqProofs := false) (disch := omega) only [go_sem, ↓reduceIte]
  · have hsub : ((l.take (i + 1)).map (·.1)).Nodup := List.Nodup.sublist ((List.take_sublist_take_left (by omega)).map _) m3
    refine loop (ι := Nat) 0 (fun k => k ≤ i) (fun k => [(0, .sl (.lst 64 n (l.map enV))), (3, .int .i64 i), (4, .int .i64 k)]) (fun _ => []) (fun k => i - k) 0 [] [] (Nat.zero_le _) rfl ?_ ?_ ?_ (fun k hk => ?_)
    · simp (implicitDefEqProofs := false) (disch := omega) only [go_sem, ↓reduceIte]
    · simp (implicitDefEqProofs := false) (disch := omega) only [go_sem, ↓reduceIte]
    · simp (implicitDefEqProofs := false) (disch := omega) only [go_sem, ↓reduceIte]
    simp (implicitDefEqProofs := false) (disch := omega) only [go_sem, ↓reduceIte]
    refine brd (fun h3 => ?_) (fun h3 => ?_)
    · obtain ⟨y, hy⟩ : ∃ y, l[k]? = some y := ⟨_, List.getElem?_eq_getElem (by omega)⟩
      have g2 := fun K => getEn hy K
      have d1 : decide (x.1 = y.1) = false := decide_eq_false (nodup_ne hsub hx hy (by omega))
      simp (implicitDefEqProofs := false) (disch := omega) only [go_sem, ↓reduceIte, ↓g1, ↓g2, hle, d1]
      refine ⟨k + 1, [], [], [], by dsimp only; omega, by dsimp only; omega, rfl, ?_, ?_, ?_⟩ <;> simp (implicitDefEqProofs := false) (disch := omega) only [go_sem, ↓reduceIte]
    · simp (implicitDefEqProofs := false) (disch := omega) only [go_sem, ↓reduceIte]
      refine ⟨i + 1, [], [], [], by dsimp only; omega, by dsimp only; omega, rfl, ?_, ?_, ?_⟩ <;> simp (implicitDefEqProofs := false) (disch := omega) only [go_sem, ↓reduceIte]
/-- Digests, so many of which are turned round at both ends. -/
def turS (W : List (List Int)) : Nat → List (List Int)
  | 0 => W
  | i + 1 => ((turS W i).set i ((turS W i).getD (W.length - 1 - i) zs)).set (W.length - 1 - i) ((turS W i).getD i zs)
theorem turS_len (W : List (List Int)) : ∀ i, (turS W i).length = W.length
  | 0 => rfl
  | i + 1 => by rw [turS, List.length_set, List.length_set, turS_len W i]
theorem turS_get (W : List (List Int)) : ∀ i, 2 * i ≤ W.length → ∀ j, j < W.length → (turS W i).getD j zs = if j < i ∨ W.length - 1 - i < j then W.getD (W.length - 1 - j) zs else W.getD j zs
  | 0, _, j, hj => by rw [if_neg (by omega)]; rfl
  | i + 1, h, j, hj => by
    have hl := turS_len W i
    have g1 := turS_get W i (by omega) i (by omega)
    have g2 := turS_get W i (by omega) (W.length - 1 - i) (by omega)
    have g3 := turS_get W i (by omega) j hj
    rw [if_neg (by omega)] at g1 g2
    rw [turS, List.getD, List.getElem?_set, List.length_set, hl]
    by_cases c1 : W.length - 1 - i = j
    · rw [if_pos c1, if_pos (by omega), Option.getD_some, g1, if_pos (by omega)]
      congr 1
      omega
    · rw [if_neg c1, List.getElem?_set, hl]
      by_cases c2 : i = j
      · rw [if_pos c2, if_pos (by omega), Option.getD_some, g2, if_pos (by omega)]
        congr 1
        omega
      · rw [if_neg c2, ← List.getD, g3]
        by_cases c3 : j < i ∨ W.length - 1 - i < j
        · rw [if_pos c3, if_pos (by omega)]
        · rw [if_neg c3, if_neg (by omega)]
theorem turS_all (W : List (List Int)) {i : Nat} (h : 2 * i ≤ W.length) (h2 : W.length ≤ 2 * i + 1) : turS W i = W.reverse := by
  apply List.ext_getElem
  · rw [turS_len, List.length_reverse]
  · intro j h1 h3
    rw [turS_len] at h1
    have := turS_get W i h j h1
    rw [List.getElem_reverse]
    have e1 : (turS W i).getD j zs = (turS W i)[j]'(by rw [turS_len]; exact h1) := by rw [List.getD, List.getElem?_eq_getElem (by rw [turS_len]; exact h1), Option.getD_some]
    have e2 : W.getD (W.length - 1 - j) zs = W[W.length - 1 - j]'(by omega) := by rw [List.getD, List.getElem?_eq_getElem (by omega), Option.getD_some]
    rw [← e1, ← e2, this]
    by_cases c : j < i ∨ W.length - 1 - i < j
    · rw [if_pos c]
    · rw [if_neg c]
      congr 1
      omega
theorem reverse_spec (W : List (List Int)) (n : Nat) (hn : W.length = n) (hl : n ≤ 1000) : FnK Try.prog [0] 102 [.osl 0 [] 32 0 n] [(0, .row (.lst 32 n (W.map dg)))] (.tup []) [(0, .row (.lst 32 n (W.reverse.map dg)))] := by
  refine fnK [0] mix pl102 1 1 [] Try.func102 rfl (by kernel_rfl) (by kernel_rfl) rfl (by kernel_rfl) (by kernel_rfl) (by simp) ?_
  simp (implicitDefEqProofs := false) (disch := omega) only [go_sem, ↓reduceIte]
  refine loop (ι := Nat) 1 (fun i => 2 * i ≤ n + 0) (fun i => [(0, .osl 0 [] 32 0 n), (2, .int .i64 i), (3, .int .i64 ((n : Int) - 1 - i))]) (fun i => [(0, .row (.lst 32 n ((turS W i).map dg)))]) (fun i => n - i) 0 [(0, 0)] [] (by omega) rfl ?_ ?_ ?_ (fun i hi => ?_)
  · simp (implicitDefEqProofs := false) (disch := omega) only [go_sem, ↓reduceIte]
  · simp (implicitDefEqProofs := false) (disch := omega) only [go_sem, ↓reduceIte, Int.sub_zero, Int.natCast_zero]
  · simp (implicitDefEqProofs := false) (disch := omega) only [go_sem, ↓reduceIte, turS]
  simp (implicitDefEqProofs := false) (disch := omega) only [go_sem, ↓reduceIte]
  refine brd (fun h1 => ?_) (fun h1 => ?_)
  · have hlr := turS_len W i
    have ti : ((n : Int) - 1 - i).toNat = n - 1 - i := by omega
    have lr : ((turS W i).map dg).length = n := by rw [List.length_map, hlr, hn]
    have get : ∀ j, j < n → ∀ K, getP ((turS W i).map dg) j K = K (.ints .u8 32 ((turS W i).getD j zs)) := fun j hj K => getP_map (f := dg) (l := turS W i) (i := j) (a := (turS W i).getD j zs) (by rw [List.getD, List.getElem?_eq_getElem (by omega), Option.getD_some]) K
    have g1 := get i (by omega)
    have g2 := get (n - 1 - i) (by omega)
    have eS : (((turS W i).map dg).set i (.ints .u8 32 ((turS W i).getD (n - 1 - i) zs))).set (n - 1 - i) (.ints .u8 32 ((turS W i).getD i zs)) = (turS W (i + 1)).map dg := by
      rw [turS, List.map_set, List.map_set, hn]
      rfl
    have e1 : (n : Int) - 1 - (i : Int) - 1 = (n : Int) - 1 - ((i : Int) + 1) := by omega
    have g3 : ∀ K, getP (((turS W i).map dg).set i (.ints .u8 32 ((turS W i).getD (n - 1 - i) zs))) (n - 1 - i) K = K (.ints .u8 32 ((turS W i).getD (n - 1 - i) zs)) := fun K => by
      have := getP_map (f := dg) (l := (turS W i).set i ((turS W i).getD (n - 1 - i) zs)) (i := n - 1 - i) (a := (turS W i).getD (n - 1 - i) zs) (by
        rw [List.getElem?_set, if_neg (by omega), List.getD, List.getElem?_eq_getElem (by omega), Option.getD_some]) K
      rw [List.map_set] at this
      exact this
    have lr2 : (((turS W i).map dg).set i (.ints .u8 32 ((turS W i).getD (n - 1 - i) zs))).length = n := by rw [List.length_set, lr]
    simp (implicitDefEqProofs := false) (disch := omega) only [go_sem, ↓reduceIte, ti, ↓g1, ↓g2, ↓g3, lr, lr2]
    refine ⟨i + 1, [(0, 0)], [], [], by dsimp only; omega, by dsimp only; omega, rfl, ?_, ?_, ?_⟩ <;> simp (implicitDefEqProofs := false) (disch := omega) only [go_sem, ↓reduceIte, eS, e1]
  · have hr : turS W i = W.reverse := turS_all W (by omega) (by omega)
    simp (implicitDefEqProofs := false) (disch := omega) only [go_sem, ↓reduceIte]
    refine ⟨[(0, 0)], [], [], rfl, ?_, ?_, ?_⟩ <;> simp (implicitDefEqProofs := false) (disch := omega) only [go_sem, ↓reduceIte, hr]
end Go.Proofs.Ytclkaibkepaebaa
/- An index's proof, by the document. -/
namespace Go.Proofs.Ytclkaibkepaebaa
open Go Go.Sy Go.Proofs.Try
set_option maxRecDepth 100000
set_option maxHeartbeats 8000000
set_option linter.unusedSimpArgs false
set_option linter.unusedVariables false

theorem nds_snoc_some {f : Nat → Bool} (g : Nat → List Int) {k : Nat} (h : f k = true) : nds f g 0 (k + 1) = nds f g 0 k ++ [g k] := by rw [nds_next, Nat.zero_add, if_pos h]
theorem nds_snoc_none {f : Nat → Bool} (g : Nat → List Int) {k : Nat} (h : f k = false) : nds f g 0 (k + 1) = nds f g 0 k := by rw [nds_next, Nat.zero_add, if_neg (by rw [h]; decide), List.append_nil]
theorem refprove_spec (l S : List En) (n : Nat) (hn : l.length = n) (hl : n ≤ 500) (hg : ∀ e ∈ l, goodE e) (hp : S.Perm l) (hs : S.Pairwise (fun a b => ofb a.1 ≤ ofb b.1)) (hd : (l.map (·.1)).Nodup) (index : List Int) (hi : goodD index) :
    FnC Try.prog 54 [.sl (.lst 64 n (l.map enV)), .ints .u8 32 index] [] (.tup [.ints .u8 32 (knP S index), .osl 0 [] 32 0 (ndsP S index).length]) [(0, .row (.lst 32 (ndsP S index).length ((ndsP S index).map dg)))] := by
  have l1 : ((empties 257).map dg).length = 257 := by rw [List.length_map, empties_len]
  have hr := refrow_spec l n hn hl hg
  rw [show l.map leafE = lvlR l 0 from rfl] at hr
  have h0 : (lvlR l 0).length = n := by rw [lvlR, List.length_map, hn]
  refine fnN mix [] 0 2 [.cell 4 25, .tmp 5] Try.func54 rfl (by kernel_rfl) (by kernel_rfl) rfl (by kernel_rfl) (by kernel_rfl) (by simp) ?_
  simp (implicitDefEqProofs := false) (disch := omega) only [go_sem, ↓reduceIte]
  refine callF 1 refempty_spec17 ?_
  simp (implicitDefEqProofs := false) (disch := omega) only [go_sem, ↓reduceIte]
  refine callF 1 hr ?_
  simp (implicitDefEqProofs := false) (disch := omega) only [go_sem, ↓reduceIte]
  refine loop (ι := Nat) 6 (fun k => k ≤ 256) (fun k => [(3, .ref 0 []), (4, .ref 1 []), (6, .osl 2 [] 32 0 257), (7, .osl 3 [] 64 0 (lvlR l k).length), (8, .ref 4 []), (9, .osl 5 [] 32 0 (nds (besF S index) (besN S index) 0 k).length), (10, .int .i64 k)])
    (fun k => [(0, .var (.ints .u8 32 (halfs index k))), (1, .var (.ints .u8 32 (List.replicate 32 0))), (2, .row (.lst 32 257 ((empties 257).map dg))), (3, .row (.lst 64 (lvlR l k).length ((lvlR l k).map enV))), (4, .var (.ints .u8 32 (knD (besF S index) 0 k))), (5, .row (.lst 32 (nds (besF S index) (besN S index) 0 k).length ((nds (besF S index) (besN S index) 0 k).map dg)))]) (fun k => 256 - k) 0 [(0, 0), (1, 1), (2, 2), (3, 3), (4, 4)] [5] (Nat.zero_le _) rfl ?_ ?_ ?_ (fun k hk => ?_)
  · simp (implicitDefEqProofs := false) (disch := omega) only [go_sem, ↓reduceIte]
  · simp (implicitDefEqProofs := false) (disch := omega) only [go_sem, ↓reduceIte, h0]
    rfl
  · simp (implicitDefEqProofs := false) (disch := omega) only [go_sem, ↓reduceIte, h0, halfs, knD_none]
    exact ⟨rfl, rfl⟩
  simp (implicitDefEqProofs := false) (disch := omega) only [go_sem, ↓reduceIte]
  have hnl := nds_len (besF S index) (besN S index) 0 k
  refine brd (fun h1 => ?_) (fun h1 => ?_)
  · have g1 : ∀ K, getP ((empties 257).map dg) k K = K (.ints .u8 32 (emptyD k)) := fun K => getP_map (f := dg) (empties_get (n := 257) (i := k) (by omega)) K
    have hlen := lvlR_len l k
    have hgk := halfs_good hi k
    have hu := up_spec (lvlR l k) (lvlR l k).length rfl (by omega) (emptyD k) (emptyD_good k) (lvlR_good hg k)
    rw [show upN (lvlR l k) (emptyD k) (lvlR l k).length = lvlR l (k + 1) from rfl] at hu
    have hb := beside_spec17 (halfs index k) hgk
    have hh := halfd_spec (halfs index k) hgk
    rw [show halfD (halfs index k) = halfs index (k + 1) from rfl] at hh
    have hf := find_bes hg hp hs hd hi (k := k) (by omega)
    -- the byte
    have t1 : (k : Int).tdiv 8 = ((k / 8 : Nat) : Int) := by rw [Int.tdiv_eq_ediv_of_nonneg (by omega)]; omega
    have t2 : (k : Int).tmod 8 = ((k % 8 : Nat) : Int) := by rw [Int.tmod_eq_emod_of_nonneg (by omega)]; omega
    have hw8 : IntKind.i64.wrap ((k / 8 : Nat) : Int) = ((k / 8 : Nat) : Int) := wrap_i64 (by omega) (by omega)
    have ti8 : (((k / 8 : Nat) : Int)).toNat = k / 8 := Int.toNat_natCast _
    have hkg := knD_get (besF S index) 0 k (j := k / 8) (by omega)
    have hbl := byteK_below (besF S index) k
    have hby := byteK_le (besF S index) 0 k (k / 8)
    have hr8 : k % 8 < 8 := by omega
    have hp8 : (2 : Int) ^ (k % 8) ≤ 128 := by rcases pow8 hr8 with ⟨_, e⟩ | ⟨_, e⟩ | ⟨_, e⟩ | ⟨_, e⟩ | ⟨_, e⟩ | ⟨_, e⟩ | ⟨_, e⟩ | ⟨_, e⟩ <;> rw [e] <;> decide
    have hp0 : (0 : Int) < 2 ^ (k % 8) := Int.pow_pos (by decide)
    have w1 : IntKind.u8.wrap (byteK (besF S index) 0 k (k / 8) + 2 ^ (k % 8)) = byteK (besF S index) 0 k (k / 8) + 2 ^ (k % 8) := wrap_u8 (by omega) (by omega)
    simp (implicitDefEqProofs := false) (disch := omega) only [go_sem, ↓reduceIte]
    refine call0 hb ?_
    simp (implicitDefEqProofs := false) (disch := omega) only [go_sem, ↓reduceIte]
    by_cases hF : besF S index k = true
    · rw [if_pos hF] at hf
      have hc := find_some (lvlR l k) (lvlR l k).length rfl (by omega) (besD (halfs index k)) (besN S index k) hf
      have hka := knD_hi_some (lo := 0) (Nat.zero_le k) hF
      have hac := nds_snoc_some (besN S index) hF
      have hal : (nds (besF S index) (besN S index) 0 (k + 1)).length = (nds (besF S index) (besN S index) 0 k).length + 1 := by rw [hac, List.length_append, List.length_singleton]
      have ham : (nds (besF S index) (besN S index) 0 (k + 1)).map dg = (nds (besF S index) (besN S index) 0 k).map dg ++ [.ints .u8 32 (besN S index k)] := by rw [hac, List.map_append]; rfl
      refine callB hc ?_ ?_
      · simp (implicitDefEqProofs := false) (disch := omega) only [go_sem, ↓reduceIte]
      simp (implicitDefEqProofs := false) (disch := omega) only [go_sem, ↓reduceIte]
      refine loop (ι := Nat) 7 (fun i => i ≤ k % 8) (fun i => [(3, .ref 0 []), (4, .ref 1 []), (6, .osl 2 [] 32 0 257), (7, .osl 3 [] 64 0 (lvlR l k).length), (8, .ref 4 []), (9, .osl 5 [] 32 0 (nds (besF S index) (besN S index) 0 k).length), (10, .int .i64 k), (11, .ref 6 []), (13, .int .u8 (2 ^ i)), (14, .int .i64 i)])
        (fun i => [(0, .var (.ints .u8 32 (halfs index k))), (1, .var (.ints .u8 32 (List.replicate 32 0))), (2, .row (.lst 32 257 ((empties 257).map dg))), (3, .row (.lst 64 (lvlR l k).length ((lvlR l k).map enV))), (4, .var (.ints .u8 32 (knD (besF S index) 0 k))), (5, .row (.lst 32 (nds (besF S index) (besN S index) 0 k).length ((nds (besF S index) (besN S index) 0 k).map dg))), (6, .var (.ints .u8 32 (besN S index k)))]) (fun i => k % 8 - i) 0 [(0, 0), (1, 1), (2, 2), (3, 3), (4, 4), (5, 5), (6, 6)] [] (Nat.zero_le _) rfl ?_ ?_ ?_ (fun i hi8 => ?_)
      · simp (implicitDefEqProofs := false) (disch := omega) only [go_sem, ↓reduceIte]
      · simp (implicitDefEqProofs := false) (disch := omega) only [go_sem, ↓reduceIte]
        rfl
      · simp (implicitDefEqProofs := false) (disch := omega) only [go_sem, ↓reduceIte]
      simp (implicitDefEqProofs := false) (disch := omega) only [go_sem, ↓reduceIte, t2]
      refine brd (fun h3 => ?_) (fun h3 => ?_)
      · have hpi : (2 : Int) ^ (i + 1) ≤ 128 := by
          rcases pow8 (r := i + 1) (by omega) with ⟨_, e⟩ | ⟨_, e⟩ | ⟨_, e⟩ | ⟨_, e⟩ | ⟨_, e⟩ | ⟨_, e⟩ | ⟨_, e⟩ | ⟨_, e⟩ <;> rw [e] <;> decide
        have hpz : (0 : Int) < 2 ^ i := Int.pow_pos (by decide)
        have w2 : IntKind.u8.wrap ((2 : Int) ^ i * 2) = 2 ^ (i + 1) := by
          rw [Int.pow_succ] at hpi ⊢
          exact wrap_u8 (by omega) (by omega)
        simp (implicitDefEqProofs := false) (disch := omega) only [go_sem, ↓reduceIte, w2]
        refine ⟨i + 1, [(0, 0), (1, 1), (2, 2), (3, 3), (4, 4), (5, 5), (6, 6)], [], [], by dsimp only; omega, by dsimp only; omega, rfl, ?_, ?_, ?_⟩ <;> simp (implicitDefEqProofs := false) (disch := omega) only [go_sem, ↓reduceIte]
      obtain rfl : i = k % 8 := by omega
      simp (implicitDefEqProofs := false) (disch := omega) only [go_sem, ↓reduceIte, t1, hw8, ti8, hkg, w1, ↓g1, l1]
      refine callBF 1 hu (hq := by simp [OB.pf, AV.pf, pf_enV]) ?_ ?_
      · simp (implicitDefEqProofs := false) (disch := omega) only [go_sem, ↓reduceIte]
      simp (implicitDefEqProofs := false) (disch := omega) only [go_sem, ↓reduceIte]
      refine call0 hh ?_
      simp (implicitDefEqProofs := false) (disch := omega) only [go_sem, ↓reduceIte]
      refine ⟨k + 1, [(0, 0), (1, 1), (2, 2), (3, 9), (4, 4), (5, 8)], [], [], by dsimp only; omega, by dsimp only; omega, rfl, ?_, ?_, ?_⟩ <;> simp (implicitDefEqProofs := false) (disch := omega) only [go_sem, ↓reduceIte, hka, hal, ham]
    · have hF : besF S index k = false := by simpa using hF
      rw [if_neg (by rw [hF]; decide)] at hf
      have hc := find_none (lvlR l k) (lvlR l k).length rfl (by omega) (besD (halfs index k)) hf
      have hka : knD (besF S index) 0 (k + 1) = knD (besF S index) 0 k := knD_hi_none hF
      have hac := nds_snoc_none (besN S index) hF
      refine callB hc ?_ ?_
      · simp (implicitDefEqProofs := false) (disch := omega) only [go_sem, ↓reduceIte]
      simp (implicitDefEqProofs := false) (disch := omega) only [go_sem, ↓reduceIte, ↓g1, l1]
      refine callBF 1 hu (hq := by simp [OB.pf, AV.pf, pf_enV]) ?_ ?_
      · simp (implicitDefEqProofs := false) (disch := omega) only [go_sem, ↓reduceIte]
      simp (implicitDefEqProofs := false) (disch := omega) only [go_sem, ↓reduceIte]
      refine call0 hh ?_
      simp (implicitDefEqProofs := false) (disch := omega) only [go_sem, ↓reduceIte]
      refine ⟨k + 1, [(0, 0), (1, 1), (2, 2), (3, 7), (4, 4), (5, 5)], [], [], by dsimp only; omega, by dsimp only; omega, rfl, ?_, ?_, ?_⟩ <;> simp (implicitDefEqProofs := false) (disch := omega) only [go_sem, ↓reduceIte, hka, hac]
  obtain rfl : k = 256 := by omega
  rw [show ndsP S index = nds (besF S index) (besN S index) 0 256 from rfl, show knP S index = knD (besF S index) 0 256 from rfl]
  simp (implicitDefEqProofs := false) (disch := omega) only [go_sem, ↓reduceIte]
  refine ⟨[(0, 5)], [], [], rfl, ?_, ?_, ?_⟩ <;> simp (implicitDefEqProofs := false) (disch := omega) only [go_sem, ↓reduceIte]
end Go.Proofs.Ytclkaibkepaebaa
