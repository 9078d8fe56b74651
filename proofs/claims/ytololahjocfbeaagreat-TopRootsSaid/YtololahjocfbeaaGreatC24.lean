/- Texts, joined. -/
import Derived.Test.YtololahjocfbeaaGreatC10
import Derived.Test.YtololahjocfbeaaGreatC11
namespace Go.Proofs.YtololahjocfbeaaGreat
open Go Go.Sy Go.Proofs.Tryz
set_option maxRecDepth 100000
set_option maxHeartbeats 4000000
set_option linter.unusedSimpArgs false
set_option linter.unusedVariables false
theorem foldl_take_succ {α : Type} (f : α → Int → α) (a : α) (xs : List Int) (i : Nat) (h : i < xs.length) : (xs.take (i + 1)).foldl f a = f ((xs.take i).foldl f a) (xs.getD i 0) := by
  rw [List.take_add_one, List.foldl_append, List.getElem?_eq_getElem h]
  simp [List.getD, List.getElem?_eq_getElem h]
def lack (n x : Int) : Int := IntKind.i64.wrap (n + IntKind.i64.wrap (15 - x))
def lacks (xs : List Int) : Int := xs.foldl lack 0
theorem lacks_spec (xs : List Int) (hl : xs.length ≤ 9223372036854775807) : FnC Tryz.prog 242 [.sl (.ints .i64 xs.length xs)] [] (.int .i64 (lacks xs)) [] := by
  refine fn0 mix [] 0 1 [.tmp 2] Tryz.func242 rfl (by kernel_rfl) (by kernel_rfl) rfl (by kernel_rfl) (by kernel_rfl) (by simp) ?_
  simp -implicitDefEqProofs (disch := omega) only [go_sem, ↓reduceIte]
  refine loop (ι := Nat) 0 (fun i => i ≤ xs.length) (fun i => [(6, .sl (.ints .i64 xs.length xs)), (7, .int .i64 xs.length), (8, .int .i64 i), (3, .int .i64 ((xs.take i).foldl lack 0))]) (fun _ => []) (fun i => xs.length - i) 0 [] [] (Nat.zero_le _) rfl ?_ ?_ ?_ (fun i hi => ?_)
  · simp -implicitDefEqProofs (disch := omega) only [go_sem, ↓reduceIte]
  · simp -implicitDefEqProofs (disch := omega) only [go_sem, ↓reduceIte, List.take_zero, List.foldl_nil, Int.natCast_zero]
  · simp -implicitDefEqProofs (disch := omega) only [go_sem, ↓reduceIte]
  simp -implicitDefEqProofs (disch := omega) only [go_sem, ↓reduceIte]
  refine brd (fun h => ?_) (fun h => ?_)
  · simp -implicitDefEqProofs (disch := omega) only [go_sem, ↓reduceIte]
    refine ⟨i + 1, [], [], [], by dsimp only; omega, by dsimp only; omega, rfl, ?_, ?_, ?_⟩ <;> simp -implicitDefEqProofs (disch := omega) only [go_sem, ↓reduceIte, foldl_take_succ, lack]
  · simp -implicitDefEqProofs (disch := omega) only [go_sem, ↓reduceIte]
    rw [List.take_of_length_le (by omega)]; rfl
theorem getD_all {p : Int → Prop} {xs : List Int} (h : ∀ x ∈ xs, p x) {i : Nat} (hi : i < xs.length) : p (xs.getD i 0) := by
  simp only [List.getD, List.getElem?_eq_getElem hi, Option.getD_some]
  exact h _ (List.getElem_mem hi)
def nib (d : List Int) : List Int := d.flatMap fun b => [b / 16, b % 16]
theorem nib_len : ∀ d : List Int, (nib d).length = 2 * d.length
  | [] => rfl
  | b :: d => by
    have := nib_len d
    simp only [nib, List.flatMap_cons, List.length_append, List.length_cons, List.length_nil] at this ⊢
    omega
theorem nib_succ {d : List Int} {i : Nat} (hi : i < d.length) : nib (d.take (i + 1)) = nib (d.take i) ++ [d.getD i 0 / 16, d.getD i 0 % 16] := by
  unfold nib
  rw [List.take_add_one, List.flatMap_append, List.getElem?_eq_getElem hi]
  simp only [Option.toList_some, List.flatMap_cons, List.flatMap_nil, List.append_nil, List.getD, List.getElem?_eq_getElem hi, Option.getD_some]
theorem set_two {l : List Int} {p n : Nat} (h : l.length = p) (a b : Int) : ((l ++ List.replicate (n + 2) 0).set p a).set (p + 1) b = (l ++ [a, b]) ++ List.replicate n 0 := by
  subst h
  rw [List.replicate_succ, List.replicate_succ, List.set_append_right _ _ (Nat.le_refl _), Nat.sub_self, List.set_cons_zero, List.set_append_right _ _ (by omega), Nat.add_sub_cancel_left, List.set_cons_succ, List.set_cons_zero, List.append_assoc]
  rfl
theorem of_step {d : List Int} (hd : d.length = 32) {i : Nat} (hi : i < 32) : ((nib (d.take i) ++ List.replicate (67 - 2 * i) 0).set (2 * i) (d.getD i 0 / 16)).set (2 * i + 1) (d.getD i 0 % 16) = nib (d.take (i + 1)) ++ List.replicate (67 - 2 * (i + 1)) 0 := by
  rw [nib_succ (by omega), show 67 - 2 * i = (67 - 2 * (i + 1)) + 2 by omega]
  exact set_two (by rw [nib_len, List.length_take]; omega) _ _
def tl (N : Int) : Nat → List Int
  | 0 => [0, 0, 0]
  | 1 => [0, 0, N % 16]
  | 2 => [0, N / 16 % 16, N % 16]
  | _ => [N / 16 / 16 % 16, N / 16 % 16, N % 16]
def dn (N : Int) : Nat → Int
  | 0 => N
  | 1 => N / 16
  | 2 => N / 16 / 16
  | _ => N / 16 / 16 / 16
theorem set_tail {l : List Int} (h : l.length = 64) (t : List Int) (i : Nat) (a : Int) : (l ++ t).set (64 + i) a = l ++ t.set i a := by
  rw [List.set_append_right _ _ (by omega), h, show 64 + i - 64 = i by omega]
theorem lacks_bounds : ∀ (xs : List Int) (a : Int), (∀ x ∈ xs, 0 ≤ x ∧ x < 16) → 0 ≤ a → a + 15 * xs.length < 1000000 → a ≤ xs.foldl lack a ∧ xs.foldl lack a ≤ a + 15 * xs.length
  | [], a, _, _, _ => by simp
  | x :: xs, a, h, h0, h1 => by
    have hx := h x (by simp)
    simp only [List.length_cons, Int.natCast_add, Int.cast_ofNat_Int] at h1 ⊢
    have e : lack a x = a + (15 - x) := by
      unfold lack
      rw [wrap_i64 (n := 15 - x) (by omega) (by omega), wrap_i64 (by omega) (by omega)]
    rw [List.foldl_cons, e]
    have := lacks_bounds xs (a + (15 - x)) (fun y hy => h y (by simp [hy])) (by omega) (by omega)
    omega
theorem nib_mem {d : List Int} (hb : ∀ x ∈ d, 0 ≤ x ∧ x < 256) : ∀ x ∈ nib d, 0 ≤ x ∧ x < 16 := by
  intro x hx
  simp only [nib, List.mem_flatMap] at hx
  obtain ⟨b, hbm, hx⟩ := hx
  have := hb b hbm
  simp at hx
  omega
theorem lacks_nib {d : List Int} (hd : d.length = 32) (hb : ∀ x ∈ d, 0 ≤ x ∧ x < 256) : 0 ≤ lacks (nib d) ∧ lacks (nib d) ≤ 960 := by
  have := lacks_bounds (nib d) 0 (nib_mem hb) (by omega) (by rw [nib_len, hd]; decide)
  rw [nib_len, hd] at this
  unfold lacks
  omega
def digs (d : List Int) : List Int := nib d ++ tl (lacks (nib d)) 3
theorem of_spec (d : List Int) (hd : d.length = 32) (hb : ∀ x ∈ d, 0 ≤ x ∧ x < 256) : FnC Tryz.prog 217 [.ints .u8 32 d] [] (.ints .i64 67 (digs d)) [] := by
  refine fn0 mix [] 0 1 [.cell 2 344] Tryz.func217 rfl (by kernel_rfl) (by kernel_rfl) rfl (by kernel_rfl) (by kernel_rfl) (by simp) ?_
  simp -implicitDefEqProofs (disch := omega) only [go_sem, ↓reduceIte]
  refine loop (ι := Nat) 3 (fun i => i ≤ 32) (fun i => [(8, .ints .u8 32 d), (9, .int .i64 i), (3, .ref 2 []), (2, .ref 1 [])]) (fun i => [(1, .var (.ints .i64 67 (List.replicate 67 0))), (2, .var (.ints .i64 67 (nib (d.take i) ++ List.replicate (67 - 2 * i) 0)))]) (fun i => 32 - i) 0 [(1, 1), (2, 2)] [] (Nat.zero_le _) rfl ?_ ?_ ?_ (fun i hi => ?_)
  · simp -implicitDefEqProofs (disch := omega) only [go_sem, ↓reduceIte]
  · simp -implicitDefEqProofs (disch := omega) only [go_sem, ↓reduceIte]
  · simp -implicitDefEqProofs (disch := omega) only [go_sem, ↓reduceIte, List.take_zero, nib, List.flatMap_nil]
  simp -implicitDefEqProofs (disch := omega) only [go_sem, ↓reduceIte]
  refine brd (fun h => ?_) (fun h => ?_)
  · have hx := getD_all hb (show i < d.length by omega)
    have e1 : (2 * (i : Int)).toNat = 2 * i := by omega
    have e2 : (2 * (i : Int) + 1).toNat = 2 * i + 1 := by omega
    have e3 : ishr .u8 (d.getD i 0) 4 = d.getD i 0 / 16 := ishr_div _ _ 4 (by decide)
    have e4 : iand .u8 (d.getD i 0) 15 = d.getD i 0 % 16 := iand_mask 4 (by decide) (by decide) hx.1 hx.2
    simp -implicitDefEqProofs (disch := omega) only [go_sem, ↓reduceIte, e1, e2, e3, e4, of_step hd (show i < 32 by omega)]
    refine ⟨i + 1, [(1, 1), (2, 2)], [], [], by dsimp only; omega, by dsimp only; omega, rfl, ?_, ?_, ?_⟩ <;> simp -implicitDefEqProofs (disch := omega) only [go_sem, ↓reduceIte]
  · obtain rfl : i = 32 := by omega
    have e1 : nib (List.take 32 d) ++ List.replicate (67 - 2 * 32) 0 = nib d ++ tl (lacks (nib d)) 0 := by rw [List.take_of_length_le (by omega)]; rfl
    have hl : (nib d).length = 64 := by rw [nib_len, hd]
    have hn := lacks_nib hd hb
    have hls := lacks_spec (nib d) (by omega)
    rw [hl] at hls
    simp -implicitDefEqProofs (disch := omega) only [go_sem, ↓reduceIte, e1]
    refine callB hls ?_ ?_
    · simp -implicitDefEqProofs (disch := omega) only [go_sem, ↓reduceIte, List.drop_zero, List.take_left' hl]
    simp -implicitDefEqProofs (disch := omega) only [go_sem, ↓reduceIte]
    refine loop (ι := Nat) 3 (fun c => c ≤ 3) (fun c => [(7, .int .i64 (66 - c)), (6, .int .i64 (dn (lacks (nib d)) c)), (3, .ref 2 []), (2, .ref 1 [])]) (fun c => [(1, .var (.ints .i64 67 (List.replicate 67 0))), (2, .var (.ints .i64 67 (nib d ++ tl (lacks (nib d)) c)))]) (fun c => 3 - c) 0 [(1, 1), (2, 2)] [] (Nat.zero_le _) rfl ?_ ?_ ?_ (fun c hc => ?_)
    · simp -implicitDefEqProofs (disch := omega) only [go_sem, ↓reduceIte]
    · simp -implicitDefEqProofs (disch := omega) only [go_sem, ↓reduceIte, dn]
    · simp -implicitDefEqProofs (disch := omega) only [go_sem, ↓reduceIte]
    have st : ∀ (t : List Int) (i : Nat) (x : Int), (nib d ++ t).set (64 + i) x = nib d ++ t.set i x := set_tail hl
    have s0 := st [0, 0, 0] 2 (lacks (nib d) % 16)
    have s1 := st [0, 0, lacks (nib d) % 16] 1 (lacks (nib d) / 16 % 16)
    have s2 := st [0, lacks (nib d) / 16 % 16, lacks (nib d) % 16] 0 (lacks (nib d) / 16 / 16 % 16)
    have m : ∀ x : Int, 0 ≤ x → x < 1000 → iand .i64 x 15 = x % 16 := fun x h0 h1 => iand_mask 4 (by decide) (by decide) h0 (Int.lt_trans h1 (by decide))
    have r : ∀ x : Int, ishr .i64 x 4 = x / 16 := fun x => ishr_div _ _ 4 (by decide)
    have hdg : digs d = nib d ++ tl (lacks (nib d)) 3 := rfl
    generalize lacks (nib d) = N at *
    rcases (by omega : c = 0 ∨ c = 1 ∨ c = 2 ∨ c = 3) with rfl | rfl | rfl | rfl
    · simp -implicitDefEqProofs (disch := omega) only [go_sem, ↓reduceIte, dn, tl, m, r]
      refine ⟨1, [(1, 1), (2, 2)], [], [], by dsimp only; omega, by dsimp only; omega, rfl, ?_, ?_, ?_⟩ <;> simp -implicitDefEqProofs (disch := omega) only [go_sem, ↓reduceIte, tl, dn, s0]
    · simp -implicitDefEqProofs (disch := omega) only [go_sem, ↓reduceIte, dn, tl, m, r]
      refine ⟨2, [(1, 1), (2, 2)], [], [], by dsimp only; omega, by dsimp only; omega, rfl, ?_, ?_, ?_⟩ <;> simp -implicitDefEqProofs (disch := omega) only [go_sem, ↓reduceIte, tl, dn, s1]
    · simp -implicitDefEqProofs (disch := omega) only [go_sem, ↓reduceIte, dn, tl, m, r]
      refine ⟨3, [(1, 1), (2, 2)], [], [], by dsimp only; omega, by dsimp only; omega, rfl, ?_, ?_, ?_⟩ <;> simp -implicitDefEqProofs (disch := omega) only [go_sem, ↓reduceIte, tl, dn, s2]
    · simp -implicitDefEqProofs (disch := omega) only [go_sem, ↓reduceIte, dn, tl, m, r]
      rw [hdg]; rfl
theorem digs_mem {d : List Int} (hb : ∀ x ∈ d, 0 ≤ x ∧ x < 256) : ∀ x ∈ digs d, 0 ≤ x ∧ x < 16 := by
  intro x hx
  simp only [digs, tl, List.mem_append, List.mem_cons, List.not_mem_nil, or_false] at hx
  rcases hx with hx | hx | hx | hx
  · exact nib_mem hb x hx
  · omega
  · omega
  · omega
theorem digs_len {d : List Int} (hd : d.length = 32) : (digs d).length = 67 := by
  simp [digs, tl, nib_len, hd]
end Go.Proofs.YtololahjocfbeaaGreat
