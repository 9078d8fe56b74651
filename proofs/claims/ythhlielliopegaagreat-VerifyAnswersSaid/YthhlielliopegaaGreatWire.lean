/- The contracts of the package wire and of planchetref20: texts. -/
import Derived.Test.YthhlielliopegaaGreatSig
namespace Go.Proofs.YthhlielliopegaaGreat
open Go Go.Sy Go.Proofs.Tryz
set_option maxRecDepth 100000
set_option maxHeartbeats 8000000
set_option linter.unusedSimpArgs false
set_option linter.unusedVariables false
attribute [go_sem] pl14 pl15 pl45 pl46 pl78 pl79
def nums (l : List Int) : List Int := l.flatMap fun x => be (IntKind.u64.wrap x) 8
def dcat (ps : List (List Int)) : List Int := ps.flatMap id
theorem u64_range (x : Int) : 0 ≤ IntKind.u64.wrap x ∧ IntKind.u64.wrap x < 18446744073709551616 := by rw [u64_mod]; omega
theorem nums_succ {l : List Int} {i : Nat} (h : i < l.length) : nums (l.take (i + 1)) = nums (l.take i) ++ be (IntKind.u64.wrap (l.getD i 0)) 8 := by
  unfold nums
  rw [List.take_add_one, List.getElem?_eq_getElem h, List.flatMap_append]
  simp [List.getD, List.getElem?_eq_getElem h]
theorem dcat_succ {l : List (List Int)} {i : Nat} {d : List Int} (h : l[i]? = some d) : dcat (l.take (i + 1)) = dcat (l.take i) ++ d := by
  unfold dcat
  rw [List.take_add_one, h, List.flatMap_append]
  simp
theorem dcat_len {l : List (List Int)} (h : ∀ d ∈ l, d.length = 32) : (dcat l).length = 32 * l.length := by
  induction l with
  | nil => rfl
  | cons d l ih =>
    have := ih (fun x hx => h x (by simp [hx]))
    simp only [dcat, List.flatMap_cons, List.length_append, id, List.length_cons, h d (by simp)] at this ⊢
    omega
theorem numbers_spec (l xs : List Int) (k n : Nat) (hk : l.length = k) (hl : k ≤ 1000) (hn : n ≤ 1000000) :
    FnC Tryz.prog 78 [.ref 0 [], .sl (.ints .i64 k l)] [(0, .var (.agg [.osl 1 [] 1 0 n])), (1, .row (.ints .u8 n xs))] (.ref 0 [])
      [(0, .var (.agg [.osl 1 [] 1 0 (n + 8 * k)])), (1, .row (.ints .u8 (n + 8 * k) (xs ++ nums l)))] := by
  refine fnV mix pl78 1 2 2 [.tmp 4] Tryz.func78 rfl (by kernel_rfl) (by kernel_rfl) rfl (by kernel_rfl) (by kernel_rfl) (by simp) rfl rfl ?_
  simp (implicitDefEqProofs := false) (disch := omega) only [go_sem, ↓reduceIte]
  refine loop (ι := Nat) 2 (fun i => i ≤ k) (fun i => [(0, .ref 0 []), (7, .sl (.ints .i64 k l)), (8, .int .i64 k), (9, .int .i64 i)]) (fun i => [(0, .var (.agg [.osl 1 [] 1 0 (n + 8 * i)])), (1, .row (.ints .u8 (n + 8 * i) (xs ++ nums (l.take i))))]) (fun i => k - i) 0 [(0, 0), (1, 1)] [] (Nat.zero_le _) rfl ?_ ?_ ?_ (fun i hi => ?_)
  · simp (implicitDefEqProofs := false) (disch := omega) only [go_sem, ↓reduceIte]
  · simp (implicitDefEqProofs := false) (disch := omega) only [go_sem, ↓reduceIte]
  · simp (implicitDefEqProofs := false) (disch := omega) only [go_sem, ↓reduceIte, nums, List.take_zero, List.flatMap_nil, Nat.mul_zero, List.append_nil]
  simp (implicitDefEqProofs := false) (disch := omega) only [go_sem, ↓reduceIte]
  refine brd (fun h => ?_) (fun h => ?_)
  · have hs := nums_succ (show i < l.length by omega)
    have e : n + 8 * i + 8 = n + 8 * (i + 1) := by omega
    simp (implicitDefEqProofs := false) (disch := omega) only [go_sem, ↓reduceIte]
    refine callF 1 (number_spec (IntKind.u64.wrap (l.getD i 0)) 8 8 rfl) ?_
    simp (implicitDefEqProofs := false) (disch := omega) only [go_sem, ↓reduceIte, e]
    refine ⟨i + 1, [(0, 0), (1, 3)], [], [], by dsimp only; omega, by dsimp only; omega, rfl, ?_, ?_, ?_⟩ <;> simp (implicitDefEqProofs := false) (disch := omega) only [go_sem, ↓reduceIte, hs, List.append_assoc]
  obtain rfl : i = k := by omega
  rw [List.take_of_length_le (by omega)]
  simp (implicitDefEqProofs := false) (disch := omega) only [go_sem, ↓reduceIte]
  refine ⟨[(0, 0), (1, 1)], [], [], rfl, ?_, ?_, ?_⟩ <;> simp (implicitDefEqProofs := false) (disch := omega) only [go_sem, ↓reduceIte]
theorem numbers_nil_spec (x : Int) : FnC Tryz.prog 78 [.ref 0 [], .sl (.ints .i64 1 [x])] [(0, .var (.agg [.nils]))] (.ref 0 []) [(0, .var (.agg [.osl 1 [] 1 0 8])), (1, .row (.ints .u8 8 (nums [x])))] := by
  have e : nums [x] = be (IntKind.u64.wrap x) 8 := by simp [nums]
  refine fnN mix pl78 1 2 [.tmp 4] Tryz.func78 rfl (by kernel_rfl) (by kernel_rfl) rfl (by kernel_rfl) (by kernel_rfl) (by simp) ?_
  simp (implicitDefEqProofs := false) (disch := omega) only [go_sem, ↓reduceIte]
  refine loop (ι := Nat) 2 (fun i => i ≤ 1) (fun i => [(0, .ref 0 []), (7, .sl (.ints .i64 1 [x])), (8, .int .i64 1), (9, .int .i64 i)]) (fun i => [(0, .var (.agg [.osl 1 [] 1 0 (8 * i)])), (1, .row (.ints .u8 (8 * i) (nums ([x].take i))))]) (fun i => 1 - i) 0 [(0, 0)] [1] (Nat.zero_le _) rfl ?_ ?_ ?_ (fun i hi => ?_)
  · simp (implicitDefEqProofs := false) (disch := omega) only [go_sem, ↓reduceIte]
  · simp (implicitDefEqProofs := false) (disch := omega) only [go_sem, ↓reduceIte]
  · simp (implicitDefEqProofs := false) (disch := omega) only [go_sem, ↓reduceIte, nums, List.take_zero, List.flatMap_nil, Nat.mul_zero]
  simp (implicitDefEqProofs := false) (disch := omega) only [go_sem, ↓reduceIte]
  refine brd (fun h => ?_) (fun h => ?_)
  · obtain rfl : i = 0 := by omega
    simp (implicitDefEqProofs := false) (disch := omega) only [go_sem, ↓reduceIte]
    refine callF 1 (number_spec (IntKind.u64.wrap ([x].getD 0 0)) 8 8 rfl) ?_
    simp (implicitDefEqProofs := false) (disch := omega) only [go_sem, ↓reduceIte]
    refine ⟨0 + 1, [(0, 0), (1, 3)], [], [], by dsimp only; omega, by dsimp only; omega, rfl, ?_, ?_, ?_⟩ <;> simp (implicitDefEqProofs := false) (disch := omega) only [go_sem, ↓reduceIte, nums, List.flatMap_cons, List.flatMap_nil, Nat.mul_zero]
  obtain rfl : i = 1 := by omega
  simp (implicitDefEqProofs := false) (disch := omega) only [go_sem, ↓reduceIte]
  refine ⟨[(0, 0), (1, 1)], [], [], rfl, ?_, ?_, ?_⟩ <;> simp (implicitDefEqProofs := false) (disch := omega) only [go_sem, ↓reduceIte]
theorem digests_spec (ds : List (List Int)) (xs : List Int) (n k : Nat) (hk : ds.length = k) (hl : k ≤ 1000) (hn : n ≤ 1000000) :
    FnC Tryz.prog 79 [.ref 0 [], .sl (.lst 32 k (ds.map dg))] [(0, .var (.agg [.osl 1 [] 1 0 n])), (1, .row (.ints .u8 n xs))] (.ref 0 [])
      [(0, .var (.agg [.osl 1 [] 1 0 (n + 32 * k)])), (1, .row (.ints .u8 (n + 32 * k) (xs ++ dcat ds)))] := by
  refine fnV mix pl79 1 2 2 [.tmp 4] Tryz.func79 rfl (by kernel_rfl) (by kernel_rfl) rfl (by kernel_rfl) (by kernel_rfl) (by simp) rfl rfl ?_
  simp (implicitDefEqProofs := false) (disch := omega) only [go_sem, ↓reduceIte]
  refine loop (ι := Nat) 2 (fun i => i ≤ k) (fun i => [(0, .ref 0 []), (7, .sl (.lst 32 k (ds.map dg))), (8, .int .i64 k), (9, .int .i64 i)]) (fun i => [(0, .var (.agg [.osl 1 [] 1 0 (n + 32 * i)])), (1, .row (.ints .u8 (n + 32 * i) (xs ++ dcat (ds.take i))))]) (fun i => k - i) 0 [(0, 0), (1, 1)] [] (Nat.zero_le _) rfl ?_ ?_ ?_ (fun i hi => ?_)
  · simp (implicitDefEqProofs := false) (disch := omega) only [go_sem, ↓reduceIte]
  · simp (implicitDefEqProofs := false) (disch := omega) only [go_sem, ↓reduceIte]
  · simp (implicitDefEqProofs := false) (disch := omega) only [go_sem, ↓reduceIte, dcat, List.take_zero, List.flatMap_nil, Nat.mul_zero, List.append_nil]
  simp (implicitDefEqProofs := false) (disch := omega) only [go_sem, ↓reduceIte]
  refine brd (fun h => ?_) (fun h => ?_)
  · have hd := List.getElem?_eq_getElem (show i < ds.length by omega)
    have hg := fun K => getP_map (f := dg) hd K
    have hs := dcat_succ hd
    generalize ds[i]'(show i < ds.length by omega) = d at *
    have e : n + 32 * i + 32 = n + 32 * (i + 1) := by omega
    simp (implicitDefEqProofs := false) (disch := omega) only [go_sem, ↓reduceIte, hg, dg, e]
    refine ⟨i + 1, [(0, 0), (1, 3)], [], [], by dsimp only; omega, by dsimp only; omega, rfl, ?_, ?_, ?_⟩ <;> simp (implicitDefEqProofs := false) (disch := omega) only [go_sem, ↓reduceIte, hs, List.append_assoc]
  obtain rfl : i = k := by omega
  rw [List.take_of_length_le (by omega)]
  simp (implicitDefEqProofs := false) (disch := omega) only [go_sem, ↓reduceIte]
  refine ⟨[(0, 0), (1, 1)], [], [], rfl, ?_, ?_, ?_⟩ <;> simp (implicitDefEqProofs := false) (disch := omega) only [go_sem, ↓reduceIte]
theorem eight_spec (l xs : List Int) (k n : Nat) (hk : l.length = k) (hl : k ≤ 1000) (hn : n ≤ 1000000) :
    FnC Tryz.prog 42 [.osl 0 [] 1 0 n, .sl (.ints .i64 k l)] [(0, .row (.ints .u8 n xs))] (.osl 0 [] 1 0 (n + 8 * k)) [(0, .row (.ints .u8 (n + 8 * k) (xs ++ nums l)))] := by
  refine fnV mix [] 0 1 2 [.tmp 4] Tryz.func42 rfl (by kernel_rfl) (by kernel_rfl) rfl (by kernel_rfl) (by kernel_rfl) (by simp) rfl rfl ?_
  simp (implicitDefEqProofs := false) (disch := omega) only [go_sem, ↓reduceIte]
  refine loop (ι := Nat) 1 (fun i => i ≤ k) (fun i => [(0, .osl 0 [] 1 0 (n + 8 * i)), (1, .sl (.ints .i64 k l)), (5, .int .i64 i)]) (fun i => [(0, .row (.ints .u8 (n + 8 * i) (xs ++ nums (l.take i))))]) (fun i => k - i) 0 [(0, 0)] [] (Nat.zero_le _) rfl ?_ ?_ ?_ (fun i hi => ?_)
  · simp (implicitDefEqProofs := false) (disch := omega) only [go_sem, ↓reduceIte]
  · simp (implicitDefEqProofs := false) (disch := omega) only [go_sem, ↓reduceIte, Nat.mul_zero]
  · simp (implicitDefEqProofs := false) (disch := omega) only [go_sem, ↓reduceIte, nums, List.take_zero, List.flatMap_nil, Nat.mul_zero, List.append_nil]
  simp (implicitDefEqProofs := false) (disch := omega) only [go_sem, ↓reduceIte]
  refine brd (fun h => ?_) (fun h => ?_)
  · have hs := nums_succ (show i < l.length by omega)
    have e : n + 8 * i + 8 = n + 8 * (i + 1) := by omega
    simp (implicitDefEqProofs := false) (disch := omega) only [go_sem, ↓reduceIte]
    refine callF 1 (refnumber_spec (IntKind.u64.wrap (l.getD i 0)) 8 (by decide) (u64_range _).1 (u64_range _).2) ?_
    simp (implicitDefEqProofs := false) (disch := omega) only [go_sem, ↓reduceIte, e]
    refine ⟨i + 1, [(0, 2)], [], [], by dsimp only; omega, by dsimp only; omega, rfl, ?_, ?_, ?_⟩ <;> simp (implicitDefEqProofs := false) (disch := omega) only [go_sem, ↓reduceIte, hs, List.append_assoc]
  obtain rfl : i = k := by omega
  rw [List.take_of_length_le (by omega)]
  simp (implicitDefEqProofs := false) (disch := omega) only [go_sem, ↓reduceIte]
  refine ⟨[(0, 0)], [], [], rfl, ?_, ?_, ?_⟩ <;> simp (implicitDefEqProofs := false) (disch := omega) only [go_sem, ↓reduceIte]
theorem eight_nil_spec (x : Int) : FnC Tryz.prog 42 [.nils, .sl (.ints .i64 1 [x])] [] (.osl 0 [] 1 0 8) [(0, .row (.ints .u8 8 (nums [x])))] := by
  refine fnN mix [] 0 2 [.tmp 4] Tryz.func42 rfl (by kernel_rfl) (by kernel_rfl) rfl (by kernel_rfl) (by kernel_rfl) (by simp) ?_
  simp (implicitDefEqProofs := false) (disch := omega) only [go_sem, ↓reduceIte]
  refine loop (ι := Nat) 1 (fun i => i ≤ 1) (fun i => [(0, .osl 0 [] 1 0 (8 * i)), (1, .sl (.ints .i64 1 [x])), (5, .int .i64 i)]) (fun i => [(0, .row (.ints .u8 (8 * i) (nums ([x].take i))))]) (fun i => 1 - i) 0 [] [0] (Nat.zero_le _) rfl ?_ ?_ ?_ (fun i hi => ?_)
  · simp (implicitDefEqProofs := false) (disch := omega) only [go_sem, ↓reduceIte]
  · simp (implicitDefEqProofs := false) (disch := omega) only [go_sem, ↓reduceIte, Nat.mul_zero]
  · simp (implicitDefEqProofs := false) (disch := omega) only [go_sem, ↓reduceIte, nums, List.take_zero, List.flatMap_nil, Nat.mul_zero]
  simp (implicitDefEqProofs := false) (disch := omega) only [go_sem, ↓reduceIte]
  refine brd (fun h => ?_) (fun h => ?_)
  · obtain rfl : i = 0 := by omega
    simp (implicitDefEqProofs := false) (disch := omega) only [go_sem, ↓reduceIte]
    refine callF 1 (refnumber_spec (IntKind.u64.wrap ([x].getD 0 0)) 8 (by decide) (u64_range _).1 (u64_range _).2) ?_
    simp (implicitDefEqProofs := false) (disch := omega) only [go_sem, ↓reduceIte]
    refine ⟨0 + 1, [(0, 2)], [], [], by dsimp only; omega, by dsimp only; omega, rfl, ?_, ?_, ?_⟩ <;> simp (implicitDefEqProofs := false) (disch := omega) only [go_sem, ↓reduceIte, nums, List.flatMap_cons, List.flatMap_nil, Nat.mul_zero]
  obtain rfl : i = 1 := by omega
  simp (implicitDefEqProofs := false) (disch := omega) only [go_sem, ↓reduceIte]
  refine ⟨[(0, 0)], [], [], rfl, ?_, ?_, ?_⟩ <;> simp (implicitDefEqProofs := false) (disch := omega) only [go_sem, ↓reduceIte]
theorem all_spec20 (ds : List (List Int)) (xs : List Int) (n k : Nat) (hk : ds.length = k) (hl : k ≤ 1000) (hn : n ≤ 1000000) :
    FnC Tryz.prog 41 [.osl 0 [] 1 0 n, .sl (.lst 32 k (ds.map dg))] [(0, .row (.ints .u8 n xs))] (.osl 0 [] 1 0 (n + 32 * k)) [(0, .row (.ints .u8 (n + 32 * k) (xs ++ dcat ds)))] := by
  refine fnV mix [] 0 1 2 [.tmp 4] Tryz.func41 rfl (by kernel_rfl) (by kernel_rfl) rfl (by kernel_rfl) (by kernel_rfl) (by simp) rfl rfl ?_
  simp (implicitDefEqProofs := false) (disch := omega) only [go_sem, ↓reduceIte]
  refine loop (ι := Nat) 1 (fun i => i ≤ k) (fun i => [(0, .osl 0 [] 1 0 (n + 32 * i)), (1, .sl (.lst 32 k (ds.map dg))), (5, .int .i64 i)]) (fun i => [(0, .row (.ints .u8 (n + 32 * i) (xs ++ dcat (ds.take i))))]) (fun i => k - i) 0 [(0, 0)] [] (Nat.zero_le _) rfl ?_ ?_ ?_ (fun i hi => ?_)
  · simp (implicitDefEqProofs := false) (disch := omega) only [go_sem, ↓reduceIte]
  · simp (implicitDefEqProofs := false) (disch := omega) only [go_sem, ↓reduceIte, Nat.mul_zero]
  · simp (implicitDefEqProofs := false) (disch := omega) only [go_sem, ↓reduceIte, dcat, List.take_zero, List.flatMap_nil, Nat.mul_zero, List.append_nil]
  simp (implicitDefEqProofs := false) (disch := omega) only [go_sem, ↓reduceIte]
  refine brd (fun h => ?_) (fun h => ?_)
  · have hd := List.getElem?_eq_getElem (show i < ds.length by omega)
    have hg := fun K => getP_map (f := dg) hd K
    have hs := dcat_succ hd
    generalize ds[i]'(show i < ds.length by omega) = d at *
    have e : n + 32 * i + 32 = n + 32 * (i + 1) := by omega
    simp (implicitDefEqProofs := false) (disch := omega) only [go_sem, ↓reduceIte, hg, dg, e]
    refine ⟨i + 1, [(0, 1)], [], [], by dsimp only; omega, by dsimp only; omega, rfl, ?_, ?_, ?_⟩ <;> simp (implicitDefEqProofs := false) (disch := omega) only [go_sem, ↓reduceIte, hs, List.append_assoc]
  obtain rfl : i = k := by omega
  rw [List.take_of_length_le (by omega)]
  simp (implicitDefEqProofs := false) (disch := omega) only [go_sem, ↓reduceIte]
  refine ⟨[(0, 0)], [], [], rfl, ?_, ?_, ?_⟩ <;> simp (implicitDefEqProofs := false) (disch := omega) only [go_sem, ↓reduceIte]
def headT (key epoch : Int) (tree log : List Int) : List Int := 1 :: (nums [key, epoch] ++ dcat [tree, log])
def epochT (epoch : Int) (tree : List Int) : List Int := nums [epoch] ++ dcat [tree]
def keyT (key a b : Int) (root pub : List Int) : List Int := 2 :: (nums [key, a, b] ++ dcat [root, pub])
theorem headText_spec (key epoch : Int) (tree log : List Int) : FnC Tryz.prog 45 [.agg [.int .i64 key, .int .i64 epoch, .ints .u8 32 tree, .ints .u8 32 log]] [] (.osl 0 [] 1 0 81) [(0, .row (.ints .u8 81 (headT key epoch tree log)))] := by
  refine fnN mix pl45 0 1 [.tmp 2] Tryz.func45 rfl (by kernel_rfl) (by kernel_rfl) rfl (by kernel_rfl) (by kernel_rfl) (by simp) ?_
  simp (implicitDefEqProofs := false) (disch := omega) only [go_sem, ↓reduceIte]
  refine callGB [(0, 2), (1, 1)] [(0, 2), (1, 4)] 5 (numbers_spec [key, epoch] [1] 2 1 rfl (by decide) (by decide)) ?_ ?_
  · simp [keys]
  simp (implicitDefEqProofs := false) (disch := omega) only [go_sem, ↓reduceIte]
  refine callGB [(0, 2), (1, 4)] [(0, 2), (1, 6)] 7 (digests_spec [tree, log] ([1] ++ nums [key, epoch]) 17 2 rfl (by decide) (by decide)) ?_ ?_
  · simp [keys]
  simp (implicitDefEqProofs := false) (disch := omega) only [go_sem, ↓reduceIte, dg]
  refine ⟨[(0, 6)], [], [], rfl, ?_, ?_, ?_⟩ <;> simp (implicitDefEqProofs := false) (disch := omega) only [go_sem, ↓reduceIte, headT]
theorem keyText_spec (key a b : Int) (root pub : List Int) : FnC Tryz.prog 46 [.int .i64 key, .agg [.agg [.int .i64 a, .int .i64 b], .ints .u8 32 root, .ints .u8 32 pub]] [] (.osl 0 [] 1 0 89) [(0, .row (.ints .u8 89 (keyT key a b root pub)))] := by
  refine fnN mix pl46 0 2 [.tmp 4] Tryz.func46 rfl (by kernel_rfl) (by kernel_rfl) rfl (by kernel_rfl) (by kernel_rfl) (by simp) ?_
  simp (implicitDefEqProofs := false) (disch := omega) only [go_sem, ↓reduceIte]
  refine callGB [(0, 2), (1, 1)] [(0, 2), (1, 4)] 5 (numbers_spec [key, a, b] [2] 3 1 rfl (by decide) (by decide)) ?_ ?_
  · simp [keys]
  simp (implicitDefEqProofs := false) (disch := omega) only [go_sem, ↓reduceIte]
  refine callGB [(0, 2), (1, 4)] [(0, 2), (1, 6)] 7 (digests_spec [root, pub] ([2] ++ nums [key, a, b]) 25 2 rfl (by decide) (by decide)) ?_ ?_
  · simp [keys]
  simp (implicitDefEqProofs := false) (disch := omega) only [go_sem, ↓reduceIte, dg]
  refine ⟨[(0, 6)], [], [], rfl, ?_, ?_, ?_⟩ <;> simp (implicitDefEqProofs := false) (disch := omega) only [go_sem, ↓reduceIte, keyT]
theorem refheadText_spec (key epoch : Int) (tree log : List Int) : FnC Tryz.prog 14 [.int .i64 key, .int .i64 epoch, .ints .u8 32 tree, .ints .u8 32 log] [] (.osl 0 [] 1 0 81) [(0, .row (.ints .u8 81 (headT key epoch tree log)))] := by
  refine fnN mix pl14 0 4 [.tmp 8] Tryz.func14 rfl (by kernel_rfl) (by kernel_rfl) rfl (by kernel_rfl) (by kernel_rfl) (by simp) ?_
  simp (implicitDefEqProofs := false) (disch := omega) only [go_sem, ↓reduceIte]
  refine callGB [(0, 2)] [(0, 4)] 5 (eight_spec [key, epoch] [1] 2 1 rfl (by decide) (by decide)) ?_ ?_
  · simp [keys]
  simp (implicitDefEqProofs := false) (disch := omega) only [go_sem, ↓reduceIte]
  refine callGB [(0, 4)] [(0, 6)] 7 (all_spec20 [tree, log] ([1] ++ nums [key, epoch]) 17 2 rfl (by decide) (by decide)) ?_ ?_
  · simp [keys]
  simp (implicitDefEqProofs := false) (disch := omega) only [go_sem, ↓reduceIte, dg]
  refine ⟨[(0, 6)], [], [], rfl, ?_, ?_, ?_⟩ <;> simp (implicitDefEqProofs := false) (disch := omega) only [go_sem, ↓reduceIte, headT]
theorem refkeyText_spec (key a b : Int) (root pub : List Int) : FnC Tryz.prog 15 [.int .i64 key, .agg [.agg [.int .i64 a, .int .i64 b], .ints .u8 32 root, .ints .u8 32 pub]] [] (.osl 0 [] 1 0 89) [(0, .row (.ints .u8 89 (keyT key a b root pub)))] := by
  refine fnN mix pl15 0 2 [.tmp 4] Tryz.func15 rfl (by kernel_rfl) (by kernel_rfl) rfl (by kernel_rfl) (by kernel_rfl) (by simp) ?_
  simp (implicitDefEqProofs := false) (disch := omega) only [go_sem, ↓reduceIte]
  refine callGB [(0, 1)] [(0, 3)] 4 (eight_spec [key, a, b] [2] 3 1 rfl (by decide) (by decide)) ?_ ?_
  · simp [keys]
  simp (implicitDefEqProofs := false) (disch := omega) only [go_sem, ↓reduceIte]
  refine callGB [(0, 3)] [(0, 5)] 6 (all_spec20 [root, pub] ([2] ++ nums [key, a, b]) 25 2 rfl (by decide) (by decide)) ?_ ?_
  · simp [keys]
  simp (implicitDefEqProofs := false) (disch := omega) only [go_sem, ↓reduceIte, dg]
  refine ⟨[(0, 5)], [], [], rfl, ?_, ?_, ?_⟩ <;> simp (implicitDefEqProofs := false) (disch := omega) only [go_sem, ↓reduceIte, keyT]
/-! Signatures: written and read. -/
def putP (ps : List Part) : List Int := ps.flatMap fun p => dcat p.1 ++ dcat p.2
def putD (i : Int) (r : List Int) (ps : List Part) : List Int := nums [i] ++ r ++ putP ps
theorem putP_succ {l : List Part} {i : Nat} {p : Part} (h : l[i]? = some p) : putP (l.take (i + 1)) = putP (l.take i) ++ (dcat p.1 ++ dcat p.2) := by
  unfold putP
  rw [List.take_add_one, h, List.flatMap_append]
  simp
def plen (ps : List Part) : Nat := ps.foldl (fun n p => n + 32 * p.1.length + 32 * p.2.length) 0
theorem plen_succ {l : List Part} {i : Nat} {p : Part} (h : l[i]? = some p) : plen (l.take (i + 1)) = plen (l.take i) + 32 * p.1.length + 32 * p.2.length := by
  unfold plen
  rw [List.take_add_one, h, List.foldl_append]
  rfl
theorem formed_bounds {a b i : Int} {ps : List Part} (h : formedP a b i ps) : ps.length ≤ 4 ∧ (∀ p ∈ ps, p.1.length = 67 ∧ p.2.length ≤ 4) ∧ i < 65536 := by
  have hm := manyD_le a b
  have hr : rightP a b := by
    apply Classical.byContradiction
    intro hn
    have e : manyD a b = 0 := if_neg hn
    have := h.1
    have := h.2.1
    omega
  obtain ⟨_, r2, _, r4⟩ := hr
  refine ⟨by have := h.2.2.1; omega, fun p hp => ⟨(h.2.2.2 p hp).1, by have := (h.2.2.2 p hp).2; omega⟩, by have := h.2.1; omega⟩
theorem plen_le {ps : List Part} (h : ∀ p ∈ ps, p.1.length = 67 ∧ p.2.length ≤ 4) : ∀ k, plen (ps.take k) ≤ 2272 * k
  | 0 => by simp [plen]
  | k + 1 => by
    have := plen_le h k
    by_cases hk : k < ps.length
    · have hp := List.getElem?_eq_getElem hk
      have := h _ (List.getElem_mem hk)
      rw [plen_succ hp]; omega
    · rw [List.take_of_length_le (by omega)] at this ⊢
      omega
end Go.Proofs.YthhlielliopegaaGreat
