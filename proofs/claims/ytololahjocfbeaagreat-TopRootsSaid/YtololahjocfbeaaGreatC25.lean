/- Texts, joined. -/
import Derived.Test.YtololahjocfbeaaGreatC23
import Derived.Test.YtololahjocfbeaaGreatC24
namespace Go.Proofs.YtololahjocfbeaaGreat
open Go Go.Sy Go.Proofs.Tryz
set_option maxRecDepth 100000
set_option maxHeartbeats 8000000
set_option linter.unusedSimpArgs false
set_option linter.unusedVariables false
attribute [go_sem] pl219 pl234 pl261
def rowN (f : Nat → List Int) (n : Nat) : List (List Int) := (List.range n).map f
theorem rowN_len (f : Nat → List Int) (n : Nat) : (rowN f n).length = n := by simp [rowN]
theorem rowN_succ (f : Nat → List Int) (n : Nat) : rowN f (n + 1) = rowN f n ++ [f n] := by simp [rowN, List.range_succ]
theorem rowN_at (f : Nat → List Int) {n i : Nat} (h : i < n) : (rowN f n)[i]? = some (f i) := by simp [rowN, h]
theorem rowN_congr {f g : Nat → List Int} {n : Nat} (h : ∀ i, i < n → f i = g i) : rowN f n = rowN g n := List.map_congr_left fun i hi => h i (List.mem_range.1 hi)
theorem rowN_good {f : Nat → List Int} {n : Nat} (h : ∀ i, i < n → goodD (f i)) : ∀ d ∈ rowN f n, goodD d := by
  intro d hd
  obtain ⟨i, hi, rfl⟩ := List.mem_map.1 hd
  exact h i (List.mem_range.1 hi)
theorem rowN_getD (f : Nat → List Int) {n i : Nat} (h : i < n) : (rowN f n).getD i [] = f i := by simp [List.getD, rowN_at f h]
def secD (seed ws : List Int) (i : Nat) : List Int := ofD 3 seed (bytesA (adrL ws i 0))
theorem secD_good (seed ws : List Int) (i : Nat) : goodD (secD seed ws i) := ofD_good _ _ _
theorem runD_good {x : List Int} (h : goodD x) (pub ws : List Int) (i : Int) (n : Nat) : goodD (runD pub ws x i n) := ⟨runD_len h.1 _ _ _ _, runD_mem h.2 _ _ _ _⟩
def pubD (seed pub ws : List Int) (i : Nat) : List Int := runD pub (adrL ws i 0) (secD seed ws i) 0 15
def dgt (m : List Int) (i : Nat) : Nat := ((digs m).getD i 0).toNat
def signD (m seed pub ws : List Int) (i : Nat) : List Int := runD pub (adrL ws i 0) (secD seed ws i) 0 (dgt m i)
def leadD (l : List (List Int)) (m pub ws : List Int) (i : Nat) : List Int := runD pub (adrL ws i 0) (l.getD i []) (dgt m i) (15 - dgt m i)
theorem dgt_int {m : List Int} (hm : goodD m) {i : Nat} (h : i < 67) : (digs m).getD i 0 = (dgt m i : Int) ∧ dgt m i ≤ 15 := by
  have hl := digs_len hm.1
  have hx := getD_all' (digs_mem hm.2) (show i < (digs m).length by omega)
  unfold dgt
  omega
theorem pubD_good (seed pub ws : List Int) (i : Nat) : goodD (pubD seed pub ws i) := runD_good (secD_good _ _ _) _ _ _ _
theorem signD_good (m seed pub ws : List Int) (i : Nat) : goodD (signD m seed pub ws i) := runD_good (secD_good _ _ _) _ _ _ _
theorem lead_sign {m : List Int} (hm : goodD m) (seed pub ws : List Int) {i : Nat} (h : i < 67) : leadD (rowN (signD m seed pub ws) 67) m pub ws i = pubD seed pub ws i := by
  have hd := (dgt_int hm h).2
  have j := runD_join pub (adrL ws i 0) (secD seed ws i) 0 (dgt m i) (15 - dgt m i)
  unfold leadD pubD
  rw [rowN_getD _ h, signD]
  rw [Int.zero_add] at j
  rw [j]
  congr 1; omega
theorem wrun_spec (x pub ws : List Int) (a b : Nat) (hab : a ≤ b) (hb : b ≤ 15) (hx : goodD x) (hp : goodD pub) (hw : goodW ws) : FnC Tryz.prog 220 [.ints .u8 32 x, .int .i64 a, .int .i64 b, .ints .u8 32 pub, .ints .u32 8 ws] [] (.ints .u8 32 (runD pub ws x a (b - a))) [] := by
  have h := run_spec x pub ws a (b - a) (by omega) (by omega) hx.1 hx.2 hp.1 hp.2 hw.1 hw.2
  have e : (b : Int) - a = ((b - a : Nat) : Int) := by omega
  refine fn0 mix [] 0 5 [.cell 10 25] Tryz.func220 rfl (by kernel_rfl) (by kernel_rfl) rfl (by kernel_rfl) (by kernel_rfl) (by simp) ?_
  simp -implicitDefEqProofs (disch := omega) only [go_sem, ↓reduceIte]
  rw [e]
  refine call0 h ?_
  simp -implicitDefEqProofs (disch := omega) only [go_sem, ↓reduceIte]
theorem each2_spec (ws seed pub : List Int) (f : Nat → List Int) (hf : ∀ i : Nat, i < 67 → FnC Tryz.prog 261 [.int .i64 i, .ints .u32 8 (adrL ws i 0), .ref 0 [], .ref 1 []] [(0, .var (.ints .u8 32 seed)), (1, .var (.ints .u8 32 pub))] (.ints .u8 32 (f i)) [(0, .var (.ints .u8 32 seed)), (1, .var (.ints .u8 32 pub))]) :
    FnC Tryz.prog 218 [.ints .u32 8 ws, .fn (.func 261) [.ref 0 [], .ref 1 []]] [(0, .var (.ints .u8 32 seed)), (1, .var (.ints .u8 32 pub))] (.osl 2 [] 32 0 67) [(0, .var (.ints .u8 32 seed)), (1, .var (.ints .u8 32 pub)), (2, .row (.lst 32 67 ((rowN f 67).map dg)))] := by
  refine fnN mix [] 2 2 [.tmp 4] Tryz.func218 rfl (by kernel_rfl) (by kernel_rfl) rfl (by kernel_rfl) (by kernel_rfl) (by simp) ?_
  simp -implicitDefEqProofs (disch := omega) only [go_sem, ↓reduceIte]
  refine loop (ι := Nat) 4 (fun i => i ≤ 67) (fun i => [(1, .fn (.func 261) [.ref 0 [], .ref 1 []]), (2, .ref 2 []), (5, .osl 3 [] 32 0 67), (9, .int .i64 67), (10, .int .i64 i)])
    (fun i => [(0, .var (.ints .u8 32 seed)), (1, .var (.ints .u8 32 pub)), (2, .var (.ints .u32 8 ws)), (3, .row (.lst 32 67 ((rowN f i ++ List.replicate (67 - i) z32').map dg)))]) (fun i => 67 - i) 0 [(0, 0), (1, 1), (2, 2), (3, 3)] [] (Nat.zero_le _) rfl ?_ ?_ ?_ (fun i hi => ?_)
  · simp -implicitDefEqProofs (disch := omega) only [go_sem, ↓reduceIte]
  · simp -implicitDefEqProofs (disch := omega) only [go_sem, ↓reduceIte]
  · simp -implicitDefEqProofs (disch := omega) only [go_sem, ↓reduceIte, rowN, List.range_zero, List.map_replicate, dg, z32']
  simp -implicitDefEqProofs (disch := omega) only [go_sem, ↓reduceIte]
  refine brd (fun h => ?_) (fun h => ?_)
  · have hcl := rowN_len f i
    have hle : ((rowN f i ++ List.replicate (67 - i) z32').map dg).length = 67 := by simp [hcl]; omega
    have hgi : (rowN f i ++ List.replicate (67 - i) z32')[i]? = some z32' := by
      rw [List.getElem?_append_right (by omega), hcl, Nat.sub_self, List.getElem?_replicate, if_pos (by omega)]
    have hg := fun K => getP_map (f := dg) hgi K
    have hset : ((rowN f i ++ List.replicate (67 - i) z32').map dg).set i (.ints .u8 32 (f i)) = (rowN f (i + 1) ++ List.replicate (67 - (i + 1)) z32').map dg := by
      rw [rowN_succ, ← set_mid' (rowN f i) z32' (f i) (67 - (i + 1)) i hcl, show 67 - (i + 1) + 1 = 67 - i by omega, List.map_set]
      rfl
    have hs : ((ws.set 5 i).set 6 0).set 7 0 = adrL ws i 0 := rfl
    simp -implicitDefEqProofs (disch := omega) only [go_sem, ↓reduceIte]
    refine call0 (at_spec ws i 0) ?_
    rw [hs]
    simp -implicitDefEqProofs (disch := omega) only [go_sem, ↓reduceIte]
    refine callG false [(0, 0), (1, 1)] [(0, 0), (1, 1)] 4 (hf i (by omega)) ?_ ?_
    · simp [keys]
    simp -implicitDefEqProofs (disch := omega) only [go_sem, ↓reduceIte, hle, hg, dg, hset]
    refine ⟨i + 1, [(0, 0), (1, 1), (2, 2), (3, 3)], [], [], by dsimp only; omega, by dsimp only; omega, rfl, ?_, ?_, ?_⟩ <;> simp -implicitDefEqProofs (disch := omega) only [go_sem, ↓reduceIte]
  obtain rfl : i = 67 := by omega
  simp -implicitDefEqProofs (disch := omega) only [go_sem, ↓reduceIte]
  refine ⟨[(0, 0), (1, 1), (2, 3)], [], [], rfl, ?_, ?_, ?_⟩ <;> simp -implicitDefEqProofs (disch := omega) only [go_sem, ↓reduceIte, Nat.sub_self, List.append_nil]
theorem each3_spec (ws seed dl pub : List Int) (f : Nat → List Int) (hf : ∀ i : Nat, i < 67 → FnC Tryz.prog 234 [.int .i64 i, .ints .u32 8 (adrL ws i 0), .ref 0 [], .ref 1 [], .ref 2 []] [(0, .var (.ints .u8 32 seed)), (1, .var (.ints .i64 67 dl)), (2, .var (.ints .u8 32 pub))] (.ints .u8 32 (f i)) [(0, .var (.ints .u8 32 seed)), (1, .var (.ints .i64 67 dl)), (2, .var (.ints .u8 32 pub))]) :
    FnC Tryz.prog 218 [.ints .u32 8 ws, .fn (.func 234) [.ref 0 [], .ref 1 [], .ref 2 []]] [(0, .var (.ints .u8 32 seed)), (1, .var (.ints .i64 67 dl)), (2, .var (.ints .u8 32 pub))] (.osl 3 [] 32 0 67) [(0, .var (.ints .u8 32 seed)), (1, .var (.ints .i64 67 dl)), (2, .var (.ints .u8 32 pub)), (3, .row (.lst 32 67 ((rowN f 67).map dg)))] := by
  refine fnN mix [] 3 2 [.tmp 4] Tryz.func218 rfl (by kernel_rfl) (by kernel_rfl) rfl (by kernel_rfl) (by kernel_rfl) (by simp) ?_
  simp -implicitDefEqProofs (disch := omega) only [go_sem, ↓reduceIte]
  refine loop (ι := Nat) 5 (fun i => i ≤ 67) (fun i => [(1, .fn (.func 234) [.ref 0 [], .ref 1 [], .ref 2 []]), (2, .ref 3 []), (5, .osl 4 [] 32 0 67), (9, .int .i64 67), (10, .int .i64 i)])
    (fun i => [(0, .var (.ints .u8 32 seed)), (1, .var (.ints .i64 67 dl)), (2, .var (.ints .u8 32 pub)), (3, .var (.ints .u32 8 ws)), (4, .row (.lst 32 67 ((rowN f i ++ List.replicate (67 - i) z32').map dg)))]) (fun i => 67 - i) 0 [(0, 0), (1, 1), (2, 2), (3, 3), (4, 4)] [] (Nat.zero_le _) rfl ?_ ?_ ?_ (fun i hi => ?_)
  · simp -implicitDefEqProofs (disch := omega) only [go_sem, ↓reduceIte]
  · simp -implicitDefEqProofs (disch := omega) only [go_sem, ↓reduceIte]
  · simp -implicitDefEqProofs (disch := omega) only [go_sem, ↓reduceIte, rowN, List.range_zero, List.map_replicate, dg, z32']
  simp -implicitDefEqProofs (disch := omega) only [go_sem, ↓reduceIte]
  refine brd (fun h => ?_) (fun h => ?_)
  · have hcl := rowN_len f i
    have hle : ((rowN f i ++ List.replicate (67 - i) z32').map dg).length = 67 := by simp [hcl]; omega
    have hgi : (rowN f i ++ List.replicate (67 - i) z32')[i]? = some z32' := by
      rw [List.getElem?_append_right (by omega), hcl, Nat.sub_self, List.getElem?_replicate, if_pos (by omega)]
    have hg := fun K => getP_map (f := dg) hgi K
    have hset : ((rowN f i ++ List.replicate (67 - i) z32').map dg).set i (.ints .u8 32 (f i)) = (rowN f (i + 1) ++ List.replicate (67 - (i + 1)) z32').map dg := by
      rw [rowN_succ, ← set_mid' (rowN f i) z32' (f i) (67 - (i + 1)) i hcl, show 67 - (i + 1) + 1 = 67 - i by omega, List.map_set]
      rfl
    have hs : ((ws.set 5 i).set 6 0).set 7 0 = adrL ws i 0 := rfl
    simp -implicitDefEqProofs (disch := omega) only [go_sem, ↓reduceIte]
    refine call0 (at_spec ws i 0) ?_
    rw [hs]
    simp -implicitDefEqProofs (disch := omega) only [go_sem, ↓reduceIte]
    refine callG false [(0, 0), (1, 1), (2, 2)] [(0, 0), (1, 1), (2, 2)] 5 (hf i (by omega)) ?_ ?_
    · simp [keys]
    simp -implicitDefEqProofs (disch := omega) only [go_sem, ↓reduceIte, hle, hg, dg, hset]
    refine ⟨i + 1, [(0, 0), (1, 1), (2, 2), (3, 3), (4, 4)], [], [], by dsimp only; omega, by dsimp only; omega, rfl, ?_, ?_, ?_⟩ <;> simp -implicitDefEqProofs (disch := omega) only [go_sem, ↓reduceIte]
  obtain rfl : i = 67 := by omega
  simp -implicitDefEqProofs (disch := omega) only [go_sem, ↓reduceIte]
  refine ⟨[(0, 0), (1, 1), (2, 2), (3, 4)], [], [], rfl, ?_, ?_, ?_⟩ <;> simp -implicitDefEqProofs (disch := omega) only [go_sem, ↓reduceIte, Nat.sub_self, List.append_nil]
theorem each4_spec (ws : List Int) (l : List (List Int)) (dl pub : List Int) (f : Nat → List Int) (hf : ∀ i : Nat, i < 67 → FnC Tryz.prog 219 [.int .i64 i, .ints .u32 8 (adrL ws i 0), .ref 0 [], .ref 1 [], .ref 2 []] [(0, .var (.sl (.lst 32 67 (l.map dg)))), (1, .var (.ints .i64 67 dl)), (2, .var (.ints .u8 32 pub))] (.ints .u8 32 (f i)) [(0, .var (.sl (.lst 32 67 (l.map dg)))), (1, .var (.ints .i64 67 dl)), (2, .var (.ints .u8 32 pub))]) :
    FnC Tryz.prog 218 [.ints .u32 8 ws, .fn (.func 219) [.ref 0 [], .ref 1 [], .ref 2 []]] [(0, .var (.sl (.lst 32 67 (l.map dg)))), (1, .var (.ints .i64 67 dl)), (2, .var (.ints .u8 32 pub))] (.osl 3 [] 32 0 67) [(0, .var (.sl (.lst 32 67 (l.map dg)))), (1, .var (.ints .i64 67 dl)), (2, .var (.ints .u8 32 pub)), (3, .row (.lst 32 67 ((rowN f 67).map dg)))] := by
  refine fnN mix [] 3 2 [.tmp 4] Tryz.func218 rfl (by kernel_rfl) (by kernel_rfl) rfl (by kernel_rfl) (by kernel_rfl) (by simp) ?_
  simp -implicitDefEqProofs (disch := omega) only [go_sem, ↓reduceIte]
  refine loop (ι := Nat) 5 (fun i => i ≤ 67) (fun i => [(1, .fn (.func 219) [.ref 0 [], .ref 1 [], .ref 2 []]), (2, .ref 3 []), (5, .osl 4 [] 32 0 67), (9, .int .i64 67), (10, .int .i64 i)])
    (fun i => [(0, .var (.sl (.lst 32 67 (l.map dg)))), (1, .var (.ints .i64 67 dl)), (2, .var (.ints .u8 32 pub)), (3, .var (.ints .u32 8 ws)), (4, .row (.lst 32 67 ((rowN f i ++ List.replicate (67 - i) z32').map dg)))]) (fun i => 67 - i) 0 [(0, 0), (1, 1), (2, 2), (3, 3), (4, 4)] [] (Nat.zero_le _) rfl ?_ ?_ ?_ (fun i hi => ?_)
  · simp -implicitDefEqProofs (disch := omega) only [go_sem, ↓reduceIte]
  · simp -implicitDefEqProofs (disch := omega) only [go_sem, ↓reduceIte]
  · simp -implicitDefEqProofs (disch := omega) only [go_sem, ↓reduceIte, rowN, List.range_zero, List.map_replicate, dg, z32']
  simp -implicitDefEqProofs (disch := omega) only [go_sem, ↓reduceIte]
  refine brd (fun h => ?_) (fun h => ?_)
  · have hcl := rowN_len f i
    have hle : ((rowN f i ++ List.replicate (67 - i) z32').map dg).length = 67 := by simp [hcl]; omega
    have hgi : (rowN f i ++ List.replicate (67 - i) z32')[i]? = some z32' := by
      rw [List.getElem?_append_right (by omega), hcl, Nat.sub_self, List.getElem?_replicate, if_pos (by omega)]
    have hg := fun K => getP_map (f := dg) hgi K
    have hset : ((rowN f i ++ List.replicate (67 - i) z32').map dg).set i (.ints .u8 32 (f i)) = (rowN f (i + 1) ++ List.replicate (67 - (i + 1)) z32').map dg := by
      rw [rowN_succ, ← set_mid' (rowN f i) z32' (f i) (67 - (i + 1)) i hcl, show 67 - (i + 1) + 1 = 67 - i by omega, List.map_set]
      rfl
    have hs : ((ws.set 5 i).set 6 0).set 7 0 = adrL ws i 0 := rfl
    simp -implicitDefEqProofs (disch := omega) only [go_sem, ↓reduceIte]
    refine call0 (at_spec ws i 0) ?_
    rw [hs]
    simp -implicitDefEqProofs (disch := omega) only [go_sem, ↓reduceIte]
    refine callG false [(0, 0), (1, 1), (2, 2)] [(0, 0), (1, 1), (2, 2)] 5 (hf i (by omega)) ?_ ?_
    · simp [keys]
    simp -implicitDefEqProofs (disch := omega) only [go_sem, ↓reduceIte, hle, hg, dg, hset]
    refine ⟨i + 1, [(0, 0), (1, 1), (2, 2), (3, 3), (4, 4)], [], [], by dsimp only; omega, by dsimp only; omega, rfl, ?_, ?_, ?_⟩ <;> simp -implicitDefEqProofs (disch := omega) only [go_sem, ↓reduceIte]
  obtain rfl : i = 67 := by omega
  simp -implicitDefEqProofs (disch := omega) only [go_sem, ↓reduceIte]
  refine ⟨[(0, 0), (1, 1), (2, 2), (3, 4)], [], [], rfl, ?_, ?_, ?_⟩ <;> simp -implicitDefEqProofs (disch := omega) only [go_sem, ↓reduceIte, Nat.sub_self, List.append_nil]
section
variable (seed pub m ws : List Int) (hs : goodD seed) (hp : goodD pub) (hm : goodD m) (hw : goodW ws)
include hs hp hw in
theorem wpublic_spec : FnC Tryz.prog 237 [.ints .u8 32 seed, .ints .u8 32 pub, .ints .u32 8 ws] [] (.osl 0 [] 32 0 67) [(0, .row (.lst 32 67 ((rowN (pubD seed pub ws) 67).map dg)))] := by
  have hf : ∀ i : Nat, i < 67 → FnC Tryz.prog 261 [.int .i64 i, .ints .u32 8 (adrL ws i 0), .ref 0 [], .ref 1 []] [(0, .var (.ints .u8 32 seed)), (1, .var (.ints .u8 32 pub))] (.ints .u8 32 (pubD seed pub ws i)) [(0, .var (.ints .u8 32 seed)), (1, .var (.ints .u8 32 pub))] := fun i hi => by
    have ha := adrL_good hw (lv := i) (i := 0) (by omega) (by decide)
    have hr := wrun_spec (secD seed ws i) pub (adrL ws i 0) 0 15 (by decide) (by decide) (secD_good _ _ _) hp ha
    simp only [Int.natCast_zero, Int.cast_ofNat_Int, Nat.sub_zero] at hr
    have e : ofD 3 seed (bytesA (adrL ws i 0)) = secD seed ws i := rfl
    refine fnN mix pl261 2 4 [.cell 6 25] Tryz.func261 rfl (by kernel_rfl) (by kernel_rfl) rfl (by kernel_rfl) (by kernel_rfl) (by simp) ?_
    simp -implicitDefEqProofs (disch := omega) only [go_sem, ↓reduceIte]
    refine call0 (atk_spec seed (adrL ws i 0) hs.1 hs.2 ha.1 ha.2) ?_
    rw [e]
    simp -implicitDefEqProofs (disch := omega) only [go_sem, ↓reduceIte]
    refine call0 hr ?_
    simp -implicitDefEqProofs (disch := omega) only [go_sem, ↓reduceIte]
    refine ⟨[(0, 0), (1, 1)], [], [], rfl, ?_, ?_, ?_⟩ <;> simp -implicitDefEqProofs (disch := omega) only [go_sem, ↓reduceIte, pubD]
  refine fnN mix [] 0 3 [.tmp 6] Tryz.func237 rfl (by kernel_rfl) (by kernel_rfl) rfl (by kernel_rfl) (by kernel_rfl) (by simp) ?_
  simp -implicitDefEqProofs (disch := omega) only [go_sem, ↓reduceIte]
  refine callG false [(0, 0), (1, 1)] [(0, 0), (1, 1), (2, 3)] 4 (each2_spec ws seed pub _ hf) ?_ ?_
  · simp [keys]
  simp -implicitDefEqProofs (disch := omega) only [go_sem, ↓reduceIte]
  refine ⟨[(0, 3)], [], [], rfl, ?_, ?_, ?_⟩ <;> simp -implicitDefEqProofs (disch := omega) only [go_sem, ↓reduceIte]
include hs hp hm hw in
theorem wsign_spec : FnC Tryz.prog 203 [.ints .u8 32 m, .ints .u8 32 seed, .ints .u8 32 pub, .ints .u32 8 ws] [] (.osl 0 [] 32 0 67) [(0, .row (.lst 32 67 ((rowN (signD m seed pub ws) 67).map dg)))] := by
  have hf : ∀ i : Nat, i < 67 → FnC Tryz.prog 234 [.int .i64 i, .ints .u32 8 (adrL ws i 0), .ref 0 [], .ref 1 [], .ref 2 []] [(0, .var (.ints .u8 32 seed)), (1, .var (.ints .i64 67 (digs m))), (2, .var (.ints .u8 32 pub))] (.ints .u8 32 (signD m seed pub ws i)) [(0, .var (.ints .u8 32 seed)), (1, .var (.ints .i64 67 (digs m))), (2, .var (.ints .u8 32 pub))] := fun i hi => by
    have ha := adrL_good hw (lv := i) (i := 0) (by omega) (by decide)
    obtain ⟨d1, d2⟩ := dgt_int hm hi
    have hr := wrun_spec (secD seed ws i) pub (adrL ws i 0) 0 (dgt m i) (Nat.zero_le _) d2 (secD_good _ _ _) hp ha
    simp only [Int.natCast_zero, Nat.sub_zero] at hr
    have e : ofD 3 seed (bytesA (adrL ws i 0)) = secD seed ws i := rfl
    refine fnN mix pl234 3 5 [.cell 7 25] Tryz.func234 rfl (by kernel_rfl) (by kernel_rfl) rfl (by kernel_rfl) (by kernel_rfl) (by simp) ?_
    simp -implicitDefEqProofs (disch := omega) only [go_sem, ↓reduceIte]
    refine call0 (atk_spec seed (adrL ws i 0) hs.1 hs.2 ha.1 ha.2) ?_
    rw [e]
    simp -implicitDefEqProofs (disch := omega) only [go_sem, ↓reduceIte, d1]
    refine call0 hr ?_
    simp -implicitDefEqProofs (disch := omega) only [go_sem, ↓reduceIte]
    refine ⟨[(0, 0), (1, 1), (2, 2)], [], [], rfl, ?_, ?_, ?_⟩ <;> simp -implicitDefEqProofs (disch := omega) only [go_sem, ↓reduceIte, signD]
  refine fnN mix [] 0 4 [.tmp 8] Tryz.func203 rfl (by kernel_rfl) (by kernel_rfl) rfl (by kernel_rfl) (by kernel_rfl) (by simp) ?_
  simp -implicitDefEqProofs (disch := omega) only [go_sem, ↓reduceIte]
  refine call0 (of_spec m hm.1 hm.2) ?_
  simp -implicitDefEqProofs (disch := omega) only [go_sem, ↓reduceIte]
  refine callG false [(0, 1), (1, 4), (2, 2)] [(0, 1), (1, 4), (2, 2), (3, 5)] 6 (each3_spec ws seed (digs m) pub _ hf) ?_ ?_
  · simp [keys]
  simp -implicitDefEqProofs (disch := omega) only [go_sem, ↓reduceIte]
  refine ⟨[(0, 5)], [], [], rfl, ?_, ?_, ?_⟩ <;> simp -implicitDefEqProofs (disch := omega) only [go_sem, ↓reduceIte]
include hp hm hw in
theorem wfrom_spec (l : List (List Int)) (hl : l.length = 67) (hg : ∀ d ∈ l, goodD d) : FnC Tryz.prog 172 [.sl (.lst 32 67 (l.map dg)), .ints .u8 32 m, .ints .u8 32 pub, .ints .u32 8 ws] [] (.tup [.osl 0 [] 32 0 67, .int .i64 0]) [(0, .row (.lst 32 67 ((rowN (leadD l m pub ws) 67).map dg)))] := by
  have hf : ∀ i : Nat, i < 67 → FnC Tryz.prog 219 [.int .i64 i, .ints .u32 8 (adrL ws i 0), .ref 0 [], .ref 1 [], .ref 2 []] [(0, .var (.sl (.lst 32 67 (l.map dg)))), (1, .var (.ints .i64 67 (digs m))), (2, .var (.ints .u8 32 pub))] (.ints .u8 32 (leadD l m pub ws i)) [(0, .var (.sl (.lst 32 67 (l.map dg)))), (1, .var (.ints .i64 67 (digs m))), (2, .var (.ints .u8 32 pub))] := fun i hi => by
    have ha := adrL_good hw (lv := i) (i := 0) (by omega) (by decide)
    obtain ⟨d1, d2⟩ := dgt_int hm hi
    have hgl := fun K => getP_map (f := dg) (getD_some' (row := l) (i := i) (by omega)) K
    have hr := wrun_spec (l.getD i []) pub (adrL ws i 0) (dgt m i) 15 d2 (by decide) (getD_good hg (by omega)) hp ha
    simp only [Int.cast_ofNat_Int] at hr
    have hle : (l.map dg).length = 67 := by rw [List.length_map, hl]
    refine fnN mix pl219 3 5 [.cell 7 25] Tryz.func219 rfl (by kernel_rfl) (by kernel_rfl) rfl (by kernel_rfl) (by kernel_rfl) (by simp) ?_
    simp -implicitDefEqProofs (disch := omega) only [go_sem, ↓reduceIte, d1, hgl, dg, hle]
    refine call0 hr ?_
    simp -implicitDefEqProofs (disch := omega) only [go_sem, ↓reduceIte]
    refine ⟨[(0, 0), (1, 1), (2, 2)], [], [], rfl, ?_, ?_, ?_⟩ <;> simp -implicitDefEqProofs (disch := omega) only [go_sem, ↓reduceIte, leadD]
  refine fnN mix [] 0 4 [.tmp 8, .tmp 9] Tryz.func172 rfl (by kernel_rfl) (by kernel_rfl) rfl (by kernel_rfl) (by kernel_rfl) (by simp) ?_
  simp -implicitDefEqProofs (disch := omega) only [go_sem, ↓reduceIte]
  refine call0 (of_spec m hm.1 hm.2) ?_
  simp -implicitDefEqProofs (disch := omega) only [go_sem, ↓reduceIte]
  refine callG false [(0, 0), (1, 4), (2, 2)] [(0, 0), (1, 4), (2, 2), (3, 5)] 6 (each4_spec ws l (digs m) pub _ hf) ?_ ?_
  · simp [keys]
  simp -implicitDefEqProofs (disch := omega) only [go_sem, ↓reduceIte]
  refine ⟨[(0, 5)], [], [], rfl, ?_, ?_, ?_⟩ <;> simp -implicitDefEqProofs (disch := omega) only [go_sem, ↓reduceIte]
theorem wfrom_bad_spec (l : List (List Int)) (n : Nat) (hn : n ≠ 67) : FnC Tryz.prog 172 [.sl (.lst 32 n (l.map dg)), .ints .u8 32 m, .ints .u8 32 pub, .ints .u32 8 ws] [] (.tup [.nils, .int .i64 1]) [] := by
  refine fn0 mix [] 0 4 [.tmp 8, .tmp 9] Tryz.func172 rfl (by kernel_rfl) (by kernel_rfl) rfl (by kernel_rfl) (by kernel_rfl) (by simp) ?_
  simp -implicitDefEqProofs (disch := omega) only [go_sem, ↓reduceIte]
  refine brd (fun h => by omega) (fun h => ?_)
  simp -implicitDefEqProofs (disch := omega) only [go_sem, ↓reduceIte]
end
def zs : List Int := List.replicate 32 0
theorem zs_good : goodD zs := ⟨rfl, by decide⟩
attribute [go_sem] pl205 pl225
theorem u32_in (x : Int) : 0 ≤ IntKind.u32.wrap x ∧ IntKind.u32.wrap x < 4294967296 := by rw [wrap_u32']; omega
theorem base_good {l k f : Int} (a : Int) (hl : 0 ≤ l ∧ l < 4294967296) (hk : 0 ≤ k ∧ k < 4294967296) (hf : 0 ≤ f ∧ f < 4294967296) : goodW (base l a k f) := by
  refine ⟨rfl, fun w hw => ?_⟩
  simp only [base, List.mem_cons, List.not_mem_nil, or_false] at hw
  rcases hw with rfl | rfl | rfl | rfl | rfl | rfl | rfl | rfl
  · exact hl
  · exact u32_in _
  · exact u32_in _
  · exact hk
  · exact hf
  · decide
  · decide
  · decide
def nodeD (a b pub : List Int) (l t : Int) (lv i : Nat) : List Int := joinD a b pub (adrL (base l t 2 0) lv i)
theorem nodeD_good (a b pub : List Int) (l t : Int) (lv i : Nat) : goodD (nodeD a b pub l t lv i) := joinD_good _ _ _ _
section
variable (pub : List Int) (l t : Int) (hp : goodD pub) (hl : 0 ≤ l ∧ l < 4294967296) (ht : 0 ≤ t ∧ t < 18446744073709551616)
include hp hl in
theorem pjoin_spec (a b : List Int) (lv i : Nat) (ha : goodD a) (hb : goodD b) (h1 : lv < 1000) (h2 : i < 1000) : FnC Tryz.prog 225 [.agg [.ints .u8 32 pub, .int .u32 l, .int .u64 t], .ints .u8 32 a, .ints .u8 32 b, .int .i64 lv, .int .i64 i] [] (.ints .u8 32 (nodeD a b pub l t lv i)) [] := by
  have hw := base_good t hl (show (0 : Int) ≤ 2 ∧ (2 : Int) < 4294967296 by decide) (show (0 : Int) ≤ 0 ∧ (0 : Int) < 4294967296 by decide)
  have hs : (((base l t 2 0).set 5 lv).set 6 i).set 7 0 = adrL (base l t 2 0) lv i := rfl
  refine fn0 mix pl225 0 5 [.cell 10 25] Tryz.func225 rfl (by kernel_rfl) (by kernel_rfl) rfl (by kernel_rfl) (by kernel_rfl) (by simp) ?_
  simp -implicitDefEqProofs (disch := omega) only [go_sem, ↓reduceIte]
  refine call0 (tree_spec l t) ?_
  simp -implicitDefEqProofs (disch := omega) only [go_sem, ↓reduceIte]
  refine call0 (at_spec _ _ _) ?_
  rw [hs]
  simp -implicitDefEqProofs (disch := omega) only [go_sem, ↓reduceIte]
  refine call0 (join_spec09 _ _ _ _ ha hb hp (adrL_good hw (by omega) (by omega))) ?_
  simp -implicitDefEqProofs (disch := omega) only [go_sem, ↓reduceIte, nodeD]
def leafD (pub seed : List Int) (l t : Int) (i : Nat) : List Int := compressD pub (base l t 1 i) (rowN (pubD seed pub (base l t 0 i)) 67)
theorem leafD_good (seed : List Int) (i : Nat) : goodD (leafD pub seed l t i) := compressD_good _ _ (by rw [rowN_len]; decide) (rowN_good fun i _ => pubD_good _ _ _ _)
include hp hl in
theorem leaf_spec (seed key : List Int) (i : Nat) (hs : goodD seed) (hi : i < 1000) : FnC Tryz.prog 205 [.agg [.ints .u8 32 seed, .ints .u8 32 key, .ints .u8 32 pub], .int .u32 l, .int .u64 t, .int .i64 i] [] (.ints .u8 32 (leafD pub seed l t i)) [] := by
  have hw0 := base_good t hl (show (0 : Int) ≤ 0 ∧ (0 : Int) < 4294967296 by decide) (show (0 : Int) ≤ (i : Int) ∧ (i : Int) < 4294967296 by omega)
  have hw1 := base_good t hl (show (0 : Int) ≤ 1 ∧ (1 : Int) < 4294967296 by decide) (show (0 : Int) ≤ (i : Int) ∧ (i : Int) < 4294967296 by omega)
  refine fn0 mix pl205 0 4 [.cell 8 25] Tryz.func205 rfl (by kernel_rfl) (by kernel_rfl) rfl (by kernel_rfl) (by kernel_rfl) (by simp) ?_
  simp -implicitDefEqProofs (disch := omega) only [go_sem, ↓reduceIte]
  refine call0 (ots_spec l t i) ?_
  simp -implicitDefEqProofs (disch := omega) only [go_sem, ↓reduceIte]
  refine callF 1 (wpublic_spec seed pub _ hs hp hw0) ?_
  simp -implicitDefEqProofs (disch := omega) only [go_sem, ↓reduceIte]
  refine call0 (ltree_spec l t i) ?_
  simp -implicitDefEqProofs (disch := omega) only [go_sem, ↓reduceIte]
  refine callB (compress_spec09 pub _ (rowN (pubD seed pub (base l t 0 i)) 67) 67 hp hw1 (rowN_len _ _) (by decide) (by decide) (rowN_good fun i _ => pubD_good _ _ _ _)) ?_ ?_
  · simp -implicitDefEqProofs (disch := omega) only [go_sem, ↓reduceIte]
  simp -implicitDefEqProofs (disch := omega) only [go_sem, ↓reduceIte, leafD]
def climbD (x : List Int) (way : List (List Int)) (i : Nat) : Nat → List Int
  | 0 => x
  | k + 1 => if i / 2 ^ k % 2 = 0 then nodeD (climbD x way i k) (way.getD k []) pub l t k (i / 2 ^ k / 2) else nodeD (way.getD k []) (climbD x way i k) pub l t k (i / 2 ^ k / 2)
theorem climbD_good {x : List Int} (h : goodD x) (way : List (List Int)) (i : Nat) : ∀ k, goodD (climbD pub l t x way i k)
  | 0 => h
  | k + 1 => by rw [climbD]; split <;> exact nodeD_good _ _ _ _ _ _ _
theorem shr_nat (i k : Nat) (h : k ≤ 64) : ishr .i64 (i : Int) k = ((i / 2 ^ k : Nat) : Int) := by
  rw [ishr_div _ _ _ h, Int.natCast_ediv]; simp
include hp hl in
theorem climb_spec (x : List Int) (way : List (List Int)) (i n : Nat) (hn : way.length = n) (h1 : 1 ≤ n) (h4 : n ≤ 4) (hi : i < 2 ^ n) (hx : goodD x) (hg : ∀ d ∈ way, goodD d) :
    FnC Tryz.prog 176 [.ints .u8 32 x, .sl (.lst 32 n (way.map dg)), .int .i64 i, .ints .u8 32 pub, .int .u32 l, .int .u64 t] [] (.tup [.ints .u8 32 (climbD pub l t x way i n), .int .i64 0]) [] := by
  have hsh : ishl .i64 1 n = ((2 ^ n : Nat) : Int) := by
    obtain rfl | rfl | rfl | rfl : n = 1 ∨ n = 2 ∨ n = 3 ∨ n = 4 := by omega
    all_goals decide
  have hi16 : i < 1000 := by
    have : 2 ^ n ≤ 2 ^ 4 := Nat.pow_le_pow_right (by decide) h4
    omega
  refine fn0 mix [] 0 6 [.cell 12 25, .tmp 13] Tryz.func176 rfl (by kernel_rfl) (by kernel_rfl) rfl (by kernel_rfl) (by kernel_rfl) (by simp) ?_
  simp -implicitDefEqProofs (disch := omega) only [go_sem, ↓reduceIte, hsh]
  refine brd (fun h => by omega) (fun h => ?_)
  simp -implicitDefEqProofs (disch := omega) only [go_sem, ↓reduceIte, hsh]
  refine brd (fun h => by omega) (fun h => ?_)
  simp -implicitDefEqProofs (disch := omega) only [go_sem, ↓reduceIte, hsh]
  refine brd (fun h => by omega) (fun h => ?_)
  simp -implicitDefEqProofs (disch := omega) only [go_sem, ↓reduceIte, hsh]
  refine brd (fun h => by omega) (fun h => ?_)
  simp -implicitDefEqProofs (disch := omega) only [go_sem, ↓reduceIte, hsh]
  refine loop (ι := Nat) 4 (fun k => k ≤ n) (fun k => [(2, .int .i64 i), (6, .ref 0 []), (9, .ref 1 []), (12, .ref 2 []), (13, .int .i64 0), (14, .ref 3 []), (42, .sl (.lst 32 n (way.map dg))), (43, .int .i64 n), (44, .int .i64 k)])
    (fun k => [(0, .var (.ints .u8 32 (climbD pub l t x way i k))), (1, .var (.ints .u8 32 pub)), (2, .var (.ints .u8 32 (List.replicate 32 0))), (3, .var (.agg [.ints .u8 32 pub, .int .u32 l, .int .u64 t]))]) (fun k => n - k) 0 [(0, 0), (1, 1), (2, 2), (3, 3)] [] (Nat.zero_le _) rfl ?_ ?_ ?_ (fun k hk => ?_)
  · simp -implicitDefEqProofs (disch := omega) only [go_sem, ↓reduceIte]
  · simp -implicitDefEqProofs (disch := omega) only [go_sem, ↓reduceIte]
  · simp -implicitDefEqProofs (disch := omega) only [go_sem, ↓reduceIte, climbD]
  simp -implicitDefEqProofs (disch := omega) only [go_sem, ↓reduceIte]
  refine brd (fun h => ?_) (fun h => ?_)
  · have hsr := shr_nat i k (by omega)
    have hg1 := fun K => getP_map (f := dg) (getD_some' (row := way) (i := k) (by omega)) K
    have hgd := getD_good hg (show k < way.length by omega)
    have hc := climbD_good pub l t hx way i k
    have hle : (way.map dg).length = n := by rw [List.length_map, hn]
    have hd : i / 2 ^ k ≤ i := Nat.div_le_self _ _
    generalize hq : i / 2 ^ k = q at hsr hd
    have t2 : (q : Int).tmod 2 = (q % 2 : Nat) := by rw [Int.tmod_eq_emod_of_nonneg (by omega)]; omega
    have t3 : (q : Int).tdiv 2 = (q / 2 : Nat) := by rw [Int.tdiv_eq_ediv_of_nonneg (by omega)]; omega
    simp -implicitDefEqProofs (disch := omega) only [go_sem, ↓reduceIte, hsr, hg1, dg, hle, t2, t3]
    refine brd (fun h6 => ?_) (fun h6 => ?_)
    · have e : climbD pub l t x way i (k + 1) = nodeD (climbD pub l t x way i k) (way.getD k []) pub l t k (q / 2) := by rw [climbD, hq, if_pos (by omega)]
      simp -implicitDefEqProofs (disch := omega) only [go_sem, ↓reduceIte, hsr, t2, t3]
      refine call0 (pjoin_spec pub l t hp hl _ _ k (q / 2) hc hgd (by omega) (by omega)) ?_
      simp -implicitDefEqProofs (disch := omega) only [go_sem, ↓reduceIte]
      refine ⟨k + 1, [(0, 0), (1, 1), (2, 2), (3, 3)], [], [], by dsimp only; omega, by dsimp only; omega, rfl, ?_, ?_, ?_⟩ <;> simp -implicitDefEqProofs (disch := omega) only [go_sem, ↓reduceIte, e]
    · have e : climbD pub l t x way i (k + 1) = nodeD (way.getD k []) (climbD pub l t x way i k) pub l t k (q / 2) := by rw [climbD, hq, if_neg (by omega)]
      simp -implicitDefEqProofs (disch := omega) only [go_sem, ↓reduceIte, hsr, t2, t3]
      refine call0 (pjoin_spec pub l t hp hl _ _ k (q / 2) hgd hc (by omega) (by omega)) ?_
      simp -implicitDefEqProofs (disch := omega) only [go_sem, ↓reduceIte]
      refine ⟨k + 1, [(0, 0), (1, 1), (2, 2), (3, 3)], [], [], by dsimp only; omega, by dsimp only; omega, rfl, ?_, ?_, ?_⟩ <;> simp -implicitDefEqProofs (disch := omega) only [go_sem, ↓reduceIte, e]
  obtain rfl : k = n := by omega
  simp -implicitDefEqProofs (disch := omega) only [go_sem, ↓reduceIte]
def pw (k : Nat) : Nat := 2 ^ k
theorem pw_succ (k : Nat) : ((pw (k + 1) : Nat) : Int) = (pw k : Int) * 2 := by unfold pw; rw [Nat.pow_succ]; omega
theorem pw_le {k n : Nat} (h : k ≤ n) : pw k ≤ pw n := Nat.pow_le_pow_right (by decide) h
theorem pw_pos (k : Nat) : 1 ≤ pw k := Nat.one_le_two_pow
end
end Go.Proofs.YtololahjocfbeaaGreat
