/- The contracts of the package wots and of planchetref08; the walks of its laws. -/
import Derived.Test.YtjaailbgeadnnaaGreatLtree
import Derived.Test.YtjaailbgeadnnaaGreatDigits
namespace Go.Proofs.YtjaailbgeadnnaaGreat
open Go Go.Sy Go.Proofs.Tryz
set_option maxRecDepth 100000
set_option maxHeartbeats 8000000
set_option linter.unusedSimpArgs false
set_option linter.unusedVariables false
attribute [go_sem] pl162 pl171 pl173 pl174
def rowN (f : Nat → List Int) (n : Nat) : List (List Int) := (List.range n).map f
theorem rowN_len (f : Nat → List Int) (n : Nat) : (rowN f n).length = n := by simp [rowN]
theorem rowN_succ (f : Nat → List Int) (n : Nat) : rowN f (n + 1) = rowN f n ++ [f n] := by simp [rowN, List.range_succ]
theorem rowN_at (f : Nat → List Int) {n i : Nat} (h : i < n) : (rowN f n)[i]? = some (f i) := by simp [rowN, h]
theorem rowN_congr {f g : Nat → List Int} {n : Nat} (h : ∀ i, i < n → f i = g i) : rowN f n = rowN g n := List.map_congr_left fun i hi => h i (List.mem_range.1 hi)
theorem rowN_good {f : Nat → List Int} {n : Nat} (h : ∀ i, i < n → goodD (f i)) : ∀ d ∈ rowN f n, goodD d := by
  intro d hd
  obtain ⟨i, hi, rfl⟩ := List.mem_map.1 hd
  exact h i (List.mem_range.1 hi)
theorem rowN_getD (f : Nat → List Int) {n i : Nat} (h : i < n) : (rowN f n).getD i [] = f i := by simp [List.getD, rowN_at f h]
/-- A secret part. -/
def secD (seed ws : List Int) (i : Nat) : List Int := ofD 3 seed (bytesA (adrL ws i 0))
theorem secD_good (seed ws : List Int) (i : Nat) : goodD (secD seed ws i) := ofD_good _ _ _
theorem runD_good {x : List Int} (h : goodD x) (pub ws : List Int) (i : Int) (n : Nat) : goodD (runD pub ws x i n) := ⟨runD_len h.1 _ _ _ _, runD_mem h.2 _ _ _ _⟩
def pubD (seed pub ws : List Int) (i : Nat) : List Int := runD pub (adrL ws i 0) (secD seed ws i) 0 15
def dgt (m : List Int) (i : Nat) : Nat := ((digs m).getD i 0).toNat
def signD (m seed pub ws : List Int) (i : Nat) : List Int := runD pub (adrL ws i 0) (secD seed ws i) 0 (dgt m i)
def leadD (l : List (List Int)) (m pub ws : List Int) (i : Nat) : List Int := runD pub (adrL ws i 0) (l.getD i []) (dgt m i) (15 - dgt m i)
theorem dgt_int {m : List Int} (hm : goodD m) {i : Nat} (h : i < 67) : (digs m).getD i 0 = (dgt m i : Int) ∧ dgt m i ≤ 15 := by
  have hl := digs_len hm.1
  have hx := getD_all' (digs_mem hm.2) (show i < (digs m).length by omega)
  unfold dgt
  omega
theorem pubD_good (seed pub ws : List Int) (i : Nat) : goodD (pubD seed pub ws i) := runD_good (secD_good _ _ _) _ _ _ _
theorem signD_good (m seed pub ws : List Int) (i : Nat) : goodD (signD m seed pub ws i) := runD_good (secD_good _ _ _) _ _ _ _
theorem lead_sign {m : List Int} (hm : goodD m) (seed pub ws : List Int) {i : Nat} (h : i < 67) : leadD (rowN (signD m seed pub ws) 67) m pub ws i = pubD seed pub ws i := by
  have hd := (dgt_int hm h).2
  have j := runD_join pub (adrL ws i 0) (secD seed ws i) 0 (dgt m i) (15 - dgt m i)
  unfold leadD pubD
  rw [rowN_getD _ h, signD]
  rw [Int.zero_add] at j
  rw [j]
  congr 1; omega
theorem wrun_spec (x pub ws : List Int) (a b : Nat) (hab : a ≤ b) (hb : b ≤ 15) (hx : goodD x) (hp : goodD pub) (hw : goodW ws) : FnC Tryz.prog 163 [.ints .u8 32 x, .int .i64 a, .int .i64 b, .ints .u8 32 pub, .ints .u32 8 ws] [] (.ints .u8 32 (runD pub ws x a (b - a))) [] := by
  have h := run_spec x pub ws a (b - a) (by omega) (by omega) hx.1 hx.2 hp.1 hp.2 hw.1 hw.2
  have e : (b : Int) - a = ((b - a : Nat) : Int) := by omega
  refine fn0 mix [] 0 5 [.cell 10 25] Tryz.func163 rfl (by kernel_rfl) (by kernel_rfl) rfl (by kernel_rfl) (by kernel_rfl) (by simp) ?_
  simp (implicitDefEqProofs := false) (disch := omega) only [go_sem, ↓reduceIte]
  rw [e]
  refine call0 h ?_
  simp (implicitDefEqProofs := false) (disch := omega) only [go_sem, ↓reduceIte]
theorem each2_spec (ws seed pub : List Int) (f : Nat → List Int) (hf : ∀ i : Nat, i < 67 → FnC Tryz.prog 171 [.int .i64 i, .ints .u32 8 (adrL ws i 0), .ref 0 [], .ref 1 []] [(0, .var (.ints .u8 32 seed)), (1, .var (.ints .u8 32 pub))] (.ints .u8 32 (f i)) [(0, .var (.ints .u8 32 seed)), (1, .var (.ints .u8 32 pub))]) :
    FnC Tryz.prog 161 [.ints .u32 8 ws, .fn (.func 171) [.ref 0 [], .ref 1 []]] [(0, .var (.ints .u8 32 seed)), (1, .var (.ints .u8 32 pub))] (.osl 2 [] 32 0 67) [(0, .var (.ints .u8 32 seed)), (1, .var (.ints .u8 32 pub)), (2, .row (.lst 32 67 ((rowN f 67).map dg)))] := by
  refine fnN mix [] 2 2 [.tmp 4] Tryz.func161 rfl (by kernel_rfl) (by kernel_rfl) rfl (by kernel_rfl) (by kernel_rfl) (by simp) ?_
  simp (implicitDefEqProofs := false) (disch := omega) only [go_sem, ↓reduceIte]
  refine loop (ι := Nat) 4 (fun i => i ≤ 67) (fun i => [(1, .fn (.func 171) [.ref 0 [], .ref 1 []]), (2, .ref 2 []), (5, .osl 3 [] 32 0 67), (9, .int .i64 67), (10, .int .i64 i)])
    (fun i => [(0, .var (.ints .u8 32 seed)), (1, .var (.ints .u8 32 pub)), (2, .var (.ints .u32 8 ws)), (3, .row (.lst 32 67 ((rowN f i ++ List.replicate (67 - i) z32').map dg)))]) (fun i => 67 - i) 0 [(0, 0), (1, 1), (2, 2), (3, 3)] [] (Nat.zero_le _) rfl ?_ ?_ ?_ (fun i hi => ?_)
  · simp (implicitDefEqProofs := false) (disch := omega) only [go_sem, ↓reduceIte]
  · simp (implicitDefEqProofs := false) (disch := omega) only [go_sem, ↓reduceIte]
  · simp (implicitDefEqProofs := false) (disch := omega) only [go_sem, ↓reduceIte, rowN, List.range_zero, List.map_replicate, dg, z32']
  simp (implicitDefEqProofs := false) (disch := omega) only [go_sem, ↓reduceIte]
  refine brd (fun h => ?_) (fun h => ?_)
  · have hcl := rowN_len f i
    have hle : ((rowN f i ++ List.replicate (67 - i) z32').map dg).length = 67 := by simp [hcl]; omega
    have hgi : (rowN f i ++ List.replicate (67 - i) z32')[i]? = some z32' := by
      rw [List.getElem?_append_right (by omega), hcl, Nat.sub_self, List.getElem?_replicate, if_pos (by omega)]
    have hg := fun K => getP_map (f := dg) hgi K
    have hset : ((rowN f i ++ List.replicate (67 - i) z32').map dg).set i (.ints .u8 32 (f i)) = (rowN f (i + 1) ++ List.replicate (67 - (i + 1)) z32').map dg := by
      rw [rowN_succ, ← set_mid' (rowN f i) z32' (f i) (67 - (i + 1)) i hcl, show 67 - (i + 1) + 1 = 67 - i by omega, List.map_set]
      rfl
    have hs : ((ws.set 5 i).set 6 0).set 7 0 = adrL ws i 0 := rfl
    simp (implicitDefEqProofs := false) (disch := omega) only [go_sem, ↓reduceIte]
    refine call0 (at_spec ws i 0) ?_
    rw [hs]
    simp (implicitDefEqProofs := false) (disch := omega) only [go_sem, ↓reduceIte]
    refine callG false [(0, 0), (1, 1)] [(0, 0), (1, 1)] 4 (hf i (by omega)) ?_ ?_
    · simp [keys]
    simp (implicitDefEqProofs := false) (disch := omega) only [go_sem, ↓reduceIte, hle, hg, dg, hset]
    refine ⟨i + 1, [(0, 0), (1, 1), (2, 2), (3, 3)], [], [], by dsimp only; omega, by dsimp only; omega, rfl, ?_, ?_, ?_⟩ <;> simp (implicitDefEqProofs := false) (disch := omega) only [go_sem, ↓reduceIte]
  obtain rfl : i = 67 := by omega
  simp (implicitDefEqProofs := false) (disch := omega) only [go_sem, ↓reduceIte]
  refine ⟨[(0, 0), (1, 1), (2, 3)], [], [], rfl, ?_, ?_, ?_⟩ <;> simp (implicitDefEqProofs := false) (disch := omega) only [go_sem, ↓reduceIte, Nat.sub_self, List.append_nil]
theorem each3_spec (ws seed dl pub : List Int) (f : Nat → List Int) (hf : ∀ i : Nat, i < 67 → FnC Tryz.prog 162 [.int .i64 i, .ints .u32 8 (adrL ws i 0), .ref 0 [], .ref 1 [], .ref 2 []] [(0, .var (.ints .u8 32 seed)), (1, .var (.ints .i64 67 dl)), (2, .var (.ints .u8 32 pub))] (.ints .u8 32 (f i)) [(0, .var (.ints .u8 32 seed)), (1, .var (.ints .i64 67 dl)), (2, .var (.ints .u8 32 pub))]) :
    FnC Tryz.prog 161 [.ints .u32 8 ws, .fn (.func 162) [.ref 0 [], .ref 1 [], .ref 2 []]] [(0, .var (.ints .u8 32 seed)), (1, .var (.ints .i64 67 dl)), (2, .var (.ints .u8 32 pub))] (.osl 3 [] 32 0 67) [(0, .var (.ints .u8 32 seed)), (1, .var (.ints .i64 67 dl)), (2, .var (.ints .u8 32 pub)), (3, .row (.lst 32 67 ((rowN f 67).map dg)))] := by
  refine fnN mix [] 3 2 [.tmp 4] Tryz.func161 rfl (by kernel_rfl) (by kernel_rfl) rfl (by kernel_rfl) (by kernel_rfl) (by simp) ?_
  simp (implicitDefEqProofs := false) (disch := omega) only [go_sem, ↓reduceIte]
  refine loop (ι := Nat) 5 (fun i => i ≤ 67) (fun i => [(1, .fn (.func 162) [.ref 0 [], .ref 1 [], .ref 2 []]), (2, .ref 3 []), (5, .osl 4 [] 32 0 67), (9, .int .i64 67), (10, .int .i64 i)])
    (fun i => [(0, .var (.ints .u8 32 seed)), (1, .var (.ints .i64 67 dl)), (2, .var (.ints .u8 32 pub)), (3, .var (.ints .u32 8 ws)), (4, .row (.lst 32 67 ((rowN f i ++ List.replicate (67 - i) z32').map dg)))]) (fun i => 67 - i) 0 [(0, 0), (1, 1), (2, 2), (3, 3), (4, 4)] [] (Nat.zero_le _) rfl ?_ ?_ ?_ (fun i hi => ?_)
  · simp (implicitDefEqProofs := false) (disch := omega) only [go_sem, ↓reduceIte]
  · simp (implicitDefEqProofs := false) (disch := omega) only [go_sem, ↓reduceIte]
  · simp (implicitDefEqProofs := false) (disch := omega) only [go_sem, ↓reduceIte, rowN, List.range_zero, List.map_replicate, dg, z32']
  simp (implicitDefEqProofs := false) (disch := omega) only [go_sem, ↓reduceIte]
  refine brd (fun h => ?_) (fun h => ?_)
  · have hcl := rowN_len f i
    have hle : ((rowN f i ++ List.replicate (67 - i) z32').map dg).length = 67 := by simp [hcl]; omega
    have hgi : (rowN f i ++ List.replicate (67 - i) z32')[i]? = some z32' := by
      rw [List.getElem?_append_right (by omega), hcl, Nat.sub_self, List.getElem?_replicate, if_pos (by omega)]
    have hg := fun K => getP_map (f := dg) hgi K
    have hset : ((rowN f i ++ List.replicate (67 - i) z32').map dg).set i (.ints .u8 32 (f i)) = (rowN f (i + 1) ++ List.replicate (67 - (i + 1)) z32').map dg := by
      rw [rowN_succ, ← set_mid' (rowN f i) z32' (f i) (67 - (i + 1)) i hcl, show 67 - (i + 1) + 1 = 67 - i by omega, List.map_set]
      rfl
    have hs : ((ws.set 5 i).set 6 0).set 7 0 = adrL ws i 0 := rfl
    simp (implicitDefEqProofs := false) (disch := omega) only [go_sem, ↓reduceIte]
    refine call0 (at_spec ws i 0) ?_
    rw [hs]
    simp (implicitDefEqProofs := false) (disch := omega) only [go_sem, ↓reduceIte]
    refine callG false [(0, 0), (1, 1), (2, 2)] [(0, 0), (1, 1), (2, 2)] 5 (hf i (by omega)) ?_ ?_
    · simp [keys]
    simp (implicitDefEqProofs := false) (disch := omega) only [go_sem, ↓reduceIte, hle, hg, dg, hset]
    refine ⟨i + 1, [(0, 0), (1, 1), (2, 2), (3, 3), (4, 4)], [], [], by dsimp only; omega, by dsimp only; omega, rfl, ?_, ?_, ?_⟩ <;> simp (implicitDefEqProofs := false) (disch := omega) only [go_sem, ↓reduceIte]
  obtain rfl : i = 67 := by omega
  simp (implicitDefEqProofs := false) (disch := omega) only [go_sem, ↓reduceIte]
  refine ⟨[(0, 0), (1, 1), (2, 2), (3, 4)], [], [], rfl, ?_, ?_, ?_⟩ <;> simp (implicitDefEqProofs := false) (disch := omega) only [go_sem, ↓reduceIte, Nat.sub_self, List.append_nil]
section
variable (seed pub m ws : List Int) (hs : goodD seed) (hp : goodD pub) (hm : goodD m) (hw : goodW ws)
include hs hp hw in
theorem wpublic_spec : FnC Tryz.prog 138 [.ints .u8 32 seed, .ints .u8 32 pub, .ints .u32 8 ws] [] (.osl 0 [] 32 0 67) [(0, .row (.lst 32 67 ((rowN (pubD seed pub ws) 67).map dg)))] := by
  have hf : ∀ i : Nat, i < 67 → FnC Tryz.prog 171 [.int .i64 i, .ints .u32 8 (adrL ws i 0), .ref 0 [], .ref 1 []] [(0, .var (.ints .u8 32 seed)), (1, .var (.ints .u8 32 pub))] (.ints .u8 32 (pubD seed pub ws i)) [(0, .var (.ints .u8 32 seed)), (1, .var (.ints .u8 32 pub))] := fun i hi => by
    have ha := adrL_good hw (lv := i) (i := 0) (by omega) (by decide)
    have hr := wrun_spec (secD seed ws i) pub (adrL ws i 0) 0 15 (by decide) (by decide) (secD_good _ _ _) hp ha
    simp only [Int.natCast_zero, Int.cast_ofNat_Int, Nat.sub_zero] at hr
    have e : ofD 3 seed (bytesA (adrL ws i 0)) = secD seed ws i := rfl
    refine fnN mix pl171 2 4 [.cell 6 25] Tryz.func171 rfl (by kernel_rfl) (by kernel_rfl) rfl (by kernel_rfl) (by kernel_rfl) (by simp) ?_
    simp (implicitDefEqProofs := false) (disch := omega) only [go_sem, ↓reduceIte]
    refine call0 (atk_spec seed (adrL ws i 0) hs.1 hs.2 ha.1 ha.2) ?_
    rw [e]
    simp (implicitDefEqProofs := false) (disch := omega) only [go_sem, ↓reduceIte]
    refine call0 hr ?_
    simp (implicitDefEqProofs := false) (disch := omega) only [go_sem, ↓reduceIte]
    refine ⟨[(0, 0), (1, 1)], [], [], rfl, ?_, ?_, ?_⟩ <;> simp (implicitDefEqProofs := false) (disch := omega) only [go_sem, ↓reduceIte, pubD]
  refine fnN mix [] 0 3 [.tmp 6] Tryz.func138 rfl (by kernel_rfl) (by kernel_rfl) rfl (by kernel_rfl) (by kernel_rfl) (by simp) ?_
  simp (implicitDefEqProofs := false) (disch := omega) only [go_sem, ↓reduceIte]
  refine callG false [(0, 0), (1, 1)] [(0, 0), (1, 1), (2, 3)] 4 (each2_spec ws seed pub _ hf) ?_ ?_
  · simp [keys]
  simp (implicitDefEqProofs := false) (disch := omega) only [go_sem, ↓reduceIte]
  refine ⟨[(0, 3)], [], [], rfl, ?_, ?_, ?_⟩ <;> simp (implicitDefEqProofs := false) (disch := omega) only [go_sem, ↓reduceIte]
include hs hp hm hw in
theorem wsign_spec : FnC Tryz.prog 130 [.ints .u8 32 m, .ints .u8 32 seed, .ints .u8 32 pub, .ints .u32 8 ws] [] (.osl 0 [] 32 0 67) [(0, .row (.lst 32 67 ((rowN (signD m seed pub ws) 67).map dg)))] := by
  have hf : ∀ i : Nat, i < 67 → FnC Tryz.prog 162 [.int .i64 i, .ints .u32 8 (adrL ws i 0), .ref 0 [], .ref 1 [], .ref 2 []] [(0, .var (.ints .u8 32 seed)), (1, .var (.ints .i64 67 (digs m))), (2, .var (.ints .u8 32 pub))] (.ints .u8 32 (signD m seed pub ws i)) [(0, .var (.ints .u8 32 seed)), (1, .var (.ints .i64 67 (digs m))), (2, .var (.ints .u8 32 pub))] := fun i hi => by
    have ha := adrL_good hw (lv := i) (i := 0) (by omega) (by decide)
    obtain ⟨d1, d2⟩ := dgt_int hm hi
    have hr := wrun_spec (secD seed ws i) pub (adrL ws i 0) 0 (dgt m i) (Nat.zero_le _) d2 (secD_good _ _ _) hp ha
    simp only [Int.natCast_zero, Nat.sub_zero] at hr
    have e : ofD 3 seed (bytesA (adrL ws i 0)) = secD seed ws i := rfl
    refine fnN mix pl162 3 5 [.cell 7 25] Tryz.func162 rfl (by kernel_rfl) (by kernel_rfl) rfl (by kernel_rfl) (by kernel_rfl) (by simp) ?_
    simp (implicitDefEqProofs := false) (disch := omega) only [go_sem, ↓reduceIte]
    refine call0 (atk_spec seed (adrL ws i 0) hs.1 hs.2 ha.1 ha.2) ?_
    rw [e]
    simp (implicitDefEqProofs := false) (disch := omega) only [go_sem, ↓reduceIte, d1]
    refine call0 hr ?_
    simp (implicitDefEqProofs := false) (disch := omega) only [go_sem, ↓reduceIte]
    refine ⟨[(0, 0), (1, 1), (2, 2)], [], [], rfl, ?_, ?_, ?_⟩ <;> simp (implicitDefEqProofs := false) (disch := omega) only [go_sem, ↓reduceIte, signD]
  refine fnN mix [] 0 4 [.tmp 8] Tryz.func130 rfl (by kernel_rfl) (by kernel_rfl) rfl (by kernel_rfl) (by kernel_rfl) (by simp) ?_
  simp (implicitDefEqProofs := false) (disch := omega) only [go_sem, ↓reduceIte]
  refine call0 (of_spec m hm.1 hm.2) ?_
  simp (implicitDefEqProofs := false) (disch := omega) only [go_sem, ↓reduceIte]
  refine callG false [(0, 1), (1, 4), (2, 2)] [(0, 1), (1, 4), (2, 2), (3, 5)] 6 (each3_spec ws seed (digs m) pub _ hf) ?_ ?_
  · simp [keys]
  simp (implicitDefEqProofs := false) (disch := omega) only [go_sem, ↓reduceIte]
  refine ⟨[(0, 5)], [], [], rfl, ?_, ?_, ?_⟩ <;> simp (implicitDefEqProofs := false) (disch := omega) only [go_sem, ↓reduceIte]
theorem all08_spec (n : Int) : FnC Tryz.prog 175 [.int .i64 n] [] (.osl 0 [] 1 0 67) [(0, .row (.ints .i64 67 (List.replicate 67 n)))] := by
  refine fnN mix [] 0 1 [.tmp 2] Tryz.func175 rfl (by kernel_rfl) (by kernel_rfl) rfl (by kernel_rfl) (by kernel_rfl) (by simp) ?_
  simp (implicitDefEqProofs := false) (disch := omega) only [go_sem, ↓reduceIte]
  refine loop (ι := Nat) 1 (fun i => i ≤ 67) (fun i => [(0, .int .i64 n), (3, .osl 0 [] 1 0 i), (4, .int .i64 i)]) (fun i => [(0, .row (.ints .i64 i (List.replicate i n)))]) (fun i => 67 - i) 0 [] [0] (Nat.zero_le _) rfl ?_ ?_ ?_ (fun i hi => ?_)
  · simp (implicitDefEqProofs := false) (disch := omega) only [go_sem, ↓reduceIte]
  · simp (implicitDefEqProofs := false) (disch := omega) only [go_sem, ↓reduceIte]
  · simp (implicitDefEqProofs := false) (disch := omega) only [go_sem, ↓reduceIte]
  simp (implicitDefEqProofs := false) (disch := omega) only [go_sem, ↓reduceIte]
  refine brd (fun h => ?_) (fun h => ?_)
  · simp (implicitDefEqProofs := false) (disch := omega) only [go_sem, ↓reduceIte]
    refine ⟨i + 1, [(0, 2)], [], [], by dsimp only; omega, by dsimp only; omega, rfl, ?_, ?_, ?_⟩ <;> simp (implicitDefEqProofs := false) (disch := omega) only [go_sem, ↓reduceIte, List.replicate_succ']
  obtain rfl : i = 67 := by omega
  simp (implicitDefEqProofs := false) (disch := omega) only [go_sem, ↓reduceIte]
  refine ⟨[(0, 0)], [], [], rfl, ?_, ?_, ?_⟩ <;> simp (implicitDefEqProofs := false) (disch := omega) only [go_sem, ↓reduceIte]
include hs hw in
theorem refwsecret_spec : FnC Tryz.prog 174 [.ints .u8 32 seed, .ints .u32 8 ws] [] (.osl 0 [] 32 0 67) [(0, .row (.lst 32 67 ((rowN (secD seed ws) 67).map dg)))] := by
  refine fnN mix pl174 0 2 [.tmp 4] Tryz.func174 rfl (by kernel_rfl) (by kernel_rfl) rfl (by kernel_rfl) (by kernel_rfl) (by simp) ?_
  simp (implicitDefEqProofs := false) (disch := omega) only [go_sem, ↓reduceIte]
  refine loop (ι := Nat) 3 (fun i => i ≤ 67) (fun i => [(2, .ref 0 []), (3, .ref 1 []), (5, .osl 2 [] 32 0 i), (6, .int .i64 i)]) (fun i => [(0, .var (.ints .u8 32 seed)), (1, .var (.ints .u32 8 ws)), (2, .row (.lst 32 i ((rowN (secD seed ws) i).map dg)))]) (fun i => 67 - i) 0 [(0, 0), (1, 1)] [2] (Nat.zero_le _) rfl ?_ ?_ ?_ (fun i hi => ?_)
  · simp (implicitDefEqProofs := false) (disch := omega) only [go_sem, ↓reduceIte]
  · simp (implicitDefEqProofs := false) (disch := omega) only [go_sem, ↓reduceIte]
  · simp (implicitDefEqProofs := false) (disch := omega) only [go_sem, ↓reduceIte, rowN, List.range_zero]
  simp (implicitDefEqProofs := false) (disch := omega) only [go_sem, ↓reduceIte]
  refine brd (fun h => ?_) (fun h => ?_)
  · have ha := adrL_good hw (lv := i) (i := 0) (by omega) (by decide)
    have hss : ((ws.set 5 i).set 6 0).set 7 0 = adrL ws i 0 := rfl
    have e : ofD 3 seed (bytesA (adrL ws i 0)) = secD seed ws i := rfl
    simp (implicitDefEqProofs := false) (disch := omega) only [go_sem, ↓reduceIte]
    refine call0 (refat_spec' ws i 0 0 hw.1) ?_
    rw [hss]
    simp (implicitDefEqProofs := false) (disch := omega) only [go_sem, ↓reduceIte]
    refine call0 (refatk_spec seed (adrL ws i 0) hs.1 hs.2 ha.1 ha.2) ?_
    rw [e]
    simp (implicitDefEqProofs := false) (disch := omega) only [go_sem, ↓reduceIte]
    refine ⟨i + 1, [(0, 0), (1, 1), (2, 4)], [], [], by dsimp only; omega, by dsimp only; omega, rfl, ?_, ?_, ?_⟩ <;> simp (implicitDefEqProofs := false) (disch := omega) only [go_sem, ↓reduceIte, rowN_succ, List.map_append, dg]
  obtain rfl : i = 67 := by omega
  simp (implicitDefEqProofs := false) (disch := omega) only [go_sem, ↓reduceIte]
  refine ⟨[(0, 2)], [], [], rfl, ?_, ?_, ?_⟩ <;> simp (implicitDefEqProofs := false) (disch := omega) only [go_sem, ↓reduceIte]
include hp hw in
theorem refruns_spec (l : List (List Int)) (fr to : List Int) (hl : l.length = 67) (hg : ∀ d ∈ l, goodD d) (hf : fr.length = 67) (ht : to.length = 67) (hft : ∀ i, i < 67 → 0 ≤ fr.getD i 0 ∧ fr.getD i 0 ≤ to.getD i 0 ∧ to.getD i 0 ≤ 15) :
    FnC Tryz.prog 173 [.sl (.lst 32 67 (l.map dg)), .sl (.ints .i64 67 fr), .sl (.ints .i64 67 to), .ints .u8 32 pub, .ints .u32 8 ws] [] (.osl 0 [] 32 0 67)
      [(0, .row (.lst 32 67 ((rowN (fun i => runD pub (adrL ws i 0) (l.getD i []) (fr.getD i 0) (to.getD i 0 - fr.getD i 0).toNat) 67).map dg)))] := by
  refine fnN mix pl173 0 5 [.tmp 10] Tryz.func173 rfl (by kernel_rfl) (by kernel_rfl) rfl (by kernel_rfl) (by kernel_rfl) (by simp) ?_
  simp (implicitDefEqProofs := false) (disch := omega) only [go_sem, ↓reduceIte]
  generalize hF : (fun i => runD pub (adrL ws i 0) (l.getD i []) (fr.getD i 0) (to.getD i 0 - fr.getD i 0).toNat) = F
  refine loop (ι := Nat) 3 (fun i => i ≤ 67) (fun i => [(0, .sl (.lst 32 67 (l.map dg))), (1, .sl (.ints .i64 67 fr)), (2, .sl (.ints .i64 67 to)), (8, .ref 0 []), (9, .ref 1 []), (11, .osl 2 [] 32 0 i), (12, .int .i64 i)])
    (fun i => [(0, .var (.ints .u8 32 pub)), (1, .var (.ints .u32 8 ws)), (2, .row (.lst 32 i ((rowN F i).map dg)))]) (fun i => 67 - i) 0 [(0, 0), (1, 1)] [2] (Nat.zero_le _) rfl ?_ ?_ ?_ (fun i hi => ?_)
  · simp (implicitDefEqProofs := false) (disch := omega) only [go_sem, ↓reduceIte]
  · simp (implicitDefEqProofs := false) (disch := omega) only [go_sem, ↓reduceIte]
  · simp (implicitDefEqProofs := false) (disch := omega) only [go_sem, ↓reduceIte, rowN, List.range_zero]
  simp (implicitDefEqProofs := false) (disch := omega) only [go_sem, ↓reduceIte]
  refine brd (fun h => ?_) (fun h => ?_)
  · have ha := adrL_good hw (lv := i) (i := 0) (by omega) (by decide)
    obtain ⟨f1, f2, f3⟩ := hft i (by omega)
    have hgl := fun K => getP_map (f := dg) (getD_some' (row := l) (i := i) (by omega)) K
    have hle : (l.map dg).length = 67 := by rw [List.length_map, hl]
    have hgx := getD_good hg (show i < l.length by omega)
    have hss : ((ws.set 5 i).set 6 0).set 7 0 = adrL ws i 0 := rfl
    have e : to.getD i 0 - fr.getD i 0 = ((to.getD i 0 - fr.getD i 0).toNat : Int) := by omega
    have hr := refrun_spec (l.getD i []) pub (adrL ws i 0) (fr.getD i 0) f1 hgx.1 hgx.2 hp.1 hp.2 ha.1 ha.2 (to.getD i 0 - fr.getD i 0).toNat (by omega)
    rw [← e] at hr
    have hFi : runD pub (adrL ws i 0) (l.getD i []) (fr.getD i 0) (to.getD i 0 - fr.getD i 0).toNat = F i := by rw [← hF]
    rw [hFi] at hr
    simp (implicitDefEqProofs := false) (disch := omega) only [go_sem, ↓reduceIte, hgl, dg, hle]
    refine call0 (refat_spec' ws i 0 0 hw.1) ?_
    rw [hss]
    simp (implicitDefEqProofs := false) (disch := omega) only [go_sem, ↓reduceIte]
    refine call0 hr ?_
    simp (implicitDefEqProofs := false) (disch := omega) only [go_sem, ↓reduceIte]
    refine ⟨i + 1, [(0, 0), (1, 1), (2, 4)], [], [], by dsimp only; omega, by dsimp only; omega, rfl, ?_, ?_, ?_⟩ <;> simp (implicitDefEqProofs := false) (disch := omega) only [go_sem, ↓reduceIte, rowN_succ, List.map_append, dg]
  obtain rfl : i = 67 := by omega
  simp (implicitDefEqProofs := false) (disch := omega) only [go_sem, ↓reduceIte]
  refine ⟨[(0, 2)], [], [], rfl, ?_, ?_, ?_⟩ <;> simp (implicitDefEqProofs := false) (disch := omega) only [go_sem, ↓reduceIte]
end
end Go.Proofs.YtjaailbgeadnnaaGreat
/- The walks of WotsKeys, WotsSigns, WotsLeads and WotsMeets. -/
namespace Go.Proofs.YtjaailbgeadnnaaGreat
open Go Go.Sy Go.Proofs.Tryz
set_option maxRecDepth 100000
set_option maxHeartbeats 8000000
set_option linter.unusedSimpArgs false
set_option linter.unusedVariables false
attribute [go_sem] pl142
theorem rep_getD (n i : Nat) (x : Int) (h : i < n) : (List.replicate n x).getD i 0 = x := by simp [List.getD, List.getElem?_replicate, h]
section
variable (seed pub m ws : List Int) (hs : goodD seed) (hp : goodD pub) (hm : goodD m) (hw : goodW ws)
include hs hp hw in
theorem refwpublic_spec : FnC Tryz.prog 142 [.ints .u8 32 seed, .ints .u8 32 pub, .ints .u32 8 ws] [] (.osl 0 [] 32 0 67) [(0, .row (.lst 32 67 ((rowN (pubD seed pub ws) 67).map dg)))] := by
  have h := refruns_spec pub ws hp hw (rowN (secD seed ws) 67) (List.replicate 67 0) (List.replicate 67 15) (rowN_len _ _) (rowN_good fun i _ => secD_good _ _ _) (by simp) (by simp) (fun i hi => by rw [rep_getD _ _ _ hi, rep_getD _ _ _ hi]; decide)
  have e : rowN (fun i => runD pub (adrL ws i 0) ((rowN (secD seed ws) 67).getD i []) ((List.replicate 67 (0 : Int)).getD i 0) ((List.replicate 67 (15 : Int)).getD i 0 - (List.replicate 67 (0 : Int)).getD i 0).toNat) 67 = rowN (pubD seed pub ws) 67 := rowN_congr fun i hi => by rw [rep_getD _ _ _ hi, rep_getD _ _ _ hi, rowN_getD _ hi]; rfl
  rw [e] at h
  refine fnN mix pl142 0 3 [.tmp 6] Tryz.func142 rfl (by kernel_rfl) (by kernel_rfl) rfl (by kernel_rfl) (by kernel_rfl) (by simp) ?_
  simp (implicitDefEqProofs := false) (disch := omega) only [go_sem, ↓reduceIte]
  refine callF 1 (refwsecret_spec seed ws hs hw) ?_
  simp (implicitDefEqProofs := false) (disch := omega) only [go_sem, ↓reduceIte]
  refine callF 1 (all08_spec 0) ?_
  simp (implicitDefEqProofs := false) (disch := omega) only [go_sem, ↓reduceIte]
  refine callF 1 (all08_spec 15) ?_
  simp (implicitDefEqProofs := false) (disch := omega) only [go_sem, ↓reduceIte]
  refine callBF 1 h ?_ ?_
  · simp (implicitDefEqProofs := false) (disch := omega) only [go_sem, ↓reduceIte]
  simp (implicitDefEqProofs := false) (disch := omega) only [go_sem, ↓reduceIte]
  refine ⟨[(0, 6)], [], [], rfl, ?_, ?_, ?_⟩ <;> simp (implicitDefEqProofs := false) (disch := omega) only [go_sem, ↓reduceIte]
end
def zs : List Int := List.replicate 32 0
def zw : List Int := List.replicate 8 0
theorem zs_good : goodD zs := ⟨rfl, by decide⟩
theorem zw_good : goodW zw := ⟨rfl, by decide⟩
theorem sign_0 : signD zs zs zs zw 0 = secD zs zw 0 := by
  unfold signD; rw [show dgt zs 0 = 0 by decide +kernel]; rfl
theorem sign_63 : signD zs zs zs zw 63 = secD zs zw 63 := by
  unfold signD; rw [show dgt zs 63 = 0 by decide +kernel]; rfl
theorem sign_66 : signD zs zs zs zw 66 = secD zs zw 66 := by
  unfold signD; rw [show dgt zs 66 = 0 by decide +kernel]; rfl
theorem sign_64 : (signD zs zs zs zw 64 = secD zs zw 64) = False := by
  rw [eq_iff_iff, iff_false]; decide +kernel
end Go.Proofs.YtjaailbgeadnnaaGreat
