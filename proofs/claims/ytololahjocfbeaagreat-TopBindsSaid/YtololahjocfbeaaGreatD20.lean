/- Texts,joined. -/
import Derived.Test.YtololahjocfbeaaGreatD19
namespace Go.Proofs.YtololahjocfbeaaGreat
open Go Go.Sy Go.Proofs.Tryz
set_option maxRecDepth 100000
set_option maxHeartbeats 8000000
set_option linter.unusedSimpArgs false
set_option linter.unusedVariables false
attribute [go_sem] pl265
def adr (ws : List Int) (j w : Int) : List Int:=((ws.set 5 (ws.getD 5 0)).set 6 j).set 7 w
theorem adr_len {ws : List Int} (h : ws.length = 8) (j w : Int) : (adr ws j w).length = 8:=by simp [adr,h]
theorem adr_mem {ws : List Int} (h : ws.length = 8) (hw : ∀ w ∈ ws,0 ≤ w ∧ w < 4294967296) {j w : Int} (hj : 0 ≤ j ∧ j < 4294967296) (hw' : 0 ≤ w ∧ w < 4294967296) : ∀ x ∈ adr ws j w,0 ≤ x ∧ x < 4294967296:=by
  have h5:=getD_all' hw (show 5 < ws.length by omega)
  intro x hx
  rcases List.mem_or_eq_of_mem_set hx with hx | rfl
  · rcases List.mem_or_eq_of_mem_set hx with hx | rfl
    · rcases List.mem_or_eq_of_mem_set hx with hx | rfl
      · exact hw x hx
      · exact h5
    · exact hj
  · exact hw'
def stepD (pub ws x : List Int) (j : Int) : List Int:=ofD 0 (ofD 3 pub (bytesA (adr ws j 0))) (maskD x (ofD 3 pub (bytesA (adr ws j 1))))
theorem stepD_len (pub ws x : List Int) (j : Int) : (stepD pub ws x j).length = 32:=ofD_len _ _ _
theorem stepD_mem (pub ws x : List Int) (j : Int) : ∀ y ∈ stepD pub ws x j,0 ≤ y ∧ y < 256:=ofD_mem _ _ _
def runD (pub ws x : List Int) (i : Int) : Nat → List Int
  | 0 => x
  | n + 1 => stepD pub ws (runD pub ws x i n) (i + n)
theorem runD_len {x : List Int} (h : x.length = 32) (pub ws : List Int) (i : Int) : ∀ n,(runD pub ws x i n).length = 32
  | 0 => h
  | n + 1 => stepD_len _ _ _ _
theorem runD_mem {x : List Int} (h : ∀ y ∈ x,0 ≤ y ∧ y < 256) (pub ws : List Int) (i : Int) : ∀ n,∀ y ∈ runD pub ws x i n,0 ≤ y ∧ y < 256
  | 0 => h
  | n + 1 => stepD_mem _ _ _ _
theorem runD_join (pub ws x : List Int) (i : Int) (k : Nat) : ∀ n,runD pub ws (runD pub ws x i k) (i + k) n = runD pub ws x i (k + n)
  | 0 => rfl
  | n + 1 => by
    rw [← Nat.add_assoc,runD,runD,runD_join pub ws x i k n]
    congr 1
    omega
theorem step07_spec (x pub ws : List Int) (j : Int) (hj : 0 ≤ j ∧ j < 4294967296) (hx : x.length = 32) (hx' : ∀ y ∈ x,0 ≤ y ∧ y < 256) (hp : pub.length = 32) (hp' : ∀ y ∈ pub,0 ≤ y ∧ y < 256) (hl : ws.length = 8) (hw : ∀ w ∈ ws,0 ≤ w ∧ w < 4294967296) :
    FnC Tryz.prog 265 [.ints .u8 32 x,.int .i64 j,.ref 0 [],.ref 1 []] [(0,.var (.ints .u32 8 ws)),(1,.var (.ints .u8 32 pub))] (.ints .u8 32 (stepD pub ws x j)) [(0,.var (.ints .u32 8 ws)),(1,.var (.ints .u8 32 pub))]:=by
  have a0:=adr_len hl j 0
  have a1:=adr_len hl j 1
  have m0:=adr_mem hl hw hj (show (0 : Int) ≤ 0 ∧ (0 : Int) < 4294967296 by omega)
  have m1:=adr_mem hl hw hj (show (0 : Int) ≤ 1 ∧ (1 : Int) < 4294967296 by omega)
  have s0 : ((((ws.set 5 (ws.getD 5 0)).set 6 j).set 7 0).set 7 0) = adr ws j 0:=by simp [adr]
  have s1 : ((((ws.set 5 (ws.getD 5 0)).set 6 j).set 7 0).set 7 1) = adr ws j 1:=by simp [adr]
  have k0:=ofD_len 3 pub (bytesA (adr ws j 0))
  have k1:=ofD_len 3 pub (bytesA (adr ws j 1))
  have km:=maskD_len hx k1
  refine fnN mix pl265 2 4 [.cell 6 25] Tryz.func265 rfl (by kernel_rfl) (by kernel_rfl) rfl (by kernel_rfl) (by kernel_rfl) (by simp) ?_
  simp -implicitDefEqProofs (disch:=omega) only [go_sem,↓reduceIte]
  refine call0 (at_spec ws _ _) ?_
  simp -implicitDefEqProofs (disch:=omega) only [go_sem,↓reduceIte]
  refine call0 (for_spec _ 0) ?_
  rw [s0]
  simp -implicitDefEqProofs (disch:=omega) only [go_sem,↓reduceIte]
  refine call0 (atk_spec pub (adr ws j 0) hp hp' a0 m0) ?_
  simp -implicitDefEqProofs (disch:=omega) only [go_sem,↓reduceIte]
  refine call0 (for_spec _ 1) ?_
  rw [s1]
  simp -implicitDefEqProofs (disch:=omega) only [go_sem,↓reduceIte]
  refine call0 (atk_spec pub (adr ws j 1) hp hp' a1 m1) ?_
  simp -implicitDefEqProofs (disch:=omega) only [go_sem,↓reduceIte]
  refine call0 (mask_spec x _ hx k1) ?_
  simp -implicitDefEqProofs (disch:=omega) only [go_sem,↓reduceIte]
  refine call0 (f_spec _ _ k0 km (ofD_mem _ _ _) (maskD_mem hx' (ofD_mem _ _ _))) ?_
  simp -implicitDefEqProofs (disch:=omega) only [go_sem,↓reduceIte]
  refine ⟨[(0,0),(1,1)],[],[],rfl,?_,?_,?_⟩ <;> simp -implicitDefEqProofs (disch:=omega) only [go_sem,↓reduceIte,stepD]
theorem run_spec (x pub ws : List Int) (i : Int) (n : Nat) (hi : 0 ≤ i) (hn : i + n ≤ 15) (hx : x.length = 32) (hx' : ∀ y ∈ x,0 ≤ y ∧ y < 256) (hp : pub.length = 32) (hp' : ∀ y ∈ pub,0 ≤ y ∧ y < 256) (hl : ws.length = 8) (hw : ∀ w ∈ ws,0 ≤ w ∧ w < 4294967296) :
    FnC Tryz.prog 243 [.ints .u8 32 x,.int .i64 i,.int .i64 n,.ints .u8 32 pub,.ints .u32 8 ws] [] (.tup [.ints .u8 32 (runD pub ws x i n),.int .i64 0]) []:=by
  refine fn0 mix [] 0 5 [.cell 10 25,.tmp 11] Tryz.func243 rfl (by kernel_rfl) (by kernel_rfl) rfl (by kernel_rfl) (by kernel_rfl) (by simp) ?_
  simp -implicitDefEqProofs (disch:=omega) only [go_sem,↓reduceIte]
  refine brd (fun h => by omega) (fun h => ?_)
  simp -implicitDefEqProofs (disch:=omega) only [go_sem,↓reduceIte]
  refine brd (fun h => by omega) (fun h => ?_)
  simp -implicitDefEqProofs (disch:=omega) only [go_sem,↓reduceIte]
  refine brd (fun h => by omega) (fun h => ?_)
  simp -implicitDefEqProofs (disch:=omega) only [go_sem,↓reduceIte]
  refine brd (fun h => by omega) (fun h => ?_)
  simp -implicitDefEqProofs (disch:=omega) only [go_sem,↓reduceIte]
  refine loop (ι:=Nat) 4 (fun k => k ≤ n) (fun k => [(1,.int .i64 i),(2,.int .i64 n),(5,.ref 0 []),(10,.ref 3 []),(11,.int .i64 0),(12,.fn (.func 265) [.ref 2 [],.ref 1 []]),(13,.int .i64 (i + k))])
    (fun k => [(0,.var (.ints .u8 32 (runD pub ws x i k))),(1,.var (.ints .u8 32 pub)),(2,.var (.ints .u32 8 ws)),(3,.var (.ints .u8 32 (List.replicate 32 0)))]) (fun k => n - k) 0 [(0,0),(1,1),(2,2),(3,3)] [] (Nat.zero_le _) rfl ?_ ?_ ?_ (fun k hk => ?_)
  · simp -implicitDefEqProofs (disch:=omega) only [go_sem,↓reduceIte]
  · simp -implicitDefEqProofs (disch:=omega) only [go_sem,↓reduceIte]
  · simp -implicitDefEqProofs (disch:=omega) only [go_sem,↓reduceIte,runD]
  simp -implicitDefEqProofs (disch:=omega) only [go_sem,↓reduceIte]
  refine brd (fun h => ?_) (fun h => ?_)
  · have hs : stepD pub ws (runD pub ws x i k) (i + k) = runD pub ws x i (k + 1):=rfl
    have ha : i + (k : Int) + 1 = i + (k + 1):=by omega
    simp -implicitDefEqProofs (disch:=omega) only [go_sem,↓reduceIte]
    refine callG false [(0,2),(1,1)] [(0,2),(1,1)] 4 (step07_spec (runD pub ws x i k) pub ws (i + k) (by omega) (runD_len hx _ _ _ _) (runD_mem hx' _ _ _ _) hp hp' hl hw) ?_ ?_
    · simp [keys]
    rw [hs]
    simp -implicitDefEqProofs (disch:=omega) only [go_sem,↓reduceIte]
    refine ⟨k + 1,[(0,0),(1,1),(2,2),(3,3)],[],[],by dsimp only; omega,by dsimp only; omega,rfl,?_,?_,?_⟩ <;> simp -implicitDefEqProofs (disch:=omega) only [go_sem,↓reduceIte,ha]
  obtain rfl : k = n:=by omega
  simp -implicitDefEqProofs (disch:=omega) only [go_sem,↓reduceIte]
end Go.Proofs.YtololahjocfbeaaGreat
