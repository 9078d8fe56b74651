/- Texts,joined. -/
import Derived.Test.YtololahjocfbeaaGreatD48
import Derived.Test.YtololahjocfbeaaGreatD46
namespace Go.Proofs.YtololahjocfbeaaGreat
open Go Go.Sy Go.Proofs.Tryz
set_option maxRecDepth 100000
set_option maxHeartbeats 8000000
set_option linter.unusedSimpArgs false
set_option linter.unusedVariables false
abbrev actC (N : AV) : AV:=.agg [.int .i64 1,.int .i64 1,N,.nils,.nils]
attribute [go_sem] actC
section
variable (ns : Nat) (na ma : List Int) (a n : Int) (y0 y1 y2 y3 : Dy) (s : Sn) (c2 : Int)
theorem run_three (hnew : FnC Tryz.prog 16 [cfgV a n 1 ma na,.int .i64 ns,.int .i64 400] [] (.tup [.ref 6 [],.int .i64 0]) (wO na ma a n 1 y0 [] 7 8 9 10 11 12 13 14))
    (h0 : FnC Tryz.prog 17 [.ref 6 [],actC (.sl (.ints .u8 1 [97]))] (wO na ma a n 1 y0 [] 7 8 9 10 11 12 13 14) (.int .i64 0) (wO na ma a n 1 y1 [] 15 16 17 18 19 20 21 22))
    (h1 : FnC Tryz.prog 17 [.ref 6 [],actP] (wO na ma a n 1 y1 [] 7 8 9 10 11 12 13 14) (.int .i64 0) (wO na ma a n 1 y2 [s] 15 16 17 18 19 20 21 22))
    (h2 : FnC Tryz.prog 17 [.ref 6 [],actP] (wO na ma a n 1 y2 [s] 7 8 9 10 11 12 13 14) (.int .i64 c2) (wO na ma a n 1 y3 [s] 15 16 17 18 19 20 21 22)) :
    FnC Tryz.prog 12 [cfgV a n 1 ma na,.int .i64 ns,.int .i64 400,.sl (.lst 5 3 [actC (.sl (.ints .u8 1 [97])),actP,actP])] [] (.tup [.ref 6 [],.osl 15 [] 1 0 3,.int .i64 0]) (wO na ma a n 1 y3 [s] 7 8 9 10 11 12 13 14 ++ [(15,.row (.ints .i64 3 [0,0,c2]))]):=by
  refine fnN mix [] 0 4 [.tmp 8,.tmp 9,.tmp 10] Tryz.func12 rfl (by kernel_rfl) (by kernel_rfl) rfl (by kernel_rfl) (by kernel_rfl) (by simp) ?_
  simp -implicitDefEqProofs (disch:=omega) only [go_sem,↓reduceIte]
  refine callF 15 hnew ?_
  simp -implicitDefEqProofs (disch:=omega) only [go_sem,↓reduceIte]
  refine loop (ι:=Nat) 16 (fun i => i ≤ 3) (fun i => [(11,.ref 6 []),(13,.osl 15 [] 1 0 i),(29,.sl (.lst 5 3 [actC (.sl (.ints .u8 1 [97])),actP,actP])),(30,.int .i64 3),(31,.int .i64 i)])
    (fun i => wO na ma a n 1 (pick4 y0 y1 y2 y3 i) (pick4 [] [] [s] [s] i) 7 8 9 10 11 12 13 14 ++ [(15,.row (.ints .i64 i (pick4 [] [0] [0,0] [0,0,c2] i)))]) (fun i => 3 - i) 0 [(0,1),(1,2),(2,3),(3,4),(4,5),(5,6),(6,7),(7,8),(8,9),(9,10),(10,11),(11,12),(12,13),(13,14),(14,15)] [15] (Nat.zero_le _) rfl ?_ ?_ ?_ (fun i hi => ?_)
  · simp -implicitDefEqProofs (disch:=omega) only [go_sem,↓reduceIte]
  · simp -implicitDefEqProofs (disch:=omega) only [go_sem,↓reduceIte]
  · simp -implicitDefEqProofs (disch:=omega) only [go_sem,↓reduceIte,pick4_0,List.cons_append,List.nil_append]
  rcases (show i = 0 ∨ i = 1 ∨ i = 2 ∨ i = 3 by omega) with rfl | rfl | rfl | rfl
  · dsimp only [pick4_0,List.cons_append,List.nil_append,wO]
    simp -implicitDefEqProofs (disch:=omega) only [go_sem,↓reduceIte]
    refine callG false [(0,0),(1,1),(2,2),(3,3),(4,4),(5,5),(6,6),(7,7),(8,8),(9,9),(10,10),(11,11),(12,12),(13,13),(14,14)] [(0,0),(1,1),(2,2),(3,3),(4,4),(5,5),(6,6),(15,17),(16,18),(17,19),(18,20),(19,21),(20,22),(21,23),(22,24)] 25 h0 ?_ ?_
    · simp [keys]
    simp -implicitDefEqProofs (disch:=omega) only [go_sem,↓reduceIte]
    refine ⟨1,[(0,0),(1,1),(2,2),(3,3),(4,4),(5,5),(6,6),(7,17),(8,18),(9,19),(10,20),(11,21),(12,22),(13,23),(14,24),(15,26)],[],[],by dsimp only; omega,by dsimp only; omega,rfl,?_,?_,?_⟩ <;> simp -implicitDefEqProofs (disch:=omega) only [go_sem,↓reduceIte,pick4_1]
  · dsimp only [pick4_1,List.cons_append,List.nil_append,wO]
    simp -implicitDefEqProofs (disch:=omega) only [go_sem,↓reduceIte]
    refine callG false [(0,0),(1,1),(2,2),(3,3),(4,4),(5,5),(6,6),(7,7),(8,8),(9,9),(10,10),(11,11),(12,12),(13,13),(14,14)] [(0,0),(1,1),(2,2),(3,3),(4,4),(5,5),(6,6),(15,17),(16,18),(17,19),(18,20),(19,21),(20,22),(21,23),(22,24)] 25 h1 ?_ ?_
    · simp [keys]
    simp -implicitDefEqProofs (disch:=omega) only [go_sem,↓reduceIte]
    refine ⟨2,[(0,0),(1,1),(2,2),(3,3),(4,4),(5,5),(6,6),(7,17),(8,18),(9,19),(10,20),(11,21),(12,22),(13,23),(14,24),(15,26)],[],[],by dsimp only; omega,by dsimp only; omega,rfl,?_,?_,?_⟩ <;> simp -implicitDefEqProofs (disch:=omega) only [go_sem,↓reduceIte,pick4_2]
  · dsimp only [pick4_2,List.cons_append,List.nil_append,wO]
    simp -implicitDefEqProofs (disch:=omega) only [go_sem,↓reduceIte]
    refine callG false [(0,0),(1,1),(2,2),(3,3),(4,4),(5,5),(6,6),(7,7),(8,8),(9,9),(10,10),(11,11),(12,12),(13,13),(14,14)] [(0,0),(1,1),(2,2),(3,3),(4,4),(5,5),(6,6),(15,17),(16,18),(17,19),(18,20),(19,21),(20,22),(21,23),(22,24)] 25 h2 ?_ ?_
    · simp [keys]
    simp -implicitDefEqProofs (disch:=omega) only [go_sem,↓reduceIte]
    refine ⟨3,[(0,0),(1,1),(2,2),(3,3),(4,4),(5,5),(6,6),(7,17),(8,18),(9,19),(10,20),(11,21),(12,22),(13,23),(14,24),(15,26)],[],[],by dsimp only; omega,by dsimp only; omega,rfl,?_,?_,?_⟩ <;> simp -implicitDefEqProofs (disch:=omega) only [go_sem,↓reduceIte,pick4_3]
  · dsimp only [pick4_3,List.cons_append,List.nil_append,wO]
    simp -implicitDefEqProofs (disch:=omega) only [go_sem,↓reduceIte]
    refine ⟨[(0,0),(1,1),(2,2),(3,3),(4,4),(5,5),(6,6),(7,7),(8,8),(9,9),(10,10),(11,11),(12,12),(13,13),(14,14),(15,15)],[],[],rfl,?_,?_,?_⟩ <;> simp -implicitDefEqProofs (disch:=omega) only [go_sem,↓reduceIte]
end
end Go.Proofs.YtololahjocfbeaaGreat
