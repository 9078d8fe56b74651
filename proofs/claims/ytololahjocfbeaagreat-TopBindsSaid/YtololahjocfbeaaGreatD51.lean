/- Texts,joined. -/
import Derived.Test.YtololahjocfbeaaGreatD41
import Derived.Test.YtololahjocfbeaaGreatD47
import Derived.Test.YtololahjocfbeaaGreatD40
import Derived.Test.YtololahjocfbeaaGreatD43
namespace Go.Proofs.YtololahjocfbeaaGreat
open Go Go.Sy Go.Proofs.Tryz
set_option maxRecDepth 100000
set_option maxHeartbeats 8000000
set_option linter.unusedSimpArgs false
set_option linter.unusedVariables false
attribute [go_sem] pl45
section
variable (tree name : List Int) (n : Nat) (hn : name.length = n) (hm : ∀ x ∈ name,0 ≤ x ∧ x < 256)
include hn hm in
theorem places_ok (x : SV) (hx : goodSV x) (h1 : namedP name x.ver) (h2 : x.val.length ≤ 64) :
    FnC Tryz.prog 45 [.sl (.ints .u8 n name),.agg [.int .i64 x.ver,.sl (.ints .u8 x.val.length x.val),.ints .u8 32 x.nonce,.ints .u8 32 x.salt,.agg [.ints .u8 32 x.known,.sl (.lst 32 x.W.length (x.W.map dg))]]] []
      (.tup [.ints .u8 32 (fromD x.nonce name x.ver),.ints .u8 32 (madeD x.salt x.val)]) []:=by
  have k1:=from16_ok (nonce:=x.nonce) (name:=name) (v:=x.ver) (n:=n) hn h1 hx.2.1.1 hx.2.1.2 hm
  have k2:=made16_ok (salt:=x.salt) (value:=x.val) (n:=x.val.length) rfl h2 hx.2.2.1.1 hx.2.2.1.2 hx.1
  generalize fromD x.nonce name x.ver = I at *
  generalize madeD x.salt x.val = C at *
  refine fn0 mix pl45 0 2 [.cell 4 25,.cell 5 25] Tryz.func45 rfl (by kernel_rfl) (by kernel_rfl) rfl (by kernel_rfl) (by kernel_rfl) (by simp) ?_
  simp -implicitDefEqProofs (disch:=omega) only [go_sem,↓reduceIte]
  refine call0 k1 ?_
  simp -implicitDefEqProofs (disch:=omega) only [go_sem,↓reduceIte]
  refine call0 k2 ?_
  simp -implicitDefEqProofs (disch:=omega) only [go_sem,↓reduceIte]
include hn hm in
theorem lookup_absent (next known : List Int) (hx : goodD next) (hk : goodD known) (W : List (List Int)) (hL : W.length ≤ 9223372036854775807) (hg : ∀ d ∈ W,goodD d) :
    FnC Tryz.prog 46 [.ints .u8 32 tree,.sl (.ints .u8 n name),.agg [.nils,.ints .u8 32 next,.agg [.ints .u8 32 known,.sl (.lst 32 W.length (W.map dg))]]] [] (.bool (decide (isAbsent tree name 1 next known W))) []:=by
  have k:=lookup_spec tree name n hn hm [] (fun x h => by cases h) (Nat.zero_le _) next known hx hk W hL hg
  rw [show allV tree name ordL [] ([] : List SV).length = true from rfl,Bool.true_and,show IntKind.i64.wrap (lastV [] ([] : List SV).length + 1) = 1 by decide] at k
  refine k.sub [] [] [] rfl ?_ ?_
  · simp -implicitDefEqProofs (disch:=omega) only [go_sem,↓reduceIte,List.map_nil,List.length_nil]
  · simp -implicitDefEqProofs (disch:=omega) only [go_sem,↓reduceIte]
end
theorem made_unlike {s o v m : List Int} (hs : goodD s) (ho : goodD o) (h : v ≠ m) : 2 :: (s ++ v) ≠ 2 :: (o ++ m):=fun e => h (List.append_inj (List.cons.inj e).2 (by rw [hs.1,ho.1])).2
theorem made_mem {s v : List Int} (hs : goodD s) (hv : ∀ x ∈ v,0 ≤ x ∧ x < 256) : ∀ z ∈ (2 :: (s ++ v) : List Int),0 ≤ z ∧ z < 256:=fun z hz => by
  rcases List.mem_cons.1 hz with rfl | hz
  · decide
  · rcases List.mem_append.1 hz with hz | hz
    · exact hs.2 z hz
    · exact hv z hz
section
variable (tree name : List Int) (n : Nat) (hn : name.length = n) (hnl : n ≤ 9223372036854775807) (hm : ∀ x ∈ name,0 ≤ x ∧ x < 256) (x y : SV) (hx : goodSV x) (hy : goodSV y) (hxl : x.val.length ≤ 9223372036854775807) (hyl : y.val.length ≤ 9223372036854775807)
  (hw : FnC Tryz.prog 11 [] [] (.bool true) [])
abbrev svA (x : SV) : AV:=.agg [.int .i64 x.ver,.sl (.ints .u8 x.val.length x.val),.ints .u8 32 x.nonce,.ints .u8 32 x.salt,.agg [.ints .u8 32 x.known,.sl (.lst 32 x.W.length (x.W.map dg))]]
attribute [go_sem] svA
include hn hm hx hy hw hnl hxl hyl in
theorem topBinds_walk : FnC Tryz.prog 8 [.ints .u8 32 tree,.sl (.ints .u8 n name),svA x,svA y] [] (.bool true) []:=by
  have hxW:=hx.2.2.2.2.2
  have hyW:=hy.2.2.2.2.2
  by_cases c1 : 200 < n
  · have d1 : decide ((200 : Int) < (n : Int)) = true:=decide_eq_true (by omega)
    refine fn0 mix [] 0 4 [.tmp 8] Tryz.func8 rfl (by kernel_rfl) (by kernel_rfl) rfl (by kernel_rfl) (by kernel_rfl) (by simp) ?_
    simp -implicitDefEqProofs (disch:=omega) only [go_sem,↓reduceIte,d1]
    refine call0 hw ?_
    simp -implicitDefEqProofs (disch:=omega) only [go_sem,↓reduceIte]
  have d1 : decide ((200 : Int) < (n : Int)) = false:=decide_eq_false (by omega)
  by_cases c2 : 200 < x.val.length
  · have d2 : decide ((200 : Int) < (x.val.length : Int)) = true:=decide_eq_true (by omega)
    refine fn0 mix [] 0 4 [.tmp 8] Tryz.func8 rfl (by kernel_rfl) (by kernel_rfl) rfl (by kernel_rfl) (by kernel_rfl) (by simp) ?_
    simp -implicitDefEqProofs (disch:=omega) only [go_sem,↓reduceIte,d1,d2]
    refine call0 hw ?_
    simp -implicitDefEqProofs (disch:=omega) only [go_sem,↓reduceIte]
  have d2 : decide ((200 : Int) < (x.val.length : Int)) = false:=decide_eq_false (by omega)
  by_cases c3 : 200 < y.val.length
  · have d3 : decide ((200 : Int) < (y.val.length : Int)) = true:=decide_eq_true (by omega)
    refine fn0 mix [] 0 4 [.tmp 8] Tryz.func8 rfl (by kernel_rfl) (by kernel_rfl) rfl (by kernel_rfl) (by kernel_rfl) (by simp) ?_
    simp -implicitDefEqProofs (disch:=omega) only [go_sem,↓reduceIte,d1,d2,d3]
    refine call0 hw ?_
    simp -implicitDefEqProofs (disch:=omega) only [go_sem,↓reduceIte]
  have d3 : decide ((200 : Int) < (y.val.length : Int)) = false:=decide_eq_false (by omega)
  by_cases c4 : 300 < x.W.length
  · have d4 : decide ((300 : Int) < (x.W.length : Int)) = true:=decide_eq_true (by omega)
    refine fn0 mix [] 0 4 [.tmp 8] Tryz.func8 rfl (by kernel_rfl) (by kernel_rfl) rfl (by kernel_rfl) (by kernel_rfl) (by simp) ?_
    simp -implicitDefEqProofs (disch:=omega) only [go_sem,↓reduceIte,d1,d2,d3,d4]
    refine call0 hw ?_
    simp -implicitDefEqProofs (disch:=omega) only [go_sem,↓reduceIte]
  have d4 : decide ((300 : Int) < (x.W.length : Int)) = false:=decide_eq_false (by omega)
  by_cases c5 : 300 < y.W.length
  · have d5 : decide ((300 : Int) < (y.W.length : Int)) = true:=decide_eq_true (by omega)
    refine fn0 mix [] 0 4 [.tmp 8] Tryz.func8 rfl (by kernel_rfl) (by kernel_rfl) rfl (by kernel_rfl) (by kernel_rfl) (by simp) ?_
    simp -implicitDefEqProofs (disch:=omega) only [go_sem,↓reduceIte,d1,d2,d3,d4,d5]
    refine call0 hw ?_
    simp -implicitDefEqProofs (disch:=omega) only [go_sem,↓reduceIte]
  have d5 : decide ((300 : Int) < (y.W.length : Int)) = false:=decide_eq_false (by omega)
  have s1:=shown_spec tree name n hn hm x hx
  by_cases hs : isShown tree name x
  case neg =>
    rw [decide_eq_false hs] at s1
    refine fn0 mix [] 0 4 [.tmp 8] Tryz.func8 rfl (by kernel_rfl) (by kernel_rfl) rfl (by kernel_rfl) (by kernel_rfl) (by simp) ?_
    simp -implicitDefEqProofs (disch:=omega) only [go_sem,↓reduceIte,d1,d2,d3,d4,d5]
    refine call0 s1 ?_
    simp -implicitDefEqProofs (disch:=omega) only [go_sem,↓reduceIte]
    refine call0 hw ?_
    simp -implicitDefEqProofs (disch:=omega) only [go_sem,↓reduceIte]
  rw [decide_eq_true hs] at s1
  have pl:=places_ok name n hn hm x hx hs.1 hs.2.1
  have lk:=lookup_absent tree name n hn hm x.nonce y.known hx.2.1 hy.2.2.2.1 y.W hyW hy.2.2.2.2.1
  have hI : goodD (fromD x.nonce name x.ver):=fromD_good _ _ _
  have hC : goodD (madeD x.salt x.val):=madeD_good _ _
  -- what is shown,and that there is none
  have tr1 : isAbsent tree name 1 x.nonce y.known y.W → x.ver = 1 → ∃ a b,a ≠ b ∧ sumD a = sumD b ∧ (∀ z ∈ a,0 ≤ z ∧ z < 256) ∧ (∀ z ∈ b,0 ≤ z ∧ z < 256) ∧ a.length ≤ 100000 ∧ b.length ≤ 100000 ∧
      FnC Tryz.prog 47 [.ints .u8 32 tree,.ints .u8 32 (fromD x.nonce name x.ver),sdV true (madeD x.salt x.val) x.known x.W.length x.W,sdV false (List.replicate 32 0) y.known y.W.length y.W] [] (.tup [.osl 0 [] 1 0 a.length,.osl 1 [] 1 0 b.length,.bool true])
        [(0,.row (.ints .u8 a.length a)),(1,.row (.ints .u8 b.length b))]:=fun hab hv =>
    trees_ok tree (fromD x.nonce name x.ver) hI true false (madeD x.salt x.val) (List.replicate 32 0) x.known y.known hC zs_good hx.2.2.2.1 hy.2.2.2.1 x.W y.W x.W.length y.W.length rfl rfl (by omega) (by omega) hx.2.2.2.2.1 hy.2.2.2.2.1 (.inl (by decide)) ⟨hs.2.2.1,hs.2.2.2⟩ ⟨hab.2.1,by rw [hv]; exact hab.2.2⟩
  have df : decide (madeD x.salt x.val = madeD x.salt x.val) = true:=decide_eq_true rfl
  by_cases v1 : x.ver = y.ver
  case neg =>
    have e1 : decide (x.ver = y.ver) = false:=decide_eq_false v1
    refine fn0 mix [] 0 4 [.tmp 8] Tryz.func8 rfl (by kernel_rfl) (by kernel_rfl) rfl (by kernel_rfl) (by kernel_rfl) (by simp) ?_
    simp -implicitDefEqProofs (disch:=omega) only [go_sem,↓reduceIte,d1,d2,d3,d4,d5]
    refine call0 s1 ?_
    simp -implicitDefEqProofs (disch:=omega) only [go_sem,↓reduceIte]
    refine call0 pl ?_
    simp -implicitDefEqProofs (disch:=omega) only [go_sem,↓reduceIte]
    refine call0 lk ?_
    by_cases hab : isAbsent tree name 1 x.nonce y.known y.W
    · rw [decide_eq_true hab]
      by_cases hv : x.ver = 1
      · obtain ⟨a1,b1,q1,q2,q3,q4,q5,q6,q7⟩:=tr1 hab hv
        have un1:=unlike_ok a1 b1 a1.length b1.length rfl rfl q5 q6 q3 q4 q1 q2
        have hv' : decide (x.ver = 1) = true:=decide_eq_true hv
        simp -implicitDefEqProofs (disch:=omega) only [go_sem,↓reduceIte,hv']
        refine callF 2 q7 ?_
        simp -implicitDefEqProofs (disch:=omega) only [go_sem,↓reduceIte]
        refine callB un1 ?_ ?_
        · simp -implicitDefEqProofs (disch:=omega) only [go_sem,↓reduceIte]
        simp -implicitDefEqProofs (disch:=omega) only [go_sem,↓reduceIte,e1]
        refine call0 hw ?_
        simp -implicitDefEqProofs (disch:=omega) only [go_sem,↓reduceIte]
      · have hv' : decide (x.ver = 1) = false:=decide_eq_false hv
        simp -implicitDefEqProofs (disch:=omega) only [go_sem,↓reduceIte,hv',e1]
        refine call0 hw ?_
        simp -implicitDefEqProofs (disch:=omega) only [go_sem,↓reduceIte]
    · rw [decide_eq_false hab]
      simp -implicitDefEqProofs (disch:=omega) only [go_sem,↓reduceIte,e1]
      refine call0 hw ?_
      simp -implicitDefEqProofs (disch:=omega) only [go_sem,↓reduceIte]
  have e1 : decide (x.ver = y.ver) = true:=decide_eq_true v1
  by_cases v2 : x.nonce = y.nonce
  case neg =>
    have e2 : decide (x.nonce = y.nonce) = false:=decide_eq_false v2
    refine fn0 mix [] 0 4 [.tmp 8] Tryz.func8 rfl (by kernel_rfl) (by kernel_rfl) rfl (by kernel_rfl) (by kernel_rfl) (by simp) ?_
    simp -implicitDefEqProofs (disch:=omega) only [go_sem,↓reduceIte,d1,d2,d3,d4,d5]
    refine call0 s1 ?_
    simp -implicitDefEqProofs (disch:=omega) only [go_sem,↓reduceIte]
    refine call0 pl ?_
    simp -implicitDefEqProofs (disch:=omega) only [go_sem,↓reduceIte]
    refine call0 lk ?_
    by_cases hab : isAbsent tree name 1 x.nonce y.known y.W
    · rw [decide_eq_true hab]
      by_cases hv : x.ver = 1
      · obtain ⟨a1,b1,q1,q2,q3,q4,q5,q6,q7⟩:=tr1 hab hv
        have un1:=unlike_ok a1 b1 a1.length b1.length rfl rfl q5 q6 q3 q4 q1 q2
        have hv' : decide (x.ver = 1) = true:=decide_eq_true hv
        simp -implicitDefEqProofs (disch:=omega) only [go_sem,↓reduceIte,hv']
        refine callF 2 q7 ?_
        simp -implicitDefEqProofs (disch:=omega) only [go_sem,↓reduceIte]
        refine callB un1 ?_ ?_
        · simp -implicitDefEqProofs (disch:=omega) only [go_sem,↓reduceIte]
        simp -implicitDefEqProofs (disch:=omega) only [go_sem,↓reduceIte,e1,e2]
        refine call0 hw ?_
        simp -implicitDefEqProofs (disch:=omega) only [go_sem,↓reduceIte]
      · have hv' : decide (x.ver = 1) = false:=decide_eq_false hv
        simp -implicitDefEqProofs (disch:=omega) only [go_sem,↓reduceIte,hv',e1,e2]
        refine call0 hw ?_
        simp -implicitDefEqProofs (disch:=omega) only [go_sem,↓reduceIte]
    · rw [decide_eq_false hab]
      simp -implicitDefEqProofs (disch:=omega) only [go_sem,↓reduceIte,e1,e2]
      refine call0 hw ?_
      simp -implicitDefEqProofs (disch:=omega) only [go_sem,↓reduceIte]
  have e2 : decide (x.nonce = y.nonce) = true:=decide_eq_true v2
  by_cases v3 : x.val = y.val
  · have e3 : decide ((x.val.map fun z => UInt8.ofNat z.toNat) = y.val.map fun z => UInt8.ofNat z.toNat) = true:=decide_eq_true (by rw [v3])
    refine fn0 mix [] 0 4 [.tmp 8] Tryz.func8 rfl (by kernel_rfl) (by kernel_rfl) rfl (by kernel_rfl) (by kernel_rfl) (by simp) ?_
    simp -implicitDefEqProofs (disch:=omega) only [go_sem,↓reduceIte,d1,d2,d3,d4,d5]
    refine call0 s1 ?_
    simp -implicitDefEqProofs (disch:=omega) only [go_sem,↓reduceIte]
    refine call0 pl ?_
    simp -implicitDefEqProofs (disch:=omega) only [go_sem,↓reduceIte]
    refine call0 lk ?_
    by_cases hab : isAbsent tree name 1 x.nonce y.known y.W
    · rw [decide_eq_true hab]
      by_cases hv : x.ver = 1
      · obtain ⟨a1,b1,q1,q2,q3,q4,q5,q6,q7⟩:=tr1 hab hv
        have un1:=unlike_ok a1 b1 a1.length b1.length rfl rfl q5 q6 q3 q4 q1 q2
        have hv' : decide (x.ver = 1) = true:=decide_eq_true hv
        simp -implicitDefEqProofs (disch:=omega) only [go_sem,↓reduceIte,hv']
        refine callF 2 q7 ?_
        simp -implicitDefEqProofs (disch:=omega) only [go_sem,↓reduceIte]
        refine callB un1 ?_ ?_
        · simp -implicitDefEqProofs (disch:=omega) only [go_sem,↓reduceIte]
        simp -implicitDefEqProofs (disch:=omega) only [go_sem,↓reduceIte,e1,e2,e3]
        refine call0 hw ?_
        simp -implicitDefEqProofs (disch:=omega) only [go_sem,↓reduceIte]
      · have hv' : decide (x.ver = 1) = false:=decide_eq_false hv
        simp -implicitDefEqProofs (disch:=omega) only [go_sem,↓reduceIte,hv',e1,e2,e3]
        refine call0 hw ?_
        simp -implicitDefEqProofs (disch:=omega) only [go_sem,↓reduceIte]
    · rw [decide_eq_false hab]
      simp -implicitDefEqProofs (disch:=omega) only [go_sem,↓reduceIte,e1,e2,e3]
      refine call0 hw ?_
      simp -implicitDefEqProofs (disch:=omega) only [go_sem,↓reduceIte]
  have e3 : decide ((x.val.map fun z => UInt8.ofNat z.toNat) = y.val.map fun z => UInt8.ofNat z.toNat) = false:=decide_eq_false (toU_inj hx.1 hy.1 v3)
  have s2:=shown_spec tree name n hn hm y hy
  by_cases hs2 : isShown tree name y
  case neg =>
    rw [decide_eq_false hs2] at s2
    refine fn0 mix [] 0 4 [.tmp 8] Tryz.func8 rfl (by kernel_rfl) (by kernel_rfl) rfl (by kernel_rfl) (by kernel_rfl) (by simp) ?_
    simp -implicitDefEqProofs (disch:=omega) only [go_sem,↓reduceIte,d1,d2,d3,d4,d5]
    refine call0 s1 ?_
    simp -implicitDefEqProofs (disch:=omega) only [go_sem,↓reduceIte]
    refine call0 pl ?_
    simp -implicitDefEqProofs (disch:=omega) only [go_sem,↓reduceIte]
    refine call0 lk ?_
    by_cases hab : isAbsent tree name 1 x.nonce y.known y.W
    · rw [decide_eq_true hab]
      by_cases hv : x.ver = 1
      · obtain ⟨a1,b1,q1,q2,q3,q4,q5,q6,q7⟩:=tr1 hab hv
        have un1:=unlike_ok a1 b1 a1.length b1.length rfl rfl q5 q6 q3 q4 q1 q2
        have hv' : decide (x.ver = 1) = true:=decide_eq_true hv
        simp -implicitDefEqProofs (disch:=omega) only [go_sem,↓reduceIte,hv']
        refine callF 2 q7 ?_
        simp -implicitDefEqProofs (disch:=omega) only [go_sem,↓reduceIte]
        refine callB un1 ?_ ?_
        · simp -implicitDefEqProofs (disch:=omega) only [go_sem,↓reduceIte]
        simp -implicitDefEqProofs (disch:=omega) only [go_sem,↓reduceIte,e1,e2,e3]
        refine call0 s2 ?_
        simp -implicitDefEqProofs (disch:=omega) only [go_sem,↓reduceIte]
        refine call0 hw ?_
        simp -implicitDefEqProofs (disch:=omega) only [go_sem,↓reduceIte]
      · have hv' : decide (x.ver = 1) = false:=decide_eq_false hv
        simp -implicitDefEqProofs (disch:=omega) only [go_sem,↓reduceIte,hv',e1,e2,e3]
        refine call0 s2 ?_
        simp -implicitDefEqProofs (disch:=omega) only [go_sem,↓reduceIte]
        refine call0 hw ?_
        simp -implicitDefEqProofs (disch:=omega) only [go_sem,↓reduceIte]
    · rw [decide_eq_false hab]
      simp -implicitDefEqProofs (disch:=omega) only [go_sem,↓reduceIte,e1,e2,e3]
      refine call0 s2 ?_
      simp -implicitDefEqProofs (disch:=omega) only [go_sem,↓reduceIte]
      refine call0 hw ?_
      simp -implicitDefEqProofs (disch:=omega) only [go_sem,↓reduceIte]
  rw [decide_eq_true hs2] at s2
  have pl2:=places_ok name n hn hm y hy hs2.1 hs2.2.1
  have hC2 : goodD (madeD y.salt y.val):=madeD_good _ _
  have hs2i:=hs2.2.2.2
  rw [← v1,← v2] at hs2i
  by_cases v4 : madeD x.salt x.val = madeD y.salt y.val
  · have tr2:=trees_none tree (fromD x.nonce name x.ver) hI true true (madeD x.salt x.val) (madeD y.salt y.val) x.known y.known hC hC2 hx.2.2.2.1 hy.2.2.2.1 x.W y.W x.W.length y.W.length rfl rfl (by omega) (by omega) hx.2.2.2.2.1 hy.2.2.2.2.1 (fun h => by
      rcases h.1 with h | h
      · exact h rfl
      · exact h.2 v4)
    have va:=values_ok (madeD x.salt x.val) x.salt y.salt x.val y.val x.val.length y.val.length hx.2.2.1 hy.2.2.1 rfl rfl (by omega) (by omega) hx.1 hy.1 v3 ⟨hs.2.1,rfl⟩ ⟨hs2.2.1,v4⟩
    have un:=unlike_ok (2 :: (x.salt ++ x.val)) (2 :: (y.salt ++ y.val)) (33 + x.val.length) (33 + y.val.length) (by rw [List.length_cons,List.length_append,hx.2.2.1.1]; omega) (by rw [List.length_cons,List.length_append,hy.2.2.1.1]; omega) (by omega) (by omega) (made_mem hx.2.2.1 hx.1) (made_mem hy.2.2.1 hy.1) (made_unlike hx.2.2.1 hy.2.2.1 v3) v4
    have e4 : decide (madeD x.salt x.val = madeD y.salt y.val) = true:=decide_eq_true v4
    refine fn0 mix [] 0 4 [.tmp 8] Tryz.func8 rfl (by kernel_rfl) (by kernel_rfl) rfl (by kernel_rfl) (by kernel_rfl) (by simp) ?_
    simp -implicitDefEqProofs (disch:=omega) only [go_sem,↓reduceIte,d1,d2,d3,d4,d5]
    refine call0 s1 ?_
    simp -implicitDefEqProofs (disch:=omega) only [go_sem,↓reduceIte]
    refine call0 pl ?_
    simp -implicitDefEqProofs (disch:=omega) only [go_sem,↓reduceIte]
    refine call0 lk ?_
    by_cases hab : isAbsent tree name 1 x.nonce y.known y.W
    · rw [decide_eq_true hab]
      by_cases hv : x.ver = 1
      · obtain ⟨a1,b1,q1,q2,q3,q4,q5,q6,q7⟩:=tr1 hab hv
        have un1:=unlike_ok a1 b1 a1.length b1.length rfl rfl q5 q6 q3 q4 q1 q2
        have hv' : decide (x.ver = 1) = true:=decide_eq_true hv
        simp -implicitDefEqProofs (disch:=omega) only [go_sem,↓reduceIte,hv']
        refine callF 2 q7 ?_
        simp -implicitDefEqProofs (disch:=omega) only [go_sem,↓reduceIte]
        refine callB un1 ?_ ?_
        · simp -implicitDefEqProofs (disch:=omega) only [go_sem,↓reduceIte]
        simp -implicitDefEqProofs (disch:=omega) only [go_sem,↓reduceIte,e1,e2,e3,e4]
        refine call0 s2 ?_
        simp -implicitDefEqProofs (disch:=omega) only [go_sem,↓reduceIte]
        refine call0 pl2 ?_
        simp -implicitDefEqProofs (disch:=omega) only [go_sem,↓reduceIte]
        refine call0 tr2 ?_
        simp -implicitDefEqProofs (disch:=omega) only [go_sem,↓reduceIte,e4]
        refine callF 2 va ?_
        simp -implicitDefEqProofs (disch:=omega) only [go_sem,↓reduceIte]
        refine callB un ?_ ?_
        · simp -implicitDefEqProofs (disch:=omega) only [go_sem,↓reduceIte]
        simp -implicitDefEqProofs (disch:=omega) only [go_sem,↓reduceIte]
        refine call0 hw ?_
        simp -implicitDefEqProofs (disch:=omega) only [go_sem,↓reduceIte]
      · have hv' : decide (x.ver = 1) = false:=decide_eq_false hv
        simp -implicitDefEqProofs (disch:=omega) only [go_sem,↓reduceIte,hv',e1,e2,e3,e4]
        refine call0 s2 ?_
        simp -implicitDefEqProofs (disch:=omega) only [go_sem,↓reduceIte]
        refine call0 pl2 ?_
        simp -implicitDefEqProofs (disch:=omega) only [go_sem,↓reduceIte]
        refine call0 tr2 ?_
        simp -implicitDefEqProofs (disch:=omega) only [go_sem,↓reduceIte,e4]
        refine callF 2 va ?_
        simp -implicitDefEqProofs (disch:=omega) only [go_sem,↓reduceIte]
        refine callB un ?_ ?_
        · simp -implicitDefEqProofs (disch:=omega) only [go_sem,↓reduceIte]
        simp -implicitDefEqProofs (disch:=omega) only [go_sem,↓reduceIte]
        refine call0 hw ?_
        simp -implicitDefEqProofs (disch:=omega) only [go_sem,↓reduceIte]
    · rw [decide_eq_false hab]
      simp -implicitDefEqProofs (disch:=omega) only [go_sem,↓reduceIte,e1,e2,e3,e4]
      refine call0 s2 ?_
      simp -implicitDefEqProofs (disch:=omega) only [go_sem,↓reduceIte]
      refine call0 pl2 ?_
      simp -implicitDefEqProofs (disch:=omega) only [go_sem,↓reduceIte]
      refine call0 tr2 ?_
      simp -implicitDefEqProofs (disch:=omega) only [go_sem,↓reduceIte,e4]
      refine callF 2 va ?_
      simp -implicitDefEqProofs (disch:=omega) only [go_sem,↓reduceIte]
      refine callB un ?_ ?_
      · simp -implicitDefEqProofs (disch:=omega) only [go_sem,↓reduceIte]
      simp -implicitDefEqProofs (disch:=omega) only [go_sem,↓reduceIte]
      refine call0 hw ?_
      simp -implicitDefEqProofs (disch:=omega) only [go_sem,↓reduceIte]
  · obtain ⟨a,b,hab,hsum,ha,hb,hal,hbl,tr2⟩:=trees_ok tree (fromD x.nonce name x.ver) hI true true (madeD x.salt x.val) (madeD y.salt y.val) x.known y.known hC hC2 hx.2.2.2.1 hy.2.2.2.1 x.W y.W x.W.length y.W.length rfl rfl (by omega) (by omega) hx.2.2.2.2.1 hy.2.2.2.2.1 (.inr ⟨rfl,v4⟩) ⟨hs.2.2.1,hs.2.2.2⟩ ⟨hs2.2.2.1,hs2i⟩
    have un:=unlike_ok a b a.length b.length rfl rfl hal hbl ha hb hab hsum
    have e4 : decide (madeD x.salt x.val = madeD y.salt y.val) = false:=decide_eq_false v4
    refine fn0 mix [] 0 4 [.tmp 8] Tryz.func8 rfl (by kernel_rfl) (by kernel_rfl) rfl (by kernel_rfl) (by kernel_rfl) (by simp) ?_
    simp -implicitDefEqProofs (disch:=omega) only [go_sem,↓reduceIte,d1,d2,d3,d4,d5]
    refine call0 s1 ?_
    simp -implicitDefEqProofs (disch:=omega) only [go_sem,↓reduceIte]
    refine call0 pl ?_
    simp -implicitDefEqProofs (disch:=omega) only [go_sem,↓reduceIte]
    refine call0 lk ?_
    by_cases hab : isAbsent tree name 1 x.nonce y.known y.W
    · rw [decide_eq_true hab]
      by_cases hv : x.ver = 1
      · obtain ⟨a1,b1,q1,q2,q3,q4,q5,q6,q7⟩:=tr1 hab hv
        have un1:=unlike_ok a1 b1 a1.length b1.length rfl rfl q5 q6 q3 q4 q1 q2
        have hv' : decide (x.ver = 1) = true:=decide_eq_true hv
        simp -implicitDefEqProofs (disch:=omega) only [go_sem,↓reduceIte,hv']
        refine callF 2 q7 ?_
        simp -implicitDefEqProofs (disch:=omega) only [go_sem,↓reduceIte]
        refine callB un1 ?_ ?_
        · simp -implicitDefEqProofs (disch:=omega) only [go_sem,↓reduceIte]
        simp -implicitDefEqProofs (disch:=omega) only [go_sem,↓reduceIte,e1,e2,e3,e4]
        refine call0 s2 ?_
        simp -implicitDefEqProofs (disch:=omega) only [go_sem,↓reduceIte]
        refine call0 pl2 ?_
        simp -implicitDefEqProofs (disch:=omega) only [go_sem,↓reduceIte]
        refine callF 2 tr2 ?_
        simp -implicitDefEqProofs (disch:=omega) only [go_sem,↓reduceIte,e4]
        refine callB un ?_ ?_
        · simp -implicitDefEqProofs (disch:=omega) only [go_sem,↓reduceIte]
        simp -implicitDefEqProofs (disch:=omega) only [go_sem,↓reduceIte]
        refine call0 hw ?_
        simp -implicitDefEqProofs (disch:=omega) only [go_sem,↓reduceIte]
      · have hv' : decide (x.ver = 1) = false:=decide_eq_false hv
        simp -implicitDefEqProofs (disch:=omega) only [go_sem,↓reduceIte,hv',e1,e2,e3,e4]
        refine call0 s2 ?_
        simp -implicitDefEqProofs (disch:=omega) only [go_sem,↓reduceIte]
        refine call0 pl2 ?_
        simp -implicitDefEqProofs (disch:=omega) only [go_sem,↓reduceIte]
        refine callF 2 tr2 ?_
        simp -implicitDefEqProofs (disch:=omega) only [go_sem,↓reduceIte,e4]
        refine callB un ?_ ?_
        · simp -implicitDefEqProofs (disch:=omega) only [go_sem,↓reduceIte]
        simp -implicitDefEqProofs (disch:=omega) only [go_sem,↓reduceIte]
        refine call0 hw ?_
        simp -implicitDefEqProofs (disch:=omega) only [go_sem,↓reduceIte]
    · rw [decide_eq_false hab]
      simp -implicitDefEqProofs (disch:=omega) only [go_sem,↓reduceIte,e1,e2,e3,e4]
      refine call0 s2 ?_
      simp -implicitDefEqProofs (disch:=omega) only [go_sem,↓reduceIte]
      refine call0 pl2 ?_
      simp -implicitDefEqProofs (disch:=omega) only [go_sem,↓reduceIte]
      refine callF 2 tr2 ?_
      simp -implicitDefEqProofs (disch:=omega) only [go_sem,↓reduceIte,e4]
      refine callB un ?_ ?_
      · simp -implicitDefEqProofs (disch:=omega) only [go_sem,↓reduceIte]
      simp -implicitDefEqProofs (disch:=omega) only [go_sem,↓reduceIte]
      refine call0 hw ?_
      simp -implicitDefEqProofs (disch:=omega) only [go_sem,↓reduceIte]
end
end Go.Proofs.YtololahjocfbeaaGreat
