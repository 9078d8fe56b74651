/- Texts,joined. -/
import Derived.Test.YtololahjocfbeaaGreatD32
namespace Go.Proofs.YtololahjocfbeaaGreat
open Go Go.Sy Go.Proofs.Tryz
set_option maxRecDepth 100000
set_option maxHeartbeats 8000000
set_option linter.unusedSimpArgs false
set_option linter.unusedVariables false
attribute [go_sem] pl49 pl108 pl139
def ledD (pub m : List Int) (k t : Int) (f : Nat) (p : Part) : List Int:=compressD pub (base k t 1 f) (rowN (leadD p.1 m pub (base k t 0 f)) 67)
def overD (pub m : List Int) (k t : Int) (f n : Nat) (p : Part) : List Int:=climbD pub k t (ledD pub m k t f p) p.2 f n
theorem leadD_good {l : List (List Int)} (hl : l.length = 67) (hg : ∀ d ∈ l,goodD d) (m pub ws : List Int) {i : Nat} (hi : i < 67) : goodD (leadD l m pub ws i):=runD_good (getD_good hg (by omega)) _ _ _ _
theorem ledD_good {p : Part} (hl : p.1.length = 67) (hg : ∀ d ∈ p.1,goodD d) (pub m : List Int) (k t : Int) (f : Nat) : goodD (ledD pub m k t f p) :=
  compressD_good _ _ (by rw [rowN_len]; decide) (rowN_good fun i hi => leadD_good hl hg _ _ _ hi)
theorem overD_good {p : Part} (hl : p.1.length = 67) (hg : ∀ d ∈ p.1,goodD d) (pub m : List Int) (k t : Int) (f n : Nat) : goodD (overD pub m k t f n p):=climbD_good _ _ _ (ledD_good hl hg _ _ _ _ _) _ _ _
section
variable (pub m : List Int) (k : Nat) (t : Int) (f n : Nat) (a : Int) (p : Part) (hp : goodD pub) (hm : goodD m) (hk : k < 100) (h1 : 1 ≤ n) (h4 : n ≤ 4) (hf : f < pw n)
include hp hm hk h1 h4 hf in
theorem over_ok_spec (hl : p.1.length = 67) (ha : p.2.length = n) (hg : ∀ d ∈ p.1,goodD d) (hg2 : ∀ d ∈ p.2,goodD d) :
    FnC Tryz.prog 108 [.ref 0 [],.agg [.sl (.lst 32 67 (p.1.map dg)),.sl (.lst 32 n (p.2.map dg))],.ints .u8 32 m,.ints .u8 32 pub]
      [(0,.var (.agg [.agg [.int .u32 k,.int .u64 t,.int .i64 f],.agg [.int .i64 a,.int .i64 n]]))] (.tup [.ints .u8 32 (overD pub m k t f n p),.bool true])
      [(0,.var (.agg [.agg [.int .u32 k,.int .u64 t,.int .i64 f],.agg [.int .i64 a,.int .i64 n]]))]:=by
  have hp4 : pw n ≤ pw 4:=pw_le h4
  have hp5 : pw 4 = 16:=rfl
  have w0:=base_good (l:=(k : Int)) (k:=0) (f:=(f : Int)) t (by omega) (by decide) (by omega)
  have w1:=base_good (l:=(k : Int)) (k:=1) (f:=(f : Int)) t (by omega) (by decide) (by omega)
  have hfr:=wfrom_spec pub m _ hp hm w0 p.1 hl hg
  have hcp:=compress_spec09 pub _ (rowN (leadD p.1 m pub (base k t 0 f)) 67) 67 hp w1 (rowN_len _ _) (by decide) (by decide) (rowN_good fun i hi => leadD_good hl hg _ _ _ hi)
  have hld:=ledD_good hl hg pub m k t f
  have ecl:=climb_spec pub k t hp (by omega) (ledD pub m k t f p) p.2 f n ha h1 h4 hf hld hg2
  have e1 : compressD pub (base k t 1 f) (rowN (leadD p.1 m pub (base k t 0 f)) 67) = ledD pub m k t f p:=rfl
  rw [e1] at hcp
  refine fnN mix pl108 1 4 [.cell 8 25,.tmp 9] Tryz.func108 rfl (by kernel_rfl) (by kernel_rfl) rfl (by kernel_rfl) (by kernel_rfl) (by simp) ?_
  simp -implicitDefEqProofs (disch:=omega) only [go_sem,↓reduceIte]
  refine call0 (spot_spec k t f (by omega)) ?_
  simp -implicitDefEqProofs (disch:=omega) only [go_sem,↓reduceIte]
  refine callF 1 hfr ?_
  simp -implicitDefEqProofs (disch:=omega) only [go_sem,↓reduceIte]
  refine call0 (ltree_spec k t f) ?_
  simp -implicitDefEqProofs (disch:=omega) only [go_sem,↓reduceIte]
  refine callB hcp ?_ ?_
  · simp -implicitDefEqProofs (disch:=omega) only [go_sem,↓reduceIte]
  simp -implicitDefEqProofs (disch:=omega) only [go_sem,↓reduceIte]
  refine call0 ecl ?_
  simp -implicitDefEqProofs (disch:=omega) only [go_sem,↓reduceIte]
  refine ⟨[(0,0)],[],[],rfl,?_,?_,?_⟩ <;> simp -implicitDefEqProofs (disch:=omega) only [go_sem,↓reduceIte,overD]
include hp hm hk h4 hf in
theorem over_bad_spec (hn : ¬ (p.1.length = 67 ∧ p.2.length = n)) (hg : ∀ d ∈ p.1,goodD d) :
    FnC Tryz.prog 108 [.ref 0 [],.agg [.sl (.lst 32 p.1.length (p.1.map dg)),.sl (.lst 32 p.2.length (p.2.map dg))],.ints .u8 32 m,.ints .u8 32 pub]
      [(0,.var (.agg [.agg [.int .u32 k,.int .u64 t,.int .i64 f],.agg [.int .i64 a,.int .i64 n]]))] (.tup [.ints .u8 32 (List.replicate 32 0),.bool false])
      [(0,.var (.agg [.agg [.int .u32 k,.int .u64 t,.int .i64 f],.agg [.int .i64 a,.int .i64 n]]))]:=by
  have hp4 : pw n ≤ pw 4:=pw_le h4
  have hp5 : pw 4 = 16:=rfl
  have w0:=base_good (l:=(k : Int)) (k:=0) (f:=(f : Int)) t (by omega) (by decide) (by omega)
  refine fnN mix pl108 1 4 [.cell 8 25,.tmp 9] Tryz.func108 rfl (by kernel_rfl) (by kernel_rfl) rfl (by kernel_rfl) (by kernel_rfl) (by simp) ?_
  simp -implicitDefEqProofs (disch:=omega) only [go_sem,↓reduceIte]
  refine call0 (spot_spec k t f (by omega)) ?_
  simp -implicitDefEqProofs (disch:=omega) only [go_sem,↓reduceIte]
  by_cases h67 : p.1.length = 67
  · have hfr:=wfrom_spec pub m _ hp hm w0 p.1 h67 hg
    have e2 : decide (p.2.length = n) = false:=decide_eq_false (fun h => hn ⟨h67,h⟩)
    rw [h67]
    refine callF 1 hfr ?_
    simp -implicitDefEqProofs (disch:=omega) only [go_sem,↓reduceIte,e2]
    refine brd (fun h => by omega) (fun h => ?_)
    simp -implicitDefEqProofs (disch:=omega) only [go_sem,↓reduceIte]
    refine ⟨[(0,0)],[],[],rfl,?_,?_,?_⟩ <;> simp -implicitDefEqProofs (disch:=omega) only [go_sem,↓reduceIte]
  · refine call0 (wfrom_bad_spec pub m (base k t 0 f) p.1 _ h67) ?_
    simp -implicitDefEqProofs (disch:=omega) only [go_sem,↓reduceIte]
    refine ⟨[(0,0)],[],[],rfl,?_,?_,?_⟩ <;> simp -implicitDefEqProofs (disch:=omega) only [go_sem,↓reduceIte]
end
def vK (pub m : List Int) (n idx : Nat) (ps : List Part) : Nat → List Int
  | 0 => m
  | k + 1 => overD pub (vK pub m n idx ps k) k (atN n idx (k + 1) : Nat) (atN n idx k % pw n) n (ps.getD k ([],[]))
def partOk (n : Nat) (p : Part) : Prop:=p.1.length = 67 ∧ p.2.length = n
def goodPt (p : Part) : Prop:=(∀ d ∈ p.1,goodD d) ∧ ∀ d ∈ p.2,goodD d
theorem getPt {ps : List Part} {k : Nat} (h : k < ps.length) : ps[k]? = some (ps.getD k ([],[])):=by
  simp only [List.getD,List.getElem?_eq_getElem h,Option.getD_some]
theorem getPt_mem {ps : List Part} {k : Nat} (h : k < ps.length) : ps.getD k ([],[]) ∈ ps:=by
  simp only [List.getD,List.getElem?_eq_getElem h,Option.getD_some]
  exact List.getElem_mem h
section
variable (root pub r : List Int) (ht : goodD root) (hp : goodD pub) (hrg : goodD r)
include ht hp hrg in
theorem verify_spec (a b i : Int) (sg : List Part) (ps : List (List Int)) (hg : ∀ p ∈ sg,goodPt p) (hsl : sg.length ≤ 9223372036854775807) (hi : i < 9223372036854775808) (hps : ∀ p ∈ ps,∀ x ∈ p,0 ≤ x ∧ x < 256) (hc : (cat ps).length ≤ 100000) (hpl : ps.length ≤ 100000) :
    FnC Tryz.prog 49 [.agg [.agg [.int .i64 a,.int .i64 b],.ints .u8 32 root,.ints .u8 32 pub],.agg [.int .i64 i,.ints .u8 32 r,.sl (.lst 2 sg.length (sg.map pt))],.sl (.lst 1 ps.length (ps.map bsl))] []
      (.bool (decide (formedP a b i sg ∧ vK pub (msgD r root i (cat ps)) b.toNat i.toNat sg sg.length = root))) []:=by
  have hm6:=manyD_le a b
  refine fn0 mix pl49 0 3 [.tmp 6] Tryz.func49 rfl (by kernel_rfl) (by kernel_rfl) rfl (by kernel_rfl) (by kernel_rfl) (by simp) ?_
  simp -implicitDefEqProofs (disch:=omega) only [go_sem,↓reduceIte]
  refine brd (fun h => ?_) (fun h0 => ?_)
  · have e : decide (formedP a b i sg ∧ vK pub (msgD r root i (cat ps)) b.toNat i.toNat sg sg.length = root) = false:=decide_eq_false (fun x => by have:=x.1.1; omega)
    rw [e]
    simp -implicitDefEqProofs (disch:=omega) only [go_sem,↓reduceIte]
  simp -implicitDefEqProofs (disch:=omega) only [go_sem,↓reduceIte]
  refine call0 (many_spec a b) ?_
  simp -implicitDefEqProofs (disch:=omega) only [go_sem,↓reduceIte]
  refine brd (fun h => ?_) (fun h1 => ?_)
  · have e : decide (formedP a b i sg ∧ vK pub (msgD r root i (cat ps)) b.toNat i.toNat sg sg.length = root) = false:=decide_eq_false (fun x => by have:=x.1.2.1; omega)
    rw [e]
    simp -implicitDefEqProofs (disch:=omega) only [go_sem,↓reduceIte]
  simp -implicitDefEqProofs (disch:=omega) only [go_sem,↓reduceIte]
  refine brd (fun h2 => ?_) (fun h => ?_)
  case' refine_2 =>
    have e : decide (formedP a b i sg ∧ vK pub (msgD r root i (cat ps)) b.toNat i.toNat sg sg.length = root) = false:=decide_eq_false (fun x => by have:=x.1.2.2.1; omega)
    rw [e]
    simp -implicitDefEqProofs (disch:=omega) only [go_sem,↓reduceIte]
  have hr : rightP a b:=by
    by_cases hr : rightP a b
    · exact hr
    · exfalso
      have : manyD a b = 0:=by rw [manyD,if_neg hr]
      omega
  have hr':=hr
  unfold rightP at hr'
  obtain ⟨n,rfl⟩:=Int.eq_ofNat_of_zero_le (show 0 ≤ b by omega)
  obtain ⟨idx,rfl⟩:=Int.eq_ofNat_of_zero_le (show 0 ≤ i by omega)
  rw [Int.toNat_natCast,Int.toNat_natCast]
  simp -implicitDefEqProofs (disch:=omega) only [go_sem,↓reduceIte]
  refine call0 (told_spec .nils a n r root pub idx ps hrg ht hps hc hpl (by omega)) ?_
  generalize hM : msgD r root idx (cat ps) = M
  have hMg : goodD M:=by rw [← hM]; exact ofD_good _ _ _
  simp -implicitDefEqProofs (disch:=omega) only [go_sem,↓reduceIte]
  refine callF 1 (begin_spec a n idx (by omega) (by omega) (by omega)) ?_
  simp -implicitDefEqProofs (disch:=omega) only [go_sem,↓reduceIte]
  have hvg : ∀ k,k ≤ sg.length → (∀ p ∈ sg.take k,partOk n p) → goodD (vK pub M n idx sg k):=by
    intro k hk hq
    obtain _ | k:=k
    · exact hMg
    · have hm:=getPt_mem (show k < sg.length by omega)
      have hx : sg.getD k ([],[]) ∈ sg.take (k + 1):=by
        rw [take_next' (getPt (show k < sg.length by omega))]
        exact List.mem_append_right _ (List.mem_singleton.2 rfl)
      exact overD_good (hq _ hx).1 (hg _ hm).1 _ _ _ _ _ _
  refine loop (ι:=Nat) 4 (fun k => k ≤ sg.length ∧ ∀ p ∈ sg.take k,partOk n p) (fun k => [(3,.ref 0 []),(4,.ref 1 []),(6,.bool false),(7,.ref 2 []),(8,.ref 3 []),(46,.sl (.lst 2 sg.length (sg.map pt))),(47,.int .i64 sg.length),(48,.int .i64 k)])
    (fun k => [(0,.var (.agg [.agg [.int .i64 a,.int .i64 n],.ints .u8 32 root,.ints .u8 32 pub])),(1,.var (.agg [.int .i64 idx,.ints .u8 32 r,.sl (.lst 2 sg.length (sg.map pt))])),(2,.var (.ints .u8 32 (vK pub M n idx sg k))),
      (3,.var (.agg [.agg [.int .u32 k,.int .u64 (atN n idx (k + 1)),.int .i64 ((atN n idx k % pw n : Nat) : Int)],.agg [.int .i64 a,.int .i64 n]]))])
    (fun k => sg.length - k) 0 [(0,0),(1,1),(2,2),(3,3)] [] ⟨Nat.zero_le _,by simp⟩ rfl ?_ ?_ ?_ (fun k hk => ?_)
  · simp -implicitDefEqProofs (disch:=omega) only [go_sem,↓reduceIte]
  · simp -implicitDefEqProofs (disch:=omega) only [go_sem,↓reduceIte]
  · simp -implicitDefEqProofs (disch:=omega) only [go_sem,↓reduceIte,vK,atN]
  obtain ⟨hk,hq⟩:=hk
  have hvk:=hvg k hk hq
  have hle:=atN_le n idx (k + 1)
  have hle0:=atN_le n idx k
  have hpp:=pw_pos n
  have hlf : atN n idx k % pw n < pw n:=Nat.mod_lt _ (by omega)
  have hup:=up_spec11 (k : Int) a ((atN n idx k % pw n : Nat) : Int) n (atN n idx (k + 1)) (by omega) (by omega) (by omega) (by omega)
  have e2 : atN n idx (k + 1) / pw n = atN n idx (k + 1 + 1):=rfl
  rw [e2] at hup
  simp -implicitDefEqProofs (disch:=omega) only [go_sem,↓reduceIte]
  refine brd (fun h => ?_) (fun h => ?_)
  · have hlt : k < sg.length:=by omega
    have hm:=getPt_mem hlt
    have hgp : ∀ K : AV → Prop,getP (sg.map pt) k K = K (.agg [.sl (.lst 32 (sg.getD k ([],[])).1.length ((sg.getD k ([],[])).1.map dg)),.sl (.lst 32 (sg.getD k ([],[])).2.length ((sg.getD k ([],[])).2.map dg))]):=fun K => getP_map (f:=pt) (getPt hlt) K
    have hv1 : overD pub (vK pub M n idx sg k) k (atN n idx (k + 1) : Nat) (atN n idx k % pw n) n (sg.getD k ([],[])) = vK pub M n idx sg (k + 1):=rfl
    have htk:=take_next' (getPt hlt)
    generalize sg.getD k ([],[]) = P at *
    by_cases hok : partOk n P
    · have hov:=over_ok_spec pub (vK pub M n idx sg k) k (atN n idx (k + 1) : Nat) (atN n idx k % pw n) n a P hp hvk (by omega) (by omega) (by omega) hlf hok.1 hok.2 (hg _ hm).1 (hg _ hm).2
      rw [hv1] at hov
      rw [hok.1,hok.2] at hgp
      simp -implicitDefEqProofs (disch:=omega) only [go_sem,↓reduceIte,↓hgp]
      refine callG false [(0,3)] [(0,3)] 5 hov ?_ ?_
      · simp [keys]
      simp -implicitDefEqProofs (disch:=omega) only [go_sem,↓reduceIte]
      refine callG false [(0,3)] [(0,3)] 6 hup ?_ ?_
      · simp [keys]
      simp -implicitDefEqProofs (disch:=omega) only [go_sem,↓reduceIte]
      have hq2 : ∀ p ∈ sg.take (k + 1),partOk n p:=by
        intro p hx
        rw [htk] at hx
        rcases List.mem_append.1 hx with hx | hx
        · exact hq p hx
        · rw [List.mem_singleton] at hx; subst hx; exact hok
      refine ⟨k + 1,[(0,0),(1,1),(2,2),(3,3)],[],[],⟨hlt,hq2⟩,by dsimp only; omega,rfl,?_,?_,?_⟩ <;> simp -implicitDefEqProofs (disch:=omega) only [go_sem,↓reduceIte]
    · have hov:=over_bad_spec pub (vK pub M n idx sg k) k (atN n idx (k + 1) : Nat) (atN n idx k % pw n) n a P hp hvk (by omega) (by omega) hlf hok (hg _ hm).1
      have e : decide (formedP a n idx sg ∧ vK pub M n idx sg sg.length = root) = false:=decide_eq_false (fun x => hok (by
        have:=x.1.2.2.2 P hm
        exact ⟨this.1,by omega⟩))
      rw [e]
      simp -implicitDefEqProofs (disch:=omega) only [go_sem,↓reduceIte,↓hgp]
      refine callG false [(0,3)] [(0,3)] 5 hov ?_ ?_
      · simp [keys]
      simp -implicitDefEqProofs (disch:=omega) only [go_sem,↓reduceIte]
  · obtain rfl : k = sg.length:=by omega
    have hf : formedP a n idx sg:=⟨by omega,by omega,by omega,fun p hx => by
      have:=hq p (by rw [List.take_length]; exact hx)
      exact ⟨this.1,by have:=this.2; omega⟩⟩
    have e : decide (formedP a n idx sg ∧ vK pub M n idx sg sg.length = root) = decide (vK pub M n idx sg sg.length = root):=by simp [hf]
    rw [e]
    simp -implicitDefEqProofs (disch:=omega) only [go_sem,↓reduceIte]
end
end Go.Proofs.YtololahjocfbeaaGreat
