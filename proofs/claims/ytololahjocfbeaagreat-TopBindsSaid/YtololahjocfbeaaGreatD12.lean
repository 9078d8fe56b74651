/- Texts,joined. -/
import Derived.Test.YtololahjocfbeaaGreatD11
import Derived.Test.YtololahjocfbeaaGreatD08
import Derived.Test.YtololahjocfbeaaGreatD09
import Derived.RangeFuncRecord
namespace Go.Sy
open Go
set_option linter.unusedSimpArgs false
set_option linter.unusedVariables false
def subOK (σ : List (Nat × Nat)) (Z F : List Nat) (O2 O1 : OO) : Bool :=
  F.all (fun f => !(σ.map (·.2)).contains f) && decide ((σ.map (·.2)).Nodup) && σ.all (fun p => !Z.contains p.1 && (keys O1).contains p.1) && Z.all (fun z => (keys O1).contains z) &&
    O2.all fun p => match p.2 with | .var _ => (match lk σ p.1 with | some o => Nat.beq o p.1 && (match lk O1 p.1 with | some (.var _) => true | _ => false) | none => false) | _ => true
theorem lk_keys {O : OO} {o : Nat} (h : (keys O).contains o = true) : lk O o ≠ none:=by
  induction O with
  | nil => simp [keys] at h
  | cons p O ih =>
    obtain ⟨i,v⟩:=p
    simp only [lk]
    split
    · simp
    · rename_i e
      refine ih ?_
      simp only [keys,List.map_cons,List.contains_cons,Bool.or_eq_true,beq_iff_eq] at h ⊢
      rcases h with h | h
      · exact absurd h.symm e
      · exact h
theorem FnC.sub {P : Program} {f : FuncId} {A args : List AV} {r : AV} {O1 O2 O' : OO} (h : FnC P f A O1 r O') (σ : List (Nat × Nat)) (Z F : List Nat) (hok : subOK σ Z F O2 O1 = true)
    (hA : matsC σ Z (frzO O2 F) A args) (hO : holdsN O2 σ Z (frzO O2 F) O1) : FnC P f args O2 r O':=by
  refine ⟨h.1,fun w M β xs hids hst hxs => ?_⟩
  simp only [subOK,Bool.and_eq_true,List.all_eq_true,decide_eq_true_eq,Bool.not_eq_true'] at hok
  obtain ⟨⟨⟨⟨hF,hnd⟩,hσ⟩,hZ⟩,hvar⟩:=hok
  let b1 : Bmap:=fun o => match lk σ o with | some o' => β o' | none => if Z.contains o = true then some (0,0) else none
  have ha : Agr σ b1 β:=fun o o' h => by show (match lk σ o with | some o' => β o' | none => _) = _; rw [h]
  have hz : NilOK Z b1:=fun o ho => by
    have : lk σ o = none:=by
      rw [lk_none]
      intro hm
      obtain ⟨p,hp,rfl⟩:=List.mem_map.1 hm
      have:=(hσ p hp).1
      rw [ho] at this
      cases this
    show (match lk σ o with | some o' => β o' | none => if Z.contains o = true then some (0,0) else none) = _
    rw [this]
    simp only [ho,if_true]
  have hF' : ∀ f ∈ F,∀ o,lk σ o ≠ some f:=fun f hf o e => by
    have:=hF f hf
    have hm : f ∈ σ.map (·.2):=List.mem_map.2 ⟨_,lk_mem e,rfl⟩
    simp only [Bool.eq_false_iff] at this
    exact this (by simpa using hm)
  obtain ⟨M1,hM,hV,hs1⟩:=hst.ren hF' hnd ha hz hO
  have hH:=holdsN_spec hO
  have own1 : ∀ b,ownOf O1 b1 b → ownOf O2 β b:=fun b ⟨o,ob,κ,g1,g2,g3⟩ => by
    rcases hH _ (lk_mem g1) with ⟨o',ob',k1,k2,_⟩ | ⟨_,k2⟩
    · have : b1 o = β o':=ha _ _ k1
      rw [this] at g2
      exact ⟨o',ob',κ,k2,g2,g3⟩
    · rw [hz _ k2] at g2
      cases g2
      exact absurd rfl g3
  have hids1 : ∀ o,lk O1 o = none → b1 o = none:=fun o ho => by
    show (match lk σ o with | some o' => β o' | none => if Z.contains o = true then some (0,0) else none) = none
    cases hl : lk σ o with
    | some o' => exact absurd ho (lk_keys (hσ _ (lk_mem hl)).2)
    | none =>
      simp only []
      by_cases hc : Z.contains o = true
      · exact absurd ho (lk_keys (hZ o (by simpa using hc)))
      · simp only [hc,if_false,Bool.false_eq_true]
  have hs2 : St ⟨w,ownOf O1 b1,M1,nob,0,fun _ => True⟩ M1 b1 O1 w :=
    ⟨hs1.pool,fun _ _ _ h => h,fun _ _ _ h => .inl h,hs1.objs,fun o ob b κ hl hb hk => ⟨(hs1.mine o ob b κ hl hb hk).1,.inl ⟨o,ob,κ,hl,hb,hk⟩⟩,hs1.inj,Nat.le_refl _,fun _ _ _ => rfl,rfl,rfl,rfl⟩
  have hxs1 : VRs M1 b1 A xs:=(matsC_spec σ Z (frzO O2 F) A args hA).vr hM hV ha hz hxs
  refine (h.2 w M1 b1 xs hids1 hs2 hxs1).mono fun e w' ⟨x,M',β',he,hr,st,hv⟩ => ⟨x,M',β',he,hr,?_,fun o c hl => ?_⟩
  · refine ⟨st.pool,fun b i v hm => st.sub _ _ _ (hM _ _ _ hm),fun b i v hm => ?_,st.objs,fun o ob b κ hl hb hk => ?_,st.inj,st.size,fun b hb hn => st.keep b hb fun h => hn (own1 b h),st.os,st.tape,st.output⟩
    · rcases st.only _ _ _ hm with g | g | g
      · exact hs1.only _ _ _ g
      · exact .inr (.inl (own1 b g))
      · exact .inr (.inr g)
    · obtain ⟨g1,g2⟩:=st.mine o ob b κ hl hb hk
      exact ⟨g1,g2.imp (own1 b) id⟩
  · have hp:=hvar _ (lk_mem hl)
    simp only [] at hp
    cases hl2 : lk σ o with
    | none => rw [hl2] at hp; cases hp
    | some o' =>
      rw [hl2] at hp
      simp only [Bool.and_eq_true] at hp
      obtain rfl:=Nat.eq_of_beq_eq_true hp.1
      have hp2:=hp.2
      split at hp2
      · rename_i c' hc'
        rw [hv _ _ hc']
        exact ha _ _ hl2
      · cases hp2
end Go.Sy
namespace Go.Proofs.YtololahjocfbeaaGreat
open Go Go.Sy Go.Proofs.Tryz
set_option maxRecDepth 100000
set_option maxHeartbeats 8000000
set_option linter.unusedSimpArgs false
set_option linter.unusedVariables false
attribute [go_sem] pl115 pl184
structure DS where
  sz : Nat
  b : List Int
  wait : List (Nat × List Int)
  off : Bool
  set : Bool
  left : Int
  keep : List Int
def wtV (w : Nat × List Int) : AV:=.agg [.int .i64 w.1,.sl (.ints .u8 w.2.length w.2)]
abbrev dskV (i j : Nat) (D : DS) : AV:=.agg [.int .i64 D.sz,.osl i [] 1 0 D.b.length,.osl j [] 2 0 D.wait.length,.bool D.off,.bool D.set,.int .i64 D.left,.sl (.ints .i64 D.keep.length D.keep)]
abbrev dskO (i j : Nat) (D : DS) : OO:=[(0,.var (dskV i j D)),(i,.row (.ints .u8 D.b.length D.b)),(j,.row (.lst 2 D.wait.length (D.wait.map wtV)))]
structure okD (D : DS) : Prop where
  sz1 : 1 ≤ D.sz
  sz2 : D.sz ≤ 512
  bl : D.b.length ≤ 32768
  wl : D.wait.length ≤ 100000
  kl : D.keep.length ≤ 9223372036854775807
  wt : ∀ w ∈ D.wait,w.1 * D.sz + D.sz ≤ D.b.length ∧ w.2.length = D.sz
def putB (sz : Nat) (b : List Int) (at' : Nat) (t : List Int) (m : Nat) : List Int:=b.take (at' * sz) ++ (t.take m ++ b.drop (at' * sz + m))
theorem putB_len {sz : Nat} {b : List Int} {at' : Nat} {t : List Int} {m : Nat} (h : at' * sz + m ≤ b.length) (hm : m ≤ t.length) : (putB sz b at' t m).length = b.length:=by
  unfold putB
  rw [List.length_append,List.length_append,List.length_take,List.length_take,List.length_drop]
  omega
def kept (sz : Nat) (k : Int) : Nat:=(max 0 (min k (sz : Int))).toNat
theorem kept_le (sz : Nat) (k : Int) : kept sz k ≤ sz:=by unfold kept; omega
def crashB (sz : Nat) : List (Nat × List Int) → List Int → List Int → List Int
  | [],_,b => b
  | _ :: _,[],b => b
  | w :: ws,k :: ks,b => crashB sz ws ks (putB sz b w.1 w.2 (kept sz k))
def crashD (D : DS) (keep : List Int) : DS:=if D.off = true then D else { D with b:=crashB D.sz D.wait keep D.b,wait:=[],off:=true,set:=false }
def failedD (D : DS) : Bool × DS:=if D.set = true ∧ D.left = 0 then (true,crashD D D.keep) else (false,{ D with left:=IntKind.i64.wrap (D.left - 1) })
def thereD (D : DS) (i : Int) : Prop:=0 ≤ i ∧ i < ((D.b.length / D.sz : Nat) : Int)
instance (D : DS) (i : Int) : Decidable (thereD D i):=by unfold thereD; infer_instance
def writeD (D : DS) (i : Int) (t : List Int) : Int × DS :=
  if D.off = true then (9,D) else if thereD D i ∧ t.length = D.sz then
    (if (failedD { D with wait:=D.wait ++ [(i.toNat,t)] }).1 = true then 9 else 0,(failedD { D with wait:=D.wait ++ [(i.toNat,t)] }).2) else (1,D)
def readB (D : DS) (i : Nat) : List Int:=D.wait.foldl (fun o w => if w.1 = i then w.2 else o) ((D.b.drop (i * D.sz)).take D.sz)
def syncB (sz : Nat) (ws : List (Nat × List Int)) (b : List Int) : List Int:=ws.foldl (fun b w => putB sz b w.1 w.2 sz) b
def syncD (D : DS) : Int × DS :=
  if D.off = true then (9,D) else if (failedD D).1 = true then (9,(failedD D).2) else (0,{ (failedD D).2 with b:=syncB D.sz D.wait D.b,wait:=[] })
attribute [go_sem] dskV dskO wtV
attribute [simp] dskO
theorem gone_spec (D : DS) : FnC Tryz.prog 88 [.ref 0 []] (dskO 1 2 D) (.bool D.off) (dskO 3 4 D):=by
  refine fnV mix [] 1 3 1 [.tmp 2] Tryz.func88 rfl (by kernel_rfl) (by kernel_rfl) rfl (by kernel_rfl) (by kernel_rfl) (by simp) rfl rfl ?_
  simp -implicitDefEqProofs (disch:=omega) only [go_sem,↓reduceIte]
  refine ⟨[(0,0),(3,1),(4,2)],[],[],rfl,?_,?_,?_⟩ <;> simp -implicitDefEqProofs (disch:=omega) only [go_sem,↓reduceIte]
theorem dsize_spec (D : DS) : FnC Tryz.prog 126 [.ref 0 []] (dskO 1 2 D) (.int .i64 D.sz) (dskO 3 4 D):=by
  refine fnV mix [] 1 3 1 [.tmp 2] Tryz.func126 rfl (by kernel_rfl) (by kernel_rfl) rfl (by kernel_rfl) (by kernel_rfl) (by simp) rfl rfl ?_
  simp -implicitDefEqProofs (disch:=omega) only [go_sem,↓reduceIte]
  refine ⟨[(0,0),(3,1),(4,2)],[],[],rfl,?_,?_,?_⟩ <;> simp -implicitDefEqProofs (disch:=omega) only [go_sem,↓reduceIte]
theorem sectors_spec (D : DS) (h : okD D) : FnC Tryz.prog 184 [.ref 0 []] (dskO 1 2 D) (.int .i64 (D.b.length / D.sz : Nat)) (dskO 3 4 D):=by
  have h1:=h.sz1
  have h2:=h.sz2
  have h3:=h.bl
  have e1 : max (1 : Int) (D.sz : Int) = D.sz:=by omega
  have e2 : (D.b.length : Int).tdiv (D.sz : Int) = ((D.b.length / D.sz : Nat) : Int):=by rw [Int.tdiv_eq_ediv_of_nonneg (by omega)]; simp
  have e3 : D.b.length / D.sz ≤ D.b.length:=Nat.div_le_self _ _
  generalize D.b.length / D.sz = q at *
  refine fnV mix pl184 1 3 1 [.tmp 2] Tryz.func184 rfl (by kernel_rfl) (by kernel_rfl) rfl (by kernel_rfl) (by kernel_rfl) (by simp) rfl rfl ?_
  simp -implicitDefEqProofs (disch:=omega) only [go_sem,↓reduceIte,e1,e2]
  refine ⟨[(0,0),(3,1),(4,2)],[],[],rfl,?_,?_,?_⟩ <;> simp -implicitDefEqProofs (disch:=omega) only [go_sem,↓reduceIte]
theorem there_spec (D : DS) (h : okD D) (i : Int) : FnC Tryz.prog 199 [.ref 0 [],.int .i64 i] (dskO 1 2 D) (.bool (decide (thereD D i))) (dskO 3 4 D):=by
  refine fnV mix [] 1 3 2 [.tmp 4] Tryz.func199 rfl (by kernel_rfl) (by kernel_rfl) rfl (by kernel_rfl) (by kernel_rfl) (by simp) rfl rfl ?_
  simp -implicitDefEqProofs (disch:=omega) only [go_sem,↓reduceIte]
  by_cases h1 : 0 ≤ i
  · have d1 : decide (0 ≤ i) = true:=decide_eq_true h1
    have e : decide (thereD D i) = decide (i < ((D.b.length / D.sz : Nat) : Int)):=decide_eq_decide.2 ⟨fun h => h.2,fun h => ⟨h1,h⟩⟩
    rw [e]
    simp -implicitDefEqProofs (disch:=omega) only [go_sem,↓reduceIte,d1]
    refine callG false [(0,0),(1,1),(2,2)] [(0,0),(3,3),(4,4)] 5 (sectors_spec D h) ?_ ?_
    · simp [keys,dskO]
    simp -implicitDefEqProofs (disch:=omega) only [go_sem,↓reduceIte]
    refine ⟨[(0,0),(3,3),(4,4)],[],[],rfl,?_,?_,?_⟩ <;> simp -implicitDefEqProofs (disch:=omega) only [go_sem,↓reduceIte]
  · have d1 : decide (0 ≤ i) = false:=decide_eq_false h1
    have e : decide (thereD D i) = false:=decide_eq_false (fun h => h1 h.1)
    rw [e]
    simp -implicitDefEqProofs (disch:=omega) only [go_sem,↓reduceIte,d1]
    refine ⟨[(0,0),(3,1),(4,2)],[],[],rfl,?_,?_,?_⟩ <;> simp -implicitDefEqProofs (disch:=omega) only [go_sem,↓reduceIte]
theorem dput_spec (sz nb : Nat) (cw ck : AV) (off set : Bool) (left : Int) (b : List Int) (at' m n : Nat) (t : List Int) (hb : b.length = nb) (hn : t.length = n) (hs : sz ≤ 512) (hbl : nb ≤ 32768) (hm : m ≤ n) (h : at' * sz + m ≤ nb) :
    FnC Tryz.prog 115 [.ref 0 [],.agg [.int .i64 at',.sl (.ints .u8 n t)],.int .i64 m] [(0,.var (.agg [.int .i64 sz,.osl 1 [] 1 0 nb,.sl cw,.bool off,.bool set,.int .i64 left,.sl ck])),(1,.row (.ints .u8 nb b))] (.tup [])
      [(0,.var (.agg [.int .i64 sz,.osl 2 [] 1 0 nb,.sl cw,.bool off,.bool set,.int .i64 left,.sl ck])),(2,.row (.ints .u8 nb (putB sz b at' t m)))]:=by
  have e1 : (at' : Int) * (sz : Int) = ((at' * sz : Nat) : Int):=by simp
  obtain ⟨a,ha⟩ : ∃ a,a = at' * sz:=⟨_,rfl⟩
  unfold putB
  rw [← ha] at h e1 ⊢
  refine fnV mix pl115 1 2 3 [] Tryz.func115 rfl (by kernel_rfl) (by kernel_rfl) rfl (by kernel_rfl) (by kernel_rfl) (by simp) rfl rfl ?_
  by_cases hm0 : m = 0
  · subst hm0
    have e2 : b.take a ++ b.drop a = b:=List.take_append_drop a b
    by_cases hn0 : n = 0
    · subst hn0
      simp -implicitDefEqProofs (disch:=omega) only [go_sem,↓reduceIte,e1]
      refine ⟨[(0,0),(2,1)],[],[],rfl,?_,?_,?_⟩ <;> simp -implicitDefEqProofs (disch:=omega) only [go_sem,↓reduceIte,List.take_zero,Nat.add_zero,e2]
    · have d1 : ¬ 0 = n:=fun h => hn0 h.symm
      simp -implicitDefEqProofs (disch:=omega) only [go_sem,↓reduceIte,e1,d1]
      refine ⟨[(0,0),(2,1)],[],[],rfl,?_,?_,?_⟩ <;> simp -implicitDefEqProofs (disch:=omega) only [go_sem,↓reduceIte,List.take_zero,Nat.add_zero,e2]
  · have d2 : ¬ nb - a = 0:=by omega
    by_cases hmn : m = n
    · subst hmn
      have e3 : t.take m = t:=List.take_of_length_le (by omega)
      simp -implicitDefEqProofs (disch:=omega) only [go_sem,↓reduceIte,e1,hm0,d2]
      refine brd (fun h3 => ?_) (fun h3 => absurd (show m ≤ nb - a by omega) h3)
      simp -implicitDefEqProofs (disch:=omega) only [go_sem,↓reduceIte]
      refine ⟨[(0,0),(2,1)],[],[],rfl,?_,?_,?_⟩ <;> simp -implicitDefEqProofs (disch:=omega) only [go_sem,↓reduceIte,e3]
    · simp -implicitDefEqProofs (disch:=omega) only [go_sem,↓reduceIte,e1,hm0,d2,hmn]
      refine brd (fun h3 => ?_) (fun h3 => absurd (show m ≤ nb - a by omega) h3)
      simp -implicitDefEqProofs (disch:=omega) only [go_sem,↓reduceIte]
      refine ⟨[(0,0),(2,1)],[],[],rfl,?_,?_,?_⟩ <;> simp -implicitDefEqProofs (disch:=omega) only [go_sem,↓reduceIte]
end Go.Proofs.YtololahjocfbeaaGreat
namespace Go.Sy
open Go
set_option linter.unusedSimpArgs false
set_option linter.unusedVariables false
section
variable {E : Env} {N : Nat} {M M' M1 : Pool} {β β' β1 β2 : Bmap} {T T' : TT} {O O' O1 O2 : OO} {n m : Nat} {a : Act} {w w' : World} {P : Program} {o : Oper}
abbrev Runner:=List Value → World → (Ending → World → Prop) → Prop
def RunC (R : Runner) (args : List AV) (O : OO) (r : AV) (O' : OO) : Prop :=
  ∀ (w : World) (M : Pool) (β : Bmap) (xs : List Value),(∀ o,lk O o = none → β o = none) → St ⟨w,ownOf O β,M,nob,0,fun _ => True⟩ M β O w → VRs M β args xs →
    R xs w fun e w' => ∃ x M' β',e = .returned x ∧ VR M' β' r x ∧ St ⟨w,ownOf O β,M,nob,0,fun _ => True⟩ M' β' O' w' ∧ (∀ o c,lk O o = some (.var c) → β' o = β o)
def RunP (R : Runner) (args : List AV) (O : OO) (n : Nat) (κ : AV → OO → Nat → Prop) : Prop :=
  ∃ (bor : Bool) (σ τ : List (Nat × Nat)) (A : List AV) (O1 O2 : OO) (r : AV) (O' : OO) (n' : Nat),RunC R A O1 r O' ∧ (rmsO O (σ.map (·.2)) fun O' => O' = O2) ∧ argsOK bor σ O2 args A ∧ holdsO O σ O1 ∧
    (σ.map (·.1) = keys O1) ∧ (keys O1).Nodup ∧ (σ.map (·.2)).Nodup ∧
    n ≤ n' ∧ (τ.map (·.1)).Nodup ∧ (τ.map (·.2)).Nodup ∧ homesOK σ τ O1 n n' O' ∧ (τ.map (·.1) = keys O') ∧
      (bor = true → r.pf = true ∧ ∀ p ∈ O',p.2.pf = true) ∧
      renC τ r fun r' => renOO τ O' fun L => κ r' (L ++ O2) n'
theorem run_gen {R : Runner} (hmono : ∀ (xs : List Value) (w : World) (Q Q' : Ending → World → Prop),(∀ e w',Q e w' → Q' e w') → R xs w Q → R xs w Q') (hr : RelAt E N M β T O n a w) {args : List AV} {xs : List Value} {κ : AV → OO → Nat → Prop} (hK : ∀ v O' n',κ v O' n' → ∀ o,n ≤ o → o < n' → E.ok o) (hv : VRs M β args xs) (h : RunP R args O n κ) :
    R xs w fun e w' => ∃ x r O' n' M' β',e = .returned x ∧ κ r O' n' ∧ VR M' β' r x ∧ RelAt E N M' β' T O' n' a w':=by
  obtain ⟨bor,σ,τ,A,O1,O2,r,O',n',hf,hO2,hA,hH,hk1,hn1,hn2,hnn,ht1,ht2,hhome,hkt,hbor,h⟩:=h
  obtain ⟨O2',e,hl2⟩:=rmsO_spec hO2
  subst e
  have hH:=holdsO_spec hH
  have hns : (σ.map (·.1)).Nodup:=by rw [hk1]; exact hn1
  let β1 : Bmap:=fun o => match lk σ o with | some o' => β o' | none => none
  let M1 : Pool:=poolOf bor M β O2' w
  have hβ1 : ∀ o o',lk σ o = some o' → β1 o = β o':=fun o o' h => by show (match lk σ o with | some o' => β o' | none => none) = _; rw [h]
  have hl2' : ∀ o ob,lk O2' o = some ob → lk O o = some ob ∧ o ∉ σ.map (·.2):=fun o ob h => by
    rw [hl2] at h
    split at h
    · cases h
    · rename_i e; exact ⟨h,e⟩
  have hM : PLe M M1:=fun b i v hm => by
    show poolOf bor M β O2' w b i = some v
    unfold poolOf
    rw [if_neg]
    · exact hm
    · rintro ⟨_,o,ob,κ,h1,h2,h3⟩
      have:=(hr.st.mine o ob b κ (hl2' _ _ h1).1 h2 h3).1 i
      rw [this] at hm; cases hm
  have hMf : bor = false → M1 = M:=fun hb => by
    funext b i
    show poolOf bor M β O2' w b i = _
    unfold poolOf
    rw [if_neg]
    rintro ⟨h,_⟩
    rw [hb] at h; cases h
  have hO1 : ∀ o ob,lk O1 o = some ob → ∃ o' ob',lk σ o = some o' ∧ lk O o' = some ob' ∧ RenB σ ob ob':=fun o ob h => hH _ (lk_mem h)
  have hst1 : St ⟨w,ownOf O1 β1,M1,nob,0,fun _ => True⟩ M1 β1 O1 w:=by
    refine ⟨fun b i v hm => ?_,fun _ _ _ h => h,fun _ _ _ h => .inl h,fun o ob hl => ?_,fun o ob b κ hl hb hk => ⟨fun i => ?_,.inl ⟨o,ob,κ,hl,hb,hk⟩⟩,fun o o' ob ob' b κ κ' hl hl' hb hb' hk hk' => ?_,Nat.le_refl _,fun _ _ _ => rfl,rfl,rfl,rfl⟩
    · have hm : poolOf bor M β O2' w b i = some v:=hm
      unfold poolOf at hm
      split at hm
      · exact hm
      · exact hr.st.pool _ _ _ hm
    · obtain ⟨o',ob',h1,h2,h3⟩:=hO1 _ _ hl
      obtain ⟨b,κ,hb,hor⟩:=hr.st.objs _ _ h2
      exact ⟨b,κ,by rw [hβ1 _ _ h1]; exact hb,((h3 hβ1).2 hor).mono2 hM (BLe.refl _) fun _ => rfl⟩
    · obtain ⟨o',ob',h1,h2,h3⟩:=hO1 _ _ hl
      rw [hβ1 _ _ h1] at hb
      show poolOf bor M β O2' w b i = none
      unfold poolOf
      rw [if_neg]
      · exact (hr.st.mine _ _ _ _ h2 hb hk).1 i
      · rintro ⟨_,o2,ob2,κ2,g1,g2,g3⟩
        obtain ⟨g4,g5⟩:=hl2' _ _ g1
        have:=hr.st.inj _ _ _ _ _ _ _ g4 h2 g2 hb g3 hk
        subst this
        exact g5 (List.mem_map.2 ⟨_,lk_mem h1,rfl⟩)
    · obtain ⟨p,ob1,h1,h2,h3⟩:=hO1 _ _ hl
      obtain ⟨p',ob1',h1',h2',h3'⟩:=hO1 _ _ hl'
      rw [hβ1 _ _ h1] at hb
      rw [hβ1 _ _ h1'] at hb'
      have:=hr.st.inj _ _ _ _ _ _ _ h2 h2' hb hb' hk hk'
      subst this
      have e1:=lk_swap' hn2 h1
      have e2:=lk_swap' hn2 h1'
      rw [e1] at e2
      exact Option.some.inj e2
  have hargs : VRs M1 β1 A xs:=argsOK_spec hβ1 hM (fun hb => viewC_spec hr.st hM (fun o ob h => (hl2' o ob h).1) (fun o ob b κ h1 h2 h3 i v h4 => by
    show poolOf bor M β O2' w b i = some v
    unfold poolOf
    rw [if_pos ⟨hb,o,ob,κ,h1,h2,h3⟩]
    exact h4) 9) hA hv
  have hids1 : ∀ o,lk O1 o = none → β1 o = none:=fun o h => by
    rw [lk_none] at h
    have : lk σ o = none:=by rw [lk_none,hk1]; exact h
    show (match lk σ o with | some o' => β o' | none => none) = _
    rw [this]
  refine hmono _ _ _ _ ?_ (hf w M1 β1 xs hids1 hst1 hargs)
  rintro e w' ⟨x,M',β',rfl,hrv,hst',hvar⟩
  have hhome:=homesOK_spec hhome
  obtain ⟨r',h,hrr⟩:=renC_spec τ r _ h
  obtain ⟨L,hκ,hL⟩:=renOO_spec h
  have hok:=hK _ _ _ hκ
  let β2 : Bmap:=fun i => match lk (τ.map Prod.swap) i with | some o => β' o | none => β i
  have hβ2 : Agr τ β' β2:=fun o o' h => by
    show _ = (match lk (τ.map Prod.swap) o' with | some o => β' o | none => β o')
    rw [lk_swap' ht2 h]
  have homes : ∀ o o',lk τ o = some o' → (n ≤ o' ∧ o' < n') ∨ (lk σ o = some o' ∧ β' o = β o'):=fun o o' h => by
    have : o ∈ keys O':=by rw [← hkt]; exact List.mem_map.2 ⟨_,lk_mem h,rfl⟩
    obtain ⟨p,hp,e⟩:=List.mem_map.1 this
    obtain ⟨p1,p2⟩:=p
    simp only at e; subst e
    obtain ⟨o2,g1,g2⟩:=hhome _ hp
    rw [h] at g1; cases g1
    refine g2.imp id ?_
    rintro ⟨c,g3,g4⟩
    exact ⟨g4,by rw [hvar _ _ g3,hβ1 _ _ g4]⟩
  have hbl : BLe β β2:=fun i x hb => by
    show (match lk (τ.map Prod.swap) i with | some o => β' o | none => β i) = some x
    split
    · rename_i o e
      rcases homes _ _ (lk_swap ht1 e) with ⟨g,g2⟩ | ⟨_,g⟩
      · rw [hr.ids _ g (hok _ g g2)] at hb; cases hb
      · rw [g]; exact hb
    · exact hb
  have hlow : ∀ i,(i < n ∨ ¬ E.ok i) → β2 i = β i:=fun i hi => by
    show (match lk (τ.map Prod.swap) i with | some o => β' o | none => β i) = β i
    split
    · rename_i o e
      rcases homes _ _ (lk_swap ht1 e) with ⟨g,g2⟩ | ⟨_,g⟩
      · rcases hi with hi | hi
        · omega
        · exact absurd (hok _ g g2) hi
      · exact g
    · rfl
  have hids2 : ∀ o,n' ≤ o → E.ok o → β2 o = none:=fun i hi hk => by
    show (match lk (τ.map Prod.swap) i with | some o => β' o | none => β i) = none
    split
    · rename_i o e
      rcases homes _ _ (lk_swap ht1 e) with ⟨_,g⟩ | ⟨_,g⟩
      · omega
      · rw [g]; exact hr.ids _ (by omega) hk
    · exact hr.ids _ (by omega) hk
  have hnO' : (O'.map (·.1)).Nodup:=by have:=ht1; rw [hkt] at this; exact this
  have ownO : ∀ b,ownOf O1 β1 b → ∃ o ob κ,lk O o = some ob ∧ β o = some (b,κ) ∧ κ ≠ 0 ∧ o ∈ σ.map (·.2):=by
    rintro b ⟨o,ob,κ,h1,h2,h3⟩
    obtain ⟨o',ob',g1,g2,_⟩:=hO1 _ _ h1
    rw [hβ1 _ _ g1] at h2
    exact ⟨o',ob',κ,g2,h2,h3,List.mem_map.2 ⟨_,lk_mem g1,rfl⟩⟩
  have mineO : ∀ b,ownOf O1 β1 b → (∀ i,M b i = none) ∧ (E.own b ∨ E.w0.heap.size ≤ b):=fun b hb => by
    obtain ⟨o,ob,κ,h1,h2,h3,_⟩:=ownO b hb
    exact hr.st.mine _ _ _ _ h1 h2 h3
  -- the pool behind the call
  let M2 : Pool:=if bor = true then M else M'
  have hM2' : ∀ b i v,M2 b i = some v → M' b i = some v:=fun b i v hm => by
    show M' b i = some v
    have hm : (if bor = true then M else M') b i = some v:=hm
    split at hm
    · exact hst'.sub _ _ _ (hM _ _ _ hm)
    · exact hm
  have hMM2 : PLe M M2:=fun b i v hm => by
    show (if bor = true then M else M') b i = some v
    split
    · exact hm
    · exact hst'.sub _ _ _ (hM _ _ _ hm)
  have lifR : VR M2 β' r x:=by
    by_cases hb : bor = true
    · exact pf_aux.2.2.1 hrv (hbor hb).1 _
    · have : M2 = M':=by show (if bor = true then M else M') = _; rw [if_neg hb]
      rw [this]; exact hrv
  have lifO : ∀ p ∈ O',∀ b κ,OR M' β' b κ w' p.2 → OR M2 β' b κ w' p.2:=fun p hp b κ h => by
    by_cases hb : bor = true
    · exact h.pf ((hbor hb).2 p hp) _
    · have : M2 = M':=by show (if bor = true then M else M') = _; rw [if_neg hb]
      rw [this]; exact h
  have hLlk : ∀ i ob,lk L i = some ob → ∃ o ob',lk O' o = some ob' ∧ (o,ob') ∈ O' ∧ lk τ o = some i ∧ RenB τ ob' ob:=fun i ob h => by
    obtain ⟨p,hp,g1,g2⟩:=hL _ (lk_mem h)
    exact ⟨p.1,p.2,lk_of_mem hnO' hp,hp,g1,g2⟩
  have inO2 : ∀ i ob b κ,lk O2' i = some ob → β i = some (b,κ) → κ ≠ 0 → b < w.heap.size ∧ ¬ ownOf O1 β1 b:=fun i ob b κ h1 h2 h3 => by
    obtain ⟨g1,g2⟩:=hl2' _ _ h1
    refine ⟨?_,fun hown => ?_⟩
    · obtain ⟨b',κ',g3,g4⟩:=hr.st.objs _ _ g1
      rw [h2] at g3; cases g3
      exact g4.lt h3
    · obtain ⟨o,ob',κ',g3,g4,g5,g6⟩:=ownO b hown
      have:=hr.st.inj _ _ _ _ _ _ _ g1 g3 h2 g4 h3 g5
      subst this
      exact g2 g6
  -- an object behind the call
  have obj2 : ∀ i ob,lk (L ++ O2') i = some ob → (∃ o ob',lk O' o = some ob' ∧ (o,ob') ∈ O' ∧ lk τ o = some i ∧ RenB τ ob' ob) ∨ (lk O2' i = some ob ∧ ∀ b κ,β i = some (b,κ) → β2 i = some (b,κ)):=fun i ob h => by
    rw [lk_append] at h
    split at h
    · rename_i x e
      cases h
      exact .inl (hLlk _ _ e)
    · exact .inr ⟨h,fun b κ hb => hbl _ _ hb⟩
  have hstE : St E M2 β2 (L ++ O2') w':=by
    refine ⟨fun b i v hm => hst'.pool _ _ _ (hM2' _ _ _ hm),fun b i v hm => hMM2 _ _ _ (hr.st.sub _ _ _ hm),fun b i v hm => ?_,fun i ob hl => ?_,fun i ob b κ hl hb hk => ?_,fun i j ob ob' b κ κ' hl hl' hb hb' hk hk' => ?_,
      Nat.le_trans hr.st.size hst'.size,fun b hb hn => ?_,by rw [hst'.os]; exact hr.st.os,by rw [hst'.tape]; exact hr.st.tape,by rw [hst'.output]; exact hr.st.output⟩
    · by_cases hbo : bor = true
      · have : M2 = M:=by show (if bor = true then M else M') = _; rw [if_pos hbo]
        rw [this] at hm
        exact hr.st.only _ _ _ hm
      · rcases hst'.only _ _ _ (hM2' _ _ _ hm) with h | h | h
        · have h : M1 b i = some v:=h
          rw [hMf (by simpa using hbo)] at h
          exact hr.st.only _ _ _ h
        · exact .inr (mineO b h).2
        · exact .inr (.inr (Nat.le_trans hr.st.size h))
    · rcases obj2 _ _ hl with ⟨o,ob',h1,h2,h3,h4⟩ | ⟨h1,h2⟩
      · obtain ⟨b,κ,g1,g2⟩:=hst'.objs _ _ h1
        exact ⟨b,κ,by rw [← hβ2 _ _ h3]; exact g1,(h4 hβ2).1 (lifO _ h2 _ _ g2)⟩
      · obtain ⟨b,κ,g1,g2⟩:=hr.st.objs _ _ (hl2' _ _ h1).1
        refine ⟨b,κ,h2 _ _ g1,g2.mono2 hMM2 hbl fun hk => ?_⟩
        obtain ⟨g3,g4⟩:=inO2 _ _ _ _ h1 g1 hk
        exact hst'.keep b g3 g4
    · rcases obj2 _ _ hl with ⟨o,ob',h1,h2,h3,h4⟩ | ⟨h1,h2⟩
      · rw [← hβ2 _ _ h3] at hb
        obtain ⟨g1,g2⟩:=hst'.mine _ _ _ _ h1 hb hk
        refine ⟨fun j => ?_,?_⟩
        · cases hm : M2 b j with
          | none => rfl
          | some v => have:=hM2' _ _ _ hm; rw [g1] at this; cases this
        · rcases g2 with g2 | g2
          · exact (mineO b g2).2
          · exact .inr (Nat.le_trans hr.st.size g2)
      · obtain ⟨b',κ',g1,_⟩:=hr.st.objs _ _ (hl2' _ _ h1).1
        have:=h2 _ _ g1
        rw [hb] at this; cases this
        obtain ⟨g3,g4⟩:=hr.st.mine _ _ _ _ (hl2' _ _ h1).1 g1 hk
        refine ⟨fun j => ?_,g4⟩
        cases hm : M2 b j with
        | none => rfl
        | some v =>
          exfalso
          by_cases hbo : bor = true
          · have e : M2 = M:=by show (if bor = true then M else M') = _; rw [if_pos hbo]
            rw [e,g3] at hm; cases hm
          · obtain ⟨g5,g6⟩:=inO2 _ _ _ _ h1 g1 hk
            rcases hst'.only _ _ _ (hM2' _ _ _ hm) with h | h | h
            · have h : M1 b j = some v:=h
              rw [hMf (by simpa using hbo),g3] at h; cases h
            · exact g6 h
            · have h : w.heap.size ≤ b:=h
              omega
    · have far : ∀ o ob' i ob2 b κ κ',lk O' o = some ob' → β' o = some (b,κ) → κ ≠ 0 → lk O2' i = some ob2 → β i = some (b,κ') → κ' ≠ 0 → False:=fun o ob' i ob2 b κ κ' h1 h2 h3 h4 h5 h6 => by
        obtain ⟨g5,g6⟩:=inO2 _ _ _ _ h4 h5 h6
        rcases (hst'.mine _ _ _ _ h1 h2 h3).2 with h | h
        · exact g6 h
        · have h : w.heap.size ≤ b:=h
          omega
      have back : ∀ i ob b κ,lk O2' i = some ob → (∀ b κ,β i = some (b,κ) → β2 i = some (b,κ)) → β2 i = some (b,κ) → β i = some (b,κ):=fun i ob b κ h1 h2 h3 => by
        obtain ⟨b',κ',g1,_⟩:=hr.st.objs _ _ (hl2' _ _ h1).1
        have:=h2 _ _ g1
        rw [h3] at this; cases this
        exact g1
      rcases obj2 _ _ hl with ⟨o,ob1,h1,h2,h3,h4⟩ | ⟨h1,h2⟩
      · rw [← hβ2 _ _ h3] at hb
        rcases obj2 _ _ hl' with ⟨o',ob1',h1',h2',h3',h4'⟩ | ⟨h1',h2'⟩
        · rw [← hβ2 _ _ h3'] at hb'
          have:=hst'.inj _ _ _ _ _ _ _ h1 h1' hb hb' hk hk'
          subst this
          rw [h3] at h3'
          exact Option.some.inj h3'
        · exact (far _ _ _ _ _ _ _ h1 hb hk h1' (back _ _ _ _ h1' h2' hb') hk').elim
      · have hb:=back _ _ _ _ h1 h2 hb
        rcases obj2 _ _ hl' with ⟨o',ob1',h1',h2',h3',h4'⟩ | ⟨h1',h2'⟩
        · rw [← hβ2 _ _ h3'] at hb'
          exact (far _ _ _ _ _ _ _ h1' hb' hk' h1 hb hk).elim
        · exact hr.st.inj _ _ _ _ _ _ _ (hl2' _ _ h1).1 (hl2' _ _ h1').1 hb (back _ _ _ _ h1' h2' hb') hk hk'
    · rw [← hr.st.keep b hb hn]
      refine hst'.keep b (Nat.lt_of_lt_of_le hb hr.st.size) fun hown => ?_
      rcases (mineO b hown).2 with h | h
      · exact hn h
      · omega
  exact ⟨x,r',L ++ O2',n',M2,β2,rfl,hκ,(hrr.vr hβ2).1 lifR,hstE,hids2,fun t v hl => by obtain ⟨y,hy,hvy⟩:=hr.tmps t v hl; exact ⟨y,hy,hvy.mono hMM2 hbl⟩,hr.nd,hr.sz,fun o ho => by rw [← hr.base o ho]; exact hlow o (ho.imp (fun ho => Nat.lt_of_lt_of_le ho hr.le0) id),Nat.le_trans hr.le0 hnn⟩
theorem RelAt.swap (h : RelAt E N M β T O n a w) {l : Nat} {x : Obj} (hl : w.heap[l]? = some x) (hc : ∀ cs e fz,x ≠ .cells cs e fz) (hm : ∀ es cl,x ≠ .map es cl) {W0 : World} (hs : w'.heap.size = w.heap.size) (hb : ∀ b,b ≠ l → w'.heap[b]? = w.heap[b]?) (hos : w'.os = W0.os) (htp : w'.tape = W0.tape) (hou : w'.output = W0.output)
    (hz : W0.heap.size = E.w0.heap.size) (hk : ∀ b,b < E.w0.heap.size → ¬ E.own b → w'.heap[b]? = W0.heap[b]?) : RelAt { E with w0:=W0 } N M β T O n a w':=by
  have cells : ∀ b i v,w.cell? ⟨b,i,none⟩ = some v → w'.cell? ⟨b,i,none⟩ = some v:=fun b i v hv => by
    have hne : b ≠ l:=fun e => by
      subst e
      unfold World.cell? at hv
      simp only [hl] at hv
      cases x <;> simp_all
    unfold World.cell? at hv ⊢
    simp only [hb b hne]
    exact hv
  have st:=h.st
  refine ⟨⟨fun b i v hv => cells b i v (st.pool b i v hv),st.sub,fun b i v hv => (st.only b i v hv).imp id (Or.imp id fun h => by show W0.heap.size ≤ b; rw [hz]; exact h),fun o ob ho => ?_,fun o ob b κ h1 h2 h3 => ⟨(st.mine o ob b κ h1 h2 h3).1,(st.mine o ob b κ h1 h2 h3).2.imp id fun h => by show W0.heap.size ≤ b; rw [hz]; exact h⟩,st.inj,?_,fun b hlt hn => hk b (by rw [← hz]; exact hlt) hn,hos,htp,hou⟩,h.ids,h.tmps,h.nd,h.sz,h.base,h.le0⟩
  · obtain ⟨b,κ,h1,h2⟩:=st.objs o ob ho
    refine ⟨b,κ,h1,h2.mono (BLe.refl _) fun hk => hb b fun e => ?_⟩
    subst e
    cases ob with
    | var c => obtain ⟨_,_,cs,e,fz,h3,_⟩:=h2; rw [hl] at h3; exact hc _ _ _ (Option.some.inj h3)
    | row c =>
      obtain ⟨_,_,⟨h3,_⟩ | ⟨_,cc,sp,e,fz,h3,_⟩⟩:=h2
      · exact hk h3
      · rw [hl] at h3; exact hc _ _ _ (Option.some.inj h3)
    | map ks => obtain ⟨_,es,cl,h3,_⟩:=h2; rw [hl] at h3; exact hm _ _ (Option.some.inj h3)
    | gm f ks vs => obtain ⟨_,es,cl,h3,_⟩:=h2; rw [hl] at h3; exact hm _ _ (Option.some.inj h3)
  · show W0.heap.size ≤ w'.heap.size
    rw [hz,hs]; exact st.size
theorem RelAt.laid (h : RelAt E N M β T O n a w) (x : Obj) : RelAt E N M β T O n a (w.alloc x):=by
  have st:=h.st
  have old : ∀ b,b < w.heap.size → (w.alloc x).heap[b]? = w.heap[b]?:=fun b hb => by
    show (w.heap.push x)[b]? = _
    rw [Array.getElem?_push,if_neg (by omega)]
  refine ⟨⟨fun b i v hv => ?_,st.sub,st.only,fun o ob ho => ?_,st.mine,st.inj,?_,fun b hlt hn => ?_,st.os,st.tape,st.output⟩,h.ids,h.tmps,h.nd,h.sz,h.base,h.le0⟩
  · have hlt:=st.pool_lt hv
    have hc:=st.pool b i v hv
    unfold World.cell? at hc ⊢
    simp only [old b hlt]
    exact hc
  · obtain ⟨b,κ,h1,h2⟩:=st.objs o ob ho
    exact ⟨b,κ,h1,h2.mono (BLe.refl _) fun hk => old b (h2.lt hk)⟩
  · rw [World.size_alloc]; have:=st.size; omega
  · rw [old b (Nat.lt_of_lt_of_le hlt st.size)]; exact st.keep b hlt hn
theorem RelAt.other (h : RelAt E N M β T O n a w) (hown : ∀ b,E.own b → ∃ cs e fz,E.w0.heap[b]? = some (.cells cs e fz)) {l : Nat} {x : Obj} (hl : E.w0.heap[l]? = some x) (hc : ∀ cs e fz,x ≠ .cells cs e fz) : w.heap[l]? = some x:=by
  rw [h.st.keep l (Array.getElem?_eq_some_iff.1 hl).1 fun ho => ?_,hl]
  obtain ⟨cs,e,fz,h1⟩:=hown l ho
  rw [hl] at h1
  exact hc _ _ _ (Option.some.inj h1)
def wideF : Option Nat → Fence
  | none => Fence.wide
  | some l => Fence.wide.inRound l
theorem wideF_calls {ro : Option Nat} {k : Nat} {f : FuncId} {args : Array Value} {R : Ending → World → Prop} (h : Calls P f args w R) : CallsIn (wideF ro) k P f args w R:=by
  have:=(callsIn_wide (n:=k)).2 h
  cases ro with
  | none => exact this
  | some l => exact this
theorem wideF_fn (ro : Option Nat) (f : FuncId) : (wideF ro).fn f:=by cases ro <;> trivial
theorem wideF_depth (ro : Option Nat) : (wideF ro).depth.isSome = false:=by cases ro <;> rfl
theorem wideF_round (ro : Option Nat) : (wideF ro).round = ro:=by cases ro <;> rfl
theorem wideF_rows {ro : Option Nat} {k : Nat} {row : String} {args : Array Value} {R : Value → World → Prop} (h : Rows P row args w R) : RowsIn (wideF ro) k P row args w R:=fun c cs _ => by
  obtain ⟨v,w',r,s⟩:=h c cs
  refine ⟨v,w',r,?_⟩
  have:=stepsIn_wide.2 s
  cases ro with
  | none => exact this
  | some l => exact this
theorem wideF_op {ro : Option Nat} {k : Nat} {next next' : Act → World → Prop} {Q Q' : Exit → Act → World → Prop} (hd : ∀ c,o.op ≠ .defer c) (hn : ∀ a w,next a w → next' a w) (hq : ∀ e a w,Q e a w → Q' e a w) (h : o.wp P a w next Q) : o.wpIn (wideF ro) k P a w next' Q':=by
  refine ⟨fun f _ => wideF_fn ro f,?_⟩
  rw [wideF_round,Oper.semAt_eq _ _ _ hd]
  unfold Oper.wp at h
  have hdep : (wideF ro).depth.isSome = true → 1 ≤ k:=fun e => by rw [wideF_depth] at e; cases e
  generalize (execOp a.eval o).run P w = x at *
  unfold Oper.upon at h
  unfold Oper.uponIn
  split at h
  · exact hn _ _ h
  · exact hn _ _ h
  · exact hn _ _ h
  · refine ⟨hdep,wideF_calls (Calls.mono h ?_)⟩
    intro e w' he
    cases e with
    | returned v => exact hn _ _ he
    | panicked chain => exact hq _ _ _ he
    | outgrown => obtain ⟨a0,w0,h0⟩:=he; exact ⟨a0,w0,hq _ _ _ h0⟩
  · exact ⟨hdep,wideF_rows (Rows.mono h fun v w' h => hn _ _ h)⟩
  · exact hq _ _ _ h
  · exact h.elim
theorem ends_run {fn : Func} {r : AV} {k0 : Nat} (hvar : ∀ o c,lk O o = some (.var c) → o < k0) : ∀ T O1 n a w',EndC P fn.results.toList O r O' T O1 n → Rel ⟨w,ownOf O β,M,β,k0,fun _ => True⟩ fn.ntmps T O1 n a w' → a.defers = [] ∧ ∃ v,(results fn a.tmps).run P w' = .ok v w' ∧
      ∃ x M' β',Ending.returned v = .returned x ∧ VR M' β' r x ∧ St ⟨w,ownOf O β,M,nob,0,fun _ => True⟩ M' β' O' w' ∧ (∀ o c,lk O o = some (.var c) → β' o = β o):=by
  rintro T O1 n a w' he ⟨M',β',hr⟩
  obtain ⟨vs,x,⟨σ,Z,F,h1,h2,h3,h4⟩,hrun,hv⟩:=results_run hr he
  simp only [okE,Bool.and_eq_true,List.all_eq_true,decide_eq_true_eq,Bool.not_eq_true'] at h1
  obtain ⟨⟨⟨hF,h1⟩,hσZ⟩,hZ⟩:=h1
  have hF' : ∀ f ∈ F,∀ o,lk σ o ≠ some f:=fun f hf o e => by
    have:=hF f hf
    have hm : f ∈ σ.map (·.2):=List.mem_map.2 ⟨_,lk_mem e,rfl⟩
    simp only [Bool.eq_false_iff] at this
    exact this (by simpa using hm)
  let b1 : Bmap:=fun o => match lk σ o with | some o' => β' o' | none => if Z.contains o = true then some (0,0) else β o
  have ha : Agr σ b1 β':=fun o o' h => by show (match lk σ o with | some o' => β' o' | none => _) = _; rw [h]
  have hz : NilOK Z b1:=fun o ho => by
    have : lk σ o = none:=by
      rw [lk_none]
      intro hm
      obtain ⟨p,hp,rfl⟩:=List.mem_map.1 hm
      have:=hσZ p hp
      rw [ho] at this
      cases this
    show (match lk σ o with | some o' => β' o' | none => if Z.contains o = true then some (0,0) else β o) = _
    rw [this]
    simp only [ho,if_true]
  obtain ⟨M1,hM,hV,this⟩:=hr.st.ren hF' h1 ha hz h3
  refine ⟨hr.nd,x,hrun,x,M1,b1,rfl,(matC_spec σ Z _ _ _ h2).vr hM hV ha hz hv,?_,fun o c hl => ?_⟩
  · exact ⟨this.pool,this.sub,this.only,this.objs,this.mine,this.inj,this.size,this.keep,this.os,this.tape,this.output⟩
  · show (match lk σ o with | some o' => β' o' | none => if Z.contains o = true then some (0,0) else β o) = β o
    split
    · rename_i o' e'
      have : ∀ {O : OO},varsOK σ O → (o,OB.var c) ∈ O → o' = o:=by
        intro O
        induction O with
        | nil => intro _ h; cases h
        | cons q O ih =>
          obtain ⟨i,ob⟩:=q
          intro hv hm
          rcases List.mem_cons.1 hm with e2 | hm
          · cases e2; exact hv.1 ⟨c,rfl⟩ _ e'
          · exact ih hv.2 hm
      rw [this h4 (lk_mem hl)]
      exact hr.base o (.inl (hvar _ _ hl))
    · rw [if_neg]
      intro hc
      have:=hZ o (by simpa using hc)
      have hm : o ∈ keys O:=List.mem_map.2 ⟨_,lk_mem hl,rfl⟩
      simp [hm] at this
theorem vcOps_in {ro : Option Nat} {k : Nat} (hE : ∀ o,E.ok o) {ops : Array Oper} {Q : Exit → Act → World → Prop} {K : CK} (hd : ∀ o ∈ ops.toList,∀ t,o.dst = some t → t < N) (hnd : ∀ o ∈ ops.toList,∀ c,o.op ≠ .defer c) (tail : List Oper)
    (hK : ∀ T O n a w,K T O n → Rel E N T O n a w → wpOpsIn (wideF ro) k P ops Q (List.range' (ops.size - tail.length) tail.length) a w) :
    ∀ (rest : List Oper) (i : Nat) (T : TT) (O : OO) (n : Nat) (a : Act) (w : World),ops.toList.drop i = rest ++ tail → i + rest.length = ops.size - tail.length → vcOps P ops.toList rest K T O n → Rel E N T O n a w → wpOpsIn (wideF ro) k P ops Q (List.range' i (rest.length + tail.length)) a w:=by
  intro rest
  induction rest with
  | nil =>
    intro i T O n a w _ hi h hr
    have:=hK _ _ _ _ _ h hr
    simp only [List.length_nil,Nat.zero_add,Nat.add_zero] at hi ⊢
    rw [hi]; exact this
  | cons o rest ih =>
    intro i T O n a w hi hlen h hr
    have hio : ops[i]? = some o:=by
      have : (ops.toList.drop i)[0]? = some o:=by rw [hi]; rfl
      simpa using this
    have hmem : o ∈ ops.toList:=List.mem_of_mem_drop (by rw [hi]; simp)
    have hi' : ops.toList.drop (i + 1) = rest ++ tail:=by
      have:=congrArg List.tail hi
      simpa using this
    have hlen' : i + 1 + rest.length = ops.size - tail.length:=by rw [← hlen,List.length_cons]; omega
    rw [show (o :: rest).length + tail.length = (rest.length + tail.length) + 1 by rw [List.length_cons]; omega]
    simp only [List.range'_succ,wpOpsIn,hio]
    obtain ⟨M,β,hr⟩:=hr
    simp only [vcOps] at h
    split at h
    · rename_i hg
      have : Region.wanted o (yielded ops a.tmps) = true:=by unfold Region.wanted; rw [hg]
      rw [if_pos this]
      exact wideF_op (hnd o hmem) (fun _ _ h => h) (fun _ _ _ h => h) (vcOp_sound (fun _ _ _ _ o _ _ => hE o) rfl h hr _ Q fun v O' n' x w' M' β' hk hr' hv => ih _ _ _ _ _ _ hi' hlen' hk ⟨M',β',hr'.value (hd o hmem) hv⟩)
    · rename_i j want hg
      obtain ⟨T',hr,⟨h1,hy⟩ | ⟨h2,hy⟩⟩:=gdC_spec hr h
      · have : Region.wanted o (yielded ops a.tmps) = true:=by unfold Region.wanted; rw [hg]; simp [hy]
        rw [if_pos this]
        exact wideF_op (hnd o hmem) (fun _ _ h => h) (fun _ _ _ h => h) (vcOp_sound (fun _ _ _ _ o _ _ => hE o) rfl h1 hr _ Q fun v O' n' x w' M' β' hk hr' hv => ih _ _ _ _ _ _ hi' hlen' hk ⟨M',β',hr'.value (hd o hmem) hv⟩)
      · have : Region.wanted o (yielded ops a.tmps) = false:=by unfold Region.wanted; rw [hg]; simpa using hy
        rw [this,if_neg (by simp)]
        exact ⟨fun f _ => wideF_fn ro f,ih _ _ _ _ _ _ hi' hlen' h2 ⟨M,β,hr.value (hd o hmem) (.tup .nil)⟩⟩
def noDefer (o : Oper) : Bool:=match o.op with | .defer _ => false | _ => true
theorem noDefer_spec {o : Oper} (h : noDefer o = true) : ∀ c,o.op ≠ .defer c:=fun c e => by unfold noDefer at h; rw [e] at h; cases h
def plainC (tb : List (Nat × Plan)) : Code → Bool
  | .skip => true
  | .region id ops false => (lk tb (100000 + id)).isNone && ops.toList.all noDefer
  | .seq x y => plainC tb x && plainC tb y
  | .cond _ x y => plainC tb x && plainC tb y
  | .block _ c => plainC tb c
  | _ => false
theorem vcC_in {ro : Option Nat} {k : Nat} (hE : ∀ o,E.ok o) (tb : List (Nat × Plan)) : ∀ (c : Code) {Q : Exit → Act → World → Prop} {K : CK} {X : Nat → CK} {R : CK} {T : TT} {O : OO} {n : Nat} {a : Act} {w : World},Cont3 E N Q K X R → dstOK tb N c = true → plainC tb c = true →
    vcC P tb E.n0 c K X R T O n → Rel E N T O n a w → c.wpIn (wideF ro) k P Q a w:=by
  intro c
  induction c with
  | skip => intro Q K X R T O n a w hc _ _ h hr; exact wpIn_skip (hc.norm _ _ _ _ _ h hr)
  | region id ops draw =>
    intro Q K X R T O n a w hc hd hp h hr
    cases draw with
    | true => cases hp
    | false =>
      simp only [dstOK,Bool.and_eq_true,List.all_eq_true] at hd
      obtain ⟨hd1,hd2⟩:=hd
      have hd : ∀ o ∈ ops.toList,∀ t,o.dst = some t → t < N:=fun o ho t e => by
        have:=hd1 o ho
        rw [e] at this
        simpa using this
      simp only [plainC,Bool.and_eq_true,List.all_eq_true,Option.isNone_iff_eq_none] at hp
      simp only [vcC,hp.1] at h
      have:=vcOps_in (ro:=ro) (k:=k) hE hd (fun o ho => noDefer_spec (hp.2 o ho)) [] (fun T O n a w hk hr => hc.norm _ _ _ _ _ hk hr) ops.toList 0 T O n a w (by simp) (by simp) h hr
      rw [List.length_nil,Nat.add_zero,Array.length_toList,← List.range_eq_range'] at this
      exact wpIn_region this
  | seq x y ihx ihy =>
    intro Q K X R T O n a w hc hd hp h hr
    simp only [dstOK,Bool.and_eq_true] at hd
    simp only [plainC,Bool.and_eq_true] at hp
    exact wpIn_seq (ihx ⟨fun T O n a w hk hr => ihy hc hd.2 hp.2 hk hr,fun i T O n a w => hc.exit i T O n a w,fun T O n a w => hc.ret T O n a w⟩ hd.1 hp.1 h hr)
  | cond c x y ihx ihy =>
    intro Q K X R T O n a w hc hd hp h hr
    simp only [dstOK,Bool.and_eq_true] at hd
    simp only [plainC,Bool.and_eq_true] at hp
    obtain ⟨M,β,hr⟩:=hr
    obtain ⟨v,h,hv⟩:=evC_spec hr h
    obtain ⟨b,rfl,h1,h2⟩:=boolC_spec h
    exact wpIn_cond_split hv.bool_inv (fun e => ihx hc hd.1 hp.1 (h1 e) ⟨M,β,hr⟩) fun e => ihy hc hd.2 hp.2 (h2 e) ⟨M,β,hr⟩
  | block id c ih =>
    intro Q K X R T O n a w hc hd hp h hr
    refine wpIn_block (ih ⟨fun T O n a w => hc.norm T O n a w,fun i T O n a w hx hr => ?_,fun T O n a w => hc.ret T O n a w⟩ hd hp h hr)
    simp only [Exit.inBlock]
    split at hx
    · rename_i e; rw [if_pos e]; exact hc.norm _ _ _ _ _ hx hr
    · rename_i e; rw [if_neg e]; exact hc.exit _ _ _ _ _ _ hx hr
  | _ => intro Q K X R T O n a w hc _ hp; cases hp
def quiet (o : Oper) : Bool:=match o.op with | .move _ | .assign _ | .load .. | .store .. => true | _ => false
theorem quiet_run {o : Oper} (h : quiet o = true) (ρ : Operand → Value) : ∀ d w',(execOp ρ o).run P w ≠ .ok (.defer d) w':=by
  intro d w' e
  unfold quiet at h
  unfold execOp at e
  split at h <;> rename_i ho <;> simp only [ho] at e
  · simp at e
  · simp at e
  · simp only [Sem.run_bind,Sem.run_pure] at e
    generalize (Instr.loadAt _ _).run P w = x at e
    cases x <;> simp [Result.andThen] at e
  · simp only [Sem.run_bind,Sem.run_pure] at e
    generalize (Instr.storeAt _ _ _).run P w = x at e
    cases x <;> simp [Result.andThen] at e
  · cases h
theorem opsIn_defers {ro : Option Nat} {k : Nat} {ops : Array Oper} {Q : Exit → Act → World → Prop} (ds : List Deferred) (hq : ∀ o ∈ ops.toList,quiet o = true) : ∀ (l : List Nat) (a : Act) (w : World),wpOpsIn (wideF ro) k P ops (fun e a w => Q e { a with defers:=ds } w) l a w → wpOpsIn (wideF ro) k P ops Q l { a with defers:=ds } w:=by
  intro l
  induction l with
  | nil => intro a w h; exact h
  | cons i rest ih =>
    intro a w h
    unfold wpOpsIn at h ⊢
    cases ho : ops[i]? with
    | none => simp only [ho] at h ⊢; exact ih _ _ h
    | some o =>
      simp only [ho] at h ⊢
      have hqo:=hq o (by rw [Array.mem_toList_iff]; exact Array.mem_of_getElem? ho)
      have hput : ∀ (d : Option Tmp) (v : Value),({ a with defers:=ds } : Act).put d v = { a.put d v with defers:=ds }:=fun d v => by cases d <;> rfl
      have hev : ({ a with defers:=ds } : Act).eval = a.eval:=by funext x; cases x <;> rfl
      by_cases hw : Region.wanted o (yielded ops a.tmps) = true
      · rw [if_pos hw] at h ⊢
        obtain ⟨h1,h2⟩:=h
        refine ⟨by rw [hev]; exact h1,?_⟩
        have hnd : ∀ c,o.op ≠ .defer c:=fun c e => by unfold quiet at hqo; rw [e] at hqo; cases hqo
        rw [hev]
        have hrun:=quiet_run (P:=P) (w:=w) hqo a.eval
        rw [wideF_round,Oper.semAt_eq _ _ _ hnd] at h2 ⊢
        generalize (execOp a.eval o).run P w = x at *
        unfold Oper.uponIn at h2 ⊢
        split at h2
        · rw [hput]; exact ih _ _ h2
        · rw [hput]; exact ih _ _ h2
        · exact absurd rfl (hrun _ _)
        · refine ⟨h2.1,h2.2.mono ?_⟩
          intro e w' he
          cases e with
          | returned v => simp only at he ⊢; rw [hput]; exact ih _ _ he
          | panicked chain => exact he
          | outgrown => obtain ⟨a0,w0,h0⟩:=he; exact ⟨_,w0,h0⟩
        · refine ⟨h2.1,h2.2.mono ?_⟩
          intro v w' he
          rw [hput]; exact ih _ _ he
        · refine ⟨h2.1,h2.2.mono ?_⟩
          intro e w' he
          cases e with
          | returned v => simp only at he ⊢; rw [hput]; exact ih _ _ he
          | panicked chain => exact he
          | outgrown => obtain ⟨a0,w0,h0⟩:=he; exact ⟨_,w0,h0⟩
        · exact h2
        · exact h2.elim
      · rw [if_neg hw] at h ⊢
        refine ⟨by rw [hev]; exact h.1,?_⟩
        rw [hput]; exact ih _ _ h.2
end
end Go.Sy
