/- Texts,joined. -/
import Derived.Laws.IdiomStrings
import Derived.Laws.BytesArg
import Derived.Test.YtololahjocfbeaaGreatD03
namespace Go.Sy
open Go
set_option linter.unusedSimpArgs false
set_option linter.unusedVariables false
section
variable {E : Env} {N : Nat} {M : Pool} {β β' : Bmap} {T : TT} {O O' : OO} {n : Nat} {a : Act} {w w' : World} {P : Program} {o : Oper} {K : KK}
structure Cont (M : Pool) (β : Bmap) (w : World) (P : Program) (te : Ty) (x : Value) (c : AV) : Prop where
  row : c.isRow = true
  ez : c.esz = te.size
  len : ∀ w',(Builtin.lenOf x).run P w' = .ok c.cnt w'
  pre : ∃ cc,RV M β c cc ∧ ∀ m,m ≤ c.cnt → ∀ w' : World,w'.heap = w.heap → (Builtin.firstCells te.size m x).run P w' = .ok (cc.take (m * te.size)).toArray w'
theorem Cont.cells {te : Ty} {x : Value} {c : AV} (h : Cont M β w P te x c) : ∃ cc,RV M β c cc ∧ ∀ w' : World,w'.heap = w.heap → (Builtin.firstCells te.size c.cnt x).run P w' = .ok cc.toArray w':=by
  obtain ⟨cc,h1,h2⟩:=h.pre
  refine ⟨cc,h1,fun w' hw => ?_⟩
  have hl : cc.length = c.cnt * te.size:=by rw [row_len h1 h.row,h.ez]
  have:=h2 c.cnt (Nat.le_refl _) w' hw
  rwa [← hl,List.take_of_length_le (Nat.le_refl _)] at this
theorem CellsAt.take {b o m : Nat} {cs : List Value} (h : CellsAt w b o cs) : CellsAt w b o (cs.take m):=fun i v hv => by
  rw [List.getElem?_take] at hv
  split at hv
  · exact h i v hv
  · cases hv
theorem CellsAt.heap {b o : Nat} {cs : List Value} (h : CellsAt w b o cs) (hw : w'.heap = w.heap) : CellsAt w' b o cs:=fun i v hv => by rw [cell_same (congrArg (·[b]?) hw)]; exact h i v hv
theorem contC_spec (h0 : RelAt E N M β T O n a w) {te : Ty} {v : AV} {x : Value} {κ : AV → Prop} (hpos : 0 < te.size) (h : contC O te v κ) (hv : VR M β v x) : ∃ c,κ c ∧ Cont M β w P te x c:=by
  have rd : ∀ (b off : Nat) (cc : List Value) (cnt cap m : Nat),CellsAt w b off cc → cc.length = cnt * te.size → m ≤ cnt → ∀ w' : World,w'.heap = w.heap →
      (Builtin.firstCells te.size m (.slice (some ⟨b,off,none⟩) cnt cap)).run P w' = .ok (cc.take (m * te.size)).toArray w':=fun b off cc cnt cap m hc hl hm w' hw => by
    have h5:=run_loadCells (P:=P) ((hc.take (m:=m * te.size)).heap hw)
    have : (cc.take (m * te.size)).length = m * te.size:=by rw [List.length_take,hl]; exact Nat.min_eq_left (Nat.mul_le_mul_right _ hm)
    rw [this] at h5
    simp only [Builtin.firstCells]
    exact h5
  have rd0 : ∀ (base : Option Addr) (cap : Nat) (cc : List Value) (w' : World),(Builtin.firstCells te.size 0 (.slice base 0 cap)).run P w' = .ok (cc.take (0 * te.size)).toArray w':=fun base cap cc w' => by
    rw [Nat.zero_mul]
    cases base <;> simp only [Builtin.firstCells,Nat.zero_mul,loadCells,loadCellsFrom] <;> rfl
  cases v with
  | sl c =>
    obtain ⟨hez,hk⟩:=h
    obtain ⟨cc,base,cap,rfl,hc,hrow,hcap,hm⟩:=hv.sl_inv
    have hl:=row_len hc hrow
    refine ⟨c,hk,hrow,hez,fun w' => rfl,cc,hc.mono (PLe.refl _) (BLe.nob _),fun m hmc w' hw => ?_⟩
    rw [hez] at hl
    by_cases hz : c.cnt = 0
    · have : m = 0:=by omega
      subst this
      rw [hz]
      exact rd0 _ _ _ _
    · obtain ⟨b,off,e,hm2⟩:=hm.resolve_left hz
      subst e
      exact rd b off cc c.cnt cap m (fun i v hi => h0.st.pool _ _ _ (hm2 i v hi)) hl hmc w' hw
  | nils =>
    have e:=hv.nils_inv
    subst e
    have h' : zerosC 0 te κ:=h
    obtain ⟨c,hk,hrow,hcnt,hez,_,hrv⟩:=zerosC_spec h' hpos
    refine ⟨c,hk,hrow,hez,fun w' => by rw [hcnt]; rfl,[],by simpa using hrv (M:=M) (β:=β),fun m hm w' _ => ?_⟩
    have : m = 0:=by omega
    subst this
    exact rd0 _ _ _ _
  | osl i p sz lo len =>
    obtain ⟨rfl,h1⟩:=h
    obtain ⟨ob,hl,h2⟩:=objC_spec h1
    obtain ⟨c,hc,h3⟩:=obC_spec h2
    obtain ⟨q,⟨hq1,hq2⟩,hq3⟩:=nav_spec _ _ _ h3
    obtain ⟨r,hk,r1,r2,r3,r4,r5,r6⟩:=subC_spec hq2
    obtain ⟨b,κ0,base,cap,hb,rfl,hcap,hkk,ha⟩:=hv.osl_inv
    obtain ⟨cc,hcc,hca⟩:=h0.st.cells hl hb hc
    obtain ⟨_,hqr⟩:=hq3 hcc
    obtain ⟨g1,g2⟩:=r6 hqr
    rw [hq1] at g2
    have hl2:=row_len g2 r1
    rw [r3,hq1,r2] at hl2
    refine ⟨r,hk,r1,by rw [r3,hq1],fun w' => by rw [r2]; rfl,_,g2,fun m hm w' hw => ?_⟩
    rw [r2] at hm
    by_cases hz : len = 0
    · have : m = 0:=by omega
      subst this; subst hz
      exact rd0 _ _ _ _
    · obtain rfl:=ha.resolve_left (by omega)
      have h4:=(hca.piece (m:=poff p) (k:=q.csz)).piece (m:=lo * te.size) (k:=len * te.size)
      rw [Nat.zero_add] at h4
      exact rd b _ _ len cap m h4 hl2 hm w' hw
  | str s =>
    obtain ⟨rfl,hk⟩:=h
    have e:=hv.str_inv
    subst e
    have hs : (⟨s.toArray⟩ : ByteArray).size = s.length:=by simp [ByteArray.size]
    refine ⟨_,hk,rfl,rfl,fun w' => by simp [Builtin.lenOf,hs,AV.cnt],_,.ints .u8 (by simp),fun m hm w' _ => ?_⟩
    have he : (⟨s.toArray⟩ : ByteArray).extract 0 m = ⟨(s.take m).toArray⟩:=by
      apply ByteArray.ext
      rw [ByteArray.data_extract]
      apply Array.ext'
      simp [List.extract]
    simp only [Builtin.firstCells,AV.cnt,he,Sem.run_pure,Ty.size,Nat.mul_one]
    congr 1
    simp [List.map_map,List.map_take]
    rfl
  | _ => exact h.elim
inductive Own (β : Bmap) (O : OO) (te : Ty) (c : AV) : Value → OO → Prop
  | none (hc : c.cnt = 0) : Own β O te c (.slice none 0 0) O
  | some {O' : OO} {i b κ cap : Nat} {base : Option Addr} (hl : lk O i = some (.row c)) (hb : β i = some (b,κ)) (h1 : c.cnt ≤ cap) (h2 : cap ≤ κ) (ha : cap = 0 ∨ base = some ⟨b,0,none⟩)
      (hO : ∀ j,lk O' j = if j = i then none else lk O j) : Own β O te c (.slice base c.cnt cap) O'
theorem ownC_spec (h0 : RelAt E N M β T O n a w) {te : Ty} {v : AV} {x : Value} {κ : AV → OO → Prop} (hpos : 0 < te.size) (h : ownC te O v κ) (hv : VR M β v x) :
    ∃ c O',κ c O' ∧ Own β O te c x O' ∧ c.isRow = true ∧ (c.cnt = 0 → RV M β c []):=by
  cases v with
  | nils =>
    have e:=hv.nils_inv
    subst e
    have h' : zerosC 0 te (fun c => κ c O):=h
    obtain ⟨c,hk,hrow,hcnt,hez,_,hrv⟩:=zerosC_spec h' hpos
    exact ⟨c,O,hk,.none hcnt,hrow,fun _ => by simpa using hrv (M:=M) (β:=β)⟩
  | osl i p sz lo len =>
    obtain ⟨rfl,rfl,rfl,h1⟩:=h
    obtain ⟨ob,hl,h2⟩:=objC_spec h1
    cases ob with
    | row c =>
      obtain ⟨rfl,h3⟩:=h2
      obtain ⟨O',hk,hO⟩:=rmO_spec h3
      obtain ⟨b,κ0,base,cap,hb,rfl,hcap,hkk,ha⟩:=hv.osl_inv
      obtain ⟨b',κ',hb',hor⟩:=h0.st.objs _ _ hl
      obtain ⟨hrow,hez,hor⟩:=hor
      refine ⟨c,O',hk,.some hl hb hcap (by have:=hkk rfl; omega) (by simpa [poff] using ha) hO,hrow,fun hz => ?_⟩
      rcases hor with ⟨_,_,h⟩ | ⟨_,cc,sp,e,fz,_,_,h,_⟩
      · exact h
      · have:=row_len h hrow
        rw [hz,Nat.zero_mul] at this
        rw [List.eq_nil_of_length_eq_zero this] at h
        exact h
    | _ => exact h2.elim
  | _ => exact h.elim
theorem catC_spec {c d : AV} {κ : AV → Prop} (h : catC c d κ) : ∃ e,κ e ∧ e.isRow = true ∧ e.cnt = c.cnt + d.cnt ∧ e.esz = c.esz ∧ ∀ {M : Pool} {β : Bmap} {cc dd : List Value},RV M β c cc → RV M β d dd → RV M β e (cc ++ dd):=by
  cases c <;> cases d <;> first | exact h.elim | skip
  · obtain ⟨rfl,h⟩:=h
    refine ⟨_,h,rfl,rfl,rfl,fun {M β cc dd} h1 h2 => ?_⟩
    cases h1 with
    | ints _ l1 => cases h2 with
      | ints _ l2 => rw [← List.map_append]; exact .ints _ (by simp [l1,l2])
  · obtain ⟨rfl,h⟩:=h
    refine ⟨_,h,rfl,by simp [AV.cnt],rfl,fun {M β cc dd} h1 h2 => ?_⟩
    cases h1 with
    | arr l1 z1 => cases h2 with
      | arr l2 z2 => exact .arr (l1.append l2) fun p hp => by rcases List.mem_append.1 hp with hp | hp; exact z1 p hp; exact z2 p hp
  · obtain ⟨rfl,hn,h⟩:=h
    refine ⟨_,h,rfl,by simp [AV.cnt],rfl,fun {M β cc dd} h1 h2 => ?_⟩
    cases h1 with
    | arr l1 z1 => cases h2 with
      | lst l2 z2 n2 => exact .lst ((nid_aux.2.1 l1 hn nob).append l2) (fun p hp => by rcases List.mem_append.1 hp with hp | hp; exact z1 p hp; exact z2 p hp) (by simp [n2])
  · obtain ⟨rfl,hn,h⟩:=h
    refine ⟨_,h,rfl,by simp [AV.cnt],rfl,fun {M β cc dd} h1 h2 => ?_⟩
    cases h1 with
    | lst l1 z1 n1 => cases h2 with
      | arr l2 z2 => exact .lst (l1.append (nid_aux.2.1 l2 hn nob)) (fun p hp => by rcases List.mem_append.1 hp with hp | hp; exact z1 p hp; exact z2 p hp) (by simp [n1])
  · obtain ⟨rfl,h⟩:=h
    refine ⟨_,h,rfl,by simp [AV.cnt],rfl,fun {M β cc dd} h1 h2 => ?_⟩
    cases h1 with
    | lst l1 z1 n1 => cases h2 with
      | lst l2 z2 n2 => exact .lst (l1.append l2) (fun p hp => by rcases List.mem_append.1 hp with hp | hp; exact z1 p hp; exact z2 p hp) (by simp [n1,n2])
theorem RelAt.app (h0 : RelAt E N M β T O n a w) (hok : E.ok n) {te : Ty} {e : TypeId} {inf : TypeInfo} {c d r : AV} {x : Value} {dd : List Value} {O' : OO} (hte : te.ok P e) (hinf : P.info? e = some inf) (hpos : 0 < te.size) (hb0 : 0 < inf.bytes)
    (hown : Own β O te c x O') (hcr : c.isRow = true) (hce : c.esz = te.size) (hc0 : c.cnt = 0 → RV M β c []) (hd : RV M β d dd) (hdl : dd.length = d.cnt * te.size)
    (hr : r.isRow = true) (hrc : r.cnt = c.cnt + d.cnt) (hre : r.esz = te.size) (hrv : ∀ {M : Pool} {β : Bmap} {cc dd : List Value},RV M β c cc → RV M β d dd → RV M β r (cc ++ dd)) (hsz : (c.cnt + d.cnt) * inf.bytes ≤ 140737488355328) :
    ∃ base len cap,x = .slice base len cap ∧ len = c.cnt ∧
      ((c.cnt + d.cnt ≤ cap ∧ ∃ w' κ' b',(match base with | some aa => storeCells (aa.add (c.cnt * te.size)) dd | none => pure ()).run P w = .ok () w' ∧
          RelAt E N M (updB β n (b',κ')) T ((n,.row r) :: O') (n + 1) a w' ∧ VR M (updB β n (b',κ')) (.osl n [] te.size 0 (c.cnt + d.cnt)) (.slice base (c.cnt + d.cnt) cap)) ∨
       (¬ c.cnt + d.cnt ≤ cap ∧ Builtin.nextslicecap (c.cnt + d.cnt) cap * inf.bytes ≤ 281474976710656 ∧ ∃ cc,RV M β c cc ∧ (∀ w' : World,w'.heap = w.heap → (Builtin.firstCells te.size c.cnt x).run P w' = .ok cc.toArray w') ∧
          ∀ newCap,c.cnt + d.cnt ≤ newCap → ∀ w' : World,w'.heap = w.heap → w'.os = w.os → w'.tape = w.tape → w'.output = w.output → ∀ cells : Array Value,cells.toList = cc ++ (dd ++ (List.replicate (newCap - (c.cnt + d.cnt)) te.zc).flatten) →
            RelAt E N M (updB β n (w.heap.size,newCap)) T ((n,.row r) :: O') (n + 1) a (w'.alloc (.cells cells e)) ∧ VR M (updB β n (w.heap.size,newCap)) (.osl n [] te.size 0 (c.cnt + d.cnt)) (.slice (some ⟨w.heap.size,0,none⟩) (c.cnt + d.cnt) newCap))):=by
  have hn : β n = none:=h0.ids n (Nat.le_refl _) hok
  have hzl : te.zc.length = te.size:=by rw [(zero_rv (M:=M) te β).length,zero_csz.1]
  have hdr : O = O' ∨ ∃ i,∀ j,lk O' j = if j = i then none else lk O j:=by
    cases hown with
    | none => exact .inl rfl
    | some _ _ _ _ _ hO => exact .inr ⟨_,hO⟩
  have st' : St E M β O' w:=by
    rcases hdr with rfl | ⟨i,hO⟩
    · exact h0.st
    · exact h0.st.drop hO
  have hvrow : ∀ (b κ : Nat) (base : Option Addr) (cap : Nat),c.cnt + d.cnt ≤ cap → cap ≤ κ → (cap = 0 ∨ base = some ⟨b,0,none⟩) → VR M (updB β n (b,κ)) (.osl n [] te.size 0 (c.cnt + d.cnt)) (.slice base (c.cnt + d.cnt) cap):=fun b κ base cap g1 g2 g3 =>
    .one rfl (.osl (by simp; exact ⟨rfl,rfl⟩) g1 (fun _ => by omega) (by simpa [poff] using g3))
  have grow : ∀ cc : List Value,RV M β c cc → ∀ newCap,c.cnt + d.cnt ≤ newCap → ∀ w' : World,w'.heap = w.heap → w'.os = w.os → w'.tape = w.tape → w'.output = w.output → ∀ cells : Array Value,cells.toList = cc ++ (dd ++ (List.replicate (newCap - (c.cnt + d.cnt)) te.zc).flatten) →
            RelAt E N M (updB β n (w.heap.size,newCap)) T ((n,.row r) :: O') (n + 1) a (w'.alloc (.cells cells e)) ∧ VR M (updB β n (w.heap.size,newCap)) (.osl n [] te.size 0 (c.cnt + d.cnt)) (.slice (some ⟨w.heap.size,0,none⟩) (c.cnt + d.cnt) newCap):=by
    intro cc hcc newCap hcap w' e1 e2 e3 e4 cells hcells
    have hcl:=row_len hcc hcr
    rw [hce] at hcl
    have r0 : RelAt E N M β T O' n a w:=⟨st',h0.ids,h0.tmps,h0.nd,h0.sz,h0.base,h0.le0⟩
    have st2 : St E M β O' w':=⟨fun b i v hm => by rw [cell_same (congrArg (·[b]?) e1)]; exact st'.pool b i v hm,st'.sub,st'.only,fun o ob hl => by
        obtain ⟨b,κ,hb,hor⟩:=st'.objs o ob hl
        exact ⟨b,κ,hb,hor.mono (BLe.refl _) fun _ => by rw [e1]⟩,st'.mine,st'.inj,by rw [e1]; exact st'.size,fun b hb hn => by rw [e1]; exact st'.keep b hb hn,by rw [e2,st'.os],by rw [e3,st'.tape],by rw [e4,st'.output]⟩
    have r1 : RelAt E N M β T O' n a w':=⟨st2,h0.ids,h0.tmps,h0.nd,h0.sz,h0.base,h0.le0⟩
    have hs : w'.heap.size = w.heap.size:=by rw [e1]
    have:=r1.newRow hok (e:=e) (cells:=cells) (c:=r) (κ:=newCap) (cc:=cc ++ dd) (sp:=(List.replicate (newCap - (c.cnt + d.cnt)) te.zc).flatten) (hrv hcc hd) hr (by omega) (by rw [hcells]; simp)
      (by
        simp only [List.length_append,hcl,hdl,List.length_flatten,List.map_replicate,List.sum_replicate_nat,hzl,hre]
        rw [← Nat.add_mul,← Nat.add_mul]; congr 1; omega)
      (by rw [List.length_append,hcl,hdl,hrc,hre,Nat.add_mul])
    rw [hs] at this
    exact ⟨this,hvrow _ _ _ _ hcap (Nat.le_refl _) (.inr rfl)⟩
  cases hown with
  | none hc =>
    refine ⟨none,0,0,rfl,hc.symm,?_⟩
    by_cases hz : c.cnt + d.cnt ≤ 0
    · refine .inl ⟨hz,w,0,0,rfl,?_,hvrow _ _ _ _ hz (Nat.le_refl _) (.inl rfl)⟩
      have hd0 : dd = []:=List.eq_nil_of_length_eq_zero (by rw [hdl,show d.cnt = 0 by omega,Nat.zero_mul])
      subst hd0
      have hr0:=hrv (hc0 hc) hd
      have : St E M (updB β n (0,0)) ((n,.row r) :: O) w:=by
        refine h0.st.next (updB_le hn _) (Nat.le_refl _) (fun _ => False) (fun _ hx => hx.elim) (fun _ _ _ => rfl) rfl rfl rfl (fun i ob hi => ?_) ?_
        · simp only [lk] at hi
          split at hi
          · rename_i e; subst e; cases hi
            exact .inr ⟨0,0,by simp,⟨hr,by omega,.inl ⟨rfl,by omega,hr0.mono (PLe.refl _) (updB_le hn _)⟩⟩,fun h => absurd rfl h⟩
          · exact .inl ⟨hi,fun _ _ _ _ hx => hx⟩
        · intro i j o1 o2 b κ1 κ2 g1 g2 e1 e2 k1 k2
          by_cases c1 : i = n
          · subst c1; simp at e1; omega
          · by_cases c2 : j = n
            · subst c2; simp at e2; omega
            · simp only [lk,if_neg (Ne.symm c1)] at g1
              simp only [lk,if_neg (Ne.symm c2)] at g2
              simp only [updB,if_neg c1] at e1
              simp only [updB,if_neg c2] at e2
              exact h0.st.inj _ _ _ _ _ _ _ g1 g2 e1 e2 k1 k2
      exact h0.next this (updB_le hn _) (h0.fresh _) (updB_low hok _ _) (Nat.le_succ _)
    · refine .inr ⟨hz,growslice_fits (by omega) hsz,[],hc0 hc,fun w' _ => rfl,grow [] (hc0 hc)⟩
  | some hl hb h1 h2 ha hO =>
    rename_i i b κ cap base
    refine ⟨base,c.cnt,cap,rfl,rfl,?_⟩
    obtain ⟨b',κ',hb',hor⟩:=h0.st.objs _ _ hl
    rw [hb] at hb'; cases hb'
    have hor':=hor
    obtain ⟨_,_,hor⟩:=hor
    by_cases hz : c.cnt + d.cnt ≤ cap
    · rcases hor with ⟨hk0,_,h3⟩ | ⟨hk0,cc,sp,e',fz,g1,g2,g3,g4⟩
      · have hcap : cap = 0:=by omega
        subst hk0; subst hcap
        have hd0 : dd = []:=List.eq_nil_of_length_eq_zero (by rw [hdl,show d.cnt = 0 by omega,Nat.zero_mul])
        subst hd0
        have hr0:=hrv h3 hd
        refine .inl ⟨hz,w,0,b,by cases base <;> rfl,?_,hvrow _ _ _ _ hz (Nat.le_refl _) (.inl rfl)⟩
        have : St E M (updB β n (b,0)) ((n,.row r) :: O') w:=by
          refine st'.next (updB_le hn _) (Nat.le_refl _) (fun _ => False) (fun _ hx => hx.elim) (fun _ _ _ => rfl) rfl rfl rfl (fun i ob hi => ?_) ?_
          · simp only [lk] at hi
            split at hi
            · rename_i e; subst e; cases hi
              exact .inr ⟨b,0,by simp,⟨hr,by omega,.inl ⟨rfl,by omega,hr0.mono (PLe.refl _) (updB_le hn _)⟩⟩,fun h => absurd rfl h⟩
            · exact .inl ⟨hi,fun _ _ _ _ hx => hx⟩
          · intro i j o1 o2 b κ1 κ2 g1 g2 e1 e2 k1 k2
            by_cases c1 : i = n
            · subst c1; simp at e1; omega
            · by_cases c2 : j = n
              · subst c2; simp at e2; omega
              · simp only [lk,if_neg (Ne.symm c1)] at g1
                simp only [lk,if_neg (Ne.symm c2)] at g2
                simp only [updB,if_neg c1] at e1
                simp only [updB,if_neg c2] at e2
                exact st'.inj _ _ _ _ _ _ _ g1 g2 e1 e2 k1 k2
        exact h0.next this (updB_le hn _) (h0.fresh _) (updB_low hok _ _) (Nat.le_succ _)
      · have hcl:=row_len g3 hcr
        rw [hce] at hcl g4
        have hfit : cc.length + dd.length ≤ (cc ++ sp).length:=by
          rw [g4,hcl,hdl,← Nat.add_mul]
          exact Nat.mul_le_mul_right _ (by omega)
        have hlt : b < w.heap.size:=(Array.getElem?_eq_some_iff.1 g1).1
        have hrun:=run_storeCells (P:=P) (b:=b) (o:=c.cnt * te.size) (e:=e') (fz:=fz) dd 0 w (cc ++ sp) g1 (by rw [← hcl]; omega) g2 hd.one
        have hsp : splice (cc ++ sp) (c.cnt * te.size + 0) dd = (cc ++ dd) ++ sp.drop dd.length:=by
          simp only [splice,Nat.add_zero,← hcl]
          rw [List.take_append_of_le_length (Nat.le_refl _),List.take_of_length_le (Nat.le_refl _),List.drop_append,List.drop_of_length_le (by omega),show cc.length + dd.length - cc.length = dd.length by omega]
          simp
        have hcap0 : cap ≠ 0 ∨ dd = []:=by
          by_cases hd0 : dd = []
          · exact .inr hd0
          · left
            intro hc0'
            have : d.cnt = 0:=by omega
            rw [this,Nat.zero_mul] at hdl
            exact hd0 (List.eq_nil_of_length_eq_zero hdl)
        have hlen2 : ((cc ++ dd) ++ sp.drop dd.length).length = (cc ++ sp).length:=by
          simp only [List.length_append,List.length_drop] at hfit ⊢; omega
        have hfin : ∀ w',w' = w.putBlock b (.cells ((cc ++ dd) ++ sp.drop dd.length).toArray e' fz) → RelAt E N M (updB β n (b,κ)) T ((n,.row r) :: O') (n + 1) a w':=by
          rintro w' rfl
          refine h0.next (h0.st.reuse hn hl hb hk0 hO ⟨hr,by omega,.inr ⟨hk0,cc ++ dd,sp.drop dd.length,e',fz,by rw [getElem?_putBlock hlt]; simp,by rw [hlen2]; exact g2,(hrv g3 hd).mono (PLe.refl _) (updB_le hn _),?_⟩⟩) (updB_le hn _) (h0.fresh _) (updB_low hok _ _) (Nat.le_succ _)
          rw [hlen2,hre,g4]
        cases base with
        | none =>
          have hd0 : dd = []:=by
            rcases hcap0 with h | h
            · rcases ha with h' | h'
              · exact absurd h' h
              · cases h'
            · exact h
          subst hd0
          refine .inl ⟨hz,w,κ,b,rfl,hfin w ?_,hvrow _ _ _ _ hz h2 (by simpa using ha)⟩
          have : ((cc ++ []) ++ sp.drop 0).toArray = (cc ++ sp).toArray:=by simp
          simp only [List.length_nil,this]
          exact (putBlock_same g1).symm
        | some aa =>
          by_cases hc00 : cap = 0
          · have hd0 : dd = []:=hcap0.resolve_left (by simpa using hc00)
            subst hd0
            refine .inl ⟨hz,w,κ,b,rfl,hfin w ?_,hvrow _ _ _ _ hz h2 ha⟩
            have : ((cc ++ []) ++ sp.drop 0).toArray = (cc ++ sp).toArray:=by simp
            simp only [List.length_nil,this]
            exact (putBlock_same g1).symm
          · obtain hbase:=ha.resolve_left hc00
            cases hbase
            rw [hsp] at hrun
            refine .inl ⟨hz,_,κ,b,?_,hfin _ rfl,hvrow _ _ _ _ hz h2 ha⟩
            simp only [add_none,Nat.zero_add]
            exact hrun
    · refine .inr ⟨hz,growslice_fits (by omega) hsz,?_⟩
      have hcc : ∃ cc,RV M β c cc ∧ (∀ w' : World,w'.heap = w.heap → (Builtin.firstCells te.size c.cnt (.slice base c.cnt cap)).run P w' = .ok cc.toArray w'):=by
        rcases hor with ⟨hk0,hc0',h3⟩ | ⟨hk0,cc,sp,e',fz,g1,g2,g3,g4⟩
        · refine ⟨[],h3,fun w' _ => ?_⟩
          cases base <;> simp only [Builtin.firstCells,hc0',Nat.zero_mul,loadCells,loadCellsFrom] <;> rfl
        · have hcl:=row_len g3 hcr
          rw [hce] at hcl
          refine ⟨cc,g3,fun w' hw => ?_⟩
          by_cases hcz : c.cnt = 0
          · rw [hcz,Nat.zero_mul] at hcl
            have:=List.eq_nil_of_length_eq_zero hcl
            subst this
            cases base <;> simp only [Builtin.firstCells,hcz,Nat.zero_mul,loadCells,loadCellsFrom] <;> rfl
          · obtain rfl:=ha.resolve_left (by omega)
            simp only [Builtin.firstCells]
            rw [← hcl]
            refine run_loadCells fun i v hi => ?_
            have g5 : w'.heap[b]? = some (.cells (cc ++ sp).toArray e' fz):=by rw [hw]; exact g1
            simp only [World.cell?,g5]
            have hi2 : i < cc.length:=(List.getElem?_eq_some_iff.1 hi).1
            simp only [Option.isSome_none,Bool.false_eq_true,if_false,Nat.zero_add,List.getElem?_toArray]
            rw [List.getElem?_append_left hi2]; exact hi
      obtain ⟨cc,h3,h4⟩:=hcc
      exact ⟨cc,h3,h4,grow cc h3⟩
end
end Go.Sy
namespace Go.Sy
open Go
set_option linter.unusedSimpArgs false
set_option linter.unusedVariables false
section
variable {E : Env} {N : Nat} {M : Pool} {β β' : Bmap} {T : TT} {O O' : OO} {n : Nat} {a : Act} {w w' : World} {P : Program} {o : Oper} {K : KK}
def BltS (P : Program) (E : Env) (N : Nat) (T : TT) (a : Act) (w : World) (s : Sem Value) (κ : AV → OO → Nat → Prop) : Prop :=
  ∃ r O' n' y w' M' β',κ r O' n' ∧ s.run P w = .ok y w' ∧ RelAt E N M' β' T O' n' a w' ∧ VR M' β' r y
theorem zeroCells_list (z : Value) (te : Ty) (hz : z = te.zv) (k : Nat) (hpos : 0 < te.size) : (Builtin.zeroCells z.cells k).toList = (List.replicate k te.zc).flatten:=by
  have hzl : te.zc.length = te.size:=by rw [(zero_rv (M:=fun _ _ => none) te nob).length,zero_csz.1]
  have hzc : te.zv.cells = te.zc.toArray:=by cases te <;> rfl
  have:=zerosFill k te.zc (by omega)
  unfold Builtin.zeroCells
  rw [hz,hzc]
  simpa using this
theorem app_run (h0 : RelAt E N M β T O n a w) {st xt e tt : TypeId} {te : Ty} {inf : TypeInfo} {c d : AV} {s x : Value} {O' : OO} {κ : AV → OO → Nat → Prop} (hst : P.underlying st = some (.slice e)) (hte : te.ok P e) (hinf : P.info? e = some inf)
    (hpos : 0 < te.size) (hb0 : 0 < inf.bytes) (hown : Own β O te c s O') (hcr : c.isRow = true) (hc0 : c.cnt = 0 → RV M β c []) (hx : (∃ xty,P.underlying xt = some xty ∧ (∀ k,xty ≠ .int k) ∧ Cont M β w P te x d) ∨
      (∃ k kk,P.underlying xt = some (.int k) ∧ x = .int kk d.cnt ∧ (d.cnt : Int) ≤ 9223372036854775807 ∧ d.isRow = true ∧ d.esz = te.size ∧ ∀ {M : Pool} {β : Bmap},RV M β d (List.replicate d.cnt te.zc).flatten))
    (hK : ∀ v O' n',κ v O' n' → ∀ o,n ≤ o → o < n' → E.ok o) (h : appC te inf.bytes c d n O' κ) : BltS P E N T a w (Builtin.append_ #[st,xt] tt #[s,x]) κ:=by
  obtain ⟨hsz,hce,h⟩:=h
  have hsl : ∃ b l c',s = .slice b l c':=by cases hown <;> exact ⟨_,_,_,rfl⟩
  obtain ⟨sb,sl0,sc0,rfl⟩:=hsl
  obtain ⟨r,hk,hr,hrc,hre,hrv⟩:=catC_spec h
  have hzl : te.zc.length = te.size:=by rw [(zero_rv (M:=M) te β).length,zero_csz.1]
  have hdd : ∃ dd,RV M β d dd ∧ dd.length = d.cnt * te.size:=by
    rcases hx with ⟨_,_,_,hc⟩ | ⟨k,kk,_,rfl,_,hdr,hde,hrv⟩
    · obtain ⟨dd,h1,_⟩:=hc.cells
      exact ⟨dd,h1,by rw [row_len h1 hc.row,hc.ez]⟩
    · exact ⟨_,hrv,by simp [hzl]⟩
  have hm : IntKind.i64.max = 9223372036854775807:=by decide
  have hnb : ∀ z : Prop,¬ (((c.cnt + d.cnt : Nat) : Int) > IntKind.i64.max ∧ (z ∨ inf.bytes = 0)):=by
    intro z
    rw [hm]
    intro hh
    have : (c.cnt + d.cnt) * 1 ≤ (c.cnt + d.cnt) * inf.bytes:=Nat.mul_le_mul_left _ hb0
    omega
  have pick : ∀ dd : List Value,RV M β d dd → dd.length = d.cnt * te.size →
      (∀ cap w',sl0 = c.cnt → sc0 = cap → c.cnt + d.cnt ≤ cap → (match sb with | some aa => storeCells (aa.add (c.cnt * te.size)) dd | none => pure ()).run P w = .ok () w' →
        (Builtin.append_ #[st,xt] tt #[.slice sb sl0 sc0,x]).run P w = .ok (.slice sb (c.cnt + d.cnt) cap) w') →
      (∀ cap (cc : List Value),sl0 = c.cnt → sc0 = cap → ¬ c.cnt + d.cnt ≤ cap → Builtin.nextslicecap (c.cnt + d.cnt) cap * inf.bytes ≤ 281474976710656 → (∀ w' : World,w'.heap = w.heap → (Builtin.firstCells te.size c.cnt (.slice sb sl0 sc0)).run P w' = .ok cc.toArray w') →
        ∃ nc,c.cnt + d.cnt ≤ nc ∧ (Builtin.append_ #[st,xt] tt #[.slice sb sl0 sc0,x]).run P w =
          .ok (.slice (some ⟨w.heap.size,0,none⟩) (c.cnt + d.cnt) nc) (w.drew.alloc (.cells (cc.toArray ++ dd.toArray ++ Builtin.zeroCells te.zv.cells (nc - (c.cnt + d.cnt))) e))) →
      BltS P E N T a w (Builtin.append_ #[st,xt] tt #[.slice sb sl0 sc0,x]) κ:=by
    intro dd hd hdl g1 g2
    obtain ⟨base,len,cap,e0,e1,hcase⟩:=h0.app (hK _ _ _ hk n (Nat.le_refl _) (Nat.lt_succ_self _)) hte hinf hpos hb0 hown hcr hce hc0 hd hdl hr hrc (by rw [hre,hce]) hrv hsz
    cases e0
    rcases hcase with ⟨hle,w',κ',b',hst',hrel,hv⟩ | ⟨hgt,hcapn,cc,hcc,hold,hgrow⟩
    · exact ⟨_,_,_,_,w',M,_,hk,g1 _ w' e1 rfl hle hst',hrel,hv⟩
    · obtain ⟨nc,hle,hrun⟩:=g2 _ cc e1 rfl hgt hcapn hold
      obtain ⟨hrel,hv⟩:=hgrow nc hle w.drew rfl rfl rfl rfl (cc.toArray ++ dd.toArray ++ Builtin.zeroCells te.zv.cells (nc - (c.cnt + d.cnt))) (by
        simp only [Array.toList_append,List.append_assoc]
        rw [zeroCells_list _ te rfl _ hpos])
      exact ⟨_,_,_,_,_,M,_,hk,hrun,hrel,hv⟩
  rcases hx with ⟨xty,hu,hni,hc⟩ | ⟨k,kk,hu,rfl,hle,hdr,hde,hrv2⟩
  · obtain ⟨dd,hd,hcells⟩:=hc.cells
    have hdl : dd.length = d.cnt * te.size:=by rw [row_len hd hc.row,hc.ez]
    have hz : ∀ d : TypeDesc,(∀ k,d ≠ .int k) → (match d with | .int _ => true | _ => false) = false:=by
      intro d h
      cases d <;> first | rfl | exact absurd rfl (h _)
    refine pick dd hd hdl (fun cap w' e1 e2 hle hst' => ?_) fun cap cc e1 e2 hgt hcapn hold => ?_
    · subst e1; subst e2
      simp only [Builtin.append_,List.getElem?_toArray,List.getElem?_cons_zero,List.getElem?_cons_succ,Sem.run_bind,r_under hst,Result.andThen_ok,r_size hte,r_under hu,Sem.run_pure,hz xty hni]
      simp only [Bool.false_eq_true,if_false,hc.len w,Result.andThen_ok,Bool.not_false,if_true,hle,Sem.run_bind,hcells w rfl]
      cases sb with
      | none =>
        have : w' = w:=by simpa using hst'.symm
        subst this
        rfl
      | some aa =>
        simp only at hst'
        simp only [Sem.run_bind,hst',Result.andThen_ok]
        rfl
    · subst e1; subst e2
      refine ⟨c.cnt + d.cnt + w.tape w.drawn (.appendCap (c.cnt + d.cnt) sc0 e) % (2 ^ 63 - (c.cnt + d.cnt)),Nat.le_add_right _ _,?_⟩
      simp only [Builtin.append_,List.getElem?_toArray,List.getElem?_cons_zero,List.getElem?_cons_succ,Sem.run_bind,r_under hst,Result.andThen_ok,r_size hte,r_under hu,Sem.run_pure,hz xty hni]
      simp only [Bool.false_eq_true,if_false,hc.len w,Result.andThen_ok,Bool.not_false,if_true,hgt,Sem.run_bind,r_info hinf,hnb]
      rw [if_neg (by omega)]
      simp only [Sem.run_bind,run_choose,Question.forced,Bool.false_eq_true,if_false,Result.andThen_ok,Question.cut,run_askRoom,drewFold,r_info hinf]
      rw [hold w.drew rfl]
      simp only [Result.andThen_ok,hcells w.drew rfl,newRow,Sem.run_bind,run_newObj,Sem.run_pure,r_zero hte]
      rfl
  · have hwr : IntKind.i64.wrap (d.cnt : Int) = d.cnt:=by simp [IntKind.wrap,IntKind.bits,IntKind.signed]; omega
    have hbl : ¬ ((d.cnt : Int) * inf.bytes > 2 ^ 48):=by
      have h1 : d.cnt * inf.bytes ≤ (c.cnt + d.cnt) * inf.bytes:=Nat.mul_le_mul_right _ (by omega)
      have h2 : ((d.cnt * inf.bytes : Nat) : Int) = (d.cnt : Int) * inf.bytes:=by simp
      omega
    have hn0 : ¬ ((d.cnt : Int) < 0):=by omega
    have hcells : ∀ w' : World,((if d.cnt * te.size = 0 then pure #[] else do pure (Builtin.zeroCells (← zeroValue e).cells d.cnt)) : Sem (Array Value)).run P w' = .ok (List.replicate d.cnt te.zc).flatten.toArray w':=by
      intro w'
      by_cases h0 : d.cnt * te.size = 0
      · have : d.cnt = 0:=by rcases Nat.mul_eq_zero.1 h0 with h | h <;> omega
        rw [if_pos h0,this]
        rfl
      · rw [if_neg h0]
        simp only [Sem.run_bind,r_zero hte,Result.andThen_ok,Sem.run_pure]
        congr 1
        apply Array.ext'
        rw [zeroCells_list _ te rfl _ hpos]
    refine pick _ hrv2 (by simp [hzl]) (fun cap w' e1 e2 hle hst' => ?_) fun cap cc e1 e2 hgt hcapn hold => ?_
    · subst e1; subst e2
      simp only [Builtin.append_,List.getElem?_toArray,List.getElem?_cons_zero,List.getElem?_cons_succ,Sem.run_bind,r_under hst,Result.andThen_ok,r_size hte,r_under hu,Sem.run_pure]
      simp only [if_true,asInt,asIntOf,Sem.run_bind,Sem.run_pure,Result.andThen_ok,hwr,hn0,if_false,r_info hinf,hbl,Int.toNat_natCast,hle,Bool.not_true,Bool.false_eq_true,hcells]
      cases sb with
      | none =>
        have : w' = w:=by simpa using hst'.symm
        subst this
        rfl
      | some aa =>
        simp only at hst'
        simp only [Sem.run_bind,hst',Result.andThen_ok]
        rfl
    · subst e1; subst e2
      refine ⟨c.cnt + d.cnt + w.tape w.drawn (.appendCap (c.cnt + d.cnt) sc0 e) % (2 ^ 63 - (c.cnt + d.cnt)),Nat.le_add_right _ _,?_⟩
      simp only [Builtin.append_,List.getElem?_toArray,List.getElem?_cons_zero,List.getElem?_cons_succ,Sem.run_bind,r_under hst,Result.andThen_ok,r_size hte,r_under hu,Sem.run_pure]
      simp only [if_true,asInt,asIntOf,Sem.run_bind,Sem.run_pure,Result.andThen_ok,hwr,hn0,if_false,r_info hinf,hbl,Int.toNat_natCast,hgt,Bool.not_true,Bool.false_eq_true,hnb]
      rw [if_neg (by omega)]
      simp only [Sem.run_bind,run_choose,Question.forced,Bool.false_eq_true,if_false,Result.andThen_ok,Question.cut,run_askRoom,drewFold,r_info hinf]
      rw [hold w.drew rfl]
      simp only [Result.andThen_ok,hcells,newRow,Sem.run_bind,run_newObj,Sem.run_pure,r_zero hte]
      rfl
end
end Go.Sy
namespace Go.Sy
open Go
set_option linter.unusedSimpArgs false
set_option linter.unusedVariables false
section
variable {E : Env} {N : Nat} {M : Pool} {β β' : Bmap} {T : TT} {O O' : OO} {n : Nat} {a : Act} {w w' : World} {P : Program} {o : Oper} {K : KK}
theorem Cont.view {M1 : Pool} {te : Ty} {x : Value} {d d' : AV} (h : Cont M β w P te x d) (hv : Vw M M1 β d d') : Cont M1 β w P te x d':=by
  obtain ⟨h1,h2,h3,cc,h4,h5⟩:=h
  exact ⟨hv.row.trans h1,hv.esz.trans h2,fun w' => by rw [hv.cnt]; exact h3 w',cc,(hv.rv h4).mono (PLe.refl _) (BLe.nob _),fun m hm => by rw [hv.cnt] at hm; exact h5 m hm⟩
theorem RelAt.freeze (h : RelAt E N M β T O n a w) (F : List Nat) : ∃ M1,PLe M M1 ∧ Views M M1 β (frzO O F) ∧ RelAt E N M1 β T (dropO O F) n a w:=by
  obtain ⟨M1,hM,hV,hs⟩:=h.st.freeze F
  exact ⟨M1,hM,hV,hs,h.ids,fun t v hl => by obtain ⟨x,hx,hv⟩:=h.tmps t v hl; exact ⟨x,hx,hv.mono hM (BLe.refl _)⟩,h.nd,h.sz,h.base,h.le0⟩
theorem St.retell (h : St E M β O w) {i : Nat} {ob ob' : OB} (hl : lk O i = some ob) (hO : ∀ j,lk O' j = if j = i then some ob' else lk O j) (hor : ∀ b κ,β i = some (b,κ) → OR M β b κ w ob') : St E M β O' w:=by
  have hs : ∀ j x,lk O' j = some x → ∃ y,lk O j = some y:=fun j x hj => by
    rw [hO] at hj
    split at hj
    · rename_i e; exact ⟨ob,by rw [e]; exact hl⟩
    · exact ⟨x,hj⟩
  refine ⟨h.pool,h.sub,h.only,fun o x hx => ?_,fun o x b κ hx hb hk => ?_,fun o o' x x' b κ κ' hx hx' => ?_,h.size,h.keep,h.os,h.tape,h.output⟩
  · have hx':=hx
    rw [hO] at hx
    split at hx
    · rename_i e
      subst e
      cases hx
      obtain ⟨b,κ,hb,_⟩:=h.objs _ _ hl
      exact ⟨b,κ,hb,hor b κ hb⟩
    · exact h.objs _ _ hx
  · obtain ⟨y,hy⟩:=hs _ _ hx
    exact h.mine _ _ _ _ hy hb hk
  · obtain ⟨y,hy⟩:=hs _ _ hx
    obtain ⟨y',hy'⟩:=hs _ _ hx'
    exact h.inj _ _ _ _ _ _ _ hy hy'
theorem Cont.mono1 {M1 : Pool} {te : Ty} {x : Value} {d : AV} (hM : PLe M M1) (h : Cont M β w P te x d) : Cont M1 β w P te x d:=by
  obtain ⟨h1,h2,h3,cc,h4,h5⟩:=h
  exact ⟨h1,h2,h3,cc,h4.mono hM (BLe.refl _),h5⟩
theorem thawC_spec (h0 : RelAt E N M β T O n a w) {te : Ty} {s c d : AV} {sv xv : Value} {κ : AV → AV → OO → Prop} (hpos : 0 < te.size) (hs : VR M β s sv) (hown : Own β O te c sv O') (hcr : c.isRow = true) (hc0 : c.cnt = 0 → RV M β c []) (hd : Cont M β w P te xv d) (h : thawC te O O' s c d κ) :
    ∃ M1 O1 O2 c' d',RelAt E N M1 β T O1 n a w ∧ Own β O1 te c' sv O2 ∧ c'.isRow = true ∧ (c'.cnt = 0 → RV M1 β c' []) ∧ Cont M1 β w P te xv d' ∧ κ c' d' O2:=by
  unfold thawC at h
  split at h
  · rename_i sz ps
    cases hn : AV.nids ps with
    | true => exact ⟨M,O,O',_,_,h0,hown,hcr,hc0,hd,h.1 hn⟩
    | false =>
      obtain ⟨M1,hM,hV,h1⟩:=h0.freeze (reach O 3 (idsVs ps))
      obtain ⟨d',h2,hv⟩:=hV _ _ (h.2 hn)
      obtain ⟨c',O2,h3,hown',hcr',hc0'⟩:=ownC_spec h1 hpos h2 (hs.mono hM (BLe.refl _))
      exact ⟨M1,_,O2,c',d',h1,hown',hcr',hc0',hd.view hv,h3⟩
  · rename_i sz ps sz' m es
    cases hn : AV.nids ps with
    | true => exact ⟨M,O,O',_,_,h0,hown,hcr,hc0,hd,h.1 hn⟩
    | false =>
      obtain ⟨M1,hM,hV,h1⟩:=h0.freeze (reach O 3 (idsVs ps))
      obtain ⟨c',h2,hv⟩:=hV _ _ (h.2 hn)
      obtain ⟨c2,O2,⟨rfl,h3⟩,hown',hcr',hc0'⟩:=ownC_spec h1 hpos h2 (hs.mono hM (BLe.refl _))
      have hne : (AV.arr sz ps).cnt ≠ 0:=by
        intro e
        have : ps = []:=List.eq_nil_of_length_eq_zero e
        subst this
        cases hn
      have ec : c'.cnt = (AV.arr sz ps).cnt:=hv.cnt
      cases hown' with
      | none hc => exact absurd hc hne
      | some hl hb g1 g2 ha hO =>
        rename_i i b k cap base
        have hl0 : lk O i = some (.row (.arr sz ps)):=by
          rw [lk_dropO] at hl
          split at hl
          · cases hl
          · exact hl
        have hor : ∀ b κ,β i = some (b,κ) → OR M1 β b κ w (.row c'):=fun b κ hb => by
          obtain ⟨b',κ',hb',hor⟩:=h0.st.objs _ _ hl0
          rw [hb] at hb'; cases hb'
          obtain ⟨_,e1,hor⟩:=hor
          refine ⟨hv.row,by rw [hv.esz]; exact e1,?_⟩
          rcases hor with ⟨_,hz,_⟩ | ⟨hk0,cc,sp,e',fz,q1,q2,q3,q4⟩
          · exact absurd hz hne
          · exact .inr ⟨hk0,cc,sp,e',fz,q1,q2,(hv.rv q3).mono (PLe.refl _) (BLe.nob _),by rw [hv.esz]; exact q4⟩
        have hO1 : ∀ j,lk ((i,OB.row c') :: O2) j = if j = i then some (OB.row c') else lk (dropO O (reach O 3 (idsVs ps))) j:=fun j => by
          simp only [lk]
          by_cases e : j = i
          · subst e; simp
          · rw [if_neg (Ne.symm e),if_neg e,hO,if_neg e]
        refine ⟨M1,(i,.row c') :: O2,O2,c',_,⟨h1.st.retell hl hO1 hor,h1.ids,h1.tmps,h1.nd,h1.sz,h1.base,h1.le0⟩,?_,hv.row,fun e => absurd (ec ▸ e) hne,hd.mono1 hM,h3⟩
        rw [← ec]
        exact .some (by simp [lk]) hb (by rw [ec]; exact g1) g2 ha fun j => by
          rw [hO1]
          by_cases e : j = i
          · subst e; rw [if_pos rfl,hO,if_pos rfl]
          · rw [if_neg e,if_neg e,hO,if_neg e]
  · exact ⟨M,O,O',_,_,h0,hown,hcr,hc0,hd,h⟩
theorem lk_repO {ob ob' : OB} {o : Nat} : ∀ {O : OO},lk O o = some ob → ∀ j,lk (repO O o ob') j = if j = o then some ob' else lk O j
  | [],h,_ => by cases h
  | (i,x) :: O,h,j => by
    simp only [repO]
    by_cases e : i = o
    · subst e
      rw [if_pos rfl]
      simp only [lk]
      by_cases ej : i = j
      · subst ej; simp
      · rw [if_neg ej,if_neg (Ne.symm ej),if_neg ej]
    · rw [if_neg e]
      simp only [lk] at h ⊢
      rw [if_neg e] at h
      by_cases ej : i = j
      · subst ej; rw [if_pos rfl,if_neg e,if_pos rfl]
      · rw [if_neg ej,lk_repO h j,if_neg ej]
theorem truncC_spec (h0 : RelAt E N M β T O n a w) {s : AV} {κ : OO → Prop} (h : truncC O s κ) : ∃ O1,κ O1 ∧ RelAt E N M β T O1 n a w:=by
  cases s with
  | osl o p sz lo len =>
    obtain ⟨ob,hl,h1⟩:=objC_spec h
    cases ob with
    | row c =>
      obtain ⟨h2,h3⟩:=h1
      by_cases e : c.cnt = len
      · exact ⟨O,h2 e,h0⟩
      · obtain ⟨rfl,rfl,hlt,h4⟩:=h3 e
        obtain ⟨q,hk,q1,q2,q3,q4,q5,q6⟩:=subC_spec h4
        refine ⟨_,hk,h0.st.retell hl (lk_repO hl) (fun b κ hb => ?_),h0.ids,h0.tmps,h0.nd,h0.sz,h0.base,h0.le0⟩
        obtain ⟨b',κ',hb',hor⟩:=h0.st.objs _ _ hl
        rw [hb] at hb'; cases hb'
        obtain ⟨g1,g2,g3⟩:=hor
        refine ⟨q1,by rw [q3]; exact g2,?_⟩
        rcases g3 with ⟨_,hz,_⟩ | ⟨hk0,cc,sp,e',fz,r1,r2,r3,r4⟩
        · omega
        · obtain ⟨t1,t2⟩:=q6 r3
          simp only [Nat.zero_mul,Nat.zero_add] at t1 t2
          have e1 : piece cc 0 (len * c.esz) = cc.take (len * c.esz):=by simp [piece]
          rw [e1] at t2
          have e2 : cc.take (len * c.esz) ++ (cc.drop (len * c.esz) ++ sp) = cc ++ sp:=by rw [← List.append_assoc,List.take_append_drop]
          exact .inr ⟨hk0,cc.take (len * c.esz),cc.drop (len * c.esz) ++ sp,e',fz,by rw [e2]; exact r1,by rw [e2]; exact r2,t2,by rw [e2,q3]; exact r4⟩
    | _ => exact h1.elim
  | _ => exact ⟨O,h,h0⟩
theorem appendC_spec (h0 : RelAt E N M β T O n a w) {ts : List TypeId} {s x : AV} {sv xv : Value} {tt : TypeId} {κ : AV → OO → Nat → Prop} (hK : ∀ v O' n',κ v O' n' → ∀ o,n ≤ o → o < n' → E.ok o) (h : appendC P ts s x O n κ) (hs : VR M β s sv) (hx : VR M β x xv) :
    BltS P E N T a w (Builtin.append_ ts.toArray tt #[sv,xv]) κ:=by
  unfold appendC at h
  split at h
  · rename_i st xt
    obtain ⟨sty,hst,_,h⟩:=tyC_spec h
    cases sty with
    | slice e =>
      obtain ⟨te,hte,_,inf,hinf,hb0,hpos,h⟩:=tyC_spec h
      have gen : (∀ k i,x ≠ .int k i) → (tyC P xt fun xty => (∀ k,xty ≠ .int k) ∧ contC O te x fun d => truncC O s fun O1 => ownC te O1 s fun c O' => thawC te O1 O' s c d fun c d O' => appC te inf.bytes c d n O' κ) → BltS P E N T a w (Builtin.append_ #[st,xt] tt #[sv,xv]) κ:=fun _ h => by
        obtain ⟨xty,hxt,_,hni,h⟩:=tyC_spec h
        obtain ⟨d,h,hc⟩:=contC_spec (P:=P) h0 hpos h hx
        obtain ⟨O1,h,h0⟩:=truncC_spec h0 h
        obtain ⟨c,O',h,hown,hcr,hc0⟩:=ownC_spec h0 hpos h hs
        have hu : ∃ d,P.underlying xt = some d ∧ ∀ k,d ≠ .int k:=by
          cases xty with
          | int k => exact absurd rfl (hni k)
          | st ts => obtain ⟨_,fs,hu,_⟩:=hxt; exact ⟨_,hu,by intro k e; cases e⟩
          | arr m e te => exact ⟨_,hxt.2.1,by intro k e; cases e⟩
          | func => obtain ⟨_,_,_,_,hu⟩:=hxt; exact ⟨_,hu,by intro k e; cases e⟩
          | _ => exact ⟨_,hxt.2,by intro k e; cases e⟩
        obtain ⟨xd,hu,hd⟩:=hu
        obtain ⟨M1,O1,O2,c',d',h1,hown',hcr',hc0',hc',h⟩:=thawC_spec h0 hpos hs hown hcr hc0 hc h
        exact app_run h1 hst.2 hte hinf hpos hb0 hown' hcr' hc0' (.inl ⟨xd,hu,hd,hc'⟩) hK h
      cases x with
      | int k m =>
        obtain ⟨xty,hxt,_,⟨k',rfl⟩,hm0,hm1,h⟩:=tyC_spec h
        obtain ⟨d,h,hdr,hdc,hde,_,hrv⟩:=zerosC_spec h hpos
        obtain ⟨O1,h,h0⟩:=truncC_spec h0 h
        obtain ⟨c,O',h,hown,hcr,hc0⟩:=ownC_spec h0 hpos h hs
        have e:=hx.int_inv
        subst e
        refine app_run h0 hst.2 hte hinf hpos hb0 hown hcr hc0 (.inr ⟨k',k,hxt.2,by rw [hdc,Int.toNat_of_nonneg hm0],by omega,hdr,hde,fun {M β} => by rw [hdc]; exact hrv⟩) hK h
      | _ => exact gen (by intro k i e; cases e) h
    | _ => exact h.elim
  · exact h.elim
theorem putC_spec {q d : AV} {lo : Nat} {κ : AV → Prop} (h : putC q lo d κ) : ∃ q',κ q' ∧ q'.isRow = true ∧ q'.esz = q.esz ∧ q'.cnt = q.cnt ∧ d.esz = q.esz ∧ lo + d.cnt ≤ q.cnt ∧ q'.csz = q.csz ∧
    ∀ {M : Pool} {β : Bmap} {cs dd : List Value},RV M β q cs → RV M β d dd → RV M β q' (splice cs (lo * q.esz) dd):=by
  cases q <;> cases d <;> first | exact h.elim | skip
  · obtain ⟨rfl,hl,h⟩:=h
    rename_i k m xs n ys
    refine ⟨_,h,rfl,rfl,rfl,rfl,hl,rfl,fun {M β cs dd} h1 h2 => ?_⟩
    cases h1 with
    | ints _ l1 => cases h2 with
      | ints _ l2 =>
        have : splice (xs.map (Value.int k)) (lo * 1) (ys.map (Value.int k)) = (xs.take lo ++ (ys ++ xs.drop (lo + ys.length))).map (Value.int k):=by
          simp only [splice,Nat.mul_one,List.length_map,List.map_take,List.map_drop,List.map_append]
        simp only [AV.esz,AV.cnt] at *
        rw [this,l2]
        exact .ints _ (by simp; omega)
  · obtain ⟨rfl,hl,h⟩:=h
    rename_i sz n es m fs
    refine ⟨_,h,rfl,rfl,rfl,rfl,hl,rfl,fun {M β cs dd} h1 h2 => ?_⟩
    cases h1 with
    | lst l1 z1 n1 => cases h2 with
      | lst l2 z2 n2 =>
        simp only [AV.esz,splice,AV.cnt] at *
        have hd : dd.length = m * sz:=by rw [l2.length,cszs_const z2,n2]
        rw [hd,← Nat.add_mul]
        refine .lst ((l1.take z1 lo).append (l2.append (l1.drop z1 (lo + m)))) (fun p hp => ?_) (by simp; omega)
        rcases List.mem_append.1 hp with hp | hp
        · exact z1 p (List.mem_of_mem_take hp)
        · rcases List.mem_append.1 hp with hp | hp
          · exact z2 p hp
          · exact z1 p (List.mem_of_mem_drop hp)
theorem putC_csz {q d : AV} {lo : Nat} {κ : AV → Prop} (h : putC q lo d κ) : q.csz = q.cnt * q.esz:=by
  cases q <;> cases d <;> first | exact h.elim | skip
  · simp [AV.csz,AV.cnt,AV.esz]
  · simp [AV.csz,AV.cnt,AV.esz]
theorem copyC_spec (h0 : RelAt E N M β T O n a w) {ts : List TypeId} {s x : AV} {sv xv : Value} {tt : TypeId} {κ : Nat → OO → Prop} (h : copyC P ts s x O κ) (hs : VR M β s sv) (hx : VR M β x xv) :
    BltS P E N T a w (Builtin.copy_ ts.toArray tt #[sv,xv]) (fun r O' n' => ∃ m : Nat,r = .int .i64 m ∧ n' = n ∧ κ m O'):=by
  unfold copyC at h
  split at h
  · rename_i st rest
    obtain ⟨sty,hst,_,h⟩:=tyC_spec h
    cases sty with
    | slice e =>
      obtain ⟨te,hte,_,hpos,h⟩:=tyC_spec h
      have none0 : ∀ (base : Option Addr) (len cap : Nat) (d : AV),sv = .slice base len cap → Cont M β w P te xv d → Nat.min d.cnt len = 0 → κ 0 O →
          BltS P E N T a w (Builtin.copy_ (st :: rest).toArray tt #[sv,xv]) (fun r O' n' => ∃ m : Nat,r = .int .i64 m ∧ n' = n ∧ κ m O'):=by
        intro base len cap d e hc hm hk
        obtain ⟨dd,_,hpre⟩:=hc.pre
        subst e
        refine ⟨_,_,_,.int .i64 0,w,M,β,⟨0,rfl,rfl,hk⟩,?_,h0,.one rfl (.int _ _)⟩
        simp only [Builtin.copy_,List.getElem?_toArray,List.getElem?_cons_zero,List.getElem?_cons_succ,Sem.run_bind,r_under hst.2,Result.andThen_ok,hc.len w,r_size hte]
        rw [hm,hpre 0 (Nat.zero_le _) w rfl]
        cases base <;> simp [storeCells,goInt]
      cases s with
      | nils =>
        obtain ⟨d,hk,hc⟩:=contC_spec (P:=P) h0 hpos h hx
        exact none0 none 0 0 d hs.nils_inv hc (Nat.min_zero _) hk
      | osl i p sz lo len =>
        obtain ⟨hsz,h2⟩:=h
        subst hsz
        obtain ⟨d,⟨hz,hA,hB⟩,hc⟩:=contC_spec (P:=P) h0 hpos h2 hx
        obtain ⟨dd,hdd,hpre⟩:=hc.pre
        have hdl:=row_len hdd hc.row
        rw [hc.ez] at hdl
        obtain ⟨b,κ0,base,cap,hb,rfl,hcap,hkk,ha⟩:=hs.osl_inv
        by_cases hcz : d.cnt = 0 ∨ len = 0
        · refine none0 base len cap d rfl hc ?_ (hz hcz)
          show min d.cnt len = 0
          omega
        have hbase : base = some ⟨b,poff p + lo * te.size,none⟩:=ha.resolve_left (by omega)
        subst hbase
        have gen : ∀ (m : Nat) (d' : AV) (xs : List Value),m = Nat.min d.cnt len → 0 < m → m ≤ d.cnt → RV M β d' xs → xs = dd.take (m * te.size) → d'.cnt = m →
            (objC O i fun ob => obC ob fun c => navC p c fun q => putC q lo d' fun q' => updO O i p q' fun O' => κ m O') →
            BltS P E N T a w (Builtin.copy_ (st :: rest).toArray tt #[.slice (some ⟨b,poff p + lo * te.size,none⟩) len cap,xv]) (fun r O' n' => ∃ m : Nat,r = .int .i64 m ∧ n' = n ∧ κ m O'):=by
          intro m d' xs hm hm0 hmd hd' hxs hc' h
          obtain ⟨ob,hl,h⟩:=objC_spec h
          obtain ⟨c,hcc,h⟩:=obC_spec h
          obtain ⟨q,h,hq⟩:=nav_spec _ _ _ h
          have hqc:=putC_csz h
          obtain ⟨q',h,q1,q2,q3,q4,q5,q6,q7⟩:=putC_spec h
          have hxl : xs.length = m * te.size:=by rw [hxs,List.length_take,hdl]; exact Nat.min_eq_left (Nat.mul_le_mul_right _ hmd)
          have hxp : 0 < xs.length:=by rw [hxl]; exact Nat.mul_pos hm0 hpos
          have hrow : d'.isRow = true:=by cases d' <;> first | rfl | (simp [AV.cnt] at hc'; omega)
          have he' : d'.esz = te.size:=by
            have:=row_len hd' hrow
            rw [hxl,hc'] at this
            exact (Nat.eq_of_mul_eq_mul_left hm0 this).symm
          have hqe : q.esz = te.size:=by rw [← q4,he']
          obtain ⟨O',w',b',κ',hb',hk,hrun,hr'⟩:=h0.writeAt (P:=P) h (lo * te.size) hxp hd'.one fun {c' cs} hl' hcs => by
            have e1 : c' = c:=by
              rcases hl' with h' | h' <;> rw [h'] at hl <;> cases hl <;> exact hcc
            subst e1
            obtain ⟨g1,g2⟩:=hq hcs
            have g3:=q7 g2 hd'
            rw [hqe] at g3
            exact ⟨q.csz,g1,by rw [hqc,hqe,hxl,← Nat.add_mul,← hc']; exact Nat.mul_le_mul_right _ q5,g3,by rw [g3.length,q6]⟩
          rw [hb] at hb'; cases hb'
          refine ⟨_,_,_,.int .i64 m,w',M,β,⟨m,rfl,rfl,hk⟩,?_,hr',.one rfl (.int _ _)⟩
          simp only [Builtin.copy_,List.getElem?_toArray,List.getElem?_cons_zero,List.getElem?_cons_succ,Sem.run_bind,r_under hst.2,Result.andThen_ok,hc.len w,r_size hte,← hm]
          rw [hpre m hmd w rfl,← hxs]
          simp only [Result.andThen_ok,Sem.run_bind,hrun]
          rfl
        by_cases hle : d.cnt ≤ len
        · refine gen d.cnt d dd (Nat.min_eq_left hle).symm (by omega) (Nat.le_refl _) hdd ?_ rfl (hA (by omega) (by omega) hle)
          rw [List.take_of_length_le (by omega)]
        · obtain ⟨d',h,s1,s2,s3,s4,_,s5⟩:=subC_spec (hB (by omega) (by omega) hle)
          obtain ⟨_,this⟩:=s5 hdd
          simp only [Nat.zero_mul,piece,List.drop_zero,hc.ez] at this
          exact gen len d' _ (Nat.min_eq_right (by omega)).symm (by omega) (by omega) this rfl s2 h
      | _ => exact h.elim
    | _ => exact h.elim
  · exact h.elim
end
end Go.Sy
namespace Go.Sy
open Go
set_option linter.unusedSimpArgs false
set_option linter.unusedVariables false
section
variable {E : Env} {N : Nat} {M : Pool} {β β' : Bmap} {T : TT} {O O' : OO} {n : Nat} {a : Act} {w w' : World} {P : Program} {o : Oper} {K : KK}
theorem OpS.blt {s : Sem Value} {κ : AV → OO → Nat → Prop} (hrun : (execOp a.eval o).run P w = (do pure (.value (← s)) : Sem Next).run P w) (h : BltS P E N T a w s κ)
    (hk : ∀ r O' n',κ r O' n' → K r O' n') : OpS P o E N T K a w:=by
  obtain ⟨r,O',n',y,w',M',β',h1,h2,h3,h4⟩:=h
  refine fun next Q hn => ?_
  unfold Oper.wp
  rw [hrun]
  simp only [Sem.run_bind,h2,Result.andThen_ok,Sem.run_pure]
  exact hn _ _ _ _ _ _ _ (hk _ _ _ h1) h3 h4
theorem bltC_spec (h0 : RelAt E N M β T O n a w) {b : Builtin} {ts : List TypeId} {vs : List AV} {xs : List Value} {tt : TypeId} {κ : AV → OO → Nat → Prop} (hK : ∀ v O' n',κ v O' n' → ∀ o,n ≤ o → o < n' → E.ok o) (h : bltC P b ts vs O n κ) (hv : VRs M β vs xs) :
    ∃ s : Sem Value,(∀ cs,builtin b ts.toArray tt cs xs.toArray = (do pure (.value (← s)) : Sem Next)) ∧ BltS P E N T a w s κ:=by
  unfold bltC at h
  split at h
  · rename_i v
    split at h
    · rename_i t
      cases hv with
      | cons h1 hs =>
        cases hs
        obtain ⟨m,hk,hrun⟩:=lenK_spec (tt:=tt) h h1
        exact ⟨_,fun _ => rfl,_,_,_,_,w,M,β,hk,hrun,h0,.one rfl (.int _ _)⟩
    · exact h.elim
  · cases hv with
    | cons h1 hs => cases hs with
      | cons h2 hs =>
        cases hs
        exact ⟨_,fun _ => rfl,appendC_spec h0 hK h h1 h2⟩
  · cases hv with
    | cons h1 hs => cases hs with
      | cons h2 hs =>
        cases hs
        obtain ⟨r,O',n',y,w',M',β',⟨m,rfl,rfl,hk⟩,g⟩:=copyC_spec (tt:=tt) h0 h h1 h2
        exact ⟨_,fun _ => rfl,_,_,_,y,w',M',β',hk,g⟩
  · rename_i k x k' y
    obtain ⟨rfl,h⟩:=h
    cases hv with
    | cons h1 hs => cases hs with
      | cons h2 hs =>
        cases hs
        have e1:=h1.int_inv
        have e2:=h2.int_inv
        subst e1; subst e2
        refine ⟨_,fun _ => rfl,_,_,_,.int k (min x y),w,M,β,h,?_,h0,.one rfl (.int _ _)⟩
        have : (if y < x then y else x) = min x y:=by rw [Int.min_def]; split <;> split <;> omega
        simp [Builtin.min_,Builtin.min2,this]
  · rename_i k x k' y
    obtain ⟨rfl,h⟩:=h
    cases hv with
    | cons h1 hs => cases hs with
      | cons h2 hs =>
        cases hs
        have e1:=h1.int_inv
        have e2:=h2.int_inv
        subst e1; subst e2
        refine ⟨_,fun _ => rfl,_,_,_,.int k (max x y),w,M,β,h,?_,h0,.one rfl (.int _ _)⟩
        have : (if x < y then y else x) = max x y:=by rw [Int.max_def]; split <;> split <;> omega
        simp [Builtin.max_,Builtin.max2,this]
  · exact h.elim
theorem s_builtin (hK : ∀ v O' n',K v O' n' → ∀ o,n ≤ o → o < n' → E.ok o) {c : Call} {b : Builtin} (ho : o.op = .call c) (hb : c.callee = .builtin b)
    (h : evsC T c.args.toList fun vs => bltC P b c.argTypes.toList vs O n fun r O' n' => K r O' n') (hr : RelAt E N M β T O n a w) : OpS P o E N T K a w:=by
  obtain ⟨vs,h,hv⟩:=evsC_spec hr h
  obtain ⟨s,e,hs⟩:=bltC_spec (tt:=o.type) hr hK h hv
  refine OpS.blt ?_ hs fun _ _ _ hk => hk
  simp only [execOp,ho,resolve,hb,Sem.run_bind,Sem.run_pure,Result.andThen_ok,invoke]
  have ea : c.args.map a.eval = (c.args.toList.map a.eval).toArray:=by apply Array.ext'; simp
  have et : c.argTypes = c.argTypes.toList.toArray:=by simp
  rw [ea,et,e]
  simp
theorem bytesOf_spec {c : AV} {κ : List UInt8 → Prop} (h : bytesOf c κ) : ∃ m xs,c = .ints .u8 m xs ∧ κ (xs.map fun x => UInt8.ofNat x.toNat):=by
  unfold bytesOf at h
  split at h
  · exact ⟨_,_,rfl,h⟩
  · exact h.elim
theorem s_convert (hK : ∀ v O' n',K v O' n' → ∀ o,n ≤ o → o < n' → E.ok o) {q t : TypeId} {x : Operand} (ho : o.op = .convert q t x) (h : evC T x fun v => convC P q t v O n fun r O' n' => K r O' n') (hr : RelAt E N M β T O n a w) : OpS P o E N T K a w:=by
  obtain ⟨v,h,hv⟩:=evC_spec hr h
  obtain ⟨sty,hs,_,h⟩:=tyC_spec h
  obtain ⟨d,hdd,_,h⟩:=tyC_spec h
  have hu : ∃ d,P.underlying q = some d:=by
    cases sty with
    | st ts => obtain ⟨_,fs,hu,_⟩:=hs; exact ⟨_,hu⟩
    | arr m e te => exact ⟨_,hs.2.1⟩
    | func => obtain ⟨_,_,_,_,hu⟩:=hs; exact ⟨_,hu⟩
    | _ => exact ⟨_,hs.2⟩
  obtain ⟨ud,hu⟩:=hu
  refine OpS.blt (s:=convert q t (a.eval x)) (by simp only [execOp,ho]) (κ:=fun r O' n' => K r O' n') ?_ fun _ _ _ hk => hk
  cases d with
  | int k =>
    cases v with
    | int k' m =>
      have e:=hv.int_inv
      rw [e]
      refine ⟨_,_,_,.int k (k.wrap m),w,M,β,h,?_,hr,.one rfl (.int _ _)⟩
      simp [convert,r_under hu,r_under hdd.2,Conv.intToInt]
    | _ => exact h.elim
  | slice e =>
    cases v with
    | osl o0 p sz lo len =>
      obtain ⟨rfl,hlen,rfl,h⟩:=h
      obtain ⟨te,hte,_,hte2,h⟩:=tyC_spec h
      subst hte2
      obtain ⟨ob,hl,h⟩:=objC_spec h
      cases ob with
      | row c =>
        have hk : K (.osl o0 [] sz lo len) O n:=h
        have hv0:=hv
        obtain ⟨b,κ,base,cap,hb,e1,hcap,hkk,ha⟩:=hv.osl_inv
        have hbase : base = some ⟨b,poff [] + lo * sz,none⟩:=ha.resolve_left (by omega)
        have hk0 : κ ≠ 0:=by have:=hkk rfl; omega
        obtain ⟨b',κ',hb',hor⟩:=hr.st.objs _ _ hl
        rw [hb] at hb'; cases hb'
        obtain ⟨h1,h2,h3⟩:=hor
        rcases h3 with ⟨h3,_⟩ | ⟨_,cc,sp,e',fz,h4,h5,h6,h7⟩
        · exact absurd h3 hk0
        · rw [e1,hbase]
          let fz' : Nat × Nat:=if fz.1 == fz.2 then ((cc ++ sp).length,(cc ++ sp).length + 1) else (min fz.1 (cc ++ sp).length,max fz.2 ((cc ++ sp).length + 1))
          have hfz' : freeCells fz' (cc ++ sp).length:=by
            show freeCells (if fz.1 == fz.2 then _ else _) _
            split
            · exact .inr (Nat.le_refl _)
            · rename_i hne
              rcases h5 with h5 | h5
              · exact absurd (by simpa using h5) hne
              · exact .inr (by show _ ≤ min _ _; omega)
          have hblt : b < w.heap.size:=(Array.getElem?_eq_some_iff.1 h4).1
          have hput:=hr.st.put hl hb hk0 (O':=O) (ob':=.row c) (x:=.cells (cc ++ sp).toArray e' fz') (fun i => by split <;> simp_all) ⟨h1,h2,.inr ⟨hk0,cc,sp,e',fz',by rw [getElem?_putBlock hblt,if_pos rfl],hfz',h6,h7⟩⟩
          have hrel : RelAt E N M β T O n a (w.putBlock b (.cells (cc ++ sp).toArray e' fz')):=hr.next hput (BLe.refl _) hr.ids (fun _ _ => rfl) (Nat.le_refl _)
          refine ⟨_,_,_,.slice (some ⟨b,poff [] + lo * sz,none⟩) len cap,w.putBlock b (.cells (cc ++ sp).toArray e' fz'),M,β,hk,?_,hrel,?_⟩
          · have hsh : w.shape? b = some (e',(cc ++ sp).length):=by simp [World.shape?,h4]
            have hfr : w.freeze ⟨b,(cc ++ sp).length,none⟩ 1 = w.putBlock b (.cells (cc ++ sp).toArray e' fz'):=by
              unfold World.freeze World.putBlock
              rw [if_neg (by decide)]
              congr 1
              apply Array.ext_getElem?
              intro i
              rw [Array.getElem?_modify,Array.getElem?_setIfInBounds]
              by_cases hi : b = i
              · subst hi
                rw [if_pos rfl,if_pos rfl,if_pos hblt,h4]
                rfl
              · rw [if_neg hi,if_neg hi]
            simp [convert,r_under hdd.2,r_under hte.2,markStringish,hsh]
            rw [← List.length_append]
            exact hfr
          · rw [e1,hbase] at hv0; exact hv0
      | _ => exact h.elim
    | str s =>
      obtain ⟨hs2,h2⟩:=h
      subst hs2
      obtain ⟨te,hte,_,hte2,h3⟩:=tyC_spec h2
      subst hte2
      have e1:=hv.str_inv
      rw [e1]
      have hsz : (⟨s.toArray⟩ : ByteArray).size = s.length:=by simp [ByteArray.size]
      have hrun:=run_bytes_of_string (P:=P) w q t e ⟨s.toArray⟩ hs.2 hdd.2 hte.2
      rw [hsz] at hrun
      have hge:=grownCap_ge w s.length 0 e
      have hr0 : RelAt E N M β T O n a w.drew:=hr.next hr.st.drew (BLe.refl _) hr.ids (fun _ _ => rfl) (Nat.le_refl _)
      have hrv : RV M β (.ints .u8 s.length (s.map fun x => (x.toNat : Int))) ((s.map fun x => (x.toNat : Int)).map (Value.int .u8)):=.ints _ (by simp)
      have hnew:=hr0.newRowF (hK _ _ _ h3 n (Nat.le_refl _) (Nat.lt_succ_self _)) (e:=e) (cells:=bytesRow ⟨s.toArray⟩ (grownCap w s.length 0 e)) (sp:=List.replicate (grownCap w s.length 0 e - s.length) (.int .u8 0)) (κ:=grownCap w s.length 0 e)
        (fz:=((bytesRow ⟨s.toArray⟩ (grownCap w s.length 0 e)).size,(bytesRow ⟨s.toArray⟩ (grownCap w s.length 0 e)).size + 1)) (.inr (Nat.le_refl _)) hrv rfl (by simp [AV.esz])
        (by simp [bytesRow,ByteArray.size]) (by simp [AV.esz]; omega) (by simp [AV.esz,AV.cnt])
      refine ⟨_,_,_,_,_,M,_,h3,hrun,hnew,?_⟩
      exact row_value (c:=.ints .u8 s.length (s.map fun x => (x.toNat : Int))) hge _ (by simp)
    | _ => exact h.elim
  | str =>
    have gen : (∃ b l c,a.eval x = .slice b l c) → (match (generalizing:=false) sty with
      | .slice e => tyC P e fun te => te = .int .u8 ∧ contC O te v fun c => bytesOf c fun s => K (.str s) O n
      | _ => False) → BltS P E N T a w (convert q t (a.eval x)) (fun r O' n' => K r O' n'):=by
      rintro ⟨b,l,c,e⟩ h
      rw [e] at hv ⊢
      cases sty with
      | slice e =>
        obtain ⟨te,hte,_,hte2,h3⟩:=tyC_spec h
        subst hte2
        obtain ⟨d,h4,hc⟩:=contC_spec (P:=P) hr (by decide) h3 hv
        obtain ⟨m,xs,rfl,hk⟩:=bytesOf_spec h4
        refine ⟨_,_,_,.string ⟨(xs.map fun x => UInt8.ofNat x.toNat).toArray⟩,w,M,β,hk,?_,hr,.one rfl (.str _)⟩
        rw [run_convert_bytes_string w q t e b l c hs.2 hte.2 hdd.2]
        obtain ⟨cc,hcc,hcells⟩:=hc.cells
        have hl : l = m:=by
          have:=hc.len w
          simp only [Builtin.lenOf,Sem.run_pure,AV.cnt] at this
          simpa using this
        have hcx : cc = xs.map (Value.int .u8):=by cases hcc; rfl
        have hrd:=hcells w rfl
        subst hl; subst hcx
        cases b with
        | none =>
          simp only [Builtin.firstCells,Sem.run_pure] at hrd
          have : xs = []:=by
            have e:=hrd
            simp at e
            exact e
          subst this
          simp [Conv.bytesToString,ByteArray.empty,ByteArray.emptyWithCapacity]
          rfl
        | some aa =>
          simp only [Builtin.firstCells,AV.cnt,Ty.size,Nat.mul_one] at hrd
          rw [run_bytesToString w aa l c xs hrd,foldl_push_bytes]
          simp [ByteArray.empty,ByteArray.emptyWithCapacity]
          rfl
      | _ => exact h.elim
    cases v with
    | str s =>
      have e:=hv.str_inv
      rw [e]
      refine ⟨_,_,_,.string ⟨s.toArray⟩,w,M,β,h,?_,hr,.one rfl (.str _)⟩
      cases ud <;> simp [convert,r_under hu,r_under hdd.2]
    | sl c => exact gen (by obtain ⟨_,_,_,e,_⟩:=hv.sl_inv; exact ⟨_,_,_,e⟩) h
    | nils => exact gen ⟨_,_,_,hv.nils_inv⟩ h
    | osl i p sz lo len => exact gen (by obtain ⟨_,_,_,_,_,e,_⟩:=hv.osl_inv; exact ⟨_,_,_,e⟩) h
    | _ => cases sty <;> first | exact h.elim | (obtain ⟨_,_,_,_,h⟩:=tyC_spec h; exact h.elim)
  | _ => exact h.elim
end
end Go.Sy
namespace Go.Sy
open Go
set_option linter.unusedSimpArgs false
set_option linter.unusedVariables false
def Agr (σ : List (Nat × Nat)) (β1 β : Bmap) : Prop:=∀ o o',lk σ o = some o' → β1 o = β o'
theorem idC_spec {K : Nat → Prop} : ∀ {σ : List (Nat × Nat)} {o : Nat},idC σ o K → ∃ o',lk σ o = some o' ∧ K o':=by
  intro σ
  induction σ with
  | nil => intro o h; exact h.elim
  | cons p σ ih =>
    intro o h
    obtain ⟨i,j⟩:=p
    simp only [idC] at h
    simp only [lk]
    split at h
    · rename_i e; exact ⟨j,by simp [e],h⟩
    · rename_i e; obtain ⟨o',h1,h2⟩:=ih h; exact ⟨o',by simp [e,h1],h2⟩
structure Ren (σ : List (Nat × Nat)) (v v' : AV) : Prop where
  csz : v'.csz = v.csz
  multi : v'.multi = v.multi
  row : v'.isRow = v.isRow
  cnt : v'.cnt = v.cnt
  esz : v'.esz = v.esz
  rv : ∀ {M : Pool} {β1 β : Bmap} {cs : List Value},Agr σ β1 β → (RV M β1 v cs ↔ RV M β v' cs)
  vr : ∀ {M : Pool} {β1 β : Bmap} {x : Value},Agr σ β1 β → (VR M β1 v x ↔ VR M β v' x)
structure Rens (σ : List (Nat × Nat)) (vs vs' : List AV) : Prop where
  len : vs'.length = vs.length
  cszs : AV.cszs vs' = AV.cszs vs
  all : ∀ sz,(∀ p ∈ vs,p.csz = sz) ↔ (∀ p ∈ vs',p.csz = sz)
  rv : ∀ {M : Pool} {β1 β : Bmap} {cs : List Value},Agr σ β1 β → (RVs M β1 vs cs ↔ RVs M β vs' cs)
  vr : ∀ {M : Pool} {β1 β : Bmap} {xs : List Value},Agr σ β1 β → (VRs M β1 vs xs ↔ VRs M β vs' xs)
theorem Ren.of_nid (σ : List (Nat × Nat)) (v : AV) (h : v.nid = true) : Ren σ v v :=
  ⟨rfl,rfl,rfl,rfl,rfl,fun _ => ⟨fun g => g.nid h _,fun g => g.nid h _⟩,fun _ => ⟨fun g => g.nid h _,fun g => g.nid h _⟩⟩
theorem VR.iff_one {M : Pool} {β1 β : Bmap} {v v' : AV} {x : Value} (hm : v.multi = false) (hm' : v'.multi = false) (ht : v.mem = true) (ht' : v'.mem = true) (h : RV M β1 v [x] ↔ RV M β v' [x]) : VR M β1 v x ↔ VR M β v' x :=
  ⟨fun g => .one hm' (h.1 (g.one_inv hm ht)),fun g => .one hm (h.2 (g.one_inv hm' ht'))⟩
theorem VR.iff_agg {M : Pool} {β1 β : Bmap} {v v' : AV} {x : Value} (hm : v.multi = true) (hm' : v'.multi = true) (ht : v.mem = true) (ht' : v'.mem = true) (h : ∀ cs,RV M β1 v cs ↔ RV M β v' cs) : VR M β1 v x ↔ VR M β v' x :=
  ⟨fun g => by obtain ⟨cs,rfl,h1⟩:=g.agg_inv hm ht; exact .agg hm' ((h cs).1 h1),fun g => by obtain ⟨cs,rfl,h1⟩:=g.agg_inv hm' ht'; exact .agg hm ((h cs).2 h1)⟩
mutual
theorem renC_spec (σ : List (Nat × Nat)) : ∀ (v : AV) (K : AV → Prop),renC σ v K → ∃ v',K v' ∧ Ren σ v v'
  | .ref o p,K,h => by
    simp only [renC] at h
    obtain ⟨o',hl,hk⟩:=idC_spec h
    have key : ∀ {M : Pool} {β1 β : Bmap} {cs : List Value},Agr σ β1 β → (RV M β1 (.ref o p) cs ↔ RV M β (.ref o' p) cs):=fun ha =>
      ⟨fun g => by cases g with | ref hb => exact .ref (by rw [← ha _ _ hl]; exact hb),fun g => by cases g with | ref hb => exact .ref (by rw [ha _ _ hl]; exact hb)⟩
    exact ⟨_,hk,rfl,rfl,rfl,rfl,rfl,key,fun ha => VR.iff_one rfl rfl rfl rfl (key ha)⟩
  | .osl o p sz lo len,K,h => by
    simp only [renC] at h
    obtain ⟨o',hl,hk⟩:=idC_spec h
    have key : ∀ {M : Pool} {β1 β : Bmap} {cs : List Value},Agr σ β1 β → (RV M β1 (.osl o p sz lo len) cs ↔ RV M β (.osl o' p sz lo len) cs):=fun ha =>
      ⟨fun g => by cases g with | osl hb h1 h2 h3 => exact .osl (by rw [← ha _ _ hl]; exact hb) h1 h2 h3,fun g => by cases g with | osl hb h1 h2 h3 => exact .osl (by rw [ha _ _ hl]; exact hb) h1 h2 h3⟩
    exact ⟨_,hk,rfl,rfl,rfl,rfl,rfl,key,fun ha => VR.iff_one rfl rfl rfl rfl (key ha)⟩
  | .mp o,K,h => by
    simp only [renC] at h
    obtain ⟨o',hl,hk⟩:=idC_spec h
    have key : ∀ {M : Pool} {β1 β : Bmap} {cs : List Value},Agr σ β1 β → (RV M β1 (.mp o) cs ↔ RV M β (.mp o') cs):=fun ha =>
      ⟨fun g => by cases g with | mp hb => exact .mp (by rw [← ha _ _ hl]; exact hb),fun g => by cases g with | mp hb => exact .mp (by rw [ha _ _ hl]; exact hb)⟩
    exact ⟨_,hk,rfl,rfl,rfl,rfl,rfl,key,fun ha => VR.iff_one rfl rfl rfl rfl (key ha)⟩
  | .agg ps,K,h => by
    simp only [renC] at h
    obtain ⟨qs,hk,hr⟩:=rensC_spec σ ps _ h
    have key : ∀ {M : Pool} {β1 β : Bmap} {cs : List Value},Agr σ β1 β → (RV M β1 (.agg ps) cs ↔ RV M β (.agg qs) cs):=fun ha =>
      ⟨fun g => by cases g with | agg g => exact .agg ((hr.rv ha).1 g),fun g => by cases g with | agg g => exact .agg ((hr.rv ha).2 g)⟩
    exact ⟨_,hk,by simp only [AV.csz]; exact hr.cszs,rfl,rfl,rfl,rfl,key,fun ha => VR.iff_agg rfl rfl rfl rfl fun _ => key ha⟩
  | .arr sz ps,K,h => by
    simp only [renC] at h
    obtain ⟨qs,hk,hr⟩:=rensC_spec σ ps _ h
    have key : ∀ {M : Pool} {β1 β : Bmap} {cs : List Value},Agr σ β1 β → (RV M β1 (.arr sz ps) cs ↔ RV M β (.arr sz qs) cs):=fun ha =>
      ⟨fun g => by cases g with | arr g hs => exact .arr ((hr.rv ha).1 g) ((hr.all _).1 hs),fun g => by cases g with | arr g hs => exact .arr ((hr.rv ha).2 g) ((hr.all _).2 hs)⟩
    exact ⟨_,hk,by simp only [AV.csz,hr.len],rfl,rfl,by simp only [AV.cnt,hr.len],rfl,key,fun ha => VR.iff_agg rfl rfl rfl rfl fun _ => key ha⟩
  | .tup ps,K,h => by
    simp only [renC] at h
    obtain ⟨qs,hk,hr⟩:=rensC_spec σ ps _ h
    exact ⟨_,hk,rfl,rfl,rfl,rfl,rfl,fun ha => ⟨fun g => (by cases g),fun g => (by cases g)⟩,
      fun ha => ⟨fun g => by obtain ⟨xs,rfl,g2⟩:=g.tup_inv; exact .tup ((hr.vr ha).1 g2),fun g => by obtain ⟨xs,rfl,g2⟩:=g.tup_inv; exact .tup ((hr.vr ha).2 g2)⟩⟩
  | .fn f ps,K,h => by
    simp only [renC] at h
    obtain ⟨qs,hk,hr⟩:=rensC_spec σ ps _ h
    have key : ∀ {M : Pool} {β1 β : Bmap} {cs : List Value},Agr σ β1 β → (RV M β1 (.fn f ps) cs ↔ RV M β (.fn f qs) cs):=fun ha =>
      ⟨fun g => by cases g with | fn g => exact .fn ((hr.vr ha).1 g),fun g => by cases g with | fn g => exact .fn ((hr.vr ha).2 g)⟩
    exact ⟨_,hk,rfl,rfl,rfl,rfl,rfl,key,fun ha => VR.iff_one rfl rfl rfl rfl (key ha)⟩
  | .fb f ps,K,h => by
    simp only [renC] at h
    obtain ⟨qs,hk,hr⟩:=rensC_spec σ ps _ h
    have key : ∀ {M : Pool} {β1 β : Bmap} {cs : List Value},Agr σ β1 β → (RV M β1 (.fb f ps) cs ↔ RV M β (.fb f qs) cs):=fun ha =>
      ⟨fun g => by cases g with | fb g => exact .fb ((hr.vr ha).1 g),fun g => by cases g with | fb g => exact .fb ((hr.vr ha).2 g)⟩
    exact ⟨_,hk,rfl,rfl,rfl,rfl,rfl,key,fun ha => VR.iff_one rfl rfl rfl rfl (key ha)⟩
  | .int k n,K,h => ⟨_,by simpa only [renC] using h,.of_nid _ _ rfl⟩
  | .bool b,K,h => ⟨_,by simpa only [renC] using h,.of_nid _ _ rfl⟩
  | .str s,K,h => ⟨_,by simpa only [renC] using h,.of_nid _ _ rfl⟩
  | .nilp,K,h => ⟨_,by simpa only [renC] using h,.of_nid _ _ rfl⟩
  | .ints k n xs,K,h => ⟨_,by simpa only [renC] using h,.of_nid _ _ rfl⟩
  | .lst sz n es,K,h => ⟨_,by simpa only [renC] using h,.of_nid _ _ rfl⟩
  | .sl c,K,h => ⟨_,by simpa only [renC] using h,.of_nid _ _ rfl⟩
  | .nils,K,h => ⟨_,by simpa only [renC] using h,.of_nid _ _ rfl⟩
  | .pp c p,K,h => ⟨_,by simpa only [renC] using h,.of_nid _ _ rfl⟩
  | .nilf,K,h => ⟨_,by simpa only [renC] using h,.of_nid _ _ rfl⟩
  | .nilm,K,h => ⟨_,by simpa only [renC] using h,.of_nid _ _ rfl⟩
  | .opq,K,h => ⟨_,by simpa only [renC] using h,.of_nid _ _ rfl⟩
  | .junk,K,h => by simp only [renC] at h
theorem rensC_spec (σ : List (Nat × Nat)) : ∀ (vs : List AV) (K : List AV → Prop),rensC σ vs K → ∃ vs',K vs' ∧ Rens σ vs vs'
  | [],K,h => ⟨[],by simpa only [rensC] using h,rfl,rfl,fun _ => Iff.rfl,fun _ => ⟨fun g => by cases g; exact .nil,fun g => by cases g; exact .nil⟩,fun _ => ⟨fun g => by cases g; exact .nil,fun g => by cases g; exact .nil⟩⟩
  | v :: vs,K,h => by
    simp only [rensC] at h
    obtain ⟨v',h,hv⟩:=renC_spec σ v _ h
    obtain ⟨vs',h,hvs⟩:=rensC_spec σ vs _ h
    refine ⟨_,h,by simp [hvs.len],by simp only [AV.cszs,hv.csz,hvs.cszs],fun sz => ?_,fun ha => ⟨fun g => ?_,fun g => ?_⟩,fun ha => ⟨fun g => ?_,fun g => ?_⟩⟩
    · simp only [List.mem_cons,forall_eq_or_imp,hv.csz,hvs.all sz]
    · cases g with | cons g1 g2 => exact .cons ((hv.rv ha).1 g1) ((hvs.rv ha).1 g2)
    · cases g with | cons g1 g2 => exact .cons ((hv.rv ha).2 g1) ((hvs.rv ha).2 g2)
    · cases g with | cons g1 g2 => exact .cons ((hv.vr ha).1 g1) ((hvs.vr ha).1 g2)
    · cases g with | cons g1 g2 => exact .cons ((hv.vr ha).2 g1) ((hvs.vr ha).2 g2)
end
section
variable {E : Env} {N : Nat} {M M' M1 : Pool} {β β' β1 : Bmap} {T : TT} {O O' : OO} {n : Nat} {a : Act} {w w' : World} {P : Program} {o : Oper} {K : KK}
theorem pf_aux : (∀ {β v cs},RV M β v cs → v.pf = true → ∀ M',RV M' β v cs) ∧ (∀ {β vs cs},RVs M β vs cs → AV.pf.pfs vs = true → ∀ M',RVs M' β vs cs) ∧
    (∀ {β v x},VR M β v x → v.pf = true → ∀ M',VR M' β v x) ∧ (∀ {β vs xs},VRs M β vs xs → AV.pf.pfs vs = true → ∀ M',VRs M' β vs xs) :=
  @ind4 M (fun β v cs => v.pf = true → ∀ M',RV M' β v cs) (fun β vs cs => AV.pf.pfs vs = true → ∀ M',RVs M' β vs cs) (fun β v x => v.pf = true → ∀ M',VR M' β v x) (fun β vs xs => AV.pf.pfs vs = true → ∀ M',VRs M' β vs xs)
  (fun k n _ _ => .int k n) (fun b _ _ => .bool b) (fun s _ _ => .str s) (fun _ _ => .nilp) (fun h _ _ => .ref h) (fun k _ _ h _ _ => .ints k h)
  (fun _ ih h M' => .agg (ih (by simpa [AV.pf] using h) M')) (fun _ hs ih h M' => .arr (ih (by simpa [AV.pf] using h) M') hs) (fun _ hs hn ih h M' => .lst (ih (by simpa [AV.pf] using h) M') hs hn)
  (fun _ _ _ _ _ _ h => by simp [AV.pf] at h) (fun _ _ => .nils) (fun h h1 h2 h3 _ _ => .osl h h1 h2 h3) (fun _ _ _ h => by simp [AV.pf] at h)
  (fun _ _ h => by simp [AV.pf] at h) (fun _ _ h => by simp [AV.pf] at h) (fun _ _ => .nilf) (fun _ _ => .nilm) (fun h _ _ => .mp h) (fun x h _ _ => .opq x h) (fun _ _ => .nil)
  (fun _ _ i1 i2 h M' => by simp only [AV.pf.pfs,Bool.and_eq_true] at h; exact .cons (i1 h.1 M') (i2 h.2 M'))
  (fun hm _ ih h M' => .one hm (ih h M')) (fun hm _ ih h M' => .agg hm (ih h M')) (fun _ ih h M' => .tup (ih (by simpa [AV.pf] using h) M')) (fun x h => by simp [AV.pf] at h) (fun _ _ => .nil)
  (fun _ _ i1 i2 h M' => by simp only [AV.pf.pfs,Bool.and_eq_true] at h; exact .cons (i1 h.1 M') (i2 h.2 M'))
end
end Go.Sy
