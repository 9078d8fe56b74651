/- Texts,joined. -/
import Derived.Test.YtololahjocfbeaaGreatD02
namespace Go.Sy
open Go
set_option linter.unusedSimpArgs false
set_option linter.unusedVariables false
section
variable {E : Env} {N : Nat} {M : Pool} {β β' : Bmap} {T : TT} {O O' : OO} {n : Nat} {a : Act} {w w' : World} {P : Program} {o : Oper} {K : KK}
theorem eq_run {t : TypeId} {ty : Ty} {x y : AV} {κ : Bool → Prop} {xv yv : Value} (hok : ty.ok P t) (hd : ty.dep ≤ 12) (h : eqC ty x y κ) (hx : VR M β x xv) (hy : VR M β y yv) :
    ∃ b,κ b ∧ (Op.equal t xv yv).run P w = .ok b w:=eqC_spec ty t x y κ 10000 xv yv hok (by omega) h hx hy
theorem eqGuard_run {op : BinOp} {t : TypeId} {ty : Ty} (hok : ty.ok P t) (p q : Operand) {xv yv : Value} (h : ¬ (xv = .nilIface ∧ yv = .nilIface)) : (eqGuard op t p q xv yv).run P w = .ok () w:=by
  have hg:=hok.base.guard
  unfold eqGuard
  cases op <;> try rfl
  all_goals
    simp only [Bool.not_true,Bool.false_eq_true,if_false]
    split
    · exact absurd ⟨rfl,rfl⟩ h
    · simp [hg]
    · rfl
theorem eq_bin {t : TypeId} {ty : Ty} {x y : AV} {κ : Bool → Prop} {xv yv : Value} (hok : ty.ok P t) (hd : ty.dep ≤ 12) (h : eqC ty x y κ) (hx : VR M β x xv) (hy : VR M β y yv) :
    ∃ b,κ b ∧ (binOp .eql t xv yv).run P w = .ok (.bool b) w ∧ (binOp .neq t xv yv).run P w = .ok (.bool (!b)) w ∧ xv ≠ .nilIface:=by
  have key:=eq_run (w:=w) hok hd h hx hy
  cases ty
  case arr m e te =>
    cases te <;> cases x <;> cases y <;> first | exact h.elim | skip
    obtain ⟨b,hk,hrun⟩:=key
    obtain ⟨cs,rfl,_⟩:=hx.agg_inv rfl rfl
    obtain ⟨ds,rfl,_⟩:=hy.agg_inv rfl rfl
    exact ⟨b,hk,by simp [binOp,hrun],by simp [binOp,hrun],by intro e; cases e⟩
  case slice e =>
    obtain ⟨b,hk,hrun⟩:=key
    cases x <;> cases y <;> first | exact h.elim | skip
    all_goals obtain rfl:=hy.nils_inv
    · obtain ⟨cc,base,cap,rfl,_⟩:=hx.sl_inv
      exact ⟨b,hk,by simp [binOp,hrun],by simp [binOp,hrun],by intro e; cases e⟩
    · obtain rfl:=hx.nils_inv
      exact ⟨b,hk,by simp [binOp,hrun],by simp [binOp,hrun],by intro e; cases e⟩
    · obtain ⟨_,_,base,cap,_,rfl,_⟩:=hx.osl_inv
      exact ⟨b,hk,by simp [binOp,hrun],by simp [binOp,hrun],by intro e; cases e⟩
  all_goals cases x <;> cases y <;> first | exact h.elim | skip
  · obtain ⟨rfl,h⟩:=h
    refine ⟨_,h,?_,?_,?_⟩
    · rw [hx.int_inv,hy.int_inv]; simp [binOp,Op.intCmp,beq_dec]
    · rw [hx.int_inv,hy.int_inv]; simp [binOp,Op.intCmp,bne,beq_dec]
    · rw [hx.int_inv]; intro e; cases e
  · obtain ⟨b,hk,hrun⟩:=key
    obtain rfl:=hx.bool_inv
    obtain rfl:=hy.bool_inv
    exact ⟨b,hk,by simp [binOp,hrun],by simp [binOp,hrun],by intro e; cases e⟩
  · refine ⟨_,h,?_,?_,?_⟩
    · rw [hx.str_inv,hy.str_inv]; simp only [binOp,Op.stringOp,bytes_toList,beq_dec]; simp
    · rw [hx.str_inv,hy.str_inv]; simp only [binOp,Op.stringOp,bytes_toList,beq_dec]; simp
    · rw [hx.str_inv]; intro e; cases e
  · obtain ⟨b,hk,hrun⟩:=key
    obtain rfl:=hx.nilp_inv
    obtain rfl:=hy.nilp_inv
    exact ⟨b,hk,by simp [binOp,hrun],by simp [binOp,hrun],by intro e; cases e⟩
  · obtain ⟨b,hk,hrun⟩:=key
    obtain ⟨_,_,_,rfl⟩:=hy.ref_inv
    obtain rfl:=hx.nilp_inv
    exact ⟨b,hk,by simp [binOp,hrun],by simp [binOp,hrun],by intro e; cases e⟩
  · obtain ⟨b,hk,hrun⟩:=key
    obtain ⟨_,_,_,rfl,_⟩:=hy.pp_inv
    obtain rfl:=hx.nilp_inv
    exact ⟨b,hk,by simp [binOp,hrun],by simp [binOp,hrun],by intro e; cases e⟩
  · obtain ⟨b,hk,hrun⟩:=key
    obtain ⟨_,_,_,rfl⟩:=hx.ref_inv
    obtain rfl:=hy.nilp_inv
    exact ⟨b,hk,by simp [binOp,hrun],by simp [binOp,hrun],by intro e; cases e⟩
  · obtain ⟨b,hk,hrun⟩:=key
    obtain ⟨_,_,_,rfl,_⟩:=hx.pp_inv
    obtain rfl:=hy.nilp_inv
    exact ⟨b,hk,by simp [binOp,hrun],by simp [binOp,hrun],by intro e; cases e⟩
  · obtain ⟨b,hk,hrun⟩:=key
    obtain ⟨cs,rfl,_⟩:=hx.agg_inv rfl rfl
    obtain ⟨ds,rfl,_⟩:=hy.agg_inv rfl rfl
    exact ⟨b,hk,by simp [binOp,hrun],by simp [binOp,hrun],by intro e; cases e⟩
theorem s_binOp {op : BinOp} {t t' : TypeId} {x y : Operand} (ho : o.op = .binOp op t x y t')
    (h : evC T x fun v => evC T y fun u => binC P op t v u fun r => K r O n) (hr : RelAt E N M β T O n a w) : OpS P o E N T K a w:=by
  obtain ⟨v,h,hv⟩:=evC_spec hr h
  obtain ⟨u,h,hu⟩:=evC_spec hr h
  unfold binC at h
  split at h
  · rename_i k i k' j κ
    obtain ⟨r,x',hk,hrun,hvr⟩:=intB_spec (P:=P) (w:=w) (t:=t) h
    have e1:=hv.int_inv
    have e2:=hu.int_inv
    have hg : (eqGuard op t x y (a.eval x) (a.eval y)).run P w = .ok () w:=by
      rw [e1,e2]; unfold eqGuard; cases op <;> rfl
    rw [← e1,← e2] at hrun
    exact OpS.val (by simp only [execOp,ho,Sem.run_bind,hg,Result.andThen_ok,hrun]; rfl) hr (hvr _ _) hk
  · rename_i s s' κ
    obtain ⟨r,x',hk,hrun,hvr⟩:=strB_spec (P:=P) (w:=w) (t:=t) h
    have e1:=hv.str_inv
    have e2:=hu.str_inv
    have hg : (eqGuard op t x y (a.eval x) (a.eval y)).run P w = .ok () w:=by
      rw [e1,e2]; unfold eqGuard; cases op <;> rfl
    rw [← e1,← e2] at hrun
    exact OpS.val (by simp only [execOp,ho,Sem.run_bind,hg,Result.andThen_ok,hrun]; rfl) hr (hvr _ _) hk
  · split at h
    · obtain ⟨ty,hok,hdep,h⟩:=tyC_spec h
      obtain ⟨b,hk,h1,_,h3⟩:=eq_bin (w:=w) hok hdep h hv hu
      exact OpS.val (by simp only [execOp,ho,Sem.run_bind,eqGuard_run hok x y fun hh => h3 hh.1,Result.andThen_ok,h1]; rfl) hr (.one rfl (.bool _)) hk
    · obtain ⟨ty,hok,hdep,h⟩:=tyC_spec h
      obtain ⟨b,hk,_,h1,h3⟩:=eq_bin (w:=w) hok hdep h hv hu
      exact OpS.val (by simp only [execOp,ho,Sem.run_bind,eqGuard_run hok x y fun hh => h3 hh.1,Result.andThen_ok,h1]; rfl) hr (.one rfl (.bool _)) hk
    · exact h.elim
theorem s_unOp {op : UnOp} {t : TypeId} {x : Operand} (ho : o.op = .unOp op t x)
    (h : evC T x fun v => unC op v fun r => K r O n) (hr : RelAt E N M β T O n a w) : OpS P o E N T K a w:=by
  obtain ⟨v,h,hv⟩:=evC_spec hr h
  unfold unC at h
  split at h
  · exact OpS.val (by simp [execOp,ho,hv.int_inv,Op.unary,Op.intArith]) hr (.one rfl (.int _ _)) h
  · exact OpS.val (by simp [execOp,ho,hv.int_inv,Op.unary,Op.intBits,inot,ixor]) hr (.one rfl (.int _ _)) h
  · exact OpS.val (by simp [execOp,ho,hv.bool_inv,Op.unary]) hr (.one rfl (.bool _)) h
  · exact h.elim
theorem nthC_spec : ∀ {vs : List AV} {xs : List Value} {i : Nat} {κ : AV → Prop},nthC vs i κ → VRs M β vs xs → ∃ v x,κ v ∧ xs[i]? = some x ∧ VR M β v x:=by
  intro vs
  induction vs with
  | nil => intro xs i κ h; exact h.elim
  | cons v vs ih =>
    intro xs i κ h hv
    cases hv with
    | cons h1 h2 =>
      cases i with
      | zero => exact ⟨_,_,h,rfl,h1⟩
      | succ i => obtain ⟨u,x,hk,hx,hu⟩:=ih h h2; exact ⟨u,x,hk,by simpa using hx,hu⟩
theorem s_extract {i : Nat} {x : Operand} (ho : o.op = .extract x i)
    (h : evC T x fun v => (match v with | .tup vs => nthC vs i fun r => K r O n | _ => False)) (hr : RelAt E N M β T O n a w) : OpS P o E N T K a w:=by
  obtain ⟨v,h,hv⟩:=evC_spec hr h
  split at h
  · obtain ⟨xs,e,hvs⟩:=hv.tup_inv
    obtain ⟨u,y,hk,hy,hu⟩:=nthC_spec h hvs
    refine OpS.val (x:=y) ?_ hr hu hk
    have : (Instr.extract (a.eval x) i).run P w = .ok y w:=by
      rw [e]
      simp only [Instr.extract,List.getElem?_toArray,hy]
      rfl
    simp only [execOp,ho,Sem.run_bind,this,Result.andThen_ok]; rfl
  · exact h.elim
theorem s_nilCheck {x : Operand} (ho : o.op = .nilCheck x)
    (h : evC T x fun v => (match v with
      | .ref i p => K (.ref i p) O n
      | .pp c p => K (.pp c p) O n
      | .fn (.func f) ps => K (.fn (.func f) ps) O n
      | _ => False)) (hr : RelAt E N M β T O n a w) : OpS P o E N T K a w:=by
  obtain ⟨v,h,hv⟩:=evC_spec hr h
  split at h
  · obtain ⟨b,κ,_,e⟩:=hv.ref_inv
    exact OpS.val (x:=a.eval x) (by simp [execOp,ho,e]) hr hv h
  · obtain ⟨_,b,κ,e,_⟩:=hv.pp_inv
    exact OpS.val (x:=a.eval x) (by simp [execOp,ho,e]) hr hv h
  · obtain ⟨xs,e,_⟩:=hv.fn_inv
    exact OpS.val (x:=a.eval x) (by simp [execOp,ho,e]) hr hv h
  · exact h.elim
theorem s_makeFunc {f : Fn} {fs cs : Array Operand} (ho : o.op = .makeFunc f fs cs)
    (h : (match fs.toList with | [] => evsC T cs.toList fun vs => K (.fn f vs) O n | _ => cs.toList = [] ∧ evsC T fs.toList fun vs => K (.fb f vs) O n)) (hr : RelAt E N M β T O n a w) : OpS P o E N T K a w:=by
  by_cases h0 : fs.toList = []
  case neg =>
    have h : cs.toList = [] ∧ evsC T fs.toList fun vs => K (.fb f vs) O n:=by
      cases hl : fs.toList with
      | nil => exact absurd hl h0
      | cons x l => rw [hl] at h; exact h
    obtain ⟨h1,h⟩:=h
    obtain ⟨us,hk,hvs⟩:=evsC_spec hr h
    have e : cs = #[]:=by simpa using h1
    refine OpS.val (x:=.func f (fs.toList.map a.eval).toArray #[]) ?_ hr (.one rfl (.fb hvs)) hk
    have : (fs.map a.eval) = (fs.toList.map a.eval).toArray:=by apply Array.ext'; rw [Array.toList_map]
    simp only [execOp,ho,e,Instr.makeFunc,this,Array.map_empty]; rfl
  rw [h0] at h
  obtain ⟨us,hk,hvs⟩:=evsC_spec hr h
  have e : fs = #[]:=by simpa using h0
  refine OpS.val (x:=.func f #[] (cs.toList.map a.eval).toArray) ?_ hr (.one rfl (.fn hvs)) hk
  have : (cs.map a.eval) = (cs.toList.map a.eval).toArray:=by apply Array.ext'; rw [Array.toList_map]
  simp only [execOp,ho,e,Instr.makeFunc,this,Array.map_empty]; rfl
theorem poff_append (p q : List Stp) : poff (p ++ q) = poff p + poff q:=by
  induction p with
  | nil => simp [poff]
  | cons s p ih => cases s <;> simp [poff,ih,Nat.add_assoc]
theorem nthTC_spec : ∀ {ts : List Ty} {fs : List Field} {f off : Nat} {κ : Ty → Nat → Prop},nthTC ts f off κ → Ty.oks P off fs ts → ∃ te fd,κ te fd.offset ∧ fs[f]? = some fd ∧ te.ok P fd.type ∧ 0 < te.size:=by
  intro ts
  induction ts with
  | nil => intro fs f off κ h; exact h.elim
  | cons t ts ih =>
    intro fs f off κ h hok
    cases fs with
    | nil => exact hok.elim
    | cons fd fs =>
      obtain ⟨h1,h2,h3,h4,h5⟩:=hok
      cases f with
      | zero => exact ⟨t,fd,by rw [h1]; exact h,rfl,h4,h3⟩
      | succ f => obtain ⟨te,fd',hk,hf,hr⟩:=ih h h5; exact ⟨te,fd',hk,by simpa using hf,hr⟩
theorem s_fieldAddr {s : TypeId} {f : Nat} {x : Operand} (ho : o.op = .fieldAddr s x f)
    (h : tyC P s fun ty => evC T x fun v => (match ty with | .st ts => fldA f ts v fun r => K r O n | _ => False)) (hr : RelAt E N M β T O n a w) : OpS P o E N T K a w:=by
  obtain ⟨ty,hok,_,h⟩:=tyC_spec h
  obtain ⟨v,h,hv⟩:=evC_spec hr h
  split at h
  · rename_i ts
    obtain ⟨_,fs,hu,_,hoks⟩:=hok
    have run : ∀ (b off : Nat) (fd : Field) (te : Ty),fs[f]? = some fd → te.ok P fd.type → 0 < te.size → a.eval x = .pointer (some ⟨b,off,none⟩) →
        (execOp a.eval o).run P w = .ok (.value (.pointer (some ⟨b,off + fd.offset,none⟩))) w:=fun b off fd te hf hte hpos e => by
      simp only [execOp,ho,Instr.fieldAt,Sem.run_bind,r_under hu,Result.andThen_ok,hf,e,Instr.sureAddr,Sem.run_pure,fieldPlace,r_size hte,Sem.run_ite]
      rw [if_neg (by omega)]
      simp
    cases v <;> first | exact h.elim | skip
    · rename_i i p
      obtain ⟨b,κ,hb,e⟩:=hv.ref_inv
      obtain ⟨te,fd,hk,hf,hte,hpos⟩:=nthTC_spec h hoks
      refine OpS.val (run b _ fd te (by simpa using hf) hte hpos e) hr (.one rfl ?_) hk
      have:=RV.ref (M:=M) (p:=p ++ [.fld f fd.offset]) hb
      simpa [poff_append,poff] using this
    · rename_i c p
      obtain ⟨cc,b,off,e,hc,hm⟩:=hv.pp_inv
      obtain ⟨te,fd,hk,hf,hte,hpos⟩:=nthTC_spec h hoks
      refine OpS.val (run b _ fd te (by simpa using hf) hte hpos e) hr (.one rfl ?_) hk
      have:=RV.pp (β:=β) (p:=p ++ [.fld f fd.offset]) hc hm
      simpa [poff_append,poff,Nat.add_assoc] using this
  · exact h.elim
theorem s_field {s : TypeId} {f : Nat} {x : Operand} (ho : o.op = .field s x f)
    (h : tyC P s fun ty => evC T x fun v => (match ty,v with
      | .st ts,.agg ps => nthTC ts f 0 fun te off => fldC ps f off fun q => fitC te q (K q O n)
      | _,_ => False)) (hr : RelAt E N M β T O n a w) : OpS P o E N T K a w:=by
  obtain ⟨ty,hok,_,h⟩:=tyC_spec h
  obtain ⟨v,h,hv⟩:=evC_spec hr h
  split at h
  · rename_i ts ps
    obtain ⟨_,fs,hu,_,hoks⟩:=hok
    obtain ⟨te,fd,h,hf,hte,hpos⟩:=nthTC_spec h hoks
    obtain ⟨q,⟨h1,h2,hk⟩,hq⟩:=fldC_spec _ _ _ _ h
    obtain ⟨cs,e,hcs⟩:=hv.agg_inv rfl rfl
    cases hcs with
    | agg hcs =>
      obtain ⟨hl,hqr⟩:=hq hcs
      rw [h1] at hqr hl
      obtain ⟨u,hrun,hu2⟩:=run_part (w:=w) hte hpos hqr h1 h2 (multi_mem hqr) hl
      refine OpS.val (x:=u) ?_ hr hu2 hk
      have hf' : fs[f]? = some fd:=by simpa using hf
      simp only [execOp,ho,Instr.field,Sem.run_bind,r_under hu,Result.andThen_ok,hf',e,asAgg,Sem.run_pure,hrun]
  · exact h.elim
theorem s_indexAddr {t : TypeId} {x i : Operand} (ho : o.op = .indexAddr t x i)
    (h : tyC P t fun ty => evC T x fun v => evC T i fun u => intC u fun j => idxA ty (fun e κ => tyC P e fun te => κ te.size) v j fun r => K r O n) (hr : RelAt E N M β T O n a w) : OpS P o E N T K a w:=by
  obtain ⟨ty,hok,_,h⟩:=tyC_spec h
  obtain ⟨v,h,hv⟩:=evC_spec hr h
  obtain ⟨u,h,hu⟩:=evC_spec hr h
  obtain ⟨k,j,rfl,h⟩:=intC_spec h
  have ei:=hu.int_inv
  cases ty with
  | arr m e te =>
   cases v with
   | ref oo p =>
    obtain ⟨h0,h1,hk⟩:=h
    obtain ⟨b,κ,hb,ex⟩:=hv.ref_inv
    refine OpS.val (x:=.pointer (some ⟨b,poff p + j.toNat * te.size,none⟩)) ?_ hr (.one rfl ?_) hk
    · simp only [execOp,ho,Instr.indexAt,ei,asIntOf,Sem.run_bind,Sem.run_pure,Result.andThen_ok,r_under hok.2.1,ex,Instr.sureAddr]
      rw [if_pos ⟨h0,h1⟩]
      simp [r_size hok.2.2.2]
    · have:=RV.ref (M:=M) (p:=p ++ [.at j.toNat te.size]) hb
      simpa [poff_append,poff] using this
   | pp c p =>
    obtain ⟨h0,h1,hk⟩:=h
    obtain ⟨cc,b,off,ex,hc,hm⟩:=hv.pp_inv
    refine OpS.val (x:=.pointer (some ⟨b,off + poff p + j.toNat * te.size,none⟩)) ?_ hr (.one rfl ?_) hk
    · simp only [execOp,ho,Instr.indexAt,ei,asIntOf,Sem.run_bind,Sem.run_pure,Result.andThen_ok,r_under hok.2.1,ex,Instr.sureAddr]
      rw [if_pos ⟨h0,h1⟩]
      simp [r_size hok.2.2.2]
    · have:=RV.pp (β:=β) (p:=p ++ [.at j.toNat te.size]) hc hm
      simpa [poff_append,poff,Nat.add_assoc] using this
   | _ => exact h.elim
  | slice e =>
   cases v with
   | osl oo p s lo len =>
    obtain ⟨h0,h1,h⟩:=h
    obtain ⟨te,hte,_,rfl,hk⟩:=tyC_spec h
    obtain ⟨b,κ,base,cap,hb,ex,hc,_,ha⟩:=hv.osl_inv
    have hcap : cap ≠ 0:=by omega
    obtain rfl:=ha.resolve_left hcap
    refine OpS.val (x:=.pointer (some ⟨b,poff p + lo * te.size + j.toNat * te.size,none⟩)) ?_ hr (.one rfl ?_) hk
    · simp only [execOp,ho,Instr.indexAt,ei,asIntOf,Sem.run_bind,Sem.run_pure,Result.andThen_ok,r_under hok.2,ex]
      rw [if_pos ⟨h0,h1⟩]
      simp [r_size hte]
    · have:=RV.ref (M:=M) (p:=p ++ [.at (lo + j.toNat) te.size]) hb
      simpa [poff_append,poff,Nat.add_mul,Nat.add_assoc] using this
   | sl c =>
    obtain ⟨h0,h1,h⟩:=h
    obtain ⟨te,hte,_,hez,hk⟩:=tyC_spec h
    obtain ⟨cc,base,cap,ex,hc,hrow,hcap,hm⟩:=hv.sl_inv
    obtain ⟨b,off,rfl,hm2⟩:=hm.resolve_left (by omega)
    refine OpS.val (x:=.pointer (some ⟨b,off + j.toNat * te.size,none⟩)) ?_ hr (.one rfl ?_) hk
    · simp only [execOp,ho,Instr.indexAt,ei,asIntOf,Sem.run_bind,Sem.run_pure,Result.andThen_ok,r_under hok.2,ex]
      rw [if_pos ⟨h0,h1⟩]
      simp [r_size hte]
    · have:=RV.pp (β:=β) (p:=[.at j.toNat c.esz]) hc hm2
      simpa [poff,hez] using this
   | _ => exact h.elim
  | _ => exact h.elim
end
end Go.Sy
namespace Go.Sy
open Go
set_option linter.unusedSimpArgs false
set_option linter.unusedVariables false
section
variable {E : Env} {N : Nat} {M : Pool} {β β' : Bmap} {T : TT} {O O' : OO} {n : Nat} {a : Act} {w w' : World} {P : Program} {o : Oper} {K : KK}
theorem RVs.take {sz : Nat} : ∀ {es : List AV} {cs : List Value},RVs M β es cs → (∀ p ∈ es,p.csz = sz) → ∀ m,RVs M β (es.take m) (cs.take (m * sz)):=by
  intro es
  induction es with
  | nil => intro cs h hz m; cases h; simp; exact .nil
  | cons e es ih =>
    intro cs h hz m
    cases h with
    | cons h1 h2 =>
      rename_i c cs
      have hl:=h1.length
      rw [hz e (by simp)] at hl
      cases m with
      | zero => simp; exact .nil
      | succ m =>
        simp only [List.take_succ_cons]
        rw [List.take_append,List.take_of_length_le (l:=c) (by rw [hl,Nat.add_mul]; omega),show (m + 1) * sz - c.length = m * sz by rw [hl,Nat.add_mul]; omega]
        exact .cons h1 (ih h2 (fun p hp => hz p (by simp [hp])) m)
theorem RVs.drop {sz : Nat} : ∀ {es : List AV} {cs : List Value},RVs M β es cs → (∀ p ∈ es,p.csz = sz) → ∀ m,RVs M β (es.drop m) (cs.drop (m * sz)):=by
  intro es
  induction es with
  | nil => intro cs h hz m; cases h; simp; exact .nil
  | cons e es ih =>
    intro cs h hz m
    cases h with
    | cons h1 h2 =>
      rename_i c cs
      have hl:=h1.length
      rw [hz e (by simp)] at hl
      cases m with
      | zero => simp; exact .cons h1 h2
      | succ m =>
        simp only [List.drop_succ_cons]
        rw [List.drop_append,List.drop_of_length_le (l:=c) (by rw [hl,Nat.add_mul]; omega),show (m + 1) * sz - c.length = m * sz by rw [hl,Nat.add_mul]; omega,List.nil_append]
        exact ih h2 (fun p hp => hz p (by simp [hp])) m
theorem RVs.part {sz : Nat} {es : List AV} {cs : List Value} (h : RVs M β es cs) (hz : ∀ p ∈ es,p.csz = sz) (lo len : Nat) (hl : lo + len ≤ es.length) : RVs M β ((es.drop lo).take len) (piece cs (lo * sz) (len * sz)) :=
  (h.drop hz lo).take (fun p hp => hz p (List.mem_of_mem_drop hp)) len
theorem s_index {t : TypeId} {x i : Operand} (ho : o.op = .index t x i)
    (h : tyC P t fun ty => evC T x fun v => evC T i fun u => intC u fun j =>
      (match ty with
      | .arr m _ te => idxV te m v j fun r => K r O n
      | .str => (match v with | .str s => 0 ≤ j ∧ j < s.length ∧ K (.int .u8 ((s.getD j.toNat 0).toNat : Int)) O n | _ => False)
      | _ => False)) (hr : RelAt E N M β T O n a w) : OpS P o E N T K a w:=by
  obtain ⟨ty,hok,_,h1⟩:=tyC_spec h
  obtain ⟨v,h2,hv⟩:=evC_spec hr h1
  obtain ⟨u,h3,hu⟩:=evC_spec hr h2
  obtain ⟨k,j,rfl,h4⟩:=intC_spec h3
  have ei:=hu.int_inv
  cases ty with
  | arr m e te =>
    have hok2:=hok
    obtain ⟨_,hu2,hpos,hte⟩:=hok
    have run : ∀ (cs : List Value) (y : Value),a.eval x = .agg cs.toArray → 0 ≤ j → j < m → (part e cs.toArray (j.toNat * te.size)).run P w = .ok y w → (execOp a.eval o).run P w = .ok (.value y) w:=fun cs y ex h0 hm hp => by
      simp only [execOp,ho,Instr.index,ei,asIntOf,Sem.run_bind,Sem.run_pure,Result.andThen_ok,r_under hu2,ex]
      rw [if_pos ⟨h0,hm⟩]
      simp only [Sem.run_bind,r_size hte,Result.andThen_ok,hp]
    cases v with
    | ints k1 m1 xs =>
      obtain ⟨rfl,h0,hm,hs,hmm,hk⟩:=h4
      obtain ⟨cs,ex,hcs⟩:=hv.agg_inv rfl rfl
      cases hcs with
      | ints _ hl =>
        have hlt : j.toNat < xs.length:=by omega
        have e1 : piece (xs.map (Value.int k1)) (j.toNat * te.size) te.size = [Value.int k1 (xs.getD j.toNat 0)]:=by
          rw [hs]; simp only [piece,Nat.mul_one]
          rw [List.drop_eq_getElem_cons (by simpa using hlt)]
          simp [List.getD,hlt]
        obtain ⟨y,hrun,hy⟩:=run_part (M:=M) (β:=β) (w:=w) (q:=.int k1 (xs.getD j.toNat 0)) hte hpos (by rw [e1]; exact .int _ _) (by rw [hs]; rfl) (by rw [hmm]; rfl) rfl (by rw [hs]; simp; omega)
        exact OpS.val (run _ _ ex h0 hm hrun) hr hy hk
    | lst sz m1 es =>
      obtain ⟨rfl,h0,hm,hs,hlt,hk⟩:=h4
      obtain ⟨cs,ex,hcs⟩:=hv.agg_inv rfl rfl
      cases hcs with
      | lst hes hsz hl =>
        obtain ⟨hq1,hq2,hk⟩:=hk _ (List.getElem?_eq_getElem hlt)
        obtain ⟨g1,g2⟩:=hes.nth hsz (List.getElem?_eq_getElem hlt)
        have g3:=g2.mono (PLe.refl M) (BLe.nob β)
        rw [hs] at g1 g3
        obtain ⟨y,hrun,hy⟩:=run_part (w:=w) hte hpos g3 hq1 hq2 (multi_mem g3) g1
        exact OpS.val (run _ _ ex h0 hm hrun) hr hy hk
    | arr sz ps =>
      obtain ⟨rfl,h0,hm,hs,hk⟩:=h4
      obtain ⟨cs,ex,hcs⟩:=hv.agg_inv rfl rfl
      have hlt : j.toNat < ps.length:=by omega
      cases hcs with
      | arr hes hsz =>
        obtain ⟨hq1,hq2,hk⟩:=hk _ (List.getElem?_eq_getElem hlt)
        obtain ⟨g1,g2⟩:=hes.nth hsz (List.getElem?_eq_getElem hlt)
        rw [hs] at g1 g2
        obtain ⟨y,hrun,hy⟩:=run_part (w:=w) hte hpos g2 hq1 hq2 (multi_mem g2) g1
        exact OpS.val (run _ _ ex h0 hm hrun) hr hy hk
    | _ => exact h4.elim
  | str =>
    cases v with
    | str s =>
      obtain ⟨h0,hlt,hk⟩:=h4
      have hlt2 : j.toNat < s.length:=by omega
      refine OpS.val (x:=.int .u8 ((s.getD j.toNat 0).toNat : Int)) ?_ hr (.one rfl (.int _ _)) hk
      simp only [execOp,ho,Instr.index,ei,asIntOf,Sem.run_bind,Sem.run_pure,Result.andThen_ok,r_under hok.2,hv.str_inv]
      have e2 : (⟨s.toArray⟩ : ByteArray)[j.toNat]? = some (s.getD j.toNat 0):=by
        rw [getElem?_pos _ _ (by simpa [ByteArray.size] using hlt2)]
        simp [List.getD,hlt2]
        rfl
      simp only [h0,if_true,e2]
      rfl
    | _ => exact h4.elim
  | _ => exact h4.elim
theorem lenC_spec {v : AV} {x : Value} {κ : Nat → Prop} (h : lenC v κ) (hv : VR M β v x) : ∃ m,κ m ∧ ∃ b c,x = .slice b m c:=by
  cases v with
  | sl c => obtain ⟨cc,base,cap,e,_⟩:=hv.sl_inv; exact ⟨_,h,_,_,e⟩
  | nils => exact ⟨_,h,_,_,hv.nils_inv⟩
  | osl i p sz lo len => obtain ⟨_,_,base,cap,_,e,_⟩:=hv.osl_inv; exact ⟨_,h,_,_,e⟩
  | _ => exact h.elim
theorem lenK_spec {t tt : TypeId} {v : AV} {x : Value} {κ : AV → Prop} (h : lenK P t v κ) (hv : VR M β v x) : ∃ m : Nat,κ (.int .i64 m) ∧ (Builtin.len_ #[t] tt #[x]).run P w = .ok (.int .i64 m) w:=by
  obtain ⟨ty,hok,_,h⟩:=tyC_spec h
  cases ty with
  | slice e =>
    obtain ⟨m,hk,b,c,rfl⟩:=lenC_spec h hv
    exact ⟨m,hk,by simp [Builtin.len_,r_under hok.2,goInt]⟩
  | str =>
    cases v with
    | str s =>
      have e:=hv.str_inv
      subst e
      have hs : (⟨s.toArray⟩ : ByteArray).size = s.length:=by simp [ByteArray.size]
      exact ⟨s.length,h,by simp only [Builtin.len_,r_under hok.2,goInt,Sem.run_bind,Result.andThen_ok,List.getElem?_toArray,List.getElem?_cons_zero,Option.some.injEq,hs]; rfl⟩
    | _ => exact h.elim
  | arr m e te => exact ⟨m,h,by simp [Builtin.len_,r_under hok.2.1,goInt]⟩
  | _ => exact h.elim
theorem optC_spec (hr : RelAt E N M β T O n a w) {x : Option Operand} {κ : Option Int → Prop} (h : optC T x κ) : ∃ i : Option Int,κ i ∧ (∀ j,i = some j → 0 ≤ j) ∧ (i = none → x = none) ∧ (∀ j,i = some j → ∃ k,x.map a.eval = some (.int k j)):=by
  cases x with
  | none => exact ⟨none,h,by simp,by simp,by simp⟩
  | some x =>
    obtain ⟨v,h,hv⟩:=evC_spec hr h
    obtain ⟨k,j,rfl,h0,h⟩:=intC_spec h
    exact ⟨some j,h,by simp; exact h0,by simp,fun j' e => by cases e; exact ⟨k,by simp [hv.int_inv]⟩⟩
theorem bounds_run (s : Bool) (len cap l h : Nat) (lo hi : Option Value) (hlo : (lo = none ∧ l = 0) ∨ ∃ k,lo = some (.int k l)) (hhi : (hi = none ∧ h = len) ∨ ∃ k,hi = some (.int k h)) (h1 : l ≤ h) (h2 : h ≤ cap) :
    (Instr.sliceBounds s len cap lo hi none).run P w = .ok (l,h,cap) w:=by
  unfold Instr.sliceBounds
  rcases hhi with ⟨rfl,rfl⟩ | ⟨k,rfl⟩ <;> rcases hlo with ⟨rfl,rfl⟩ | ⟨k',rfl⟩
  all_goals simp [Instr.sliceBound,asIntOf,h1,h2]
theorem subC_spec {c : AV} {lo len : Nat} {κ : AV → Prop} (h : subC c lo len κ) : ∃ q,κ q ∧ q.isRow = true ∧ q.cnt = len ∧ q.esz = c.esz ∧ lo + len ≤ c.cnt ∧ c.isRow = true ∧
    ∀ {M : Pool} {β : Bmap} {cs : List Value},RV M β c cs → (lo + len) * c.esz ≤ cs.length ∧ RV M β q (piece cs (lo * c.esz) (len * c.esz)):=by
  cases c with
  | ints k m xs =>
    obtain ⟨h0,h1,h2⟩:=h
    by_cases e : lo = 0 ∧ len = m
    · refine ⟨_,h1 e,rfl,e.2.symm,rfl,h0,rfl,fun {M β cs} hr => ?_⟩
      have:=hr.length
      simp only [AV.csz] at this
      obtain ⟨rfl,rfl⟩:=e
      simp only [AV.esz,Nat.mul_one]
      exact ⟨by omega,by rw [← this,piece_all]; rw [this]; exact hr⟩
    · refine ⟨_,h2 e,rfl,rfl,rfl,h0,rfl,fun {M β cs} hr => ?_⟩
      cases hr with
      | ints _ hl =>
        simp only [AV.esz,Nat.mul_one,List.length_map]
        refine ⟨by omega,?_⟩
        have : piece (xs.map (Value.int k)) lo len = ((xs.drop lo).take len).map (Value.int k):=by simp [piece,List.map_take,List.map_drop]
        rw [this]
        exact .ints k (by simp; omega)
  | lst sz m es =>
    obtain ⟨h0,h1,h2⟩:=h
    by_cases e : lo = 0 ∧ len = m
    · refine ⟨_,h1 e,rfl,e.2.symm,rfl,h0,rfl,fun {M β cs} hr => ?_⟩
      have:=hr.length
      simp only [AV.csz] at this
      obtain ⟨rfl,rfl⟩:=e
      simp only [AV.esz,Nat.zero_mul,Nat.zero_add]
      exact ⟨by omega,by rw [← this,piece_all]; exact hr⟩
    · refine ⟨_,h2 e,rfl,rfl,rfl,h0,rfl,fun {M β cs} hr => ?_⟩
      cases hr with
      | lst hs hz hl =>
        simp only [AV.esz]
        have hcl:=hs.length
        rw [cszs_const hz,hl] at hcl
        refine ⟨by rw [hcl]; exact Nat.mul_le_mul_right _ h0,?_⟩
        have key:=RVs.part hs hz lo len (by omega)
        exact .lst key (fun p hp => hz p (List.mem_of_mem_drop (List.mem_of_mem_take hp))) (by simp; omega)
  | arr sz ps =>
    obtain ⟨h0,h⟩:=h
    refine ⟨_,h,rfl,by simp [AV.cnt]; omega,rfl,h0,rfl,fun {M β cs} hr => ?_⟩
    cases hr with
    | arr hs hz =>
      simp only [AV.esz]
      have hcl:=hs.length
      rw [cszs_const hz] at hcl
      refine ⟨by rw [hcl]; exact Nat.mul_le_mul_right _ h0,?_⟩
      have key:=RVs.part hs hz lo len (by omega)
      exact .arr key (fun p hp => hz p (List.mem_of_mem_drop (List.mem_of_mem_take hp)))
  | _ => exact h.elim
theorem run_slice {t e : TypeId} {te : Ty} (hu : P.underlying t = some (.slice e)) (hte : te.ok P e) {base : Option Addr} {len cap l h : Nat} {lo hi : Option Value}
    (hlo : (lo = none ∧ l = 0) ∨ ∃ k,lo = some (.int k l)) (hhi : (hi = none ∧ h = len) ∨ ∃ k,hi = some (.int k h)) (h1 : l ≤ h) (h2 : h ≤ cap) :
    (Instr.sliceAt t (.slice base len cap) lo hi none).run P w = .ok (.slice (if cap = l then base else base.map (·.add (l * te.size))) (h - l) (cap - l)) w:=by
  unfold Instr.sliceAt
  simp only [Sem.run_bind,r_under hu,Result.andThen_ok,Instr.slice,bounds_run true len cap l h lo hi hlo hhi h1 h2,r_size hte]
  rfl
theorem run_sliceA {t e : TypeId} {te : Ty} {m : Nat} (hu : P.underlying t = some (.array m e)) (hte : te.ok P e) {b off l h : Nat} {lo hi : Option Value}
    (hlo : (lo = none ∧ l = 0) ∨ ∃ k,lo = some (.int k l)) (hhi : (hi = none ∧ h = m) ∨ ∃ k,hi = some (.int k h)) (h1 : l ≤ h) (h2 : h ≤ m) :
    (Instr.sliceAt t (.pointer (some ⟨b,off,none⟩)) lo hi none).run P w = .ok (.slice (some (if m = l then ⟨b,off,none⟩ else ⟨b,off + l * te.size,none⟩)) (h - l) (m - l)) w:=by
  unfold Instr.sliceAt
  simp only [Sem.run_bind,r_under hu,Result.andThen_ok,Instr.sureAddr,Sem.run_pure,bounds_run false m m l h lo hi hlo hhi h1 h2,r_size hte,add_none]
theorem run_sliceP {t e q : TypeId} {te : Ty} {m : Nat} (hp : P.underlying t = some (.pointer q)) (hu : P.underlying q = some (.array m e)) (hte : te.ok P e) {b off l h : Nat} {lo hi : Option Value}
    (hlo : (lo = none ∧ l = 0) ∨ ∃ k,lo = some (.int k l)) (hhi : (hi = none ∧ h = m) ∨ ∃ k,hi = some (.int k h)) (h1 : l ≤ h) (h2 : h ≤ m) :
    (Instr.sliceAt t (.pointer (some ⟨b,off,none⟩)) lo hi none).run P w = .ok (.slice (some (if m = l then ⟨b,off,none⟩ else ⟨b,off + l * te.size,none⟩)) (h - l) (m - l)) w:=by
  unfold Instr.sliceAt
  simp only [Sem.run_bind,r_under hp,Result.andThen_ok,Instr.slice,asAddr,Sem.run_pure,r_under hu,bounds_run false m m l h lo hi hlo hhi h1 h2,r_size hte,add_none]
theorem run_sliceS {t : TypeId} (hu : P.underlying t = some .string) {s : List UInt8} {l h : Nat} {lo hi : Option Value}
    (hlo : (lo = none ∧ l = 0) ∨ ∃ k,lo = some (.int k l)) (hhi : (hi = none ∧ h = s.length) ∨ ∃ k,hi = some (.int k h)) (h1 : l ≤ h) (h2 : h ≤ s.length) :
    (Instr.sliceAt t (.string ⟨s.toArray⟩) lo hi none).run P w = .ok (.string ⟨((s.take h).drop l).toArray⟩) w:=by
  have hs : (⟨s.toArray⟩ : ByteArray).size = s.length:=by simp [ByteArray.size]
  have he : (⟨s.toArray⟩ : ByteArray).extract l h = ⟨((s.take h).drop l).toArray⟩:=by
    apply ByteArray.ext
    rw [ByteArray.data_extract]
    apply Array.ext'
    simp [List.extract,List.drop_take]
  unfold Instr.sliceAt
  simp only [Sem.run_bind,r_under hu,Result.andThen_ok,Instr.slice,hs,Option.isSome_none,Bool.false_eq_true,if_false,bounds_run false s.length s.length l h lo hi hlo hhi h1 h2,he]
  rfl
theorem lo_of {lo : Option Operand} {i : Option Int} (h1 : ∀ j,i = some j → 0 ≤ j) (h2 : i = none → lo = none) (h3 : ∀ j,i = some j → ∃ k,lo.map a.eval = some (.int k j)) :
    (lo.map a.eval = none ∧ (i.getD 0).toNat = 0) ∨ ∃ k,lo.map a.eval = some (.int k ((i.getD 0).toNat : Nat)):=by
  cases i with
  | none => rw [h2 rfl]; exact .inl ⟨rfl,rfl⟩
  | some j => obtain ⟨k,e⟩:=h3 j rfl; refine .inr ⟨k,?_⟩; rw [e]; simp [Int.toNat_of_nonneg (h1 j rfl)]
theorem hi_of {lo : Option Operand} {i : Option Int} (m : Nat) (h1 : ∀ j,i = some j → 0 ≤ j) (h2 : i = none → lo = none) (h3 : ∀ j,i = some j → ∃ k,lo.map a.eval = some (.int k j)) :
    (lo.map a.eval = none ∧ (i.map Int.toNat).getD m = m) ∨ ∃ k,lo.map a.eval = some (.int k ((i.map Int.toNat).getD m : Nat)):=by
  cases i with
  | none => rw [h2 rfl]; exact .inl ⟨rfl,rfl⟩
  | some j => obtain ⟨k,e⟩:=h3 j rfl; refine .inr ⟨k,?_⟩; rw [e]; simp [Int.toNat_of_nonneg (h1 j rfl)]
theorem cutC_split {v : AV} {l : Nat} {h : Option Nat} {κ : AV → Prop} (hc : cutC v l h κ) :
    (∃ i p sz lo len,v = .osl i p sz lo len ∧ l ≤ h.getD len ∧ h.getD len ≤ len ∧ κ (.osl i p sz (lo + l) (h.getD len - l))) ∨
    (∃ c,v = .sl c ∧ l ≤ h.getD c.cnt ∧ h.getD c.cnt ≤ c.cnt ∧ subC c l (h.getD c.cnt - l) fun q => κ (.sl q)) ∨
    (v = .nils ∧ l = 0 ∧ h.getD 0 = 0 ∧ κ .nils):=by
  cases v <;> cases h <;> first | exact hc.elim | skip
  · obtain ⟨h1,h2⟩:=hc; exact .inr (.inl ⟨_,rfl,h1,Nat.le_refl _,h2⟩)
  · obtain ⟨h1,h2,h3⟩:=hc; exact .inr (.inl ⟨_,rfl,h1,h2,h3⟩)
  · obtain ⟨h1,h2⟩:=hc; exact .inr (.inr ⟨rfl,h1,rfl,h2⟩)
  · obtain ⟨h1,h2,h3⟩:=hc; exact .inr (.inr ⟨rfl,h1,h2,h3⟩)
  · obtain ⟨h1,h2⟩:=hc; exact .inl ⟨_,_,_,_,_,rfl,h1,Nat.le_refl _,h2⟩
  · obtain ⟨h1,h2,h3⟩:=hc; exact .inl ⟨_,_,_,_,_,rfl,h1,h2,h3⟩
theorem cutA_split {O : OO} {sz m : Nat} {v : AV} {l : Nat} {h : Option Nat} {κ : AV → Prop} (hc : cutA O sz m v l h κ) :
    (∃ i p,v = .ref i p ∧ l ≤ h.getD m ∧ h.getD m ≤ m ∧ (p = [] → objC O i fun ob => varC ob fun c => m ≤ c.csz) ∧ κ (.osl i p sz l (h.getD m - l))) ∨
    (∃ c p,v = .pp c p ∧ navC p c fun q => q.cnt = m ∧ q.esz = sz ∧ l ≤ h.getD m ∧ h.getD m ≤ m ∧ subC q l (h.getD m - l) fun r => κ (.sl r)):=by
  cases v <;> cases h <;> first | exact hc.elim | skip
  · obtain ⟨h1,h2,h3⟩:=hc; exact .inl ⟨_,_,rfl,h1,Nat.le_refl _,h2,h3⟩
  · obtain ⟨h1,h2,h3,h4⟩:=hc; exact .inl ⟨_,_,rfl,h1,h2,h3,h4⟩
  · exact .inr ⟨_,_,rfl,hc⟩
  · exact .inr ⟨_,_,rfl,hc⟩
theorem s_slice {t : TypeId} {x : Operand} {lo hi : Option Operand} (ho : o.op = .slice t x lo hi none)
    (h : tyC P t fun ty => evC T x fun v => optC T lo fun l => optC T hi fun h =>
      (match ty with
      | .arr m _ te => cutA O te.size m v (l.getD 0).toNat (h.map Int.toNat) fun r => K r O n
      | .slice e => tyC P e fun te => (∀ o p sz lo len,v = .osl o p sz lo len → sz = te.size) ∧ (∀ c,v = .sl c → c.esz = te.size) ∧ cutC v (l.getD 0).toNat (h.map Int.toNat) fun r => K r O n
      | .str => cutS v (l.getD 0).toNat (h.map Int.toNat) fun r => K r O n
      | .ptr a => tyC P a fun at' => (match at' with | .arr m _ te => cutA O te.size m v (l.getD 0).toNat (h.map Int.toNat) fun r => K r O n | _ => False)
      | _ => False)) (hr : RelAt E N M β T O n a w) : OpS P o E N T K a w:=by
  obtain ⟨ty,hok,_,h1⟩:=tyC_spec h
  obtain ⟨v,h2,hv⟩:=evC_spec hr h1
  obtain ⟨i,h3,l1,l2,l3⟩:=optC_spec hr h2
  obtain ⟨j,h4,k1,k2,k3⟩:=optC_spec hr h3
  have L:=lo_of (a:=a) l1 l2 l3
  have arrc : ∀ {m : Nat} {te : Ty} {e : TypeId} (hte : te.ok P e) (hcut : cutA O te.size m v (i.getD 0).toNat (j.map Int.toNat) fun r => K r O n)
      (run : ∀ (b off l h : Nat) (lo hi : Option Value) (hlo : (lo = none ∧ l = 0) ∨ ∃ k,lo = some (.int k l)) (hhi : (hi = none ∧ h = m) ∨ ∃ k,hi = some (.int k h)) (h1 : l ≤ h) (h2 : h ≤ m),
        (Instr.sliceAt t (.pointer (some ⟨b,off,none⟩)) lo hi none).run P w = .ok (.slice (some (if m = l then ⟨b,off,none⟩ else ⟨b,off + l * te.size,none⟩)) (h - l) (m - l)) w),OpS P o E N T K a w:=by
    intro m te e hte hcut run
    rcases cutA_split hcut with ⟨io,p,rfl,c1,c2,c3,hk⟩ | ⟨c,p,rfl,hk⟩
    · obtain ⟨b,κ,hb,ex⟩:=hv.ref_inv
      refine OpS.val (by simp only [execOp,ho,Sem.run_bind,ex,run b (poff p) _ _ _ _ L (hi_of m k1 k2 k3) c1 c2,Option.map_none,Result.andThen_ok]; rfl) hr (.one rfl (.osl hb (by omega) (fun hp => ?_) ?_)) hk
      · subst hp
        obtain ⟨ob,hl,hob⟩:=objC_spec (c3 rfl)
        obtain ⟨b',κ',hb',hor⟩:=hr.st.objs _ _ hl
        rw [hb] at hb'; cases hb'
        cases ob with
        | var c => obtain ⟨_,hz,_⟩:=hor; have : m ≤ c.csz:=hob; omega
        | _ => exact hob.elim
      · by_cases e : m = (i.getD 0).toNat
        · exact .inl (by omega)
        · right; simp [e]
    · obtain ⟨cc,b,off,ex,hcc,hm⟩:=hv.pp_inv
      obtain ⟨q,⟨c0,cz,c1,c2,hk⟩,hq⟩:=nav_spec _ _ _ hk
      obtain ⟨q1,q2⟩:=hq hcc
      obtain ⟨r,hk,hr1,hr2,_,hr3,_,hr4⟩:=subC_spec hk
      obtain ⟨g1,g2⟩:=hr4 q2
      refine OpS.val (by simp only [execOp,ho,Sem.run_bind,ex,run b (off + poff p) _ _ _ _ L (hi_of m k1 k2 k3) c1 c2,Option.map_none,Result.andThen_ok]; rfl) hr (.one rfl (.sl g2 hr1 hr2 (by omega) ?_)) hk
      by_cases e0 : (j.map Int.toNat).getD m - (i.getD 0).toNat = 0
      · exact .inl e0
      · right
        have e : ¬ m = (i.getD 0).toNat:=by omega
        refine ⟨b,off + poff p + (i.getD 0).toNat * te.size,by simp [e],fun ii vv hvv => ?_⟩
        simp only [piece,List.getElem?_take,List.getElem?_drop] at hvv
        split at hvv
        · split at hvv
          · have:=hm _ _ hvv
            rw [← cz]
            rw [show off + poff p + (i.getD 0).toNat * q.esz + ii = off + (poff p + ((i.getD 0).toNat * q.esz + ii)) by omega]
            exact this
          · cases hvv
        · cases hvv
  cases ty with
  | arr m e te => exact arrc hok.2.2.2 h4 fun b off l h lo hi hlo hhi h1 h2 => run_sliceA hok.2.1 hok.2.2.2 hlo hhi h1 h2
  | ptr q =>
    obtain ⟨at',hat,_,h5⟩:=tyC_spec h4
    cases at' with
    | arr m e te => exact arrc hat.2.2.2 h5 fun b off l h lo hi hlo hhi h1 h2 => run_sliceP hok.2 hat.2.1 hat.2.2.2 hlo hhi h1 h2
    | _ => exact h5.elim
  | str =>
    have key : ∃ s,v = .str s ∧ (i.getD 0).toNat ≤ (j.map Int.toNat).getD s.length ∧ (j.map Int.toNat).getD s.length ≤ s.length ∧ K (.str ((s.take ((j.map Int.toNat).getD s.length)).drop (i.getD 0).toNat)) O n:=by
      cases v <;> cases j <;> first | exact h4.elim | skip
      · obtain ⟨h1,h2⟩:=h4; exact ⟨_,rfl,h1,Nat.le_refl _,by simpa using h2⟩
      · obtain ⟨h1,h2,h3⟩:=h4; exact ⟨_,rfl,h1,h2,h3⟩
    obtain ⟨s,rfl,c1,c2,hk⟩:=key
    exact OpS.val (by simp only [execOp,ho,Sem.run_bind,hv.str_inv,run_sliceS hok.2 L (hi_of s.length k1 k2 k3) c1 c2,Option.map_none,Result.andThen_ok]; rfl) hr (.one rfl (.str _)) hk
  | slice e =>
    obtain ⟨te,hte,_,z1,z2,h5⟩:=tyC_spec h4
    rcases cutC_split h5 with ⟨io,p,sz,lo',len,rfl,c1,c2,hk⟩ | ⟨c,rfl,c1,c2,hk⟩ | ⟨rfl,c1,c2,hk⟩
    · obtain rfl:=z1 _ _ _ _ _ rfl
      obtain ⟨b,κ,base,cap,hb,ex,hc,hkk,ha⟩:=hv.osl_inv
      refine OpS.val (by simp only [execOp,ho,Sem.run_bind,ex,run_slice hok.2 hte L (hi_of len k1 k2 k3) c1 (Nat.le_trans c2 hc),Option.map_none,Result.andThen_ok]; rfl) hr
        (.one rfl (.osl hb (by omega) (fun hp => by have:=hkk hp; omega) ?_)) hk
      by_cases e : cap = (i.getD 0).toNat
      · exact .inl (by omega)
      · right
        obtain rfl:=ha.resolve_left (by omega)
        simp [e,Nat.add_mul,Nat.add_assoc]
    · obtain ⟨cc,base,cap,ex,hc,hrow,hcap,hm⟩:=hv.sl_inv
      have hez:=z2 c rfl
      obtain ⟨q,hk,hq1,hq2,_,hq3,_,hq4⟩:=subC_spec hk
      obtain ⟨g1,g2⟩:=hq4 hc
      refine OpS.val (by simp only [execOp,ho,Sem.run_bind,ex,run_slice hok.2 hte L (hi_of c.cnt k1 k2 k3) c1 (Nat.le_trans c2 hcap),Option.map_none,Result.andThen_ok]; rfl) hr
        (.one rfl (.sl g2 hq1 hq2 (by omega) ?_)) hk
      by_cases e0 : (j.map Int.toNat).getD c.cnt - (i.getD 0).toNat = 0
      · exact .inl e0
      · right
        obtain ⟨b,off,rfl,hm2⟩:=hm.resolve_left (by omega)
        have e : ¬ cap = (i.getD 0).toNat:=by omega
        refine ⟨b,off + (i.getD 0).toNat * te.size,by simp [e],fun ii vv hvv => ?_⟩
        simp only [piece,List.getElem?_take,List.getElem?_drop] at hvv
        split at hvv
        · have:=hm2 _ _ hvv
          rw [← hez,Nat.add_assoc]
          exact this
        · cases hvv
    · have ex:=hv.nils_inv
      refine OpS.val (by simp only [execOp,ho,Sem.run_bind,ex,run_slice hok.2 hte L (hi_of 0 k1 k2 k3) (by omega) (Nat.le_of_eq c2),Option.map_none,Result.andThen_ok]; rfl) hr (.one rfl ?_) hk
      rw [c1,c2]
      exact .nils
  | _ => exact h4.elim
end
end Go.Sy
namespace Go.Sy
open Go
set_option linter.unusedSimpArgs false
set_option linter.unusedVariables false
section
variable {E : Env} {N : Nat} {M : Pool} {β β' : Bmap} {T : TT} {O O' : OO} {n : Nat} {a : Act} {w w' : World} {P : Program} {o : Oper} {K : KK}
theorem alloc_new (w : World) (x : Obj) : (w.alloc x).heap[w.heap.size]? = some x:=by
  show (w.heap.push x)[w.heap.size]? = _
  simp
theorem free0 (m : Nat) : freeCells (0,0) m:=.inl rfl
theorem RelAt.newVar (h : RelAt E N M β T O n a w) (hok : E.ok n) {v : AV} {cs : Array Value} {e : TypeId} (hv : RV M β v cs.toList) :
    RelAt E N M (updB β n (w.heap.size,v.csz + 1)) T ((n,.var v) :: O) (n + 1) a (w.alloc (.cells cs e)):=by
  have hn : β n = none:=h.ids n (Nat.le_refl _) hok
  refine h.next (h.st.alloc hn _ _ _ _ (fun _ => rfl) ?_) (updB_le hn _) (h.fresh _) (updB_low hok _ _) (Nat.le_succ _)
  exact ⟨by omega,by omega,cs,e,(0,0),alloc_new _ _,free0 _,hv.mono (PLe.refl _) (updB_le hn _)⟩
theorem s_alloc (hK : ∀ v O' n',K v O' n' → ∀ o,n ≤ o → o < n' → E.ok o) {t : TypeId} (ho : o.op = .alloc t)
    (h : tyC P t fun ty => K (.ref n []) ((n,.var ty.zero) :: O) (n + 1)) (hr : RelAt E N M β T O n a w) : OpS P o E N T K a w:=by
  obtain ⟨ty,hok,_,hk⟩:=tyC_spec h
  have hz : RV M β ty.zero ty.zv.cells.toList:=(zero_vr ty β).cells (by have:=zero_rv (M:=M) ty β; exact multi_mem this)
  refine OpS.val (x:=.pointer (some ⟨w.heap.size,0,none⟩)) ?_ (hr.newVar (hK _ _ _ hk n (Nat.le_refl _) (Nat.lt_succ_self _)) (e:=t) hz) (.one rfl (.ref (p:=[]) (by simp; rfl))) hk
  simp only [execOp,ho,Instr.alloc,Sem.run_bind,r_zero hok,Result.andThen_ok,newVar,newRow,run_newObj,Sem.run_pure]
  rfl
theorem s_box (hK : ∀ v O' n',K v O' n' → ∀ o,n ≤ o → o < n' → E.ok o) {t : TypeId} {x : Operand} (ho : o.op = .box t x)
    (h : evC T x fun v => v.mem = true ∧ K (.ref n []) ((n,.var v) :: O) (n + 1)) (hr : RelAt E N M β T O n a w) : OpS P o E N T K a w:=by
  obtain ⟨v,⟨hm,hk⟩,hv⟩:=evC_spec hr h
  refine OpS.val (x:=.pointer (some ⟨w.heap.size,0,none⟩)) ?_ (hr.newVar (hK _ _ _ hk n (Nat.le_refl _) (Nat.lt_succ_self _)) (e:=t) (hv.cells hm)) (.one rfl (.ref (p:=[]) (by simp; rfl))) hk
  simp only [execOp,ho,Instr.box,Sem.run_bind,newVar,newRow,run_newObj,Sem.run_pure,Result.andThen_ok]
  rfl
theorem run_loadVar {t : TypeId} {ty : Ty} (hok : ty.ok P t) {b off : Nat} {cs : List Value} {q : AV} (hc : CellsAt w b off cs) (hq : RV M β q cs) (hs : q.csz = ty.size) (hm : q.multi = ty.multi) :
    ∃ y,(loadVar t ⟨b,off,none⟩).run P w = .ok y w ∧ VR M β q y:=by
  have hl:=hq.length
  unfold loadVar
  simp only [Sem.run_bind,r_isAgg hok,Result.andThen_ok]
  cases hmm : ty.multi with
  | true =>
    refine ⟨.agg cs.toArray,?_,.agg (by rw [hm,hmm]) hq⟩
    have:=run_loadCells (P:=P) hc
    rw [hl,hs] at this
    simp only [if_true,Sem.run_bind,r_size hok,Result.andThen_ok,this]
    rfl
  | false =>
    have h1 : ty.size = 1:=by cases ty <;> first | rfl | cases hmm
    rw [hs,h1] at hl
    match cs,hl with
    | [c],_ =>
      refine ⟨c,?_,.one (by rw [hm,hmm]) hq⟩
      simp only [if_false,Bool.false_eq_true,run_load,hc.head]
theorem CellsAt.piece {b o m k : Nat} {cs : List Value} (h : CellsAt w b o cs) : CellsAt w b (o + m) (piece cs m k):=fun i v hv => by
  simp only [Sy.piece,List.getElem?_take,List.getElem?_drop] at hv
  split at hv
  · have:=h _ _ hv; rwa [Nat.add_assoc]
  · cases hv
theorem St.cells (h : St E M β O w) {i b κ : Nat} {ob : OB} {c : AV} (hl : lk O i = some ob) (hb : β i = some (b,κ)) (hc : obC ob fun x => x = c) : ∃ cc,RV M β c cc ∧ CellsAt w b 0 cc:=by
  obtain ⟨b',κ',hb',hor⟩:=h.objs _ _ hl
  rw [hb] at hb'; cases hb'
  cases ob with
  | var c' =>
    obtain rfl : c' = c:=hc
    obtain ⟨_,_,cs,e,fz,h1,_,h3⟩:=hor
    exact ⟨_,h3,by have:=CellsAt.of_block h1 0 cs.toList.length; rwa [piece_all] at this⟩
  | row c' =>
    obtain rfl : c' = c:=hc
    obtain ⟨_,_,hor⟩:=hor
    rcases hor with ⟨_,_,h3⟩ | ⟨_,cc,sp,e,fz,h1,_,h3,_⟩
    · exact ⟨[],h3,fun i v hv => by simp at hv⟩
    · refine ⟨cc,h3,?_⟩
      have:=CellsAt.of_block h1 0 cc.length
      simpa [piece] using this
  | map ks => exact hc.elim
  | gm f ks vs => exact hc.elim
theorem obC_spec {ob : OB} {κ : AV → Prop} (h : obC ob κ) : ∃ c,(obC ob fun x => x = c) ∧ κ c:=by
  cases ob with
  | var c => exact ⟨c,rfl,h⟩
  | row c => exact ⟨c,rfl,h⟩
  | map ks => exact h.elim
  | gm f ks vs => exact h.elim
theorem s_load {t : TypeId} {x : Operand} (ho : o.op = .load t x)
    (h : tyC P t fun ty => evC T x fun v => loadC O v fun q => fitC ty q (K q O n)) (hr : RelAt E N M β T O n a w) : OpS P o E N T K a w:=by
  obtain ⟨ty,hok,_,h1⟩:=tyC_spec h
  obtain ⟨v,h2,hv⟩:=evC_spec hr h1
  have fin : ∀ (b off : Nat) (q : AV) (cs : List Value),a.eval x = .pointer (some ⟨b,off,none⟩) → RV M β q cs → CellsAt w b off cs → fitC ty q (K q O n) → OpS P o E N T K a w:=fun b off q cs ex hq hc hf => by
    obtain ⟨f1,f2,hk⟩:=hf
    obtain ⟨y,hrun,hy⟩:=run_loadVar (w:=w) hok hc hq f1 f2
    refine OpS.val (x:=y) ?_ hr hy hk
    simp only [execOp,ho,Instr.loadAt,ex,Instr.sureAddr,Sem.run_bind,Sem.run_pure,Result.andThen_ok,hrun]
  cases v with
  | ref i p =>
    obtain ⟨ob,hl,h3⟩:=objC_spec h2
    obtain ⟨c,hc,h4⟩:=obC_spec h3
    obtain ⟨b,κ,hb,ex⟩:=hv.ref_inv
    obtain ⟨cc,hcc,hca⟩:=hr.st.cells hl hb hc
    obtain ⟨q,hf,hq⟩:=nav_spec _ _ _ h4
    obtain ⟨_,hq2⟩:=hq hcc
    exact fin b (poff p) q _ ex hq2 (by have:=hca.piece (m:=poff p) (k:=q.csz); rwa [Nat.zero_add] at this) hf
  | pp c p =>
    obtain ⟨q,hf,hq⟩:=nav_spec _ _ _ h2
    obtain ⟨cc,b,off,ex,hcc,hm⟩:=hv.pp_inv
    obtain ⟨_,hq2⟩:=hq hcc
    exact fin b (off + poff p) q _ ex (hq2.mono (PLe.refl _) (BLe.nob _)) (CellsAt.piece fun i v hi => hr.st.pool _ _ _ (hm i v hi)) hf
  | _ => exact h2.elim
theorem updC_row : ∀ (p : List Stp) (c x : AV) (K : AV → Prop),p ≠ [] → updC p c x K → updC p c x fun c' => K c' ∧ c'.isRow = c.isRow ∧ c'.esz = c.esz ∧ c'.cnt = c.cnt:=by
  have mono : ∀ (p : List Stp) (c x : AV) (K K' : AV → Prop),(∀ v,K v → K' v) → updC p c x K → updC p c x K':=by
    intro p
    induction p with
    | nil => intro c x K K' hk h; obtain ⟨h1,h2⟩ : x.csz = c.csz ∧ K x:=by simpa [updC] using h
             simpa [updC] using And.intro h1 (hk _ h2)
    | cons s p ih =>
      intro c x K K' hk h
      cases s with
      | fld j off =>
        cases c with
        | agg ps =>
          have mf : ∀ (ps : List AV) (j off : Nat) (L L' : List AV → Prop),(∀ v,L v → L' v) → fldU ps j off (fun q K' => updC p q x K') L → fldU ps j off (fun q K' => updC p q x K') L':=by
            intro ps
            induction ps with
            | nil => intro j off L L' _ h; exact h.elim
            | cons q qs ih2 =>
              intro j off L L' hL h
              cases j with
              | zero => exact ⟨h.1,ih _ _ _ _ (fun v hv => hL _ hv) h.2⟩
              | succ j => exact ⟨h.1,ih2 _ _ _ _ (fun v hv => hL _ hv) h.2⟩
          exact mf _ _ _ _ _ (fun v hv => hk _ hv) h
        | _ => exact h.elim
      | «at» i sz =>
        cases c with
        | ints k m xs =>
          obtain ⟨h1,h2,h3,h4⟩:=h
          refine ⟨h1,h2,h3,?_⟩
          cases x <;> first | exact h4.elim | exact ⟨h4.1,hk _ h4.2⟩
        | arr s ps => exact ⟨h.1,h.2.1,fun q hq => ih _ _ _ _ (fun v hv => hk _ hv) (h.2.2 q hq)⟩
        | lst s m es => exact ⟨h.1,h.2.1,h.2.2.1,fun q hq => ih _ _ _ _ (fun v hv => hk _ hv) (h.2.2.2 q hq)⟩
        | _ => exact h.elim
  intro p c x K hp h
  cases p with
  | nil => exact absurd rfl hp
  | cons s p =>
    cases s with
    | fld j off =>
      cases c with
      | agg ps =>
        have mf : ∀ (ps : List AV) (j off : Nat) (L L' : List AV → Prop),(∀ v,L v → L' v) → fldU ps j off (fun q K' => updC p q x K') L → fldU ps j off (fun q K' => updC p q x K') L':=by
          intro ps
          induction ps with
          | nil => intro j off L L' _ h; exact h.elim
          | cons q qs ih2 =>
            intro j off L L' hL h
            cases j with
            | zero => exact ⟨h.1,mono _ _ _ _ _ (fun v hv => hL _ hv) h.2⟩
            | succ j => exact ⟨h.1,ih2 _ _ _ _ (fun v hv => hL _ hv) h.2⟩
        exact mf _ _ _ _ _ (fun v hv => ⟨hv,rfl,rfl,rfl⟩) h
      | _ => exact h.elim
    | «at» i sz =>
      cases c with
      | ints k m xs =>
        obtain ⟨h1,h2,h3,h4⟩:=h
        refine ⟨h1,h2,h3,?_⟩
        cases x <;> first | exact h4.elim | exact ⟨h4.1,h4.2,rfl,rfl,rfl⟩
      | arr s ps => exact ⟨h.1,h.2.1,fun q hq => mono _ _ _ _ _ (fun v hv => ⟨hv,rfl,rfl,by simp [AV.cnt]⟩) (h.2.2 q hq)⟩
      | lst s m es => exact ⟨h.1,h.2.1,h.2.2.1,fun q hq => mono _ _ _ _ _ (fun v hv => ⟨hv,rfl,rfl,rfl⟩) (h.2.2.2 q hq)⟩
      | _ => exact h.elim
theorem updC_row' {p : List Stp} {c x : AV} {K : AV → Prop} (hp : p = [] → x.isRow = true ∧ x.esz = c.esz ∧ x.cnt = c.cnt) (hc : c.isRow = true) (h : updC p c x K) :
    updC p c x fun c' => K c' ∧ c'.isRow = c.isRow ∧ c'.esz = c.esz ∧ c'.cnt = c.cnt:=by
  by_cases e : p = []
  · obtain ⟨h1,h2,h3⟩:=hp e
    subst e
    obtain ⟨g1,g2⟩ : x.csz = c.csz ∧ K x:=by simpa [updC] using h
    simp only [updC]
    exact ⟨g1,g2,by rw [h1,hc],h2,h3⟩
  · exact updC_row _ _ _ _ e h
theorem splice_length {cs xs : List Value} {o : Nat} (h : o + xs.length ≤ cs.length) : (splice cs o xs).length = cs.length:=by
  simp only [splice,List.length_append,List.length_take,List.length_drop]; omega
theorem splice_append {cs sp xs : List Value} {o : Nat} (h : o + xs.length ≤ cs.length) : splice (cs ++ sp) o xs = splice cs o xs ++ sp:=by
  simp only [splice]
  rw [List.take_append_of_le_length (by omega),List.drop_append_of_le_length (by omega)]
  simp
theorem RelAt.writeAt (hr : RelAt E N M β T O n a w) {i : Nat} {p : List Stp} {u : AV} {κ : OO → Prop} (h : updO O i p u κ) (off : Nat) {dd : List Value} (hpos : 0 < dd.length)
    (hone : ∀ x ∈ dd,x.oneCell' = true) (hx : ∀ {c : AV} {cs : List Value},lk O i = some (.var c) ∨ lk O i = some (.row c) → RV M β c cs →
      ∃ z,poff p + z ≤ cs.length ∧ off + dd.length ≤ z ∧ RV M β u (splice (piece cs (poff p) z) off dd) ∧ (splice (piece cs (poff p) z) off dd).length = z) :
    ∃ O' w' b κ0,β i = some (b,κ0) ∧ κ O' ∧ (storeCells ⟨b,poff p + off,none⟩ dd).run P w = .ok () w' ∧ RelAt E N M β T O' n a w':=by
  obtain ⟨ob,K',hl,hu,hO⟩:=updO_spec h
  obtain ⟨b,κ0,hb,hor⟩:=hr.st.objs _ _ hl
  cases ob with
  | var c =>
    obtain ⟨c',hk,hz,hrv⟩:=upd_spec _ _ _ _ hu
    obtain ⟨hk0,hcz,cs,e,fz,h1,h2,h3⟩:=hor
    obtain ⟨z,hz1,hz2,hru,hzl⟩:=hx (.inl hl) h3
    obtain ⟨_,hrv2⟩:=hrv h3 hru
    rw [splice_splice _ _ _ _ _ hz2 hz1] at hrv2
    obtain ⟨O',hko,hlk⟩:=hO _ hk
    have hlt : b < w.heap.size:=(Array.getElem?_eq_some_iff.1 h1).1
    have hcs : cs = cs.toList.toArray:=by simp
    have hle : poff p + off + dd.length ≤ cs.toList.length:=by omega
    have hrun:=run_storeCells (P:=P) (b:=b) (o:=poff p + off) (e:=e) (fz:=fz) dd 0 w cs.toList (by rw [← hcs]; exact h1) (by simpa using hle) (by simpa using h2) hone
    refine ⟨O',_,b,κ0,hb,hko,hrun,hr.next (hr.st.put hl hb hk0 hlk ?_) (BLe.refl _) hr.ids (fun _ _ => rfl) (Nat.le_refl _)⟩
    refine ⟨hk0,by rw [hz]; exact hcz,_,e,fz,by rw [getElem?_putBlock hlt]; simp; rfl,?_,by simpa using hrv2⟩
    have:=splice_length hle
    simp only [List.size_toArray,Nat.add_zero,this]
    simpa using h2
  | row c =>
    obtain ⟨hp,hu⟩:=hu
    obtain ⟨hrow,hez,hor⟩:=hor
    obtain ⟨c',⟨hk,e1,e2,e3⟩,hz,hrv⟩:=upd_spec _ _ _ _ (updC_row' hp hrow hu)
    rcases hor with ⟨_,_,h3⟩ | ⟨hk0,cc,sp,e,fz,h1,h2,h3,h4⟩
    · obtain ⟨z,hz1,hz2,_⟩:=hx (.inr hl) h3
      simp only [List.length_nil] at hz1
      omega
    · obtain ⟨z,hz1,hz2,hru,hzl⟩:=hx (.inr hl) h3
      obtain ⟨_,hrv2⟩:=hrv h3 hru
      rw [splice_splice _ _ _ _ _ hz2 hz1] at hrv2
      obtain ⟨O',hko,hlk⟩:=hO _ hk
      have hle : poff p + off + dd.length ≤ cc.length:=by omega
      have hlt : b < w.heap.size:=(Array.getElem?_eq_some_iff.1 h1).1
      have hrun:=run_storeCells (P:=P) (b:=b) (o:=poff p + off) (e:=e) (fz:=fz) dd 0 w (cc ++ sp) h1 (by simp; omega) h2 hone
      rw [Nat.add_zero,splice_append hle] at hrun
      refine ⟨O',_,b,κ0,hb,hko,hrun,hr.next (hr.st.put hl hb hk0 hlk ?_) (BLe.refl _) hr.ids (fun _ _ => rfl) (Nat.le_refl _)⟩
      have:=splice_length hle
      refine ⟨by rw [e1]; exact hrow,by rw [e2]; exact hez,.inr ⟨hk0,_,sp,e,fz,by rw [getElem?_putBlock hlt]; simp,?_,hrv2,?_⟩⟩
      · simp only [List.length_append,this]; simpa using h2
      · rw [e2,← h4]; simp [this]
  | map ks => exact hu.elim
  | gm f ks vs => exact hu.elim
theorem RelAt.write (hr : RelAt E N M β T O n a w) {i : Nat} {p : List Stp} {u : AV} {xc : List Value} {κ : OO → Prop} (h : updO O i p u κ) (hx : RV M β u xc) (hpos : 0 < xc.length) :
    ∃ O' w' b κ0,β i = some (b,κ0) ∧ κ O' ∧ (storeCells ⟨b,poff p,none⟩ xc).run P w = .ok () w' ∧ RelAt E N M β T O' n a w':=by
  have key : ∀ {c : AV} {cs : List Value},lk O i = some (.var c) ∨ lk O i = some (.row c) → RV M β c cs → poff p + xc.length ≤ cs.length:=by
    intro c cs hl hc
    obtain ⟨ob,K',hl',hu,_⟩:=updO_spec h
    rcases hl with hl | hl
    · rw [hl] at hl'; cases hl'
      obtain ⟨c',_,_,hrv⟩:=upd_spec _ _ _ _ hu
      exact (hrv hc hx).1
    · rw [hl] at hl'; cases hl'
      obtain ⟨c',_,_,hrv⟩:=upd_spec _ _ _ _ hu.2
      exact (hrv hc hx).1
  have:=hr.writeAt (P:=P) h 0 hpos hx.one fun {c cs} hl hc => by
    have hle:=key hl hc
    have hpl : (piece cs (poff p) xc.length).length = xc.length:=by simp [piece]; omega
    have hsp : splice (piece cs (poff p) xc.length) 0 xc = xc:=by
      simp only [splice,List.take_zero,List.nil_append,Nat.zero_add]
      rw [List.drop_of_length_le (by omega),List.append_nil]
    exact ⟨xc.length,hle,by omega,by rw [hsp]; exact hx,by rw [hsp]⟩
  simpa using this
theorem s_store {t : TypeId} {x y : Operand} (ho : o.op = .store t x y)
    (h : tyC P t fun ty => evC T x fun v => evC T y fun u => u.mem = true ∧ u.csz = ty.size ∧ 0 < ty.size ∧
      (match v with
      | .ref i p => updO O i p u fun O' => K .junk O' n
      | _ => False)) (hr : RelAt E N M β T O n a w) : OpS P o E N T K a w:=by
  obtain ⟨ty,hok,_,h1⟩:=tyC_spec h
  obtain ⟨v,h2,hv⟩:=evC_spec hr h1
  obtain ⟨u,⟨hm,hs,hpos,h3⟩,hu⟩:=evC_spec hr h2
  cases v with
  | ref i p =>
    have hx:=hu.cells hm
    have hl:=hx.length
    obtain ⟨O',w',b,κ0,hb,hk,hrun,hr'⟩:=hr.write (P:=P) h3 hx (by omega)
    obtain ⟨b',κ',hb',ex⟩:=hv.ref_inv
    rw [hb] at hb'; cases hb'
    refine OpS.skip ?_ hr' hk
    have hsz : (a.eval y).cells.size = ty.size:=by rw [← hs,← hl]; simp
    simp only [execOp,ho,Instr.storeAt,ex,Instr.sureAddr,Sem.run_bind,Sem.run_pure,Result.andThen_ok,storeVar,r_size hok,hsz,ne_eq,not_true,if_false,hrun]
  | _ => exact h3.elim
end
end Go.Sy
namespace Go.Sy
open Go
set_option linter.unusedSimpArgs false
set_option linter.unusedVariables false
section
variable {E : Env} {N : Nat} {M : Pool} {β β' : Bmap} {T : TT} {O O' : OO} {n : Nat} {a : Act} {w w' : World} {P : Program} {o : Oper} {K : KK}
inductive Parts (M : Pool) (β : Bmap) : List (Nat × AV) → List (Nat × Value) → Prop
  | nil : Parts M β [] []
  | cons {j : Nat} {v : AV} {x : Value} {l : List (Nat × AV)} {m : List (Nat × Value)} (h : RV M β v x.cells.toList) (hs : Parts M β l m) : Parts M β ((j,v) :: l) ((j,x) :: m)
theorem partsC_spec (hr : RelAt E N M β T O n a w) : ∀ {ps : List (Nat × Operand)} {κ : List (Nat × AV) → Prop},partsC T ps κ → ∃ l,κ l ∧ Parts M β l (ps.map fun p => (p.1,a.eval p.2)):=by
  intro ps
  induction ps with
  | nil => intro κ h; exact ⟨[],h,.nil⟩
  | cons p ps ih =>
    intro κ h
    obtain ⟨j,x⟩:=p
    obtain ⟨v,⟨hm,h⟩,hv⟩:=evC_spec hr h
    obtain ⟨l,hk,hl⟩:=ih h
    exact ⟨_,hk,.cons (hv.cells hm) hl⟩
theorem fold_splice : ∀ (xs : List Value) (k : Nat) (cs : Array Value) (off : Nat),off + k + xs.length ≤ cs.size →
    ((xs.zipIdx k).foldl (fun cs (c,j) => cs.setIfInBounds (off + j) c) cs).toList = splice cs.toList (off + k) xs:=by
  intro xs
  induction xs with
  | nil => intro k cs off h; simp [splice]
  | cons x xs ih =>
    intro k cs off h
    simp only [List.length_cons] at h
    simp only [List.zipIdx_cons,List.foldl_cons]
    rw [ih (k + 1) _ off (by simp; omega)]
    have hlt : off + k < cs.toList.length:=by simp; omega
    simp only [splice,Array.toList_setIfInBounds]
    rw [List.set_eq_take_append_cons_drop,if_pos hlt]
    have e1 : List.take (off + (k + 1)) (List.take (off + k) cs.toList ++ x :: List.drop (off + k + 1) cs.toList) = List.take (off + k) cs.toList ++ [x]:=by
      rw [List.take_append,List.take_of_length_le (by simp; omega),show off + (k + 1) - (List.take (off + k) cs.toList).length = 1 by simp at hlt ⊢; omega]
      simp
    have e2 : List.drop (off + (k + 1) + xs.length) (List.take (off + k) cs.toList ++ x :: List.drop (off + k + 1) cs.toList) = List.drop (off + k + (x :: xs).length) cs.toList:=by
      rw [List.drop_append,List.drop_of_length_le (by simp; omega),show off + (k + 1) + xs.length - (List.take (off + k) cs.toList).length = xs.length + 1 by simp at hlt ⊢; omega]
      simp only [List.nil_append,List.drop_succ_cons,List.drop_drop,List.length_cons]
      congr 1; omega
    rw [e1,e2]
    simp
theorem fill_cons {place : Nat → Option (Nat × Nat)} {cells : Array Value} {i off size : Nat} {x : Value} {rest : List (Nat × Value)} (hp : place i = some (off,size)) (hx : x.cells.size = size) (hl : off + size ≤ cells.size) :
    ∃ cells',Instr.fill place cells ((i,x) :: rest) = Instr.fill place cells' rest ∧ cells'.toList = splice cells.toList off x.cells.toList:=by
  refine ⟨x.cells.zipIdx.foldl (fun cs (c,j) => cs.setIfInBounds (off + j) c) cells,?_,?_⟩
  · conv => lhs; unfold Instr.fill
    simp only [hp]
    rw [if_neg (by simp [hx]; omega)]
  · have:=fold_splice x.cells.toList 0 cells off (by simp; omega)
    rw [← Array.foldl_toList,Array.toList_zipIdx]
    simpa using this
theorem setC_spec : ∀ {ps : List AV} {j : Nat} {v : AV} {κ : List AV → Prop},setC ps j v κ → ∃ ps',κ ps' ∧ j < ps.length ∧ ps'.map AV.csz = ps.map AV.csz ∧ v.csz = (ps.map AV.csz).getD j 0 ∧
    ∀ {M : Pool} {β : Bmap} {cs xc : List Value},RVs M β ps cs → RV M β v xc → AV.cszs (ps.take j) + xc.length ≤ cs.length ∧ RVs M β ps' (splice cs (AV.cszs (ps.take j)) xc):=by
  intro ps
  induction ps with
  | nil => intro j v κ h; exact h.elim
  | cons p ps ih =>
    intro j v κ h
    cases j with
    | zero =>
      obtain ⟨hz,hk⟩:=h
      refine ⟨_,hk,by simp,by simp [hz],by simp [hz],fun {M β cs xc} hp hx => ?_⟩
      cases hp with
      | cons h1 h2 =>
        have l1:=h1.length
        have l2:=hx.length
        refine ⟨by simp [AV.cszs]; omega,?_⟩
        have e : ∀ c cs : List Value,c.length = p.csz → splice (c ++ cs) (AV.cszs (List.take 0 (p :: ps))) xc = xc ++ cs:=fun c cs hc => by
          simp [splice,AV.cszs,l2,hz,← hc]
        rw [e _ _ l1]
        exact .cons hx h2
    | succ j =>
      obtain ⟨ps',hk,hj,hm,hv,hr⟩:=ih h
      refine ⟨_,hk,by simp; exact hj,by simp [hm],by simpa using hv,fun {M β cs xc} hp hx => ?_⟩
      cases hp with
      | cons h1 h2 =>
        rename_i c cs
        have l1:=h1.length
        obtain ⟨g1,g2⟩:=hr h2 hx
        simp only [List.take_succ_cons,AV.cszs]
        refine ⟨by simp; omega,?_⟩
        have e : splice (c ++ cs) (p.csz + AV.cszs (List.take j ps)) xc = c ++ splice cs (AV.cszs (List.take j ps)) xc:=by
          simp only [splice,← l1]
          rw [List.take_append,List.take_of_length_le (by omega),List.drop_append,List.drop_of_length_le (by omega),show c.length + AV.cszs (List.take j ps) - c.length = AV.cszs (List.take j ps) by omega,
            show c.length + AV.cszs (List.take j ps) + xc.length - c.length = AV.cszs (List.take j ps) + xc.length by omega]
          simp
        rw [e]
        exact .cons h1 g2
theorem cszs_take {ps qs : List AV} (h : ps.map AV.csz = qs.map AV.csz) (j : Nat) : AV.cszs (ps.take j) = AV.cszs (qs.take j):=by
  induction ps generalizing qs j with
  | nil => cases qs with
    | nil => rfl
    | cons q qs => simp at h
  | cons p ps ih =>
    cases qs with
    | nil => simp at h
    | cons q qs =>
      simp only [List.map_cons,List.cons.injEq] at h
      cases j with
      | zero => rfl
      | succ j => simp only [List.take_succ_cons,AV.cszs,h.1,ih h.2]
theorem bldS_spec {place : Nat → Option (Nat × Nat)} {zs : List AV} (hpl : ∀ j,j < zs.length → place j = some (AV.cszs (zs.take j),(zs.map AV.csz).getD j 0)) :
    ∀ {l : List (Nat × AV)} {ps : List AV} {κ : List AV → Prop} {m : List (Nat × Value)} {cells : Array Value},bldS ps l κ → ps.map AV.csz = zs.map AV.csz → Parts M β l m → RVs M β ps cells.toList →
      ∃ ps' cells',κ ps' ∧ Instr.fill place cells m = some cells' ∧ RVs M β ps' cells'.toList:=by
  intro l
  induction l with
  | nil =>
    intro ps κ m cells h hz hp hr
    cases hp
    exact ⟨ps,cells,h,rfl,hr⟩
  | cons p l ih =>
    intro ps κ m cells h hz hp hr
    obtain ⟨j,v⟩:=p
    cases hp with
    | cons hx hps =>
      rename_i x m
      obtain ⟨ps',hk,hj,hm,hv,hrr⟩:=setC_spec h
      obtain ⟨g1,g2⟩:=hrr hr hx
      have hlen : ps.length = zs.length:=by have:=congrArg List.length hz; simpa using this
      have hxl:=hx.length
      obtain ⟨cells',hf,hc⟩:=fill_cons (rest:=m) (cells:=cells) (hpl j (by omega)) (x:=x) (by rw [← hz,← hv,← hxl]; simp) (by
        rw [cszs_take hz.symm,← hz,← hv,← hxl]
        simpa using g1)
      obtain ⟨ps2,c2,hk2,hf2,hr2⟩:=ih (cells:=cells') hk (hm.trans hz) hps (by rw [hc,cszs_take hz.symm]; exact g2)
      exact ⟨ps2,c2,hk2,by rw [hf]; exact hf2,hr2⟩
theorem oks_place : ∀ {ts : List Ty} {fs : List Field} {off : Nat},Ty.oks P off fs ts → ∀ (w : World),∃ pl : List (Nat × Nat),(fs.mapM fun f => (do pure (f.offset,← sizeOf f.type) : Sem (Nat × Nat))).run P w = .ok pl w ∧
    pl.length = ts.length ∧ ∀ j,j < ts.length → pl[j]? = some (off + AV.cszs ((Ty.zeros ts).take j),((Ty.zeros ts).map AV.csz).getD j 0):=by
  intro ts
  induction ts with
  | nil =>
    intro fs off h w
    cases fs with
    | nil => exact ⟨[],rfl,rfl,fun j hj => by simp at hj⟩
    | cons f fs => exact h.elim
  | cons t ts ih =>
    intro fs off h w
    cases fs with
    | nil => exact h.elim
    | cons f fs =>
      obtain ⟨h1,_,_,h4,h5⟩:=h
      obtain ⟨pl,hrun,hl,hj⟩:=ih h5 w
      refine ⟨(f.offset,t.size) :: pl,?_,by simp [hl],fun j hlt => ?_⟩
      · simp only [List.mapM_cons,Sem.run_bind,r_size h4,Result.andThen_ok,Sem.run_pure,hrun]
      · cases j with
        | zero => simp [Ty.zeros,AV.cszs,h1,zero_csz.1]
        | succ j =>
          simp only [List.length_cons,Nat.add_lt_add_iff_right] at hlt
          simp only [List.getElem?_cons_succ,hj j hlt,Ty.zeros,List.take_succ_cons,AV.cszs,List.map_cons,List.getD_cons_succ,zero_csz.1]
          simp [Nat.add_assoc]
theorem seqI_spec {k : IntKind} : ∀ {l : List (Nat × AV)} {i : Nat} {κ : Nat → List Int → Prop} {m : List (Nat × Value)},seqI k i l κ → Parts M β l m → ∃ xs,κ (i + xs.length) xs ∧
    ∀ (place : Nat → Option (Nat × Nat)) (pre : List Value) (d : Nat) (z : Value) (cells : Array Value),(∀ j,place j = some (j * 1,1)) → pre.length = i → xs.length ≤ d → cells.toList = pre ++ List.replicate d z → z = Value.int k 0 →
      ∃ cells',Instr.fill place cells m = some cells' ∧ cells'.toList = pre ++ (xs.map (Value.int k) ++ List.replicate (d - xs.length) z):=by
  intro l
  induction l with
  | nil =>
    intro i κ m h hp
    cases hp
    exact ⟨[],h,fun place pre d z cells _ _ _ hc _ => ⟨cells,rfl,by simpa using hc⟩⟩
  | cons p l ih =>
    intro i κ m h hp
    obtain ⟨j,v⟩:=p
    cases hp with
    | cons hx hps =>
      rename_i x m
      have one : ∀ (y : Int) (hx : RV M β (.int k y) x.cells.toList) (pre : List Value) (d : Nat) (z : Value) (cells : Array Value) (place : Nat → Option (Nat × Nat)),(∀ j,place j = some (j * 1,1)) → pre.length = j → 1 ≤ d → cells.toList = pre ++ List.replicate d z →
          ∃ cells',Instr.fill place cells ((j,x) :: m) = Instr.fill place cells' m ∧ cells'.toList = (pre ++ [Value.int k y]) ++ List.replicate (d - 1) z:=by
        intro y hx pre d z cells place hpl hpre hd hc
        have hxc : x.cells.toList = [Value.int k y]:=by
          generalize hxx : x.cells.toList = xl at hx
          cases hx; rfl
        have hsz : x.cells.size = 1:=by rw [← Array.length_toList,hxc]; rfl
        have hcl : cells.size = pre.length + d:=by rw [← Array.length_toList,hc]; simp
        obtain ⟨cells',h1,h2⟩:=fill_cons (rest:=m) (cells:=cells) (hpl j) hsz (by omega)
        refine ⟨cells',h1,?_⟩
        rw [h2,hc,hxc]
        simp only [splice,Nat.mul_one,List.length_singleton]
        rw [List.take_append_of_le_length (by omega),List.take_of_length_le (by omega),List.drop_append,List.drop_of_length_le (by omega)]
        simp [hpre,List.drop_replicate]
      simp only [seqI] at h
      split at h
      · rename_i e
        subst e
        cases v with
        | int k' y =>
          obtain ⟨rfl,h⟩:=h
          obtain ⟨xs,hk,hf⟩:=ih h hps
          refine ⟨y :: xs,by simpa [Nat.add_assoc,Nat.add_comm 1] using hk,fun place pre d z cells hpl hpre hd hc hz => ?_⟩
          simp only [List.length_cons] at hd
          obtain ⟨cells',h1,h2⟩:=one y hx pre d z cells place hpl hpre (by omega) hc
          obtain ⟨c2,h3,h4⟩:=hf place (pre ++ [Value.int k' y]) (d - 1) z cells' hpl (by simp [hpre]) (by omega) h2 hz
          refine ⟨c2,by rw [h1,h3],?_⟩
          rw [h4,show d - 1 - xs.length = d - (y :: xs).length by simp only [List.length_cons]; omega]
          simp only [List.append_assoc,List.map_cons,List.cons_append,List.nil_append]
        | _ => exact h.elim
      · obtain ⟨hlt,h⟩:=h
        cases v with
        | int k' y =>
          obtain ⟨rfl,h⟩:=h
          obtain ⟨xs,hk,hf⟩:=ih h hps
          refine ⟨List.replicate (j - i) 0 ++ y :: xs,?_,fun place pre d z cells hpl hpre hd hc hz => ?_⟩
          · rw [show i + (List.replicate (j - i) (0 : Int) ++ y :: xs).length = j + 1 + xs.length by simp; omega]
            exact hk
          · simp only [List.length_append,List.length_replicate,List.length_cons] at hd
            have hc' : cells.toList = (pre ++ List.replicate (j - i) z) ++ List.replicate (d - (j - i)) z:=by
              rw [hc,List.append_assoc,List.replicate_append_replicate,show j - i + (d - (j - i)) = d by omega]
            obtain ⟨cells',h1,h2⟩:=one y hx (pre ++ List.replicate (j - i) z) (d - (j - i)) z cells place hpl (by simp [hpre]; omega) (by omega) hc'
            obtain ⟨c2,h3,h4⟩:=hf place (pre ++ List.replicate (j - i) z ++ [Value.int k' y]) (d - (j - i) - 1) z cells' hpl (by simp [hpre]; omega) (by omega) h2 hz
            refine ⟨c2,by rw [h1,h3],?_⟩
            rw [h4,show d - (j - i) - 1 - xs.length = d - (List.replicate (j - i) (0 : Int) ++ y :: xs).length by simp; omega,hz]
            simp only [List.append_assoc,List.map_append,List.map_replicate,List.map_cons,List.cons_append,List.nil_append]
        | _ => exact h.elim
theorem seqV_spec {sz : Nat} : ∀ {l : List (Nat × AV)} {i : Nat} {κ : Nat → List AV → Prop} {m : List (Nat × Value)},seqV sz i l κ → Parts M β l m → ∃ vs,κ (i + vs.length) vs ∧ (∀ v ∈ vs,v.csz = sz) ∧
    ∀ (place : Nat → Option (Nat × Nat)) (pre : List Value) (d : Nat) (z : List Value) (cells : Array Value),(∀ j,place j = some (j * sz,sz)) → pre.length = i * sz → z.length = sz → vs.length ≤ d → cells.toList = pre ++ (List.replicate d z).flatten →
      ∃ cells' vc,Instr.fill place cells m = some cells' ∧ RVs M β vs vc ∧ cells'.toList = pre ++ (vc ++ (List.replicate (d - vs.length) z).flatten):=by
  intro l
  induction l with
  | nil =>
    intro i κ m h hp
    cases hp
    exact ⟨[],h,by simp,fun place pre d z cells _ _ _ _ hc => ⟨cells,[],rfl,.nil,by simpa using hc⟩⟩
  | cons p l ih =>
    intro i κ m h hp
    obtain ⟨j,v⟩:=p
    cases hp with
    | cons hx hps =>
      rename_i x m
      obtain ⟨rfl,hz,h⟩:=h
      obtain ⟨vs,hk,hvs,hf⟩:=ih h hps
      refine ⟨v :: vs,by simpa [Nat.add_assoc,Nat.add_comm 1] using hk,by intro u hu; rcases List.mem_cons.1 hu with rfl | hu; exact hz; exact hvs u hu,fun place pre d z cells hpl hpre hzl hd hc => ?_⟩
      have hxl:=hx.length
      have hsz : x.cells.size = sz:=by rw [← Array.length_toList,hxl,hz]
      simp only [List.length_cons] at hd
      obtain ⟨d,rfl⟩ : ∃ e,d = e + 1:=⟨d - 1,by omega⟩
      rw [List.replicate_succ,List.flatten_cons] at hc
      have hcl : cells.size = pre.length + (z.length + (List.replicate d z).flatten.length):=by rw [← Array.length_toList,hc]; simp
      obtain ⟨cells',h1,h2⟩:=fill_cons (rest:=m) (cells:=cells) (hpl j) hsz (by omega)
      obtain ⟨c2,vc,h3,h4,h5⟩:=hf place (pre ++ x.cells.toList) d z cells' hpl (by rw [List.length_append,hpre,hxl,hz,Nat.add_mul]; omega) hzl (by omega) (by
        rw [h2,hc]
        simp only [splice]
        rw [← hpre,List.take_append_of_le_length (Nat.le_refl _),List.take_of_length_le (Nat.le_refl _),List.drop_append,List.drop_of_length_le (by omega),List.drop_append,List.drop_of_length_le (by rw [hzl,← hz,← hxl]; omega)]
        have : pre.length + x.cells.toList.length - pre.length - z.length = 0:=by rw [hzl,← hz,← hxl]; omega
        rw [this]
        simp)
      refine ⟨c2,x.cells.toList ++ vc,by rw [h1,h3],.cons hx h4,?_⟩
      rw [h5,show d - vs.length = d + 1 - (v :: vs).length by simp only [List.length_cons]; omega]
      simp only [List.append_assoc]
theorem elemsC_spec {m : Nat} {te : Ty} {l : List (Nat × AV)} {κ : AV → Prop} {ps : List (Nat × Value)} (h : elemsC m te l κ) (hp : Parts M β l ps) (hpos : 0 < te.size) : ∃ c,κ c ∧ c.isRow = true ∧ c.cnt = m ∧ c.esz = te.size ∧
    ∀ cells : Array Value,cells.toList = (List.replicate m te.zc).flatten → ∃ cells',Instr.fill (fun i => some (i * te.size,te.size)) cells ps = some cells' ∧ RV M β c cells'.toList:=by
  have hzl : te.zc.length = te.size:=by rw [(zero_rv (M:=M) te β).length,zero_csz.1]
  have gen : (∀ k,te ≠ .int k) → ((l = [] ∧ m = 0 → κ (.lst te.size 0 [])) ∧ (¬ (l = [] ∧ m = 0) → seqV te.size 0 l fun q vs => q ≤ m ∧ κ (.arr te.size (vs ++ List.replicate (m - q) te.zero)))) →
      ∃ c,κ c ∧ c.isRow = true ∧ c.cnt = m ∧ c.esz = te.size ∧ ∀ cells : Array Value,cells.toList = (List.replicate m te.zc).flatten → ∃ cells',Instr.fill (fun i => some (i * te.size,te.size)) cells ps = some cells' ∧ RV M β c cells'.toList:=by
    intro _ ⟨h1,h2⟩
    by_cases e : l = [] ∧ m = 0
    · obtain ⟨rfl,rfl⟩:=e
      refine ⟨_,h1 ⟨rfl,rfl⟩,rfl,rfl,rfl,fun cells hc => ?_⟩
      cases hp
      refine ⟨cells,rfl,?_⟩
      rw [hc]
      exact .lst .nil (by simp) rfl
    · obtain ⟨vs,⟨hle,hk⟩,hvs,hf⟩:=seqV_spec (h2 e) hp
      rw [Nat.zero_add] at hle hk
      refine ⟨_,hk,rfl,by simp [AV.cnt]; omega,rfl,fun cells hc => ?_⟩
      obtain ⟨c2,vc,h3,h4,h5⟩:=hf (fun i => some (i * te.size,te.size)) [] m te.zc cells (fun j => rfl) (by simp) hzl hle (by simpa using hc)
      refine ⟨c2,h3,?_⟩
      rw [h5,List.nil_append]
      refine .arr (h4.append (zeros_rv _ _ _ (fun β => zero_rv te β) β)) fun p hp => ?_
      rcases List.mem_append.1 hp with hp | hp
      · exact hvs p hp
      · rw [(List.mem_replicate.1 hp).2,zero_csz.1]
  cases te with
  | int k =>
    obtain ⟨xs,⟨hle,hk⟩,hf⟩:=seqI_spec h hp
    rw [Nat.zero_add] at hle hk
    refine ⟨_,hk,rfl,rfl,rfl,fun cells hc => ?_⟩
    obtain ⟨c2,h3,h4⟩:=hf (fun i => some (i * 1,1)) [] m (.int k 0) cells (fun j => rfl) rfl hle (by
      rw [hc]
      simp only [Ty.zc,List.nil_append]
      clear hc hf hk hle h
      induction m with
      | zero => rfl
      | succ m ih => simp [List.replicate_succ,List.flatten_cons,ih]) rfl
    refine ⟨c2,h3,?_⟩
    rw [h4]
    have : xs.map (Value.int k) ++ List.replicate (m - xs.length) (Value.int k 0) = (xs ++ List.replicate (m - xs.length) 0).map (Value.int k):=by simp
    rw [List.nil_append,this]
    exact .ints k (by simp; omega)
  | _ => exact gen (by intro k e; cases e) h
theorem zeros_length (ts : List Ty) : (Ty.zeros ts).length = ts.length:=by
  induction ts with
  | nil => rfl
  | cons t ts ih => simp [Ty.zeros,ih]
theorem s_build {t : TypeId} {ps : Array (Nat × Operand)} (ho : o.op = .build t ps)
    (h : tyC P t fun ty => partsC T ps.toList fun l =>
      (match ty with
      | .st ts => bldS (Ty.zeros ts) l fun qs => K (.agg qs) O n
      | .arr m _ te => elemsC m te l fun v => K v O n
      | _ => False)) (hr : RelAt E N M β T O n a w) : OpS P o E N T K a w:=by
  obtain ⟨ty,hok,_,h1⟩:=tyC_spec h
  obtain ⟨l,h2,hp⟩:=partsC_spec hr h1
  have hps : (ps.map fun (i,x) => (i,a.eval x)).toList = ps.toList.map fun p => (p.1,a.eval p.2):=by simp
  cases ty with
  | st ts =>
    have hok2:=hok
    obtain ⟨_,fs,hu,_,hoks⟩:=hok
    obtain ⟨pl,hrun,hpl,hplj⟩:=oks_place hoks w
    have hzc : (Ty.st ts).zv.cells = (Ty.st ts).zc.toArray:=rfl
    have hzr : RVs M β (Ty.zeros ts) (Ty.st ts).zv.cells.toList:=by
      have:=zero_rv (M:=M) (.st ts) β
      rw [hzc]
      cases this with
      | agg h => exact h
    have hzl : (Ty.zeros ts).length = ts.length:=zeros_length ts
    obtain ⟨qs,cells',hk,hf,hrv⟩:=bldS_spec (place:=(pl.toArray[·]?)) (zs:=Ty.zeros ts) (fun j hj => by rw [List.getElem?_toArray,hplj j (by omega),Nat.zero_add]) h2 rfl hp hzr
    refine OpS.val (x:=.agg cells') ?_ hr (by have:=VR.agg (M:=M) (β:=β) (v:=.agg qs) rfl (.agg hrv); simpa using this) hk
    have hfs : (fs.mapM fun f => (do pure (f.offset,← sizeOf f.type) : Sem (Nat × Nat))).run P w = .ok pl.toArray w:=by
      rw [Array.mapM_eq_mapM_toList]
      simp only [Sem.run_map,hrun,Result.andThen_ok]
    simp only [execOp,ho,Instr.build,Sem.run_bind,r_zero hok2,Result.andThen_ok,r_under hu]
    simp only [hfs,Result.andThen_ok,hps,hf,Sem.run_pure]
  | arr m e te =>
    have hok2:=hok
    obtain ⟨_,hu,hpos,hte⟩:=hok
    obtain ⟨c,hk,hrow,hcnt,hez,hf⟩:=elemsC_spec h2 hp hpos
    have hzc : (Ty.arr m e te).zv.cells = (Ty.arr m e te).zc.toArray:=rfl
    obtain ⟨cells',h3,h4⟩:=hf (Ty.arr m e te).zv.cells (by rw [hzc]; rfl)
    refine OpS.val (x:=.agg cells') ?_ hr (by have:=VR.agg (by cases c <;> first | rfl | cases hrow) h4; simpa using this) hk
    simp only [execOp,ho,Instr.build,Sem.run_bind,r_zero hok2,Result.andThen_ok,r_under hu,r_size hte,hps,h3,Sem.run_pure]
  | _ => exact h2.elim
end
end Go.Sy
namespace Go.Sy
open Go
set_option linter.unusedSimpArgs false
set_option linter.unusedVariables false
section
variable {E : Env} {N : Nat} {M : Pool} {β β' : Bmap} {T : TT} {O O' : OO} {n : Nat} {a : Act} {w w' : World} {P : Program} {o : Oper} {K : KK}
theorem drewFold (w : World) : ({ w with drawn:=w.drawn + 1 } : World) = w.drew:=rfl
theorem RelAt.newRowF (h : RelAt E N M β T O n a w) (hok : E.ok n) {c : AV} {cc sp : List Value} {κ : Nat} {e : TypeId} {cells : Array Value} {fz : Nat × Nat} (hfz : freeCells fz cells.size) (hv : RV M β c cc) (hr : c.isRow = true) (hz : 0 < c.esz) (hc : cells.toList = cc ++ sp) (hl : (cc ++ sp).length = κ * c.esz)
    (hcc : cc.length = c.cnt * c.esz) : RelAt E N M (updB β n (w.heap.size,κ)) T ((n,.row c) :: O) (n + 1) a (w.alloc (.cells cells e fz)):=by
  have hn : β n = none:=h.ids n (Nat.le_refl _) hok
  refine h.next (h.st.alloc hn _ _ _ _ (fun _ => rfl) ?_) (updB_le hn _) (h.fresh _) (updB_low hok _ _) (Nat.le_succ _)
  refine ⟨hr,hz,?_⟩
  by_cases hk : κ = 0
  · subst hk
    simp only [Nat.zero_mul,List.length_append] at hl
    have h0 : cc = []:=List.eq_nil_of_length_eq_zero (by omega)
    subst h0
    refine .inl ⟨rfl,?_,hv.mono (PLe.refl _) (updB_le hn _)⟩
    rcases Nat.mul_eq_zero.1 (by simpa using hcc.symm : c.cnt * c.esz = 0) with h | h
    · exact h
    · omega
  · refine .inr ⟨hk,cc,sp,e,fz,?_,by rw [← hc,Array.length_toList]; exact hfz,hv.mono (PLe.refl _) (updB_le hn _),hl⟩
    rw [alloc_new]
    congr 2
    apply Array.ext'
    simpa using hc
theorem RelAt.newRow (h : RelAt E N M β T O n a w) (hok : E.ok n) {c : AV} {cc sp : List Value} {κ : Nat} {e : TypeId} {cells : Array Value} (hv : RV M β c cc) (hr : c.isRow = true) (hz : 0 < c.esz) (hc : cells.toList = cc ++ sp) (hl : (cc ++ sp).length = κ * c.esz)
    (hcc : cc.length = c.cnt * c.esz) : RelAt E N M (updB β n (w.heap.size,κ)) T ((n,.row c) :: O) (n + 1) a (w.alloc (.cells cells e)):=h.newRowF hok (free0 _) hv hr hz hc hl hcc
theorem row_len {c : AV} {cc : List Value} (hv : RV M β c cc) (hr : c.isRow = true) : cc.length = c.cnt * c.esz:=by
  rw [hv.length]
  cases c <;> first | cases hr | skip
  · simp [AV.csz,AV.cnt,AV.esz]
  · simp [AV.csz,AV.cnt,AV.esz]
  · simp [AV.csz,AV.cnt,AV.esz]
theorem zerosFill (m : Nat) (z : List Value) (hz : 0 < z.length) : ((Array.range (m * z.length)).map (z.toArray[· % z.toArray.size]!)).toList = (List.replicate m z).flatten:=by
  apply List.ext_getElem?
  intro i
  have hl : (List.replicate m z).flatten.length = m * z.length:=by simp
  simp only [Array.toList_map,Array.toList_range,List.getElem?_map,List.getElem?_range',List.size_toArray]
  by_cases hi : i < m * z.length
  · rw [List.getElem?_range hi]
    have key : ∀ (m i : Nat),i < m * z.length → (List.replicate m z).flatten[i]? = z[i % z.length]?:=by
      intro m
      induction m with
      | zero => intro i hi; simp at hi
      | succ m ih =>
        intro i hi
        rw [List.replicate_succ,List.flatten_cons,List.getElem?_append]
        by_cases h : i < z.length
        · rw [if_pos h,Nat.mod_eq_of_lt h]
        · rw [if_neg h,ih _ (by rw [Nat.add_mul] at hi; omega)]
          congr 1
          rw [Nat.mod_eq_sub_mod (by omega : i ≥ z.length)]
    rw [key m i hi]
    have hm : i % z.length < z.length:=Nat.mod_lt _ hz
    simp [hm]
  · rw [List.getElem?_eq_none (by simp; omega),List.getElem?_eq_none (by omega)]
    rfl
theorem row_value {c : AV} {κ m : Nat} (hm : m ≤ κ) (b : Nat) (hb : β n = some (b,κ)) : VR M β (.osl n [] c.esz 0 m) (.slice (some ⟨b,0,none⟩) m κ) :=
  .one rfl (.osl hb hm (fun _ => by omega) (.inr (by simp [poff])))
theorem s_buildSlice (hK : ∀ v O' n',K v O' n' → ∀ o,n ≤ o → o < n' → E.ok o) {t : TypeId} {m : Nat} {ps : Array (Nat × Operand)} (ho : o.op = .buildSlice t m ps)
    (h : tyC P t fun ty => partsC T ps.toList fun l =>
      (match ty with
      | .slice e => tyC P e fun te => 0 < te.size ∧ m * te.size ≤ 16777216 ∧ elemsC m te l fun c => K (.osl n [] te.size 0 m) ((n,.row c) :: O) (n + 1)
      | _ => False)) (hr : RelAt E N M β T O n a w) : OpS P o E N T K a w:=by
  obtain ⟨ty,hok,_,h1⟩:=tyC_spec h
  obtain ⟨l,h2,hp⟩:=partsC_spec hr h1
  have hps : (ps.map fun (i,x) => (i,a.eval x)).toList = ps.toList.map fun p => (p.1,a.eval p.2):=by simp
  cases ty with
  | slice e =>
    obtain ⟨te,hte,_,hpos,hle,h3⟩:=tyC_spec h2
    obtain ⟨c,hk,hrow,hcnt,hez,hf⟩:=elemsC_spec h3 hp hpos
    have hzl : te.zc.length = te.size:=by rw [(zero_rv (M:=M) te β).length,zero_csz.1]
    have hzc : te.zv.cells = te.zc.toArray:=by
      cases te <;> rfl
    have hfill : ∀ cells : Array Value,cells.toList = (List.replicate m te.zc).flatten → (∃ cells',Instr.fill (fun i => some (i * te.size,te.size)) cells (ps.toList.map fun p => (p.1,a.eval p.2)) = some cells' ∧ RV M β c cells'.toList):=hf
    have hrel : ∀ cells' : Array Value,RV M β c cells'.toList → RelAt E N M (updB β n (w.heap.size,m)) T ((n,.row c) :: O) (n + 1) a (w.alloc (.cells cells' e)):=fun cells' hrv =>
      hr.newRow (hK _ _ _ hk n (Nat.le_refl _) (Nat.lt_succ_self _)) (sp:=[]) hrv hrow (by omega) (by simp) (by rw [List.append_nil,row_len hrv hrow,hcnt]) (row_len hrv hrow)
    by_cases hm0 : m * te.size = 0
    · obtain ⟨cells',h4,h5⟩:=hf #[] (by
        have : m = 0:=by rcases Nat.mul_eq_zero.1 hm0 with h | h <;> omega
        simp [this])
      refine OpS.val (x:=.slice (some ⟨w.heap.size,0,none⟩) m m) ?_ (hrel cells' h5) (by rw [← hez]; exact row_value (Nat.le_refl _) _ (by simp)) hk
      simp only [execOp,ho,Instr.buildSlice,Sem.run_bind,r_under hok.2,Result.andThen_ok,r_size hte]
      rw [if_neg (by omega),if_pos hm0]
      simp only [Sem.run_pure,Result.andThen_ok,hm0,Sem.run_bind]
      have : Array.map (fun x => (#[] : Array Value)[x % 0]!) (Array.range 0) = #[]:=by simp
      simp only [List.size_toArray,List.length_nil,this,hps,h4,Sem.run_bind,newRow,run_newObj,Result.andThen_ok,Sem.run_pure]
      rfl
    · obtain ⟨cells',h4,h5⟩:=hf ((Array.range (m * te.size)).map (te.zc.toArray[· % te.zc.toArray.size]!)) (by rw [← hzl]; exact zerosFill m te.zc (by omega))
      refine OpS.val (x:=.slice (some ⟨w.heap.size,0,none⟩) m m) ?_ (hrel cells' h5) (by rw [← hez]; exact row_value (Nat.le_refl _) _ (by simp)) hk
      simp only [execOp,ho,Instr.buildSlice,Sem.run_bind,r_under hok.2,Result.andThen_ok,r_size hte]
      rw [if_neg (by omega),if_neg hm0]
      simp only [Sem.run_bind,r_zero hte,Result.andThen_ok,Sem.run_pure,hzc,hps,h4,newRow,run_newObj]
      rfl
  | _ => exact h2.elim
theorem zerosC_spec {m : Nat} {te : Ty} {κ : AV → Prop} (h : zerosC m te κ) (hpos : 0 < te.size) : ∃ c,κ c ∧ c.isRow = true ∧ c.cnt = m ∧ c.esz = te.size ∧ c.nid = true ∧ ∀ {M : Pool} {β : Bmap},RV M β c (List.replicate m te.zc).flatten:=by
  have gen : (∀ k,te ≠ .int k) → κ (.lst te.size m (List.replicate m te.zero)) → ∃ c,κ c ∧ c.isRow = true ∧ c.cnt = m ∧ c.esz = te.size ∧ c.nid = true ∧ ∀ {M : Pool} {β : Bmap},RV M β c (List.replicate m te.zc).flatten:=fun _ hk =>
    ⟨_,hk,rfl,rfl,rfl,rfl,fun {M β} => .lst (zeros_rv _ _ _ (fun β => zero_rv te β) _) (fun p hp => by rw [(List.mem_replicate.1 hp).2,zero_csz.1]) (by simp)⟩
  cases te with
  | int k =>
    refine ⟨_,h,rfl,rfl,rfl,rfl,fun {M β} => ?_⟩
    have : (List.replicate m (Ty.int k).zc).flatten = (List.replicate m 0).map (Value.int k):=by
      clear h gen
      induction m with
      | zero => rfl
      | succ m ih => simp only [List.replicate_succ,List.flatten_cons,List.map_cons,ih]; rfl
    rw [this]
    exact .ints k (by simp)
  | _ => exact gen (by intro k e; cases e) h
theorem s_makeSlice (hK : ∀ v O' n',K v O' n' → ∀ o,n ≤ o → o < n' → E.ok o) {t : TypeId} {x y : Operand} (ho : o.op = .makeSlice t x y)
    (h : tyC P t fun ty => evC T x fun u => evC T y fun v => intC u fun i => intC v fun j =>
      (match ty with
      | .slice e => tyC P e fun te => byC P e fun bts => 0 < te.size ∧ 0 ≤ i ∧ i ≤ j ∧ j * bts ≤ 281474976710656 ∧ j ≤ 9223372036854775807 ∧ zerosC i.toNat te fun q => K (.osl n [] te.size 0 i.toNat) ((n,.row q) :: O) (n + 1)
      | _ => False)) (hr : RelAt E N M β T O n a w) : OpS P o E N T K a w:=by
  obtain ⟨ty,hok,_,h1⟩:=tyC_spec h
  obtain ⟨u,h2,hu⟩:=evC_spec hr h1
  obtain ⟨v,h3,hv⟩:=evC_spec hr h2
  obtain ⟨k,i,rfl,h4⟩:=intC_spec h3
  obtain ⟨k',j,rfl,h5⟩:=intC_spec h4
  cases ty with
  | slice e =>
    obtain ⟨te,hte,_,inf,hinf,hpos,g1,g2,g3,g4,h6⟩:=tyC_spec h5
    obtain ⟨c,hk,hrow,hcnt,hez,_,hrv⟩:=zerosC_spec h6 hpos
    have hzl : te.zc.length = te.size:=by rw [(zero_rv (M:=M) te β).length,zero_csz.1]
    have hzc : te.zv.cells = te.zc.toArray:=by cases te <;> rfl
    have w1 : IntKind.i64.wrap i = i:=by simp [IntKind.wrap,IntKind.bits,IntKind.signed]; omega
    have w2 : IntKind.i64.wrap j = j:=by simp [IntKind.wrap,IntKind.bits,IntKind.signed]; omega
    have big : (decide (j < 0) || decide ((inf.bytes : Int) * j > 2 ^ 48)) = false:=by
      have : (inf.bytes : Int) * j ≤ 281474976710656:=by rw [Int.mul_comm]; exact g3
      simp; omega
    have hsplit : (List.replicate j.toNat te.zc).flatten = (List.replicate i.toNat te.zc).flatten ++ (List.replicate (j.toNat - i.toNat) te.zc).flatten:=by
      rw [← List.flatten_append,List.replicate_append_replicate]
      congr 2; omega
    have hcells : ∀ cells : Array Value,cells.toList = (List.replicate j.toNat te.zc).flatten → RelAt E N M (updB β n (w.heap.size,j.toNat)) T ((n,.row c) :: O) (n + 1) a (w.alloc (.cells cells e)):=fun cells hc =>
      hr.newRow (hK _ _ _ hk n (Nat.le_refl _) (Nat.lt_succ_self _)) (sp:=(List.replicate (j.toNat - i.toNat) te.zc).flatten) hrv hrow (by omega) (by rw [hc,hsplit]) (by rw [← hsplit,hez]; simp [hzl]) (by rw [hcnt,hez]; simp [hzl])
    have hval : VR M (updB β n (w.heap.size,j.toNat)) (.osl n [] te.size 0 i.toNat) (.slice (some ⟨w.heap.size,0,none⟩) i.toNat j.toNat):=by rw [← hez]; exact row_value (by omega) _ (by simp)
    have cond : ((decide (j < 0) || decide ((inf.bytes : Int) * j > 2 ^ 48)) || decide (i < 0) || decide (i > j)) = false:=by rw [big]; simp; omega
    by_cases hj : j.toNat * te.size = 0
    · refine OpS.val (x:=.slice (some ⟨w.heap.size,0,none⟩) i.toNat j.toNat) ?_ (hcells #[] (by
        have : j.toNat = 0:=by rcases Nat.mul_eq_zero.1 hj with h | h <;> omega
        simp [this])) hval hk
      simp only [execOp,ho,Instr.makeSlice,Sem.run_bind,r_under hok.2,Result.andThen_ok,hu.int_inv,hv.int_inv,asInt,asIntOf,Sem.run_pure,r_info hinf,w1,w2,run_askRoom,r_size hte,hj,if_true]
      rw [if_neg (by simpa using cond)]
      simp only [Sem.run_pure,Result.andThen_ok,run_askRoom,r_size hte,Sem.run_bind,newRow,run_newObj,hj,if_true]
      have : Array.map (fun x => (#[] : Array Value)[x % 0]!) (Array.range 0) = #[]:=by simp
      simp only [List.size_toArray,List.length_nil,this]
      rfl
    · refine OpS.val (x:=.slice (some ⟨w.heap.size,0,none⟩) i.toNat j.toNat) ?_ (hcells ((Array.range (j.toNat * te.size)).map (te.zc.toArray[· % te.zc.toArray.size]!)) (by
        have:=zerosFill j.toNat te.zc (by omega)
        rw [hzl] at this
        exact this)) hval hk
      simp only [execOp,ho,Instr.makeSlice,Sem.run_bind,r_under hok.2,Result.andThen_ok,hu.int_inv,hv.int_inv,asInt,asIntOf,Sem.run_pure,r_info hinf,w1,w2]
      rw [if_neg (by simpa using cond)]
      simp only [Sem.run_pure,Result.andThen_ok,run_askRoom,r_size hte,Sem.run_bind,newRow,run_newObj,hj,if_false,r_zero hte,hzc]
      rfl
  | _ => exact h5.elim
end
end Go.Sy
namespace Go.Sy
open Go
set_option linter.unusedSimpArgs false
set_option linter.unusedVariables false
section
variable {E : Env} {N : Nat} {M M' M1 : Pool} {β β' β1 : Bmap} {T : TT} {O O' O1 O2 : OO} {n : Nat} {a : Act} {w w' : World} {P : Program} {o : Oper} {K : KK}
theorem OR.mono2 {b κ : Nat} {ob : OB} (h : OR M β b κ w ob) (hM : PLe M M') (hb : BLe β β') (hw : κ ≠ 0 → w'.heap[b]? = w.heap[b]?) : OR M' β' b κ w' ob:=by
  cases ob with
  | var c =>
    obtain ⟨hk,hz,cs,e,fz,h1,h2,h3⟩:=h
    exact ⟨hk,hz,cs,e,fz,by rw [hw hk]; exact h1,h2,h3.mono hM hb⟩
  | row c =>
    obtain ⟨hr,hz,h⟩:=h
    refine ⟨hr,hz,?_⟩
    rcases h with ⟨hk,hc,h⟩ | ⟨hk,cc,sp,e,fz,h1,h2,h3,h4⟩
    · exact .inl ⟨hk,hc,h.mono hM hb⟩
    · exact .inr ⟨hk,cc,sp,e,fz,by rw [hw hk]; exact h1,h2,h3.mono hM hb,h4⟩
  | map ks =>
    obtain ⟨hk,es,cl,h1,h2⟩:=h
    exact ⟨hk,es,cl,by rw [hw hk]; exact h1,h2⟩
  | gm f ks vs =>
    obtain ⟨hk,es,cl,h1,h2,h3,h4⟩:=h
    exact ⟨hk,es,cl,by rw [hw hk]; exact h1,h2,h3.mono hM hb,h4⟩
structure Vw (M M1 : Pool) (β : Bmap) (v c : AV) : Prop where
  csz : c.csz = v.csz
  multi : c.multi = v.multi
  row : c.isRow = v.isRow
  cnt : c.cnt = v.cnt
  esz : c.esz = v.esz
  rv : ∀ {cs : List Value},RV M β v cs → RV M1 nob c cs
  vr : ∀ {x : Value},VR M β v x → VR M1 nob c x
theorem Vw.of_nid {v : AV} (h : v.nid = true) (hM : PLe M M1) : Vw M M1 β v v:=⟨rfl,rfl,rfl,rfl,rfl,fun g => (g.nid h nob).mono hM (BLe.refl _),fun g => (g.nid h nob).mono hM (BLe.refl _)⟩
theorem VR.one_cells {v : AV} {x : Value} (hm : v.multi = false) (ht : v.mem = true) (h : VR M β v x) : RV M β v [x]:=h.one_inv hm ht
theorem Vw.of_mp {o : Nat} : Vw M M1 β (.mp o) .opq:=⟨rfl,rfl,rfl,rfl,rfl,fun g => by cases g with | mp _ => exact .opq _ rfl,fun g => by
  have:=VR.one_cells rfl rfl g
  cases this with
  | mp _ => exact .one rfl (.opq _ rfl)⟩
theorem viewC_spec (hst : St E M β O w) (hM : PLe M M1) (hO2 : ∀ o ob,lk O2 o = some ob → lk O o = some ob) (hcell : ∀ o ob b κ,lk O2 o = some ob → β o = some (b,κ) → κ ≠ 0 → ∀ i v,w.cell? ⟨b,i,none⟩ = some v → M1 b i = some v) :
    ∀ (f : Nat) (v : AV) (κ : AV → Prop),viewC O2 f v κ → ∃ c,κ c ∧ Vw M M1 β v c:=by
  intro f
  induction f with
  | zero =>
    intro v κ h
    cases v <;> first | exact h.elim | exact ⟨_,h,.of_nid rfl hM⟩ | exact ⟨_,h,.of_mp⟩
  | succ f ih =>
    have vs : ∀ (ps : List AV) (κ : List AV → Prop),viewC.views (viewC O2 f) ps κ → ∃ qs,κ qs ∧ qs.length = ps.length ∧ AV.cszs qs = AV.cszs ps ∧ (∀ sz,(∀ p ∈ ps,p.csz = sz) → ∀ p ∈ qs,p.csz = sz) ∧ ∀ {cs : List Value},RVs M β ps cs → RVs M1 nob qs cs:=by
      intro ps
      induction ps with
      | nil => intro κ h; exact ⟨[],h,rfl,rfl,fun _ h => h,fun g => by cases g; exact .nil⟩
      | cons p ps ih2 =>
        intro κ h
        obtain ⟨q,h,hq⟩:=ih _ _ h
        obtain ⟨qs,h,l,z,al,g⟩:=ih2 _ h
        refine ⟨_,h,by simp [l],by simp only [AV.cszs,z,hq.csz],fun sz hs => ?_,fun g' => ?_⟩
        · simp only [List.mem_cons,forall_eq_or_imp] at hs ⊢
          exact ⟨by rw [hq.csz]; exact hs.1,al sz hs.2⟩
        · cases g' with | cons g1 g2 => exact .cons (hq.rv g1) (g g2)
    intro v κ h
    cases v with
    | osl o p sz lo len =>
      obtain ⟨ob,hl,h⟩:=objC_spec h
      obtain ⟨c,hc,h⟩:=obC_spec h
      obtain ⟨q,h,hq⟩:=nav_spec _ _ _ h
      obtain ⟨hsz,h⟩:=h
      obtain ⟨r,h,r1,r2,r3,r4,_,r5⟩:=subC_spec h
      obtain ⟨r',⟨k1,k2,hk⟩,hr'⟩:=ih _ _ h
      have key : ∀ {cs : List Value},RV M β (.osl o p sz lo len) cs → RV M1 nob (.sl r') cs:=fun g => by
        cases g with
        | @osl _ _ b κ0 _ _ _ _ cap base hb hcap hkk ha =>
          obtain ⟨cc,hcc,hca⟩:=hst.cells (hO2 _ _ hl) hb hc
          obtain ⟨_,g1⟩:=hq hcc
          obtain ⟨_,g2⟩:=r5 g1
          have g3:=hr'.rv g2
          refine .sl g3 k1 k2 hcap ?_
          rcases ha with ha | ha
          · exact .inl (by omega)
          · refine .inr ⟨b,_,ha,fun i v hv => ?_⟩
            have hv2 : cc[poff p + lo * sz + i]? = some v:=by
              simp only [piece,List.getElem?_take,List.getElem?_drop] at hv
              split at hv
              · split at hv
                · rw [hsz,Nat.add_assoc]; exact hv
                · cases hv
              · cases hv
            have hk0 : κ0 ≠ 0:=by
              rintro rfl
              obtain ⟨b',κ',hb',hor⟩:=hst.objs _ _ (hO2 _ _ hl)
              rw [hb] at hb'; cases hb'
              cases ob with
              | var c' => exact hor.1 rfl
              | map ks => exact hor.1 rfl
              | gm f ks vs => exact hor.1 rfl
              | row c' =>
                obtain rfl : c' = c:=hc
                obtain ⟨_,_,hor⟩:=hor
                rcases hor with ⟨_,_,h3⟩ | ⟨hk0,_⟩
                · have e0:=h3.length
                  have e1:=hcc.length
                  simp only [List.length_nil] at e0
                  rw [List.getElem?_eq_none (by omega)] at hv2
                  cases hv2
                · exact hk0 rfl
            refine hcell _ _ _ _ hl hb hk0 _ _ ?_
            have:=hca _ _ hv2
            rwa [Nat.zero_add] at this
      exact ⟨_,hk,rfl,rfl,rfl,rfl,rfl,key,fun g => .one rfl (key (g.one_inv rfl rfl))⟩
    | ref o p =>
      obtain ⟨ob,hl,h⟩:=objC_spec h
      cases ob with
      | var c =>
        obtain ⟨c',hk,hc'⟩:=ih c _ h
        have key : ∀ {cs : List Value},RV M β (.ref o p) cs → RV M1 nob (.pp c' p) cs:=fun g => by
          cases g with
          | @ref _ _ b κ0 _ hb =>
            obtain ⟨b',κ',hb',hor⟩:=hst.objs _ _ (hO2 _ _ hl)
            rw [hb] at hb'; cases hb'
            have hk0 : κ0 ≠ 0:=hor.1
            obtain ⟨cc,hcc,hca⟩:=hst.cells (hO2 _ _ hl) hb (show obC (.var c) fun d => d = c from rfl)
            have:=RV.pp (M:=M1) (β:=nob) (p:=p) (b:=b) (off:=0) (hc'.rv hcc) (fun i v hv => hcell _ _ _ _ hl hb hk0 _ _ (hca _ _ hv))
            rwa [Nat.zero_add] at this
        exact ⟨_,hk,rfl,rfl,rfl,rfl,rfl,key,fun g => .one rfl (key (g.one_inv rfl rfl))⟩
      | _ => exact h.elim
    | agg ps =>
      obtain ⟨qs,hk,l,z,al,g⟩:=vs _ _ h
      have key : ∀ {cs : List Value},RV M β (.agg ps) cs → RV M1 nob (.agg qs) cs:=fun g' => by cases g' with | agg g' => exact .agg (g g')
      exact ⟨_,hk,by simp only [AV.csz,z],rfl,rfl,rfl,rfl,key,fun g' => by obtain ⟨cs,rfl,g2⟩:=g'.agg_inv rfl rfl; exact .agg rfl (key g2)⟩
    | arr sz ps =>
      obtain ⟨qs,hk,l,z,al,g⟩:=vs _ _ h
      have key : ∀ {cs : List Value},RV M β (.arr sz ps) cs → RV M1 nob (.lst sz qs.length qs) cs:=fun g' => by cases g' with | arr g' hs => exact .lst (g g') (al _ hs) rfl
      exact ⟨_,hk,by simp only [AV.csz,l],rfl,rfl,by simp only [AV.cnt,l],rfl,key,fun g' => by obtain ⟨cs,rfl,g2⟩:=g'.agg_inv rfl rfl; exact .agg rfl (key g2)⟩
    | _ => first | exact h.elim | exact ⟨_,h,.of_nid rfl hM⟩ | exact ⟨_,h,.of_mp⟩
end
open Classical in
noncomputable def poolOf (bor : Bool) (M : Pool) (β : Bmap) (O2 : OO) (w : World) : Pool:=fun b i =>
  if bor = true ∧ ∃ o ob κ,lk O2 o = some ob ∧ β o = some (b,κ) ∧ κ ≠ 0 then w.cell? ⟨b,i,none⟩ else M b i
theorem lk_frzO (F : List Nat) (o : Nat) : ∀ O : OO,lk (frzO O F) o = if F.contains o = true then lk O o else none
  | [] => by simp [frzO,lk]
  | (i,ob) :: O => by
    have ih:=lk_frzO F o O
    simp only [frzO]
    by_cases hi : i = o
    · subst hi
      by_cases h : F.contains i = true
      · rw [if_pos h,if_pos h]; simp [lk]
      · rw [if_neg h,if_neg h,ih,if_neg h]
    · by_cases h : F.contains i = true
      · rw [if_pos h]; simp only [lk,if_neg hi,ih]
      · rw [if_neg h,ih]; simp only [lk,if_neg hi]
theorem lk_dropO (F : List Nat) (o : Nat) : ∀ O : OO,lk (dropO O F) o = if F.contains o = true then none else lk O o
  | [] => by simp [dropO,lk]
  | (i,ob) :: O => by
    have ih:=lk_dropO F o O
    simp only [dropO]
    by_cases hi : i = o
    · subst hi
      by_cases h : F.contains i = true
      · rw [if_pos h,if_pos h,ih,if_pos h]
      · rw [if_neg h,if_neg h]; simp [lk]
    · by_cases h : F.contains i = true
      · rw [if_pos h,ih]; simp only [lk,if_neg hi]
      · rw [if_neg h]; simp only [lk,if_neg hi,ih]
section
variable {E : Env} {N : Nat} {M M' M1 : Pool} {β β' β1 : Bmap} {T : TT} {O O' O1 O2 J : OO} {n : Nat} {a : Act} {w w' : World} {P : Program}
def Views (M M1 : Pool) (β : Bmap) (OF : OO) : Prop:=∀ v κ,viewC OF 9 v κ → ∃ c,κ c ∧ Vw M M1 β v c
theorem St.freeze (h : St E M β O w) (F : List Nat) : ∃ M1,PLe M M1 ∧ Views M M1 β (frzO O F) ∧ St E M1 β (dropO O F) w:=by
  let M1 : Pool:=poolOf true M β (frzO O F) w
  have hin : ∀ o ob,lk (frzO O F) o = some ob → lk O o = some ob ∧ F.contains o = true:=fun o ob hl => by
    rw [lk_frzO] at hl
    split at hl
    · rename_i e; exact ⟨hl,e⟩
    · cases hl
  have hout : ∀ o ob,lk (dropO O F) o = some ob → lk O o = some ob ∧ ¬ F.contains o = true:=fun o ob hl => by
    rw [lk_dropO] at hl
    split at hl
    · cases hl
    · rename_i e; exact ⟨hl,e⟩
  have hM : PLe M M1:=fun b i v hm => by
    show poolOf true M β (frzO O F) w b i = some v
    unfold poolOf
    rw [if_neg]
    · exact hm
    · rintro ⟨_,o,ob,κ,h1,h2,h3⟩
      have:=(h.mine o ob b κ (hin _ _ h1).1 h2 h3).1 i
      rw [this] at hm; cases hm
  have cases1 : ∀ b i v,M1 b i = some v → ((∃ o ob κ,lk (frzO O F) o = some ob ∧ β o = some (b,κ) ∧ κ ≠ 0) ∧ w.cell? ⟨b,i,none⟩ = some v) ∨ M b i = some v:=fun b i v hm => by
    have hm : poolOf true M β (frzO O F) w b i = some v:=hm
    unfold poolOf at hm
    split at hm
    · rename_i e; exact .inl ⟨e.2,hm⟩
    · exact .inr hm
  refine ⟨M1,hM,?_,?_⟩
  · intro v κ hv
    refine viewC_spec h hM (fun o ob h => (hin o ob h).1) (fun o ob b κ h1 h2 h3 i v h4 => ?_) 9 v κ hv
    show poolOf true M β (frzO O F) w b i = some v
    unfold poolOf
    rw [if_pos ⟨rfl,o,ob,κ,h1,h2,h3⟩]
    exact h4
  · refine ⟨fun b i v hm => ?_,fun b i v hm => hM _ _ _ (h.sub _ _ _ hm),fun b i v hm => ?_,fun o ob hl => ?_,fun o ob b κ hl hb hk => ⟨fun i => ?_,(h.mine o ob b κ (hout _ _ hl).1 hb hk).2⟩,fun o o' ob ob' b κ κ' hl hl' => h.inj o o' ob ob' b κ κ' (hout _ _ hl).1 (hout _ _ hl').1,h.size,h.keep,h.os,h.tape,h.output⟩
    · rcases cases1 b i v hm with ⟨_,g⟩ | g
      · exact g
      · exact h.pool _ _ _ g
    · rcases cases1 b i v hm with ⟨⟨o,ob,κ,h1,h2,h3⟩,_⟩ | g
      · exact .inr (h.mine o ob b κ (hin _ _ h1).1 h2 h3).2
      · exact h.only _ _ _ g
    · obtain ⟨b,κ,hb,hor⟩:=h.objs _ _ (hout _ _ hl).1
      exact ⟨b,κ,hb,hor.mono2 hM (BLe.refl _) fun _ => rfl⟩
    · cases hc : M1 b i with
      | none => rfl
      | some v =>
        exfalso
        rcases cases1 b i v hc with ⟨⟨o',ob',κ',h1,h2,h3⟩,_⟩ | g
        · obtain ⟨g1,g2⟩:=hin _ _ h1
          obtain ⟨g3,g4⟩:=hout _ _ hl
          have:=h.inj _ _ _ _ _ _ _ g3 g1 hb h2 hk h3
          subst this
          exact g4 g2
        · rw [(h.mine o ob b κ (hout _ _ hl).1 hb hk).1 i] at g; cases g
end
end Go.Sy
