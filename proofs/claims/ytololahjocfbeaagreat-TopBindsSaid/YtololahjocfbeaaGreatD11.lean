/- Texts,joined. -/
import Derived.WalkKit
import Derived.ProofKit
import Derived.OpenShut
import Derived.ShutString
import Derived.ChangeOld
import Derived.Below
import Derived.Carry
import Derived.SizedLaws
import Derived.ChangeSlices
import Derived.Test.YtololahjocfbeaaGreatD06
import Derived.Test.YtololahjocfbeaaGreatD08
import Derived.Test.YtololahjocfbeaaGreatD07
import Derived.Test.YtololahjocfbeaaGreatD09
namespace Go.Sy
open Go Go.ChangeShapes Go.WideShapes Go.ChangeAt Go.RowKit
set_option linter.unusedSimpArgs false
set_option linter.unusedVariables false
inductive TD where
  | int (k : IntKind)
  | bool
  | str
  | arr (n : Nat) (e : TD)
  | st (fs : List TD)
  | sl (bs : Nat) (e : TD)
mutual
def TD.cs : TD → Nat
  | .int _ | .bool | .str | .sl .. => 1
  | .arr n e => n * e.cs
  | .st fs => TD.css fs
def TD.css : List TD → Nat
  | [] => 0
  | f :: fs => f.cs + TD.css fs
end
def TD.ik : TD → Option IntKind
  | .int k => some k
  | _ => none
mutual
def TD.has : TD → AV → Prop
  | .int k,v => ∃ n,v = .int k n ∧ (Lit.int k n).wf = true
  | .bool,v => ∃ b,v = .bool b
  | .str,v => ∃ s,v = .str s ∧ s.length ≤ reachBytes
  | .arr n e,v => match e.ik with
    | some k => ∃ xs,v = .ints k n xs ∧ xs.length = n ∧ ∀ x ∈ xs,(Lit.int k x).wf = true
    | none => ∃ es,v = .lst e.cs n es ∧ es.length = n ∧ ∀ x ∈ es,e.has x
  | .st fs,v => ∃ ps,v = .agg ps ∧ TD.hass fs ps
  | .sl bs e,v => match e.ik with
    | some k => ∃ xs,v = .sl (.ints k xs.length xs) ∧ xs.length * bs ≤ reachBytes ∧ xs.length ≤ maxLen ∧ ∀ x ∈ xs,(Lit.int k x).wf = true
    | none => ∃ es,v = .sl (.lst e.cs es.length es) ∧ es.length * bs ≤ reachBytes ∧ es.length ≤ maxLen ∧ ∀ x ∈ es,e.has x
def TD.hass : List TD → List AV → Prop
  | [],ps => ps = []
  | f :: fs,ps => ∃ p q,ps = p :: q ∧ f.has p ∧ TD.hass fs q
end
mutual
def TD.ok (P : Program) : TD → TypeId → Bool
  | .int k,t => P.cellsOf t == 1 && match P.underlying t with | some (.int k') => k' == k | _ => false
  | .bool,t => P.cellsOf t == 1 && match P.underlying t with | some .bool => true | _ => false
  | .str,t => P.cellsOf t == 1 && match P.underlying t with | some .string => true | _ => false
  | .arr n e,t => P.cellsOf t == n * e.cs && match P.underlying t with | some (.array m u) => m == n && e.ok P u | _ => false
  | .st fs,t => P.cellsOf t == TD.css fs && match P.underlying t with | some (.struct gs) => TD.oks P fs gs.toList 0 | _ => false
  | .sl bs e,t => P.cellsOf t == 1 && Nat.ble 1 e.cs && match P.underlying t with | some (.slice u) => P.bytesOf u == bs && e.ok P u | _ => false
def TD.oks (P : Program) : List TD → List Field → Nat → Bool
  | [],[],_ => true
  | d :: ds,f :: fs,off => f.offset == off && d.ok P f.type && TD.oks P ds fs (off + d.cs)
  | _,_,_ => false
end
def allPool (w : World) : Pool:=fun b i => w.cell? ⟨b,i,none⟩
theorem TD.ok_cs {P : Program} : ∀ {d : TD} {t : TypeId},d.ok P t = true → P.cellsOf t = d.cs:=by
  intro d t h
  cases d <;> simp only [TD.ok,Bool.and_eq_true,beq_iff_eq] at h <;> simp only [TD.cs]
  all_goals first | exact h.1.1 | exact h.1
theorem rv_int {M : Pool} {β : Bmap} {k : IntKind} {cs : List Value} {v : AV} (h : RV M β v cs) (hv : ∃ n,v = .int k n ∧ (Lit.int k n).wf = true) : ∃ n,cs = [.int k n] ∧ (Lit.int k n).wf = true:=by
  obtain ⟨n,rfl,hw⟩:=hv
  cases h
  exact ⟨n,rfl,hw⟩
theorem ik_has {d : TD} {k : IntKind} (h : d.ik = some k) : d = .int k:=by cases d <;> simp [TD.ik] at h; subst h; rfl
theorem rows_of {M : Pool} {d : TD} : ∀ (n : Nat) (cs : List Value),cs.length = n * d.cs → (∀ i,i < n → ∃ v,RV M nob v ((cs.drop (i * d.cs)).take d.cs) ∧ d.has v ∧ v.csz = d.cs) →
    ∃ es,RVs M nob es cs ∧ es.length = n ∧ (∀ x ∈ es,d.has x) ∧ ∀ x ∈ es,x.csz = d.cs
  | 0,cs,hl,_ => by
    have : cs = []:=by simpa using hl
    subst this
    exact ⟨[],.nil,rfl,by simp,by simp⟩
  | n + 1,cs,hl,h => by
    obtain ⟨v,h1,h2,h3⟩:=h 0 (by omega)
    rw [Nat.add_mul,Nat.one_mul] at hl
    obtain ⟨es,k1,k2,k3,k4⟩:=rows_of (M:=M) (d:=d) n (cs.drop d.cs) (by rw [List.length_drop]; omega) (fun i hi => by
      have:=h (i + 1) (by omega)
      rw [List.drop_drop,show d.cs + i * d.cs = (i + 1) * d.cs by rw [Nat.add_mul]; omega]
      exact this)
    refine ⟨v :: es,?_,by simp [k2],?_,?_⟩
    · have:=RVs.cons h1 k1
      simpa using this
    · intro x hx; rcases List.mem_cons.1 hx with rfl | hx
      · exact h2
      · exact k3 x hx
    · intro x hx; rcases List.mem_cons.1 hx with rfl | hx
      · exact h3
      · exact k4 x hx
theorem ints_of {M : Pool} {k : IntKind} : ∀ {es : List AV} {cs : List Value},RVs M nob es cs → (∀ x ∈ es,(TD.int k).has x) → ∃ xs : List Int,cs = xs.map (.int k) ∧ xs.length = es.length ∧ ∀ x ∈ xs,(Lit.int k x).wf = true
  | [],_,h,_ => by cases h; exact ⟨[],rfl,rfl,by simp⟩
  | e :: es,_,h,hd => by
    cases h with
    | cons h hs =>
      obtain ⟨n,rfl,hw⟩:=rv_int (k:=k) h (by have:=hd e (by simp); simpa only [TD.has] using this)
      obtain ⟨xs,rfl,hl,hx⟩:=ints_of hs (fun x hx => hd x (by simp [hx]))
      exact ⟨n :: xs,by simp,by simp [hl],by
        intro x hx'
        rcases List.mem_cons.1 hx' with rfl | hx'
        · exact hw
        · exact hx x hx'⟩
section
variable {H : Type} {enc : TypeId × Value → H} {P : Program} {W : World}
theorem weights_all {e : TypeId} : ∀ {ds : List (DataW H)},(DataW.weightsAll P e ds).all (· ≤ reachBytes) = true → ∀ d ∈ ds,(d.weights P e).all (· ≤ reachBytes) = true
  | [],_,_,h => by cases h
  | d :: ds,hz,x,hx => by
    simp only [DataW.weightsAll,List.all_append,Bool.and_eq_true] at hz
    rcases List.mem_cons.1 hx with rfl | hx
    · exact hz.1
    · exact weights_all hz.2 x hx
theorem weights_each : ∀ {ts : List TypeId} {ds : List (DataW H)},(DataW.weightsEach P ts ds).all (· ≤ reachBytes) = true → ∀ (i : Nat) t d,ts[i]? = some t → ds[i]? = some d → (d.weights P t).all (· ≤ reachBytes) = true
  | [],_,_,i,t,d,h,_ => by simp at h
  | _ :: _,[],_,i,t,d,_,h => by simp at h
  | t :: ts,d :: ds,hz,0,_,_,h1,h2 => by
    simp only [DataW.weightsEach,List.all_append,Bool.and_eq_true] at hz
    simp at h1 h2
    subst h1; subst h2
    exact hz.1
  | t :: ts,d :: ds,hz,i + 1,_,_,h1,h2 => by
    simp only [DataW.weightsEach,List.all_append,Bool.and_eq_true] at hz
    exact weights_each hz.2 i _ _ (by simpa using h1) (by simpa using h2)
theorem slice_cells {b off c : Nat} {e : TypeId} {elems : List (DataW H × List MemPlace)} (hc : P.cellsOf e = c) {m : Nat} : ∀ (len : Nat),
    (∀ i,i < len → (W.cells? 0 ((⟨b,off,none⟩ : Addr).add (i * P.cellsOf e)) (P.cellsOf e)).bind (DataW.trod enc P W 0 (fun _ => true) true m e) = elems[i]?) → len ≤ elems.length →
    ∃ cc : List Value,cc.length = len * c ∧ (∀ i,i < len * c → W.cell? ⟨b,off + i,none⟩ = cc[i]?) ∧ ∀ i,i < len → DataW.trod enc P W 0 (fun _ => true) true m e ((cc.drop (i * c)).take c) = elems[i]?
  | 0,_,_ => ⟨[],by simp,by simp,by simp⟩
  | len + 1,h,hl => by
    obtain ⟨cc,h1,h2,h3⟩:=slice_cells hc len (fun i hi => h i (by omega)) (by omega)
    have hx:=h len (by omega)
    rw [List.getElem?_eq_getElem (show len < elems.length by omega),Option.bind_eq_some_iff] at hx
    obtain ⟨cs,h4,h5⟩:=hx
    obtain ⟨_,h6,h7⟩:=World.cells?_some h4
    rw [hc] at h6 h7
    rw [add_plain] at h7
    refine ⟨cc ++ cs,by simp [h1,h6,Nat.add_mul],fun i hi => ?_,fun i hi => ?_⟩
    · rw [Nat.add_mul,Nat.one_mul] at hi
      by_cases hi2 : i < len * c
      · rw [List.getElem?_append_left (by omega)]; exact h2 i hi2
      · rw [List.getElem?_append_right (by omega),h1]
        have:=h7 (i - len * c) (by omega)
        rw [add_plain] at this
        rw [show off + i = off + len * c + (i - len * c) by omega]
        exact this
    · by_cases hi2 : i < len
      · rw [← h3 i hi2,List.drop_append_of_le_length,List.take_append_of_le_length]
        · have : (i + 1) * c ≤ len * c:=Nat.mul_le_mul_right _ hi2
          simp [h1]; rw [Nat.add_mul] at this; omega
        · have : i * c ≤ len * c:=Nat.mul_le_mul_right _ (by omega)
          omega
      · obtain rfl : i = len:=by omega
        rw [← h1,List.drop_left,List.take_of_length_le (by omega),h5,List.getElem?_eq_getElem]
theorem has_row {d : TD} {es : List AV} {cc : List Value} {M : Pool} (hv : RVs M nob es cc) (h : ∀ x ∈ es,d.has x) (hz : ∀ x ∈ es,x.csz = d.cs) : match d.ik with
    | some k => ∃ xs : List Int,RV M nob (.ints k es.length xs) cc ∧ xs.length = es.length ∧ ∀ x ∈ xs,(Lit.int k x).wf = true
    | none => RV M nob (.lst d.cs es.length es) cc:=by
  split
  · rename_i k hk
    rw [ik_has hk] at h
    obtain ⟨xs,rfl,hl,hx⟩:=ints_of hv h
    exact ⟨xs,RV.ints k hl,hl,hx⟩
  · exact RV.lst hv hz rfl
mutual
theorem of_trod : ∀ (d : TD) (fuel : Nat) (t : TypeId) (cs : List Value) (x : DataW H × List MemPlace),DataW.trod enc P W 0 (fun _ => true) true fuel t cs = some x → d.ok P t = true → (x.1.weights P t).all (· ≤ reachBytes) = true →
    ∃ v,RV (allPool W) nob v cs ∧ d.has v ∧ v.csz = d.cs
  | .int k,fuel,t,cs,x,h,ht,_ => by
    simp only [TD.ok,Bool.and_eq_true] at ht
    have hu : P.underlying t = some (.int k):=by
      have:=ht.2; split at this
      · rename_i k' hk; rw [hk]; simp at this; rw [this]
      · cases this
    obtain ⟨n,rfl,rfl,hw⟩:=DataW.trod_int hu h
    exact ⟨.int k n,.int k n,⟨n,rfl,hw⟩,rfl⟩
  | .bool,fuel,t,cs,x,h,ht,_ => by
    simp only [TD.ok,Bool.and_eq_true] at ht
    have hu : P.underlying t = some .bool:=by
      have:=ht.2; split at this
      · assumption
      · cases this
    obtain ⟨b,rfl,rfl⟩:=DataW.trod_bool hu h
    exact ⟨.bool b,.bool b,⟨b,rfl⟩,rfl⟩
  | .str,fuel,t,cs,x,h,ht,hz => by
    simp only [TD.ok,Bool.and_eq_true] at ht
    have hu : P.underlying t = some .string:=by
      have:=ht.2; split at this
      · assumption
      · cases this
    obtain ⟨s,rfl,rfl,hs⟩:=DataW.trod_string hu h
    refine ⟨.str s.data.toList,?_,⟨s.data.toList,rfl,?_⟩,rfl⟩
    · have:=RV.str (M:=allPool W) (β:=nob) s.data.toList
      simpa using this
    · simpa [DataW.weights] using hz
  | .arr n e,fuel,t,cs,x,h,ht,hz => by
    simp only [TD.ok,Bool.and_eq_true] at ht
    obtain ⟨u,hu,he⟩ : ∃ u,P.underlying t = some (.array n u) ∧ e.ok P u = true:=by
      have:=ht.2; split at this
      · rename_i m u hk
        simp only [Bool.and_eq_true,beq_iff_eq] at this
        exact ⟨u,by rw [hk,this.1],this.2⟩
      · cases this
    have hc:=TD.ok_cs he
    obtain ⟨xs,m,_,rfl,hl,hn,hx⟩:=DataW.trod_array hu h
    simp only [DataW.weights,hu] at hz
    have hw:=weights_all hz
    rw [hc] at hx
    have hcs : cs.length = n * e.cs:=by rw [hl]; simpa using ht.1
    obtain ⟨es,h1,h2,h3,h4⟩:=rows_of (M:=allPool W) (d:=e) n cs hcs (fun i hi => by
      have hy:=hx i hi
      rw [List.getElem?_eq_getElem (by omega)] at hy
      exact of_trod e m u _ _ hy he (hw _ (List.mem_map.2 ⟨_,List.getElem_mem _,rfl⟩)))
    have:=has_row h1 h3 h4
    simp only [TD.has,TD.cs]
    split at this
    · rename_i k hk
      obtain ⟨zs,h5,h6,h7⟩:=this
      rw [h2] at h5 h6
      exact ⟨_,h5,⟨zs,rfl,h6,h7⟩,by rw [ik_has hk]; simp [AV.csz,TD.cs]⟩
    · rename_i hk
      rw [h2] at this
      exact ⟨_,this,⟨es,rfl,h2,h3⟩,by simp [AV.csz]⟩
  | .st fs,fuel,t,cs,x,h,ht,hz => by
    simp only [TD.ok,Bool.and_eq_true] at ht
    obtain ⟨gs,hu,he⟩ : ∃ gs,P.underlying t = some (.struct gs) ∧ TD.oks P fs gs.toList 0 = true:=by
      have:=ht.2; split at this
      · rename_i gs hk
        exact ⟨gs,hk,this⟩
      · cases this
    obtain ⟨xs,m,_,rfl,hl,hn,hx⟩:=DataW.trod_struct hu h
    simp only [DataW.weights,hu] at hz
    have hw:=weights_each hz
    obtain ⟨ps,h1,h2,h3⟩:=of_trods fs gs.toList m cs 0 xs (by rw [hl]; simpa using ht.1) (fun i f hf => by simpa using hx i f (by simpa using hf)) he (fun i f y hf hy => hw i _ _ (by simp at hf; simp [hf]) (by simp [hy])) (by simpa using hn)
    exact ⟨.agg ps,.agg h1,⟨ps,rfl,h2⟩,h3⟩
  | .sl bs e,fuel,t,cs,x,h,ht,hz => by
    simp only [TD.ok,Bool.and_eq_true] at ht
    obtain ⟨u,hu,hb,he⟩ : ∃ u,P.underlying t = some (.slice u) ∧ P.bytesOf u = bs ∧ e.ok P u = true:=by
      have:=ht.2; split at this
      · rename_i u hk
        simp only [Bool.and_eq_true,beq_iff_eq] at this
        exact ⟨u,hk,this.1,this.2⟩
      · cases this
    have hc:=TD.ok_cs he
    have hpos : 1 ≤ e.cs:=Nat.le_of_ble_eq_true ht.1.2
    rcases DataW.trod_slice hu h with ⟨rfl,rfl⟩ | ⟨a,len,cap,elems,rest,m,_,rfl,rfl,_,hl,hm,hlen,hel,_,_⟩
    · simp only [TD.has,TD.cs]
      split
      · rename_i k hk
        exact ⟨.sl (.ints k 0 []),.sl (cc:=[]) (RV.ints (xs:=[]) k rfl) rfl rfl (Nat.le_refl _) (.inl rfl),⟨[],rfl,by simp,by simp,by simp⟩,rfl⟩
      · exact ⟨.sl (.lst e.cs 0 []),.sl (cc:=[]) (.lst .nil (by simp) rfl) rfl rfl (Nat.le_refl _) (.inl rfl),⟨[],rfl,by simp,by simp,by simp⟩,rfl⟩
    · simp only [DataW.weights,hu,List.all_cons,List.all_append,Bool.and_eq_true,decide_eq_true_eq] at hz
      have hw:=weights_all hz.2.1
      have hsp : len = 0 ∨ ∃ b off,a = ⟨b,off,none⟩:=by
        cases len with
        | zero => exact .inl rfl
        | succ l =>
          right
          have h0:=hel 0 (by omega)
          rw [List.getElem?_eq_getElem (by omega),Option.bind_eq_some_iff] at h0
          obtain ⟨c0,hc0,_⟩:=h0
          obtain ⟨_,hlen0,hcell⟩:=World.cells?_some hc0
          have h1:=hcell 0 (by omega)
          rw [List.getElem?_eq_getElem (by omega)] at h1
          obtain ⟨b,off,spot⟩:=a
          have hs : spot = none:=by simpa [Addr.add] using World.cell?_spot h1
          exact ⟨b,off,by rw [hs]⟩
      have key : ∃ cc : List Value,cc.length = len * e.cs ∧ (len = 0 ∨ ∃ b off,some a = some ⟨b,off,none⟩ ∧ ∀ i v,cc[i]? = some v → allPool W b (off + i) = some v) ∧ ∀ i,i < len → DataW.trod enc P W 0 (fun _ => true) true m u ((cc.drop (i * e.cs)).take e.cs) = elems[i]?:=by
        rcases hsp with rfl | ⟨b,off,rfl⟩
        · exact ⟨[],by simp,.inl rfl,by simp⟩
        · obtain ⟨cc,h1,h2,h3⟩:=slice_cells hc len hel (by omega)
          refine ⟨cc,h1,.inr ⟨b,off,rfl,fun i v hv => ?_⟩,h3⟩
          have : i < cc.length:=(List.getElem?_eq_some_iff.1 hv).1
          show W.cell? _ = _
          rw [h2 i (by omega),hv]
      obtain ⟨cc,h1,h2,h3⟩:=key
      obtain ⟨es,k1,k2,k3,k4⟩:=rows_of (M:=allPool W) (d:=e) len cc h1 (fun i hi => by
        have hy:=h3 i hi
        rw [List.getElem?_eq_getElem (by omega)] at hy
        exact of_trod e m u _ _ hy he (hw _ (List.mem_map.2 ⟨_,List.getElem_mem _,rfl⟩)))
      have hbl : es.length * bs ≤ reachBytes:=by
        refine Nat.le_trans ?_ hz.1
        rw [hb,k2,List.length_map,hlen]
        exact Nat.mul_le_mul_right _ (Nat.le_add_right _ _)
      have hrow:=has_row k1 k3 k4
      simp only [TD.has,TD.cs]
      split at hrow
      · rename_i k hk
        obtain ⟨zs,h5,h6,h7⟩:=hrow
        refine ⟨.sl (.ints k zs.length zs),.sl (cc:=cc) (by rw [h6]; exact h5) rfl (by simp [AV.cnt]; omega) hl h2,⟨zs,rfl,by rw [h6]; exact hbl,by omega,h7⟩,rfl⟩
      · rename_i hk
        exact ⟨.sl (.lst e.cs es.length es),.sl (cc:=cc) hrow rfl (by simp [AV.cnt]; omega) hl h2,⟨es,rfl,hbl,by omega,k3⟩,rfl⟩
theorem of_trods : ∀ (ds : List TD) (gs : List Field) (fuel : Nat) (cs : List Value) (off : Nat) (xs : List (DataW H × List MemPlace)),cs.length = off + TD.css ds →
    (∀ (i : Nat) (f : Field),gs[i]? = some f → DataW.trod enc P W 0 (fun _ => true) true fuel f.type ((cs.drop f.offset).take (P.cellsOf f.type)) = xs[i]?) → TD.oks P ds gs off = true →
    (∀ (i : Nat) (f : Field) (y : DataW H × List MemPlace),gs[i]? = some f → xs[i]? = some y → (y.1.weights P f.type).all (· ≤ reachBytes) = true) → xs.length = gs.length →
    ∃ ps,RVs (allPool W) nob ps (cs.drop off) ∧ TD.hass ds ps ∧ AV.cszs ps = TD.css ds
  | [],[],fuel,cs,off,xs,hl,h,ht,hw,hx => by
    rw [List.drop_eq_nil_of_le (by simp [TD.css] at hl; omega)]
    exact ⟨[],.nil,rfl,rfl⟩
  | [],_ :: _,_,_,_,_,_,_,ht,_,_ => by simp [TD.oks] at ht
  | _ :: _,[],_,_,_,_,_,_,ht,_,_ => by simp [TD.oks] at ht
  | d :: ds,g :: gs,fuel,cs,off,xs,hl,h,ht,hw,hx => by
    simp only [TD.oks,Bool.and_eq_true,beq_iff_eq] at ht
    have hc:=TD.ok_cs ht.1.2
    match xs,hx with
    | y :: ys,hx =>
      have h0:=h 0 g rfl
      rw [ht.1.1,hc] at h0
      obtain ⟨v,k1,k2,k3⟩:=of_trod d fuel _ _ y (by simpa using h0) ht.1.2 (hw 0 g y rfl rfl)
      obtain ⟨ps,j1,j2,j3⟩:=of_trods ds gs fuel cs (off + d.cs) ys (by simp [TD.css] at hl; omega) (fun i f hf => by simpa using h (i + 1) f (by simpa using hf)) ht.2 (fun i f z hf hz => hw (i + 1) f z (by simpa using hf) (by simpa using hz)) (by simpa using hx)
      refine ⟨v :: ps,?_,⟨v,ps,rfl,k2,j2⟩,by simp [AV.cszs,TD.css,k3,j3]⟩
      have:=RVs.cons k1 j1
      rw [← List.drop_drop,List.take_append_drop] at this
      exact this
end
end
end Go.Sy
namespace Go.Sy
open Go Go.ChangeShapes Go.WideShapes Go.ChangeAt Go.RowKit
set_option linter.unusedSimpArgs false
set_option linter.unusedVariables false
def TD.okl (P : Program) : List TD → List TypeId → Bool
  | [],[] => true
  | d :: ds,t :: ts => d.ok P t && TD.okl P ds ts
  | _,_ => false
def TD.many : TD → Bool
  | .arr .. | .st _ => true
  | _ => false
theorem has_multi : ∀ {d : TD} {v : AV},d.has v → v.multi = d.many:=by
  intro d v h
  cases d with
  | int k => simp only [TD.has] at h; obtain ⟨n,rfl,_⟩:=h; rfl
  | bool => simp only [TD.has] at h; obtain ⟨n,rfl⟩:=h; rfl
  | str => simp only [TD.has] at h; obtain ⟨n,rfl,_⟩:=h; rfl
  | arr n e =>
    simp only [TD.has] at h
    split at h <;> obtain ⟨n,rfl,_⟩:=h <;> rfl
  | st fs => simp only [TD.has] at h; obtain ⟨n,rfl,_⟩:=h; rfl
  | sl b e =>
    simp only [TD.has] at h
    split at h <;> obtain ⟨n,rfl,_⟩:=h <;> rfl
section
variable {H : Type} {enc : TypeId × Value → H} {P : Program} {W : World}
theorem arg_of {d : TD} {t : TypeId} {v : Value} {x : DataW H} {ps : List MemPlace} (ht : d.ok P t = true) {b0 : Nat} (hval : Value.okWide P W .any b0 t v) (h : DataW.Trod enc P W 0 (fun _ => true) true t v x ps)
    (hz : (x.weights P t).all (· ≤ reachBytes) = true) : ∃ a,VR (allPool W) nob a v ∧ d.has a:=by
  obtain ⟨fuel,h⟩:=h
  obtain ⟨a,h1,h2,h3⟩:=of_trod d fuel t _ _ h ht hz
  refine ⟨a,?_,h2⟩
  have hm:=has_multi h2
  cases d with
  | int k =>
    obtain ⟨n,hc,_⟩:=rv_int (k:=k) h1 (by simpa only [TD.has] using h2)
    simp only [TD.ok,Bool.and_eq_true] at ht
    have hu : P.underlying t = some (.int k):=by
      have:=ht.2; split at this
      · rename_i k' hk; rw [hk]; simp at this; rw [this]
      · cases this
    unfold Value.okWide at hval
    rw [hu] at hval
    simp only [Cell.okWide,hu] at hval
    cases v <;> simp [Cell.ok,hu] at hval
    simp [Value.cells] at h1
    exact .one hm h1
  | bool =>
    simp only [TD.ok,Bool.and_eq_true] at ht
    have hu : P.underlying t = some .bool:=by
      have:=ht.2; split at this
      · assumption
      · cases this
    unfold Value.okWide at hval
    rw [hu] at hval
    simp only [Cell.okWide,hu] at hval
    cases v <;> simp [Cell.ok,hu] at hval
    simp [Value.cells] at h1
    exact .one hm h1
  | str =>
    simp only [TD.ok,Bool.and_eq_true] at ht
    have hu : P.underlying t = some .string:=by
      have:=ht.2; split at this
      · assumption
      · cases this
    unfold Value.okWide at hval
    rw [hu] at hval
    simp only [Cell.okWide,hu] at hval
    cases v <;> simp [Cell.ok,hu] at hval
    simp [Value.cells] at h1
    exact .one hm h1
  | sl b e =>
    simp only [TD.ok,Bool.and_eq_true] at ht
    obtain ⟨u,hu⟩ : ∃ u,P.underlying t = some (.slice u):=by
      have:=ht.2; split at this
      · rename_i u hk; exact ⟨u,hk⟩
      · cases this
    obtain ⟨a0,l,c,rfl⟩:=okWide_slice hu hval
    simp [Value.cells] at h1
    exact .one hm h1
  | arr n e =>
    simp only [TD.ok,Bool.and_eq_true] at ht
    obtain ⟨m,u,hu⟩ : ∃ m u,P.underlying t = some (.array m u):=by
      have:=ht.2; split at this
      · rename_i m u hk; exact ⟨m,u,hk⟩
      · cases this
    unfold Value.okWide at hval
    rw [hu] at hval
    obtain ⟨cs,rfl,_,_⟩:=hval
    simp only [Value.cells] at h1
    have:=VR.agg hm h1
    simpa using this
  | st fs =>
    simp only [TD.ok,Bool.and_eq_true] at ht
    obtain ⟨u,hu⟩ : ∃ u,P.underlying t = some (.struct u):=by
      have:=ht.2; split at this
      · rename_i u hk; exact ⟨u,hk⟩
      · cases this
    unfold Value.okWide at hval
    rw [hu] at hval
    obtain ⟨cs,rfl,_,_⟩:=hval
    simp only [Value.cells] at h1
    have:=VR.agg hm h1
    simpa using this
theorem args_of : ∀ (tds : List TD) (ts : List TypeId) (vs : List Value) (ds : List (DataW H)) (ps : List MemPlace),DataW.TrodAll enc P W 0 (fun _ => true) true ts vs ds ps → TD.okl P tds ts = true →
    (∀ (j : Nat) t v,ts[j]? = some t → vs[j]? = some v → ∃ b0,Value.okWide P W .any b0 t v) → (DataW.weightsEach P ts ds).all (· ≤ reachBytes) = true →
    (∃ as0,VRs (allPool W) nob as0 vs ∧ TD.hass tds as0) ∧ ds.length = ts.length
  | [],[],vs,ds,ps,h,_,_,_ => by
    obtain ⟨rfl,rfl,_⟩ : vs = [] ∧ ds = [] ∧ ps = []:=by
      cases vs <;> cases ds <;> simp_all [DataW.TrodAll]
    exact ⟨⟨[],.nil,rfl⟩,rfl⟩
  | [],_ :: _,_,_,_,_,ht,_,_ => by simp [TD.okl] at ht
  | _ :: _,[],_,_,_,_,ht,_,_ => by simp [TD.okl] at ht
  | d :: tds,t :: ts,vs,ds,ps,h,ht,hv,hz => by
    match vs,ds with
    | [],[] => simp [DataW.TrodAll] at h
    | [],_ :: _ => simp [DataW.TrodAll] at h
    | _ :: _,[] => simp [DataW.TrodAll] at h
    | v :: vs,x :: ds =>
      obtain ⟨p,q,h1,h2,_⟩:=h
      simp only [TD.okl,Bool.and_eq_true] at ht
      simp only [DataW.weightsEach,List.all_append,Bool.and_eq_true] at hz
      obtain ⟨b0,hb⟩:=hv 0 t v rfl rfl
      obtain ⟨a,k1,k2⟩:=arg_of ht.1 hb h1 hz.1
      obtain ⟨⟨as0,k3,k4⟩,hl⟩:=args_of tds ts vs ds q h2 ht.2 (fun j t v h h' => hv (j + 1) t v (by simpa using h) (by simpa using h')) hz.2
      exact ⟨⟨a :: as0,.cons k1 k3,⟨a,as0,rfl,k2,k4⟩⟩,by simp [hl]⟩
theorem below_all (hl : laidOutB P = true) {W' : World} (bel : Below W.heap.size W W') : ∀ (ts : List TypeId) (vs : List Value) (ds : List (DataW H)) (ps : List MemPlace),ts.all (fun t => P.readableRec t && decide (t < P.types.size)) = true →
    DataW.TrodAll enc P W 0 (fun _ => true) true ts vs ds ps → DataW.TrodAll enc P W' 0 (fun b => decide (b < W.heap.size)) true ts vs ds ps
  | [],[],[],ps,_,h => h
  | [],[],_ :: _,_,_,h => h.elim
  | [],_ :: _,_,_,_,h => by cases h
  | _ :: _,[],_,_,_,h => by cases h
  | _ :: _,_ :: _,[],_,_,h => by cases h
  | t :: ts,v :: vs,d :: ds,ps,hr,⟨p,q,h1,h2,e⟩ => by
    simp only [List.all_cons,Bool.and_eq_true,decide_eq_true_eq] at hr
    exact ⟨p,q,Below.trod hl hr.1.1 hr.1.2 h1 bel (fun x hx => by obtain ⟨m,hm⟩:=h1; exact DataW.trod_lt m _ _ _ hm x hx),below_all hl bel ts vs ds q hr.2 h2,e⟩
theorem law_calls {f : FuncId} {fn : Func} {s : ChangeSpec} {tds : List TD} (hl : laidOutB P = true) (hro : fn.params.toList.all (fun t => P.readableRec t && decide (t < P.types.size)) = true) (hok : TD.okl P tds fn.params.toList = true) (hs : s.vars = [])
    (hfn : ∀ (ds : List (DataW H)),ds.length = fn.params.toList.length → s.fn H ds = { results:=[.lit (.bool true)],args:=ds }) {tb : TypeId} (hres : fn.resultTypes = #[tb]) (htb : P.underlying tb = some .bool)
    (hX : ∀ as0,TD.hass tds as0 → FnC P f as0 [] (.bool true) []) {base : Nat} {args : Array Value} {ds gs : List (DataW H)} {before : List MemPlace}
    (hval : ∀ (j : Nat) t v,fn.params[j]? = some t → args[j]? = some v → Value.okWide P W .any base t v)
    (hW : DataW.Whole enc P fn.params.toList s.vars false W args.toList ds gs before)
    (hsz : (DataW.weightsEach P (fn.params.toList ++ s.plain.varTypes P) (ds ++ gs)).all (· ≤ reachBytes) = true) :
    Calls P f args W fun e W' => ∃ v,e = .returned v ∧ s.post enc P fn false true false false W args v W':=by
  have hW':=hW
  obtain ⟨p,q,hA,hV,rfl,hfz,hnd⟩:=hW
  rw [hs] at hV
  obtain ⟨rfl,rfl⟩:=trodVars_none hV
  have hvt : s.plain.varTypes P = []:=by simp [ChangeSpec.plain,DataSpec.varTypes,hs]
  rw [hvt,List.append_nil,List.append_nil] at hsz
  obtain ⟨⟨as0,h1,h2⟩,hlen⟩:=args_of tds _ _ _ _ hA hok (fun j t v h h' => ⟨base,hval j t v (by simpa using h) (by simpa using h')⟩) hsz
  have hst : St ⟨W,ownOf [] nob,allPool W,nob,0,fun _ => True⟩ (allPool W) nob [] W :=
    ⟨fun _ _ _ h => h,fun _ _ _ h => h,fun _ _ _ h => .inl h,fun _ _ h => by simp [lk] at h,fun _ _ _ _ h => by simp [lk] at h,fun _ _ _ _ _ _ _ h => by simp [lk] at h,Nat.le_refl _,fun _ _ _ => rfl,rfl,rfl,rfl⟩
  have hc:=(hX as0 h2).2 W (allPool W) nob args.toList (fun _ _ => rfl) hst h1
  rw [Array.toArray_toList] at hc
  refine hc.mono fun e W' ⟨x,M',β',he,hr,st,_⟩ => ?_
  have hx : x = .bool true:=by
    cases hr with
    | one _ h => cases h; rfl
    | agg hm _ => cases hm
  subst hx
  have bel : Below W.heap.size W W':=⟨st.os,st.tape,st.output,st.size,fun k hk => st.keep k hk (fun ⟨o,ob,κ,h,_⟩ => by simp [lk] at h)⟩
  refine ⟨_,he,ds,[],_,[],p,[],hW',?_,?_,?_,bel.frame _,fun h => by cases h⟩
  · rw [List.append_nil,hfn ds hlen,hres]
    exact trodAll_mk1 (shut_bool htb _)
  · rw [List.append_nil,hfn ds hlen]
    exact below_all hl bel _ _ _ _ hro hA
  · rw [hs,List.append_nil,hfn ds hlen]
    rfl
end
theorem ex_map' {α : Type} {f : α → AV} {Q : α → Prop} : ∀ {es : List AV},(∀ x ∈ es,∃ a,x = f a ∧ Q a) → ∃ l : List α,es = l.map f ∧ ∀ a ∈ l,Q a
  | [],_ => ⟨[],rfl,by simp⟩
  | e :: es,h => by
    obtain ⟨a,rfl,ha⟩:=h e (by simp)
    obtain ⟨l,rfl,hl⟩:=ex_map' (es:=es) (fun x hx => h x (by simp [hx]))
    refine ⟨a :: l,rfl,fun b hb => ?_⟩
    rcases List.mem_cons.1 hb with rfl | hb
    · exact ha
    · exact hl b hb
end Go.Sy
namespace Go.Proofs.YtololahjocfbeaaGreat
open Go Go.Sy Go.Proofs.Tryz
set_option maxRecDepth 100000
set_option maxHeartbeats 4000000
set_option linter.unusedSimpArgs false
set_option linter.unusedVariables false
attribute [go_sem] pl248
theorem shl_orI {a x : Int} (ha : 0 ≤ a) (ha' : a < 256) (hx : 0 ≤ x) (hx' : x < 256) : ior .i64 (ishl .i64 a 8) x = a * 256 + x:=by
  have e : ishl .i64 a 8 = a * 256:=by
    unfold ishl
    have h8 : (2 : Int) ^ (min 8 IntKind.i64.bits) = 256:=by decide
    rw [h8]
    exact wrap_i64 (by omega) (by omega)
  rw [e,ior_nat (by omega) (by show _ < (2 : Int) ^ 64; omega) hx (by show _ < (2 : Int) ^ 64; omega)]
  have h:=Nat.shiftLeft_add_eq_or_of_lt (i:=8) (b:=x.toNat) (by omega) a.toNat
  have e2 : (a * 256).toNat = a.toNat <<< 8:=by rw [Nat.shiftLeft_eq]; omega
  rw [e2,← h,Nat.shiftLeft_eq]
  rw [wrap_i64 (by omega) (by omega)]
  omega
def num2 (b : List Int) : Nat:=(b.getD 0 0 * 256 + b.getD 1 0).toNat
theorem num2_int {b : List Int} (hb : ∀ x ∈ b,0 ≤ x ∧ x < 256) (hl : 2 ≤ b.length) : b.getD 0 0 * 256 + b.getD 1 0 = (num2 b : Int) ∧ num2 b ≤ 65535:=by
  have h0:=getD_all' hb (show 0 < b.length by omega)
  have h1:=getD_all' hb (show 1 < b.length by omega)
  unfold num2
  omega
theorem cut_ok_spec (b : List Int) (m n : Nat) (hm : b.length = m) (hn : n ≤ m) (hl : m ≤ 1000000) : FnC Tryz.prog 249 [.ref 0 [],.int .i64 n] [(0,.var (.sl (.ints .u8 m b)))] (.tup [.osl 1 [] 1 0 n,.bool true])
    [(0,.var (.sl (.ints .u8 (m - n) (b.drop n)))),(1,.row (.ints .u8 n (b.take n)))]:=by
  have d1 : (b.drop n).take (m - n) = b.drop n:=List.take_of_length_le (by rw [List.length_drop]; omega)
  refine fnN mix [] 1 2 [.tmp 4,.tmp 5] Tryz.func249 rfl (by kernel_rfl) (by kernel_rfl) rfl (by kernel_rfl) (by kernel_rfl) (by simp) ?_
  simp -implicitDefEqProofs (disch:=omega) only [go_sem,↓reduceIte]
  refine brd (fun h => by omega) (fun h => ?_)
  simp -implicitDefEqProofs (disch:=omega) only [go_sem,↓reduceIte,↓subC_len,d1]
  refine ⟨[(0,0),(1,2)],[],[],rfl,?_,?_,?_⟩ <;> simp -implicitDefEqProofs (disch:=omega) only [go_sem,↓reduceIte]
theorem cut_bad_spec (b : List Int) (m n : Nat) (hm : b.length = m) (hn : m < n) (hn' : n ≤ 1000000) (hl : m ≤ 1000000) : FnC Tryz.prog 249 [.ref 0 [],.int .i64 n] [(0,.var (.sl (.ints .u8 m b)))] (.tup [.nils,.bool false]) [(0,.var (.sl (.ints .u8 m b)))]:=by
  refine fnN mix [] 1 2 [.tmp 4,.tmp 5] Tryz.func249 rfl (by kernel_rfl) (by kernel_rfl) rfl (by kernel_rfl) (by kernel_rfl) (by simp) ?_
  simp -implicitDefEqProofs (disch:=omega) only [go_sem,↓reduceIte]
  refine brd (fun h => ?_) (fun h => by omega)
  simp -implicitDefEqProofs (disch:=omega) only [go_sem,↓reduceIte]
  refine ⟨[(0,0)],[],[],rfl,?_,?_,?_⟩ <;> simp -implicitDefEqProofs (disch:=omega) only [go_sem,↓reduceIte]
theorem size_ok_spec (b : List Int) (m : Nat) (hm : b.length = m) (hb : ∀ x ∈ b,0 ≤ x ∧ x < 256) (hn : 2 ≤ m) (hl : m ≤ 1000000) : FnC Tryz.prog 248 [.ref 0 []] [(0,.var (.sl (.ints .u8 m b)))] (.int .i64 (num2 b)) [(0,.var (.sl (.ints .u8 (m - 2) (b.drop 2))))]:=by
  have h0:=getD_all' hb (show 0 < b.length by omega)
  have h1:=getD_all' hb (show 1 < b.length by omega)
  have e0 : (b.take 2).getD 0 0 = b.getD 0 0:=by simp [List.getD,List.getElem?_take]
  have e1 : (b.take 2).getD 1 0 = b.getD 1 0:=by simp [List.getD,List.getElem?_take]
  have e2:=shl_orI h0.1 h0.2 h1.1 h1.2
  have e3:=(num2_int hb (by omega)).1
  refine fnN mix pl248 1 1 [.tmp 2] Tryz.func248 rfl (by kernel_rfl) (by kernel_rfl) rfl (by kernel_rfl) (by kernel_rfl) (by simp) ?_
  simp -implicitDefEqProofs (disch:=omega) only [go_sem,↓reduceIte]
  refine callG false [(0,0)] [(0,0),(1,1)] 2 (cut_ok_spec b m 2 hm hn hl) ?_ ?_
  · simp [keys]
  simp -implicitDefEqProofs (disch:=omega) only [go_sem,↓reduceIte,e0,e1]
  refine ⟨[(0,0)],[],[],rfl,?_,?_,?_⟩ <;> simp -implicitDefEqProofs (disch:=omega) only [go_sem,↓reduceIte,e2,e3]
theorem size_bad_spec (b : List Int) (m : Nat) (hm : b.length = m) (hn : m < 2) : FnC Tryz.prog 248 [.ref 0 []] [(0,.var (.sl (.ints .u8 m b)))] (.int .i64 (-1)) [(0,.var (.sl (.ints .u8 m b)))]:=by
  refine fnN mix pl248 1 1 [.tmp 2] Tryz.func248 rfl (by kernel_rfl) (by kernel_rfl) rfl (by kernel_rfl) (by kernel_rfl) (by simp) ?_
  simp -implicitDefEqProofs (disch:=omega) only [go_sem,↓reduceIte]
  refine callG false [(0,0)] [(0,0)] 1 (cut_bad_spec b m 2 hm hn (by decide) (by omega)) ?_ ?_
  · simp [keys]
  simp -implicitDefEqProofs (disch:=omega) only [go_sem,↓reduceIte]
  refine ⟨[(0,0)],[],[],rfl,?_,?_,?_⟩ <;> simp -implicitDefEqProofs (disch:=omega) only [go_sem,↓reduceIte]
def splitL : Nat → List Int → Option (List (List Int) × List Int)
  | 0,b => some ([],b)
  | k + 1,b => if b.length < 2 then none else if b.length - 2 < num2 b then none else (splitL k (b.drop (2 + num2 b))).map fun r => ((b.drop 2).take (num2 b) :: r.1,r.2)
def splitR : Option (List (List Int) × List Int) → AV
  | none => .tup [.nils,.int .i64 2]
  | some (l,rest) => if rest = [] then .tup [.sl (.lst 1 l.length (l.map bsl)),.int .i64 0] else .tup [.nils,.int .i64 2]
def go (done : List (List Int)) (k : Nat) (rest : List Int) : Option (List (List Int) × List Int):=(splitL k rest).map fun r => (done ++ r.1,r.2)
theorem go_short {done : List (List Int)} {k : Nat} {rest : List Int} (h : rest.length < 2) : go done (k + 1) rest = none:=by simp [go,splitL,h]
theorem go_lack {done : List (List Int)} {k : Nat} {rest : List Int} (h : 2 ≤ rest.length) (h' : rest.length - 2 < num2 rest) : go done (k + 1) rest = none:=by
  simp [go,splitL,show ¬ rest.length < 2 by omega,h']
theorem go_step {done : List (List Int)} {k : Nat} {rest : List Int} (h : 2 ≤ rest.length) (h' : num2 rest ≤ rest.length - 2) : go done (k + 1) rest = go (done ++ [(rest.drop 2).take (num2 rest)]) k (rest.drop (2 + num2 rest)):=by
  simp only [go,splitL,if_neg (show ¬ rest.length < 2 by omega),if_neg (show ¬ rest.length - 2 < num2 rest by omega)]
  cases splitL k (rest.drop (2 + num2 rest)) <;> simp
theorem go_end {done : List (List Int)} {rest : List Int} : go done 0 rest = some (done,rest):=by simp [go,splitL]
def split (b : List Int) : Option (List (List Int) × List Int):=if b.length < 2 then none else splitL (num2 b) (b.drop 2)
theorem bsl_of {x : List Int} {n : Nat} (h : x.length = n) : AV.sl (.ints .u8 n x) = bsl x:=by rw [bsl,h]
theorem split_spec (b : List Int) (r : AV) (hr : splitR (split b) = r) (hb : ∀ x ∈ b,0 ≤ x ∧ x < 256) (hl : b.length ≤ 1000000) : FnC Tryz.prog 227 [.sl (.ints .u8 b.length b)] [] r []:=by
  refine fnN mix [] 0 1 [.tmp 2,.tmp 3] Tryz.func227 rfl (by kernel_rfl) (by kernel_rfl) rfl (by kernel_rfl) (by kernel_rfl) (by simp) ?_
  simp -implicitDefEqProofs (disch:=omega) only [go_sem,↓reduceIte]
  by_cases h2 : b.length < 2
  · have e : split b = none:=by simp [split,h2]
    rw [e] at hr
    subst hr
    refine callG false [(0,0)] [(0,0)] 1 (size_bad_spec b _ rfl h2) ?_ ?_
    · simp [keys]
    simp -implicitDefEqProofs (disch:=omega) only [go_sem,↓reduceIte]
    refine ⟨[],[],[],rfl,?_,?_,?_⟩ <;> simp -implicitDefEqProofs (disch:=omega) only [go_sem,↓reduceIte,splitR]
  have hn:=num2_int hb (by omega)
  have e : split b = go [] (num2 b) (b.drop 2):=by simp [split,h2,go]
  rw [e] at hr
  have hb2 : ∀ x ∈ b.drop 2,0 ≤ x ∧ x < 256:=fun x hx => hb x (List.mem_of_mem_drop hx)
  have hl2 : (b.drop 2).length = b.length - 2:=List.length_drop
  refine callG false [(0,0)] [(0,0)] 1 (size_ok_spec b _ rfl hb (by omega) hl) ?_ ?_
  · simp [keys]
  simp -implicitDefEqProofs (disch:=omega) only [go_sem,↓reduceIte]
  refine brd (fun h => by omega) (fun h => ?_)
  simp -implicitDefEqProofs (disch:=omega) only [go_sem,↓reduceIte]
  generalize b.drop 2 = b2 at *
  rw [← hl2]
  have hl3 : b2.length ≤ 1000000:=by omega
  clear e
  refine loop (ι:=Nat × List (List Int) × List Int) 2 (fun s => s.1 ≤ num2 b ∧ s.2.1.length = s.1 ∧ s.2.2.length ≤ 1000000 ∧ (∀ x ∈ s.2.2,0 ≤ x ∧ x < 256) ∧ splitR (go s.2.1 (num2 b - s.1) s.2.2) = r)
    (fun s => [(1,.ref 0 []),(5,.osl 1 [] 1 0 s.1),(12,.int .i64 (num2 b)),(13,.int .i64 s.1)])
    (fun s => [(0,.var (.sl (.ints .u8 s.2.2.length s.2.2))),(1,.row (.lst 1 s.1 (s.2.1.map bsl)))]) (fun s => num2 b - s.1) (0,[],b2) [(0,0)] [1] ⟨Nat.zero_le _,rfl,hl3,hb2,hr⟩ rfl ?_ ?_ ?_ (fun s hs => ?_)
  · simp -implicitDefEqProofs (disch:=omega) only [go_sem,↓reduceIte]
  · simp -implicitDefEqProofs (disch:=omega) only [go_sem,↓reduceIte]
  · simp -implicitDefEqProofs (disch:=omega) only [go_sem,↓reduceIte]
  obtain ⟨i,ds,rest⟩:=s
  obtain ⟨h1,h3,h4,h5,h6⟩:=hs
  dsimp only at h1 h3 h4 h5 h6 ⊢
  simp -implicitDefEqProofs (disch:=omega) only [go_sem,↓reduceIte]
  refine brd (fun h => ?_) (fun h => ?_)
  · have hk : num2 b - i = (num2 b - i - 1) + 1:=by omega
    rw [hk] at h6
    simp -implicitDefEqProofs (disch:=omega) only [go_sem,↓reduceIte]
    by_cases h7 : rest.length < 2
    · rw [go_short h7] at h6
      subst h6
      refine callG false [(0,0)] [(0,0)] 2 (size_bad_spec rest _ rfl h7) ?_ ?_
      · simp [keys]
      simp -implicitDefEqProofs (disch:=omega) only [go_sem,↓reduceIte]
      refine ⟨[],[],[],rfl,?_,?_,?_⟩ <;> simp -implicitDefEqProofs (disch:=omega) only [go_sem,↓reduceIte,splitR]
    have hn2:=num2_int h5 (by omega)
    refine callG false [(0,0)] [(0,0)] 2 (size_ok_spec rest _ rfl h5 (by omega) h4) ?_ ?_
    · simp [keys]
    simp -implicitDefEqProofs (disch:=omega) only [go_sem,↓reduceIte]
    refine brd (fun h => by omega) (fun h => ?_)
    simp -implicitDefEqProofs (disch:=omega) only [go_sem,↓reduceIte]
    have hd2 : (rest.drop 2).length = rest.length - 2:=List.length_drop
    by_cases h8 : rest.length - 2 < num2 rest
    · rw [go_lack (by omega) h8] at h6
      subst h6
      refine callG false [(0,0)] [(0,0)] 2 (cut_bad_spec (rest.drop 2) _ (num2 rest) hd2 h8 (by omega) (by omega)) ?_ ?_
      · simp [keys]
      simp -implicitDefEqProofs (disch:=omega) only [go_sem,↓reduceIte]
      refine ⟨[],[],[],rfl,?_,?_,?_⟩ <;> simp -implicitDefEqProofs (disch:=omega) only [go_sem,↓reduceIte,splitR]
    rw [go_step (by omega) (by omega)] at h6
    refine callG false [(0,0)] [(0,0),(1,2)] 3 (cut_ok_spec (rest.drop 2) _ (num2 rest) hd2 (by omega) (by omega)) ?_ ?_
    · simp [keys]
    have ht : ((rest.drop 2).take (num2 rest)).length = num2 rest:=by rw [List.length_take]; omega
    have hdd : (rest.drop 2).drop (num2 rest) = rest.drop (2 + num2 rest):=List.drop_drop
    have hdl : (rest.drop (2 + num2 rest)).length = rest.length - 2 - num2 rest:=by rw [List.length_drop]; omega
    have hbs:=bsl_of ht
    simp -implicitDefEqProofs (disch:=omega) only [go_sem,↓reduceIte,hdd,↓subC_len,List.take_of_length_le,Nat.le_refl]
    refine ⟨(i + 1,ds ++ [(rest.drop 2).take (num2 rest)],rest.drop (2 + num2 rest)),[(0,0),(1,4)],[],[],?_,by dsimp only; omega,rfl,?_,?_,?_⟩
    · refine ⟨by dsimp only; omega,by simp [h3],by dsimp only; omega,fun x hx => h5 x (List.mem_of_mem_drop hx),?_⟩
      rw [← h6,show num2 b - (i + 1) = num2 b - i - 1 by omega]
    all_goals simp -implicitDefEqProofs (disch:=omega) only [go_sem,↓reduceIte,hdl,List.map_append,hbs]
  obtain rfl : i = num2 b:=by omega
  rw [Nat.sub_self,go_end] at h6
  simp -implicitDefEqProofs (disch:=omega) only [go_sem,↓reduceIte]
  refine brd (fun h7 => ?_) (fun h7 => ?_)
  · have : rest ≠ []:=by intro e; subst e; simp at h7
    rw [splitR,if_neg this] at h6
    subst h6
    simp -implicitDefEqProofs (disch:=omega) only [go_sem,↓reduceIte]
    refine ⟨[],[],[],rfl,?_,?_,?_⟩ <;> simp -implicitDefEqProofs (disch:=omega) only [go_sem,↓reduceIte]
  · have : rest = []:=List.eq_nil_of_length_eq_zero (by omega)
    rw [splitR,if_pos this,h3] at h6
    subst h6
    simp -implicitDefEqProofs (disch:=omega) only [go_sem,↓reduceIte]
    refine ⟨[],[],[1],rfl,?_,?_,?_⟩ <;> simp -implicitDefEqProofs (disch:=omega) only [go_sem,↓reduceIte]
theorem num2_be (k : Nat) (h : k ≤ 65535) (t : List Int) : num2 (be k 2 ++ t) = k:=by
  simp only [num2,be,List.cons_append,List.getD_cons_zero,List.getD_cons_succ,List.nil_append]
  omega
theorem splitL_rows : ∀ (ps : List (List Int)),(∀ p ∈ ps,p.length ≤ 65535) → splitL ps.length (ps.flatMap fun b => be b.length 2 ++ b) = some (ps,[])
  | [],_ => rfl
  | p :: ps,h => by
    have hp:=h p (by simp)
    have ih:=splitL_rows ps (fun q hq => h q (by simp [hq]))
    have e : ((p :: ps).flatMap fun b => be b.length 2 ++ b) = be p.length 2 ++ (p ++ (ps.flatMap fun b => be b.length 2 ++ b)):=by simp [List.flatMap_cons,List.append_assoc]
    rw [e]
    have hl : (be (p.length : Int) 2 ++ (p ++ (ps.flatMap fun b => be b.length 2 ++ b))).length = 2 + (p.length + (ps.flatMap fun b => be (b.length : Int) 2 ++ b).length):=by simp [be_len]
    have hnum:=num2_be p.length hp (p ++ (ps.flatMap fun b => be b.length 2 ++ b))
    have hd2 : (be (p.length : Int) 2 ++ (p ++ (ps.flatMap fun b => be b.length 2 ++ b))).drop 2 = p ++ (ps.flatMap fun b => be b.length 2 ++ b):=by
      rw [List.drop_append_of_le_length (by rw [be_len]; exact Nat.le_refl _),List.drop_of_length_le (by rw [be_len]; exact Nat.le_refl _),List.nil_append]
    have hd3 : (be (p.length : Int) 2 ++ (p ++ (ps.flatMap fun b => be b.length 2 ++ b))).drop (2 + p.length) = ps.flatMap fun b => be b.length 2 ++ b:=by
      rw [← List.drop_drop,hd2,List.drop_append_of_le_length (Nat.le_refl _),List.drop_of_length_le (Nat.le_refl _),List.nil_append]
    rw [List.length_cons,splitL,hl,if_neg (by omega),hnum,if_neg (by omega),hd2,hd3,ih,Option.map_some,List.take_append_of_le_length (Nat.le_refl _),List.take_of_length_le (Nat.le_refl _)]
theorem split_rowb (ps : List (List Int)) (hn : ps.length ≤ 65535) (h : ∀ p ∈ ps,p.length ≤ 65535) : split (rowb ps.length ps) = some (ps,[]):=by
  unfold split rowb
  rw [num2_be _ hn,if_neg (by simp [be_len]),List.drop_append_of_le_length (by rw [be_len]; exact Nat.le_refl _),List.drop_of_length_le (by rw [be_len]; exact Nat.le_refl _),List.nil_append]
  exact splitL_rows ps h
attribute [go_sem] pl197
def hi_ (a1 a2 b1 b2 : Int) : Int:=if b1 < a1 then a2 else if a1 < b1 then b2 else max a2 b2
theorem least_spec (a0 a1 a2 b0 b1 b2 : Int) : FnC Tryz.prog 181 [.agg [.int .i64 a0,.int .i64 a1,.int .i64 a2],.agg [.int .i64 b0,.int .i64 b1,.int .i64 b2]] [] (.agg [.int .i64 (max a0 b0),.int .i64 (max a1 b1),.int .i64 (hi_ a1 a2 b1 b2)]) []:=by
  refine fn0 mix [] 0 2 [.cell 4 138] Tryz.func181 rfl (by kernel_rfl) (by kernel_rfl) rfl (by kernel_rfl) (by kernel_rfl) (by simp) ?_
  simp -implicitDefEqProofs (disch:=omega) only [go_sem,↓reduceIte]
  refine brd (fun h => ?_) (fun h => ?_)
  · simp -implicitDefEqProofs (disch:=omega) only [go_sem,↓reduceIte]
    simp only [hi_,if_pos h,AV.agg.injEq,List.cons.injEq,AV.int.injEq,true_and,and_true]; omega
  simp -implicitDefEqProofs (disch:=omega) only [go_sem,↓reduceIte]
  refine brd (fun h2 => ?_) (fun h2 => ?_)
  · simp -implicitDefEqProofs (disch:=omega) only [go_sem,↓reduceIte]
    simp only [hi_,if_neg h,if_pos h2,AV.agg.injEq,List.cons.injEq,AV.int.injEq,true_and,and_true]; omega
  · simp -implicitDefEqProofs (disch:=omega) only [go_sem,↓reduceIte]
    simp only [hi_,if_neg h,if_neg h2,AV.agg.injEq,List.cons.injEq,AV.int.injEq,true_and,and_true]; omega
theorem new_spec : FnC Tryz.prog 25 [] [] (.ref 0 []) [(0,.var (.agg [.agg [.int .i64 0,.int .i64 0,.int .i64 0]]))]:=by
  refine fnN mix [] 0 0 [.tmp 0] Tryz.func25 rfl (by kernel_rfl) (by kernel_rfl) rfl (by kernel_rfl) (by kernel_rfl) (by simp) ?_
  simp -implicitDefEqProofs (disch:=omega) only [go_sem,↓reduceIte]
  refine ⟨[(0,0)],[],[],rfl,?_,?_,?_⟩ <;> simp -implicitDefEqProofs (disch:=omega) only [go_sem,↓reduceIte]
theorem marks_spec (a0 a1 a2 : Int) : FnC Tryz.prog 182 [.ref 0 []] [(0,.var (.agg [.agg [.int .i64 a0,.int .i64 a1,.int .i64 a2]]))] (.agg [.int .i64 a0,.int .i64 a1,.int .i64 a2]) [(0,.var (.agg [.agg [.int .i64 a0,.int .i64 a1,.int .i64 a2]]))]:=by
  refine fnN mix [] 1 1 [.cell 2 138] Tryz.func182 rfl (by kernel_rfl) (by kernel_rfl) rfl (by kernel_rfl) (by kernel_rfl) (by simp) ?_
  simp -implicitDefEqProofs (disch:=omega) only [go_sem,↓reduceIte]
  refine ⟨[(0,0)],[],[],rfl,?_,?_,?_⟩ <;> simp -implicitDefEqProofs (disch:=omega) only [go_sem,↓reduceIte]
theorem raise_spec (a0 a1 a2 b0 b1 b2 : Int) : FnC Tryz.prog 197 [.ref 0 [],.agg [.int .i64 b0,.int .i64 b1,.int .i64 b2]] [(0,.var (.agg [.agg [.int .i64 a0,.int .i64 a1,.int .i64 a2]]))]
    (.agg [.int .i64 (max a0 b0),.int .i64 (max a1 b1),.int .i64 (hi_ a1 a2 b1 b2)]) [(0,.var (.agg [.agg [.int .i64 (max a0 b0),.int .i64 (max a1 b1),.int .i64 (hi_ a1 a2 b1 b2)]]))]:=by
  refine fnN mix pl197 1 2 [.cell 4 138] Tryz.func197 rfl (by kernel_rfl) (by kernel_rfl) rfl (by kernel_rfl) (by kernel_rfl) (by simp) ?_
  simp -implicitDefEqProofs (disch:=omega) only [go_sem,↓reduceIte]
  refine call0 (least_spec _ _ _ _ _ _) ?_
  simp -implicitDefEqProofs (disch:=omega) only [go_sem,↓reduceIte]
  refine br (fun h => ?_) (fun h => ?_)
  · simp only [Bool.and_eq_true,decide_eq_true_eq] at h
    simp -implicitDefEqProofs (disch:=omega) only [go_sem,↓reduceIte]
    refine ⟨[(0,0)],[],[],rfl,?_,?_,?_⟩ <;> simp -implicitDefEqProofs (disch:=omega) only [go_sem,↓reduceIte,h.1,h.2.1,h.2.2]
  · simp -implicitDefEqProofs (disch:=omega) only [go_sem,↓reduceIte]
    refine ⟨[(0,0)],[],[],rfl,?_,?_,?_⟩ <;> simp -implicitDefEqProofs (disch:=omega) only [go_sem,↓reduceIte]
def lst3 (x y : Int × Int × Int) : Int × Int × Int:=(max x.1 y.1,max x.2.1 y.2.1,hi_ x.2.1 x.2.2 y.2.1 y.2.2)
def acc (ms : List (Int × Int × Int)) (i : Nat) : Int × Int × Int:=(ms.take i).foldl lst3 (0,0,0)
theorem foldl_take_succ {α : Type} (f : α → Int → α) (a : α) (xs : List Int) (i : Nat) (h : i < xs.length) : (xs.take (i + 1)).foldl f a = f ((xs.take i).foldl f a) (xs.getD i 0):=by
  rw [List.take_add_one,List.foldl_append,List.getElem?_eq_getElem h]
  simp [List.getD,List.getElem?_eq_getElem h]
def lack (n x : Int) : Int:=IntKind.i64.wrap (n + IntKind.i64.wrap (15 - x))
def lacks (xs : List Int) : Int:=xs.foldl lack 0
theorem lacks_spec (xs : List Int) (hl : xs.length ≤ 9223372036854775807) : FnC Tryz.prog 242 [.sl (.ints .i64 xs.length xs)] [] (.int .i64 (lacks xs)) []:=by
  refine fn0 mix [] 0 1 [.tmp 2] Tryz.func242 rfl (by kernel_rfl) (by kernel_rfl) rfl (by kernel_rfl) (by kernel_rfl) (by simp) ?_
  simp -implicitDefEqProofs (disch:=omega) only [go_sem,↓reduceIte]
  refine loop (ι:=Nat) 0 (fun i => i ≤ xs.length) (fun i => [(6,.sl (.ints .i64 xs.length xs)),(7,.int .i64 xs.length),(8,.int .i64 i),(3,.int .i64 ((xs.take i).foldl lack 0))]) (fun _ => []) (fun i => xs.length - i) 0 [] [] (Nat.zero_le _) rfl ?_ ?_ ?_ (fun i hi => ?_)
  · simp -implicitDefEqProofs (disch:=omega) only [go_sem,↓reduceIte]
  · simp -implicitDefEqProofs (disch:=omega) only [go_sem,↓reduceIte,List.take_zero,List.foldl_nil,Int.natCast_zero]
  · simp -implicitDefEqProofs (disch:=omega) only [go_sem,↓reduceIte]
  simp -implicitDefEqProofs (disch:=omega) only [go_sem,↓reduceIte]
  refine brd (fun h => ?_) (fun h => ?_)
  · simp -implicitDefEqProofs (disch:=omega) only [go_sem,↓reduceIte]
    refine ⟨i + 1,[],[],[],by dsimp only; omega,by dsimp only; omega,rfl,?_,?_,?_⟩ <;> simp -implicitDefEqProofs (disch:=omega) only [go_sem,↓reduceIte,foldl_take_succ,lack]
  · simp -implicitDefEqProofs (disch:=omega) only [go_sem,↓reduceIte]
    rw [List.take_of_length_le (by omega)]; rfl
theorem getD_all {p : Int → Prop} {xs : List Int} (h : ∀ x ∈ xs,p x) {i : Nat} (hi : i < xs.length) : p (xs.getD i 0):=by
  simp only [List.getD,List.getElem?_eq_getElem hi,Option.getD_some]
  exact h _ (List.getElem_mem hi)
def nib (d : List Int) : List Int:=d.flatMap fun b => [b / 16,b % 16]
theorem nib_len : ∀ d : List Int,(nib d).length = 2 * d.length
  | [] => rfl
  | b :: d => by
    have:=nib_len d
    simp only [nib,List.flatMap_cons,List.length_append,List.length_cons,List.length_nil] at this ⊢
    omega
theorem nib_succ {d : List Int} {i : Nat} (hi : i < d.length) : nib (d.take (i + 1)) = nib (d.take i) ++ [d.getD i 0 / 16,d.getD i 0 % 16]:=by
  unfold nib
  rw [List.take_add_one,List.flatMap_append,List.getElem?_eq_getElem hi]
  simp only [Option.toList_some,List.flatMap_cons,List.flatMap_nil,List.append_nil,List.getD,List.getElem?_eq_getElem hi,Option.getD_some]
theorem set_two {l : List Int} {p n : Nat} (h : l.length = p) (a b : Int) : ((l ++ List.replicate (n + 2) 0).set p a).set (p + 1) b = (l ++ [a,b]) ++ List.replicate n 0:=by
  subst h
  rw [List.replicate_succ,List.replicate_succ,List.set_append_right _ _ (Nat.le_refl _),Nat.sub_self,List.set_cons_zero,List.set_append_right _ _ (by omega),Nat.add_sub_cancel_left,List.set_cons_succ,List.set_cons_zero,List.append_assoc]
  rfl
theorem of_step {d : List Int} (hd : d.length = 32) {i : Nat} (hi : i < 32) : ((nib (d.take i) ++ List.replicate (67 - 2 * i) 0).set (2 * i) (d.getD i 0 / 16)).set (2 * i + 1) (d.getD i 0 % 16) = nib (d.take (i + 1)) ++ List.replicate (67 - 2 * (i + 1)) 0:=by
  rw [nib_succ (by omega),show 67 - 2 * i = (67 - 2 * (i + 1)) + 2 by omega]
  exact set_two (by rw [nib_len,List.length_take]; omega) _ _
def tl (N : Int) : Nat → List Int
  | 0 => [0,0,0]
  | 1 => [0,0,N % 16]
  | 2 => [0,N / 16 % 16,N % 16]
  | _ => [N / 16 / 16 % 16,N / 16 % 16,N % 16]
def dn (N : Int) : Nat → Int
  | 0 => N
  | 1 => N / 16
  | 2 => N / 16 / 16
  | _ => N / 16 / 16 / 16
theorem set_tail {l : List Int} (h : l.length = 64) (t : List Int) (i : Nat) (a : Int) : (l ++ t).set (64 + i) a = l ++ t.set i a:=by
  rw [List.set_append_right _ _ (by omega),h,show 64 + i - 64 = i by omega]
theorem lacks_bounds : ∀ (xs : List Int) (a : Int),(∀ x ∈ xs,0 ≤ x ∧ x < 16) → 0 ≤ a → a + 15 * xs.length < 1000000 → a ≤ xs.foldl lack a ∧ xs.foldl lack a ≤ a + 15 * xs.length
  | [],a,_,_,_ => by simp
  | x :: xs,a,h,h0,h1 => by
    have hx:=h x (by simp)
    simp only [List.length_cons,Int.natCast_add,Int.cast_ofNat_Int] at h1 ⊢
    have e : lack a x = a + (15 - x):=by
      unfold lack
      rw [wrap_i64 (n:=15 - x) (by omega) (by omega),wrap_i64 (by omega) (by omega)]
    rw [List.foldl_cons,e]
    have:=lacks_bounds xs (a + (15 - x)) (fun y hy => h y (by simp [hy])) (by omega) (by omega)
    omega
theorem nib_mem {d : List Int} (hb : ∀ x ∈ d,0 ≤ x ∧ x < 256) : ∀ x ∈ nib d,0 ≤ x ∧ x < 16:=by
  intro x hx
  simp only [nib,List.mem_flatMap] at hx
  obtain ⟨b,hbm,hx⟩:=hx
  have:=hb b hbm
  simp at hx
  omega
theorem lacks_nib {d : List Int} (hd : d.length = 32) (hb : ∀ x ∈ d,0 ≤ x ∧ x < 256) : 0 ≤ lacks (nib d) ∧ lacks (nib d) ≤ 960:=by
  have:=lacks_bounds (nib d) 0 (nib_mem hb) (by omega) (by rw [nib_len,hd]; decide)
  rw [nib_len,hd] at this
  unfold lacks
  omega
def digs (d : List Int) : List Int:=nib d ++ tl (lacks (nib d)) 3
theorem of_spec (d : List Int) (hd : d.length = 32) (hb : ∀ x ∈ d,0 ≤ x ∧ x < 256) : FnC Tryz.prog 217 [.ints .u8 32 d] [] (.ints .i64 67 (digs d)) []:=by
  refine fn0 mix [] 0 1 [.cell 2 344] Tryz.func217 rfl (by kernel_rfl) (by kernel_rfl) rfl (by kernel_rfl) (by kernel_rfl) (by simp) ?_
  simp -implicitDefEqProofs (disch:=omega) only [go_sem,↓reduceIte]
  refine loop (ι:=Nat) 3 (fun i => i ≤ 32) (fun i => [(8,.ints .u8 32 d),(9,.int .i64 i),(3,.ref 2 []),(2,.ref 1 [])]) (fun i => [(1,.var (.ints .i64 67 (List.replicate 67 0))),(2,.var (.ints .i64 67 (nib (d.take i) ++ List.replicate (67 - 2 * i) 0)))]) (fun i => 32 - i) 0 [(1,1),(2,2)] [] (Nat.zero_le _) rfl ?_ ?_ ?_ (fun i hi => ?_)
  · simp -implicitDefEqProofs (disch:=omega) only [go_sem,↓reduceIte]
  · simp -implicitDefEqProofs (disch:=omega) only [go_sem,↓reduceIte]
  · simp -implicitDefEqProofs (disch:=omega) only [go_sem,↓reduceIte,List.take_zero,nib,List.flatMap_nil]
  simp -implicitDefEqProofs (disch:=omega) only [go_sem,↓reduceIte]
  refine brd (fun h => ?_) (fun h => ?_)
  · have hx:=getD_all hb (show i < d.length by omega)
    have e1 : (2 * (i : Int)).toNat = 2 * i:=by omega
    have e2 : (2 * (i : Int) + 1).toNat = 2 * i + 1:=by omega
    have e3 : ishr .u8 (d.getD i 0) 4 = d.getD i 0 / 16:=ishr_div _ _ 4 (by decide)
    have e4 : iand .u8 (d.getD i 0) 15 = d.getD i 0 % 16:=iand_mask 4 (by decide) (by decide) hx.1 hx.2
    simp -implicitDefEqProofs (disch:=omega) only [go_sem,↓reduceIte,e1,e2,e3,e4,of_step hd (show i < 32 by omega)]
    refine ⟨i + 1,[(1,1),(2,2)],[],[],by dsimp only; omega,by dsimp only; omega,rfl,?_,?_,?_⟩ <;> simp -implicitDefEqProofs (disch:=omega) only [go_sem,↓reduceIte]
  · obtain rfl : i = 32:=by omega
    have e1 : nib (List.take 32 d) ++ List.replicate (67 - 2 * 32) 0 = nib d ++ tl (lacks (nib d)) 0:=by rw [List.take_of_length_le (by omega)]; rfl
    have hl : (nib d).length = 64:=by rw [nib_len,hd]
    have hn:=lacks_nib hd hb
    have hls:=lacks_spec (nib d) (by omega)
    rw [hl] at hls
    simp -implicitDefEqProofs (disch:=omega) only [go_sem,↓reduceIte,e1]
    refine callB hls ?_ ?_
    · simp -implicitDefEqProofs (disch:=omega) only [go_sem,↓reduceIte,List.drop_zero,List.take_left' hl]
    simp -implicitDefEqProofs (disch:=omega) only [go_sem,↓reduceIte]
    refine loop (ι:=Nat) 3 (fun c => c ≤ 3) (fun c => [(7,.int .i64 (66 - c)),(6,.int .i64 (dn (lacks (nib d)) c)),(3,.ref 2 []),(2,.ref 1 [])]) (fun c => [(1,.var (.ints .i64 67 (List.replicate 67 0))),(2,.var (.ints .i64 67 (nib d ++ tl (lacks (nib d)) c)))]) (fun c => 3 - c) 0 [(1,1),(2,2)] [] (Nat.zero_le _) rfl ?_ ?_ ?_ (fun c hc => ?_)
    · simp -implicitDefEqProofs (disch:=omega) only [go_sem,↓reduceIte]
    · simp -implicitDefEqProofs (disch:=omega) only [go_sem,↓reduceIte,dn]
    · simp -implicitDefEqProofs (disch:=omega) only [go_sem,↓reduceIte]
    have st : ∀ (t : List Int) (i : Nat) (x : Int),(nib d ++ t).set (64 + i) x = nib d ++ t.set i x:=set_tail hl
    have s0:=st [0,0,0] 2 (lacks (nib d) % 16)
    have s1:=st [0,0,lacks (nib d) % 16] 1 (lacks (nib d) / 16 % 16)
    have s2:=st [0,lacks (nib d) / 16 % 16,lacks (nib d) % 16] 0 (lacks (nib d) / 16 / 16 % 16)
    have m : ∀ x : Int,0 ≤ x → x < 1000 → iand .i64 x 15 = x % 16:=fun x h0 h1 => iand_mask 4 (by decide) (by decide) h0 (Int.lt_trans h1 (by decide))
    have r : ∀ x : Int,ishr .i64 x 4 = x / 16:=fun x => ishr_div _ _ 4 (by decide)
    have hdg : digs d = nib d ++ tl (lacks (nib d)) 3:=rfl
    generalize lacks (nib d) = N at *
    rcases (by omega : c = 0 ∨ c = 1 ∨ c = 2 ∨ c = 3) with rfl | rfl | rfl | rfl
    · simp -implicitDefEqProofs (disch:=omega) only [go_sem,↓reduceIte,dn,tl,m,r]
      refine ⟨1,[(1,1),(2,2)],[],[],by dsimp only; omega,by dsimp only; omega,rfl,?_,?_,?_⟩ <;> simp -implicitDefEqProofs (disch:=omega) only [go_sem,↓reduceIte,tl,dn,s0]
    · simp -implicitDefEqProofs (disch:=omega) only [go_sem,↓reduceIte,dn,tl,m,r]
      refine ⟨2,[(1,1),(2,2)],[],[],by dsimp only; omega,by dsimp only; omega,rfl,?_,?_,?_⟩ <;> simp -implicitDefEqProofs (disch:=omega) only [go_sem,↓reduceIte,tl,dn,s1]
    · simp -implicitDefEqProofs (disch:=omega) only [go_sem,↓reduceIte,dn,tl,m,r]
      refine ⟨3,[(1,1),(2,2)],[],[],by dsimp only; omega,by dsimp only; omega,rfl,?_,?_,?_⟩ <;> simp -implicitDefEqProofs (disch:=omega) only [go_sem,↓reduceIte,tl,dn,s2]
    · simp -implicitDefEqProofs (disch:=omega) only [go_sem,↓reduceIte,dn,tl,m,r]
      rw [hdg]; rfl
theorem digs_mem {d : List Int} (hb : ∀ x ∈ d,0 ≤ x ∧ x < 256) : ∀ x ∈ digs d,0 ≤ x ∧ x < 16:=by
  intro x hx
  simp only [digs,tl,List.mem_append,List.mem_cons,List.not_mem_nil,or_false] at hx
  rcases hx with hx | hx | hx | hx
  · exact nib_mem hb x hx
  · omega
  · omega
  · omega
theorem digs_len {d : List Int} (hd : d.length = 32) : (digs d).length = 67:=by
  simp [digs,tl,nib_len,hd]
end Go.Proofs.YtololahjocfbeaaGreat
namespace Go.Proofs.YtololahjocfbeaaGreat
open Go Go.Sy Go.Proofs.Tryz
set_option maxRecDepth 100000
set_option maxHeartbeats 8000000
set_option linter.unusedSimpArgs false
set_option linter.unusedVariables false
theorem be8_inj {x y : Int} (hx : -9223372036854775808 ≤ x ∧ x < 9223372036854775808) (hy : -9223372036854775808 ≤ y ∧ y < 9223372036854775808) (h : be (IntKind.u64.wrap x) 8 = be (IntKind.u64.wrap y) 8) : x = y:=by
  have e:=congrArg ofb h
  rw [ofb_be,ofb_be,u64_mod,u64_mod] at e
  have p : (256 : Int) ^ 8 = 18446744073709551616:=by decide
  rw [p] at e
  omega
theorem nums2 (x y : Int) : nums [x,y] = be (IntKind.u64.wrap x) 8 ++ be (IntKind.u64.wrap y) 8:=by simp [nums]
theorem dcat2 (x y : List Int) : dcat [x,y] = x ++ y:=by simp [dcat]
def isI (x : Int) : Prop:=-9223372036854775808 ≤ x ∧ x < 9223372036854775808
theorem headT_inj {k e k' e' : Int} {t l t' l' : List Int} (hk : isI k) (he : isI e) (hk' : isI k') (he' : isI e') (ht : t.length = 32) (ht' : t'.length = 32) : headT k e t l = headT k' e' t' l' ↔ (k = k' ∧ e = e' ∧ t = t' ∧ l = l'):=by
  constructor
  · intro h
    simp only [headT,nums2,dcat2,List.cons.injEq,true_and,List.append_assoc] at h
    obtain ⟨h1,h⟩:=List.append_inj h (by rw [be_len,be_len])
    obtain ⟨h2,h⟩:=List.append_inj h (by rw [be_len,be_len])
    obtain ⟨h3,h4⟩:=List.append_inj h (by rw [ht,ht'])
    exact ⟨be8_inj hk hk' h1,be8_inj he he' h2,h3,h4⟩
  · rintro ⟨rfl,rfl,rfl,rfl⟩; rfl
theorem nums_mem (l : List Int) : ∀ x ∈ nums l,0 ≤ x ∧ x < 256:=by
  intro x hx
  obtain ⟨y,_,hx⟩:=List.mem_flatMap.1 hx
  exact be_mem _ _ x hx
theorem cons_mem {p : Int → Prop} {a : Int} {l : List Int} (ha : p a) (hl : ∀ x ∈ l,p x) : ∀ x ∈ a :: l,p x:=fun x hx => by
  rcases List.mem_cons.1 hx with rfl | hx
  · exact ha
  · exact hl x hx
theorem app_mem20 {p : Int → Prop} {a b : List Int} (ha : ∀ x ∈ a,p x) (hb : ∀ x ∈ b,p x) : ∀ x ∈ a ++ b,p x:=fun x hx => by
  rcases List.mem_append.1 hx with hx | hx
  · exact ha x hx
  · exact hb x hx
theorem headT_mem (k e : Int) {t l : List Int} (ht : ∀ x ∈ t,0 ≤ x ∧ x < 256) (hl : ∀ x ∈ l,0 ≤ x ∧ x < 256) : ∀ x ∈ headT k e t l,0 ≤ x ∧ x < 256:=by
  refine cons_mem (by decide) (app_mem20 (nums_mem _) ?_)
  rw [dcat2]; exact app_mem20 ht hl
end Go.Proofs.YtololahjocfbeaaGreat
