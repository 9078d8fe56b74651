/- Texts,joined. -/
import Derived.Calls
import Derived.Attr
import Derived.Laws.Sem
import Derived.Laws.World
import Derived.Laws.Append
namespace Go.Sy
open Go
inductive Stp where
  | at (i sz : Nat)
  | fld (j off : Nat)
  deriving DecidableEq
inductive AV where
  | int (k : IntKind) (n : Int)
  | bool (b : Bool)
  | str (s : List UInt8)
  | nilp
  | ref (o : Nat) (p : List Stp)
  | ints (k : IntKind) (n : Nat) (xs : List Int)
  | agg (ps : List AV)
  | arr (sz : Nat) (ps : List AV)
  | lst (sz n : Nat) (es : List AV)
  | sl (c : AV)
  | nils
  | osl (o : Nat) (p : List Stp) (sz lo len : Nat)
  | pp (c : AV) (p : List Stp)
  | fn (f : Fn) (cap : List AV)
  | fb (f : Fn) (fst : List AV)
  | nilf
  | nilm
  | opq
  | mp (o : Nat)
  | tup (vs : List AV)
  | junk
  deriving Inhabited
def AV.multi : AV → Bool
  | .ints .. | .agg _ | .arr .. | .lst .. | .tup _ => true
  | _ => false
mutual
def AV.csz : AV → Nat
  | .ints _ n _ => n
  | .lst sz n _ => n * sz
  | .arr sz ps => ps.length * sz
  | .agg ps => AV.cszs ps
  | .int .. | .bool _ | .str _ | .nilp | .ref .. | .sl _ | .nils | .osl .. | .pp .. | .fn .. | .fb .. | .nilf | .nilm | .opq | .mp _ | .tup _ | .junk => 1
def AV.cszs : List AV → Nat
  | [] => 0
  | v :: vs => AV.csz v + AV.cszs vs
end
def AV.cnt : AV → Nat
  | .ints _ n _ => n
  | .lst _ n _ => n
  | .arr _ ps => ps.length
  | _ => 0
def AV.esz : AV → Nat
  | .ints .. => 1
  | .lst sz _ _ => sz
  | .arr sz _ => sz
  | _ => 0
def AV.isRow : AV → Bool
  | .ints .. | .lst .. | .arr .. => true
  | _ => false
def poff : List Stp → Nat
  | [] => 0
  | .at i sz :: p => i * sz + poff p
  | .fld _ off :: p => off + poff p
abbrev Pool:=Nat → Nat → Option Value
abbrev Bmap:=Nat → Option (Nat × Nat)
def nob : Bmap:=fun _ => none
mutual
inductive RV (M : Pool) : Bmap → AV → List Value → Prop
  | int {β : Bmap} (k : IntKind) (n : Int) : RV M β (.int k n) [.int k n]
  | bool {β : Bmap} (b : Bool) : RV M β (.bool b) [.bool b]
  | str {β : Bmap} (s : List UInt8) : RV M β (.str s) [.string ⟨s.toArray⟩]
  | nilp {β : Bmap} : RV M β .nilp [.pointer none]
  | ref {β : Bmap} {o b κ : Nat} {p : List Stp} (h : β o = some (b,κ)) : RV M β (.ref o p) [.pointer (some ⟨b,poff p,none⟩)]
  | ints {β : Bmap} (k : IntKind) {n : Nat} {xs : List Int} (h : xs.length = n) : RV M β (.ints k n xs) (xs.map (.int k))
  | agg {β : Bmap} {ps : List AV} {cs : List Value} (h : RVs M β ps cs) : RV M β (.agg ps) cs
  | arr {β : Bmap} {sz : Nat} {ps : List AV} {cs : List Value} (h : RVs M β ps cs) (hs : ∀ p ∈ ps,p.csz = sz) : RV M β (.arr sz ps) cs
  | lst {β : Bmap} {sz n : Nat} {es : List AV} {cs : List Value} (h : RVs M nob es cs) (hs : ∀ p ∈ es,p.csz = sz) (hn : es.length = n) : RV M β (.lst sz n es) cs
  | sl {β : Bmap} {c : AV} {cc : List Value} {base : Option Addr} {len cap : Nat} (h : RV M nob c cc) (hr : c.isRow = true) (hl : c.cnt = len) (hc : len ≤ cap)
      (hm : len = 0 ∨ ∃ b off,base = some ⟨b,off,none⟩ ∧ ∀ i v,cc[i]? = some v → M b (off + i) = some v) : RV M β (.sl c) [.slice base len cap]
  | nils {β : Bmap} : RV M β .nils [.slice none 0 0]
  | osl {β : Bmap} {o b κ : Nat} {p : List Stp} {sz lo len cap : Nat} {base : Option Addr} (h : β o = some (b,κ)) (hc : len ≤ cap) (hk : p = [] → lo + cap ≤ κ)
      (ha : cap = 0 ∨ base = some ⟨b,poff p + lo * sz,none⟩) : RV M β (.osl o p sz lo len) [.slice base len cap]
  | pp {β : Bmap} {c : AV} {cc : List Value} {b off : Nat} {p : List Stp} (h : RV M nob c cc) (hm : ∀ i v,cc[i]? = some v → M b (off + i) = some v) :
      RV M β (.pp c p) [.pointer (some ⟨b,off + poff p,none⟩)]
  | fn {β : Bmap} {f : Fn} {cap : List AV} {xs : List Value} (h : VRs M β cap xs) : RV M β (.fn f cap) [.func f #[] xs.toArray]
  | fb {β : Bmap} {f : Fn} {fst : List AV} {xs : List Value} (h : VRs M β fst xs) : RV M β (.fb f fst) [.func f xs.toArray #[]]
  | nilf {β : Bmap} : RV M β .nilf [.nilFunc]
  | nilm {β : Bmap} : RV M β .nilm [.map none]
  | mp {β : Bmap} {o b κ : Nat} (h : β o = some (b,κ)) : RV M β (.mp o) [.map (some b)]
  | opq {β : Bmap} (x : Value) (h : x.oneCell' = true) : RV M β .opq [x]
inductive RVs (M : Pool) : Bmap → List AV → List Value → Prop
  | nil {β : Bmap} : RVs M β [] []
  | cons {β : Bmap} {v : AV} {vs : List AV} {c cs : List Value} (h : RV M β v c) (hs : RVs M β vs cs) : RVs M β (v :: vs) (c ++ cs)
inductive VR (M : Pool) : Bmap → AV → Value → Prop
  | one {β : Bmap} {v : AV} {x : Value} (hm : v.multi = false) (h : RV M β v [x]) : VR M β v x
  | agg {β : Bmap} {v : AV} {cs : List Value} (hm : v.multi = true) (h : RV M β v cs) : VR M β v (.agg cs.toArray)
  | tup {β : Bmap} {vs : List AV} {xs : List Value} (h : VRs M β vs xs) : VR M β (.tup vs) (.tuple xs.toArray)
  | junk {β : Bmap} (x : Value) : VR M β .junk x
inductive VRs (M : Pool) : Bmap → List AV → List Value → Prop
  | nil {β : Bmap} : VRs M β [] []
  | cons {β : Bmap} {v : AV} {vs : List AV} {x : Value} {xs : List Value} (h : VR M β v x) (hs : VRs M β vs xs) : VRs M β (v :: vs) (x :: xs)
end
inductive MK where
  | str (s : List UInt8)
  | int (n : Int)
  deriving DecidableEq
def MK.v : MK → Value
  | .str s => .string ⟨s.toArray⟩
  | .int n => .int .i64 n
def MK.isS : MK → Bool
  | .str _ => true
  | .int _ => false
def MK.av : MK → AV
  | .str s => .str s
  | .int n => .int .i64 n
inductive OB where
  | var (c : AV)
  | row (c : AV)
  | map (ds : List (List Int))
  | gm (f : Bool) (ks : List MK) (vs : List AV)
  deriving Inhabited
def lk {α : Type} : List (Nat × α) → Nat → Option α
  | [],_ => none
  | (i,v) :: T,t => if i = t then some v else lk T t
def digV (d : List Int) : Value:=.agg (d.map (Value.int .u8)).toArray
def freeCells (fz : Nat × Nat) (n : Nat) : Prop:=fz.1 = fz.2 ∨ n ≤ fz.1
theorem freeCells.no {fz : Nat × Nat} {n : Nat} (h : freeCells fz n) : ∀ i,i < n → ¬ (fz.1 ≤ i ∧ i < fz.2):=fun i hi => by rcases h with h | h <;> omega
def OR (M : Pool) (β : Bmap) (b κ : Nat) (w : World) : OB → Prop
  | .var c => κ ≠ 0 ∧ c.csz ≤ κ ∧ ∃ cs e fz,w.heap[b]? = some (.cells cs e fz) ∧ freeCells fz cs.size ∧ RV M β c cs.toList
  | .row c => c.isRow = true ∧ 0 < c.esz ∧ ((κ = 0 ∧ c.cnt = 0 ∧ RV M β c []) ∨ (κ ≠ 0 ∧ ∃ cc sp e fz,w.heap[b]? = some (.cells (cc ++ sp).toArray e fz) ∧ freeCells fz (cc ++ sp).length ∧ RV M β c cc ∧ (cc ++ sp).length = κ * c.esz))
  | .map ds => κ ≠ 0 ∧ ∃ es clock,w.heap[b]? = some (.map es clock) ∧ es.toList.map (fun e => (e.key,e.val)) = ds.map (fun d => (digV d,.bool true)) ∧ ∀ d ∈ ds,d.length = 32
  | .gm f ks vs => κ ≠ 0 ∧ ∃ es clock,w.heap[b]? = some (.map es clock) ∧ es.toList.map (fun e => e.key) = ks.map MK.v ∧ VRs M β vs (es.toList.map (fun e => e.val)) ∧ ∀ k ∈ ks,k.isS = f
structure Env where
  w0 : World
  own : Nat → Prop
  M0 : Pool
  B0 : Bmap
  n0 : Nat
  ok : Nat → Prop
abbrev TT:=List (Nat × AV)
abbrev OO:=List (Nat × OB)
structure St (E : Env) (M : Pool) (β : Bmap) (O : OO) (w : World) : Prop where
  pool : ∀ b i v,M b i = some v → w.cell? ⟨b,i,none⟩ = some v
  sub : ∀ b i v,E.M0 b i = some v → M b i = some v
  only : ∀ b i v,M b i = some v → E.M0 b i = some v ∨ E.own b ∨ E.w0.heap.size ≤ b
  objs : ∀ o ob,lk O o = some ob → ∃ b κ,β o = some (b,κ) ∧ OR M β b κ w ob
  mine : ∀ o ob b κ,lk O o = some ob → β o = some (b,κ) → κ ≠ 0 → (∀ i,M b i = none) ∧ (E.own b ∨ E.w0.heap.size ≤ b)
  inj : ∀ o o' ob ob' b κ κ',lk O o = some ob → lk O o' = some ob' → β o = some (b,κ) → β o' = some (b,κ') → κ ≠ 0 → κ' ≠ 0 → o = o'
  size : E.w0.heap.size ≤ w.heap.size
  keep : ∀ b,b < E.w0.heap.size → ¬ E.own b → w.heap[b]? = E.w0.heap[b]?
  os : w.os = E.w0.os
  tape : w.tape = E.w0.tape
  output : w.output = E.w0.output
structure RelAt (E : Env) (N : Nat) (M : Pool) (β : Bmap) (T : TT) (O : OO) (n : Nat) (a : Act) (w : World) : Prop where
  st : St E M β O w
  ids : ∀ o,n ≤ o → E.ok o → β o = none
  tmps : ∀ t v,lk T t = some v → ∃ x,a.tmps[t]? = some x ∧ VR M β v x
  nd : a.defers = []
  sz : a.tmps.size = N
  base : ∀ o,(o < E.n0 ∨ ¬ E.ok o) → β o = E.B0 o
  le0 : E.n0 ≤ n
def Rel (E : Env) (N : Nat) (T : TT) (O : OO) (n : Nat) (a : Act) (w : World) : Prop:=∃ M β,RelAt E N M β T O n a w
def ownOf (O : OO) (β : Bmap) (b : Nat) : Prop:=∃ o ob κ,lk O o = some ob ∧ β o = some (b,κ) ∧ κ ≠ 0
def Enters (P : Program) (f : FuncId) : Prop:=∃ fn,P.funcs[f]? = some fn ∧ (fn.name == "runtime.NumGoroutine") = false ∧ fn.body.isNone = false
def FnC (P : Program) (f : FuncId) (args : List AV) (O : OO) (r : AV) (O' : OO) : Prop:=Enters P f ∧
  ∀ (w : World) (M : Pool) (β : Bmap) (xs : List Value),(∀ o,lk O o = none → β o = none) → St ⟨w,ownOf O β,M,nob,0,fun _ => True⟩ M β O w → VRs M β args xs →
    Calls P f xs.toArray w fun e w' => ∃ x M' β',e = .returned x ∧ VR M' β' r x ∧ St ⟨w,ownOf O β,M,nob,0,fun _ => True⟩ M' β' O' w' ∧ (∀ o c,lk O o = some (.var c) → β' o = β o)
def FnK (P : Program) (ks : List Nat) (f : FuncId) (args : List AV) (O : OO) (r : AV) (O' : OO) : Prop:=Enters P f ∧
  ∀ (w : World) (M : Pool) (β : Bmap) (xs : List Value),(∀ o,lk O o = none → β o = none) → St ⟨w,ownOf O β,M,nob,0,fun _ => True⟩ M β O w → VRs M β args xs →
    Calls P f xs.toArray w fun e w' => ∃ x M' β',e = .returned x ∧ VR M' β' r x ∧ St ⟨w,ownOf O β,M,nob,0,fun _ => True⟩ M' β' O' w' ∧ (∀ o c,lk O o = some (.var c) → β' o = β o) ∧ (∀ o,ks.contains o = true → β' o = β o)
theorem FnC.k {P : Program} {f : FuncId} {args : List AV} {O : OO} {r : AV} {O' : OO} (h : FnC P f args O r O') : FnK P [] f args O r O' :=
  ⟨h.1,fun w M β xs h1 h2 h3 => (h.2 w M β xs h1 h2 h3).mono fun _ _ ⟨x,M',β',g1,g2,g3,g4⟩ => ⟨x,M',β',g1,g2,g3,g4,fun _ ho => by cases ho⟩⟩
theorem FnK.c {P : Program} {ks : List Nat} {f : FuncId} {args : List AV} {O : OO} {r : AV} {O' : OO} (h : FnK P ks f args O r O') : FnC P f args O r O' :=
  ⟨h.1,fun w M β xs h1 h2 h3 => (h.2 w M β xs h1 h2 h3).mono fun _ _ ⟨x,M',β',g1,g2,g3,g4,_⟩ => ⟨x,M',β',g1,g2,g3,g4⟩⟩
end Go.Sy
namespace Go.Sy
open Go
theorem ind4 {M : Pool} {p1 : Bmap → AV → List Value → Prop} {p2 : Bmap → List AV → List Value → Prop} {p3 : Bmap → AV → Value → Prop} {p4 : Bmap → List AV → List Value → Prop}
    (m0 : ∀ {β : Bmap} (k : IntKind) (n : Int),p1 β (.int k n) [.int k n])
    (m1 : ∀ {β : Bmap} (b : Bool),p1 β (.bool b) [.bool b])
    (m2 : ∀ {β : Bmap} (s : List UInt8),p1 β (.str s) [.string ⟨s.toArray⟩])
    (m3 : ∀ {β : Bmap},p1 β .nilp [.pointer none])
    (m4 : ∀ {β : Bmap} {o b κ : Nat} {p : List Stp} (_ : β o = some (b,κ)),p1 β (.ref o p) [.pointer (some ⟨b,poff p,none⟩)])
    (m5 : ∀ {β : Bmap} (k : IntKind) {n : Nat} {xs : List Int} (_ : xs.length = n),p1 β (.ints k n xs) (xs.map (.int k)))
    (m6 : ∀ {β : Bmap} {ps : List AV} {cs : List Value} (_ : RVs M β ps cs),p2 β ps cs → p1 β (.agg ps) cs)
    (m7 : ∀ {β : Bmap} {sz : Nat} {ps : List AV} {cs : List Value} (_ : RVs M β ps cs) (_ : ∀ p ∈ ps,p.csz = sz),p2 β ps cs → p1 β (.arr sz ps) cs)
    (m8 : ∀ {β : Bmap} {sz n : Nat} {es : List AV} {cs : List Value} (_ : RVs M nob es cs) (_ : ∀ p ∈ es,p.csz = sz) (_ : es.length = n),p2 nob es cs → p1 β (.lst sz n es) cs)
    (m9 : ∀ {β : Bmap} {c : AV} {cc : List Value} {base : Option Addr} {len cap : Nat} (_ : RV M nob c cc) (_ : c.isRow = true) (_ : c.cnt = len) (_ : len ≤ cap) (_ : len = 0 ∨ ∃ b off,base = some ⟨b,off,none⟩ ∧ ∀ i v,cc[i]? = some v → M b (off + i) = some v),p1 nob c cc → p1 β (.sl c) [.slice base len cap])
    (m10 : ∀ {β : Bmap},p1 β .nils [.slice none 0 0])
    (m11 : ∀ {β : Bmap} {o b κ : Nat} {p : List Stp} {sz lo len cap : Nat} {base : Option Addr} (_ : β o = some (b,κ)) (_ : len ≤ cap) (_ : p = [] → lo + cap ≤ κ) (_ : cap = 0 ∨ base = some ⟨b,poff p + lo * sz,none⟩),p1 β (.osl o p sz lo len) [.slice base len cap])
    (m12 : ∀ {β : Bmap} {c : AV} {cc : List Value} {b off : Nat} {p : List Stp} (_ : RV M nob c cc) (_ : ∀ i v,cc[i]? = some v → M b (off + i) = some v),p1 nob c cc → p1 β (.pp c p) [.pointer (some ⟨b,off + poff p,none⟩)])
    (m13 : ∀ {β : Bmap} {f : Fn} {cap : List AV} {xs : List Value} (_ : VRs M β cap xs),p4 β cap xs → p1 β (.fn f cap) [.func f #[] xs.toArray])
    (m13b : ∀ {β : Bmap} {f : Fn} {fst : List AV} {xs : List Value} (_ : VRs M β fst xs),p4 β fst xs → p1 β (.fb f fst) [.func f xs.toArray #[]])
    (m14 : ∀ {β : Bmap},p1 β .nilf [.nilFunc])
    (m15 : ∀ {β : Bmap},p1 β .nilm [.map none])
    (m16 : ∀ {β : Bmap} {o b κ : Nat} (_ : β o = some (b,κ)),p1 β (.mp o) [.map (some b)])
    (mj : ∀ {β : Bmap} (x : Value) (_ : x.oneCell' = true),p1 β .opq [x])
    (m17 : ∀ {β : Bmap},p2 β [] [])
    (m18 : ∀ {β : Bmap} {v : AV} {vs : List AV} {c cs : List Value} (_ : RV M β v c) (_ : RVs M β vs cs),p1 β v c → p2 β vs cs → p2 β (v :: vs) (c ++ cs))
    (m19 : ∀ {β : Bmap} {v : AV} {x : Value} (_ : v.multi = false) (_ : RV M β v [x]),p1 β v [x] → p3 β v x)
    (m20 : ∀ {β : Bmap} {v : AV} {cs : List Value} (_ : v.multi = true) (_ : RV M β v cs),p1 β v cs → p3 β v (.agg cs.toArray))
    (m21 : ∀ {β : Bmap} {vs : List AV} {xs : List Value} (_ : VRs M β vs xs),p4 β vs xs → p3 β (.tup vs) (.tuple xs.toArray))
    (m22 : ∀ {β : Bmap} (x : Value),p3 β .junk x)
    (m23 : ∀ {β : Bmap},p4 β [] [])
    (m24 : ∀ {β : Bmap} {v : AV} {vs : List AV} {x : Value} {xs : List Value} (_ : VR M β v x) (_ : VRs M β vs xs),p3 β v x → p4 β vs xs → p4 β (v :: vs) (x :: xs))
    : (∀ {β v cs},RV M β v cs → p1 β v cs) ∧ (∀ {β vs cs},RVs M β vs cs → p2 β vs cs) ∧ (∀ {β v x},VR M β v x → p3 β v x) ∧ (∀ {β vs xs},VRs M β vs xs → p4 β vs xs):=by
  exact ⟨@fun _ _ _ h => RV.rec (motive_1:=fun β v cs _ => p1 β v cs) (motive_2:=fun β vs cs _ => p2 β vs cs) (motive_3:=fun β v x _ => p3 β v x) (motive_4:=fun β vs xs _ => p4 β vs xs) @m0 @m1 @m2 @m3 @m4 @m5 @m6 @m7 @m8 @m9 @m10 @m11 @m12 @m13 @m13b @m14 @m15 @m16 @mj @m17 @m18 @m19 @m20 @m21 @m22 @m23 @m24 h,
    @fun _ _ _ h => RVs.rec (motive_1:=fun β v cs _ => p1 β v cs) (motive_2:=fun β vs cs _ => p2 β vs cs) (motive_3:=fun β v x _ => p3 β v x) (motive_4:=fun β vs xs _ => p4 β vs xs) @m0 @m1 @m2 @m3 @m4 @m5 @m6 @m7 @m8 @m9 @m10 @m11 @m12 @m13 @m13b @m14 @m15 @m16 @mj @m17 @m18 @m19 @m20 @m21 @m22 @m23 @m24 h,
    @fun _ _ _ h => VR.rec (motive_1:=fun β v cs _ => p1 β v cs) (motive_2:=fun β vs cs _ => p2 β vs cs) (motive_3:=fun β v x _ => p3 β v x) (motive_4:=fun β vs xs _ => p4 β vs xs) @m0 @m1 @m2 @m3 @m4 @m5 @m6 @m7 @m8 @m9 @m10 @m11 @m12 @m13 @m13b @m14 @m15 @m16 @mj @m17 @m18 @m19 @m20 @m21 @m22 @m23 @m24 h,
    @fun _ _ _ h => VRs.rec (motive_1:=fun β v cs _ => p1 β v cs) (motive_2:=fun β vs cs _ => p2 β vs cs) (motive_3:=fun β v x _ => p3 β v x) (motive_4:=fun β vs xs _ => p4 β vs xs) @m0 @m1 @m2 @m3 @m4 @m5 @m6 @m7 @m8 @m9 @m10 @m11 @m12 @m13 @m13b @m14 @m15 @m16 @mj @m17 @m18 @m19 @m20 @m21 @m22 @m23 @m24 h⟩
def AV.mem : AV → Bool
  | .tup _ | .junk => false
  | _ => true
theorem cszs_const {vs : List AV} {sz : Nat} (h : ∀ p ∈ vs,p.csz = sz) : AV.cszs vs = vs.length * sz:=by
  induction vs with
  | nil => simp [AV.cszs]
  | cons v vs ih => simp [AV.cszs,h v (by simp),ih (fun p hp => h p (by simp [hp])),Nat.add_mul,Nat.add_comm]
theorem length_aux {M : Pool} : (∀ {β v cs},RV M β v cs → cs.length = v.csz) ∧ (∀ {β vs cs},RVs M β vs cs → cs.length = AV.cszs vs) ∧ (∀ {β v x},VR M β v x → True) ∧ (∀ {β vs xs},VRs M β vs xs → True):=@ind4 M (fun _ v cs => cs.length = v.csz) (fun _ vs cs => cs.length = AV.cszs vs) (fun _ _ _ => True) (fun _ _ _ => True)
  (by intros; rfl) (by intros; rfl) (by intros; rfl) (by intros; rfl) (by intros; rfl) (by intros; simpa [AV.csz]) (by intros; simpa [AV.csz]) (by intro β sz ps cs _ hs h; rw [h,cszs_const hs]; simp [AV.csz])
  (by intro β sz n es cs _ hs hn h; rw [h,cszs_const hs,hn]; simp [AV.csz]) (by intros; rfl) (by intros; rfl) (by intros; rfl) (by intros; rfl) (by intros; rfl) (by intros; rfl) (by intros; rfl) (by intros; rfl) (by intros; rfl) (by intros; rfl) (by intros; rfl)
  (by intro β v vs c cs _ _ h k; simp [AV.cszs,h,k]) (by intros; trivial) (by intros; trivial) (by intros; trivial) (by intros; trivial) (by intros; trivial) (by intros; trivial)
theorem RV.length {M : Pool} {β : Bmap} {v : AV} {cs : List Value} (h : RV M β v cs) : cs.length = v.csz:=length_aux.1 h
theorem RVs.length {M : Pool} {β : Bmap} {vs : List AV} {cs : List Value} (h : RVs M β vs cs) : cs.length = AV.cszs vs:=length_aux.2.1 h
theorem one_aux {M : Pool} : (∀ {β v cs},RV M β v cs → ∀ x ∈ cs,x.oneCell' = true) ∧ (∀ {β vs cs},RVs M β vs cs → ∀ x ∈ cs,x.oneCell' = true) ∧ (∀ {β v x},VR M β v x → True) ∧ (∀ {β vs xs},VRs M β vs xs → True):=@ind4 M (fun _ _ cs => ∀ x ∈ cs,x.oneCell' = true) (fun _ _ cs => ∀ x ∈ cs,x.oneCell' = true) (fun _ _ _ => True) (fun _ _ _ => True)
  (by simp [Value.oneCell']) (by simp [Value.oneCell']) (by simp [Value.oneCell']) (by simp [Value.oneCell']) (by simp [Value.oneCell']) (by simp [Value.oneCell']) (by intro _ _ _ _ h; exact h) (by intro _ _ _ _ _ _ h; exact h)
  (by intro _ _ _ _ _ _ _ _ h; exact h) (by simp [Value.oneCell']) (by simp [Value.oneCell']) (by simp [Value.oneCell']) (by simp [Value.oneCell']) (by simp [Value.oneCell']) (by simp [Value.oneCell']) (by simp [Value.oneCell']) (by simp [Value.oneCell']) (by simp [Value.oneCell']) (by intro _ x h y hy; rw [List.mem_singleton] at hy; rw [hy]; exact h) (by simp)
  (by intro β v vs c cs _ _ h k x hx; rcases List.mem_append.1 hx with hx | hx; exact h x hx; exact k x hx) (by intros; trivial) (by intros; trivial) (by intros; trivial) (by intros; trivial) (by intros; trivial) (by intros; trivial)
theorem RV.one {M : Pool} {β : Bmap} {v : AV} {cs : List Value} (h : RV M β v cs) : ∀ x ∈ cs,x.oneCell' = true:=one_aux.1 h
def PLe (M M' : Pool) : Prop:=∀ b i v,M b i = some v → M' b i = some v
def BLe (β β' : Bmap) : Prop:=∀ o x,β o = some x → β' o = some x
theorem BLe.refl (β : Bmap) : BLe β β:=fun _ _ h => h
theorem BLe.trans {a b c : Bmap} (h : BLe a b) (k : BLe b c) : BLe a c:=fun _ _ x => k _ _ (h _ _ x)
theorem BLe.nob (β : Bmap) : BLe nob β:=fun _ _ h => by cases h
theorem PLe.refl (M : Pool) : PLe M M:=fun _ _ _ h => h
theorem PLe.trans {a b c : Pool} (h : PLe a b) (k : PLe b c) : PLe a c:=fun _ _ _ x => k _ _ _ (h _ _ _ x)
theorem mono_aux {M M' : Pool} (hM : PLe M M') : (∀ {β v cs},RV M β v cs → ∀ β',BLe β β' → RV M' β' v cs) ∧ (∀ {β vs cs},RVs M β vs cs → ∀ β',BLe β β' → RVs M' β' vs cs) ∧
  (∀ {β v x},VR M β v x → ∀ β',BLe β β' → VR M' β' v x) ∧ (∀ {β vs xs},VRs M β vs xs → ∀ β',BLe β β' → VRs M' β' vs xs):=@ind4 M (fun β v cs => ∀ β',BLe β β' → RV M' β' v cs) (fun β vs cs => ∀ β',BLe β β' → RVs M' β' vs cs)
  (fun β v x => ∀ β',BLe β β' → VR M' β' v x) (fun β vs xs => ∀ β',BLe β β' → VRs M' β' vs xs)
  (fun k n _ _ => .int k n) (fun b _ _ => .bool b) (fun s _ _ => .str s) (fun _ _ => .nilp) (fun h _ hb => .ref (hb _ _ h)) (fun k _ _ h _ _ => .ints k h)
  (fun _ ih β' hb => .agg (ih β' hb)) (fun _ hs ih β' hb => .arr (ih β' hb) hs) (fun _ hs hn ih _ _ => .lst (ih nob (BLe.refl _)) hs hn)
  (fun _ hr hl hc hm ih _ _ => .sl (ih nob (BLe.refl _)) hr hl hc (hm.imp id fun ⟨b,off,e,h⟩ => ⟨b,off,e,fun i v hi => hM _ _ _ (h i v hi)⟩))
  (fun _ _ => .nils) (fun h hc hk ha _ hb => .osl (hb _ _ h) hc hk ha) (fun _ hm ih _ _ => .pp (ih nob (BLe.refl _)) fun i v hi => hM _ _ _ (hm i v hi))
  (fun _ ih β' hb => .fn (ih β' hb)) (fun _ ih β' hb => .fb (ih β' hb)) (fun _ _ => .nilf) (fun _ _ => .nilm) (fun h _ hb => .mp (hb _ _ h)) (fun x h _ _ => .opq x h) (fun _ _ => .nil) (fun _ _ i1 i2 β' hb => .cons (i1 β' hb) (i2 β' hb))
  (fun hm _ ih β' hb => .one hm (ih β' hb)) (fun hm _ ih β' hb => .agg hm (ih β' hb)) (fun _ ih β' hb => .tup (ih β' hb)) (fun x _ _ => .junk x) (fun _ _ => .nil) (fun _ _ i1 i2 β' hb => .cons (i1 β' hb) (i2 β' hb))
section
variable {M M' : Pool} {β β' : Bmap} {v : AV} {vs : List AV} {cs xs : List Value} {x : Value}
theorem RV.mono (h : RV M β v cs) (hM : PLe M M') (hb : BLe β β') : RV M' β' v cs:=(mono_aux hM).1 h β' hb
theorem RVs.mono (h : RVs M β vs cs) (hM : PLe M M') (hb : BLe β β') : RVs M' β' vs cs:=(mono_aux hM).2.1 h β' hb
theorem VR.mono (h : VR M β v x) (hM : PLe M M') (hb : BLe β β') : VR M' β' v x:=(mono_aux hM).2.2.1 h β' hb
theorem VRs.mono (h : VRs M β vs xs) (hM : PLe M M') (hb : BLe β β') : VRs M' β' vs xs:=(mono_aux hM).2.2.2 h β' hb
theorem VR.cells (h : VR M β v x) (ht : v.mem = true) : RV M β v x.cells.toList:=by
  cases h with
  | junk x => cases ht
  | one hm h =>
    have h1:=h.one x (by simp)
    have : x.cells = #[x]:=by cases x <;> first | rfl | simp [Value.oneCell'] at h1
    simpa [this] using h
  | agg hm h => simpa [Value.cells] using h
  | tup h => cases ht
end
theorem RVs.append {M : Pool} {β : Bmap} {vs ws : List AV} {cs ds : List Value} (h : RVs M β vs cs) (k : RVs M β ws ds) : RVs M β (vs ++ ws) (cs ++ ds):=by
  induction vs generalizing cs with
  | nil => cases h; simpa using k
  | cons v vs ih => cases h with | cons h hs => rw [List.append_assoc]; exact .cons h (ih hs)
mutual
def AV.nid : AV → Bool
  | .ref .. | .osl .. | .mp _ => false
  | .agg ps => AV.nids ps
  | .arr _ ps => AV.nids ps
  | .tup ps => AV.nids ps
  | .fn _ ps => AV.nids ps
  | .fb _ ps => AV.nids ps
  | .int .. | .bool _ | .str _ | .nilp | .ints .. | .lst .. | .sl _ | .nils | .pp .. | .nilf | .nilm | .opq | .junk => true
def AV.nids : List AV → Bool
  | [] => true
  | v :: vs => v.nid && AV.nids vs
end
theorem nid_aux {M : Pool} : (∀ {β v cs},RV M β v cs → v.nid = true → ∀ β',RV M β' v cs) ∧ (∀ {β vs cs},RVs M β vs cs → AV.nids vs = true → ∀ β',RVs M β' vs cs) ∧
    (∀ {β v x},VR M β v x → v.nid = true → ∀ β',VR M β' v x) ∧ (∀ {β vs xs},VRs M β vs xs → AV.nids vs = true → ∀ β',VRs M β' vs xs) :=
  @ind4 M (fun β v cs => v.nid = true → ∀ β',RV M β' v cs) (fun β vs cs => AV.nids vs = true → ∀ β',RVs M β' vs cs) (fun β v x => v.nid = true → ∀ β',VR M β' v x) (fun β vs xs => AV.nids vs = true → ∀ β',VRs M β' vs xs)
  (fun k n _ _ => .int k n) (fun b _ _ => .bool b) (fun s _ _ => .str s) (fun _ _ => .nilp) (fun _ h => by simp [AV.nid] at h) (fun k _ _ h _ _ => .ints k h)
  (fun _ ih h β' => .agg (ih (by simpa [AV.nid] using h) β')) (fun _ hs ih h β' => .arr (ih (by simpa [AV.nid] using h) β') hs) (fun h hs hn _ _ _ => .lst h hs hn)
  (fun h hr hl hc hm _ _ _ => .sl h hr hl hc hm) (fun _ _ => .nils) (fun _ _ _ _ h => by simp [AV.nid] at h) (fun h hm _ _ _ => .pp h hm)
  (fun _ ih h β' => .fn (ih (by simpa [AV.nid] using h) β')) (fun _ ih h β' => .fb (ih (by simpa [AV.nid] using h) β')) (fun _ _ => .nilf) (fun _ _ => .nilm) (fun _ h => by simp [AV.nid] at h) (fun x h _ _ => .opq x h) (fun _ _ => .nil)
  (fun _ _ i1 i2 h β' => by simp only [AV.nids,Bool.and_eq_true] at h; exact .cons (i1 h.1 β') (i2 h.2 β'))
  (fun hm _ ih h β' => .one hm (ih h β')) (fun hm _ ih h β' => .agg hm (ih h β')) (fun _ ih h β' => .tup (ih (by simpa [AV.nid] using h) β')) (fun x _ _ => .junk x) (fun _ _ => .nil)
  (fun _ _ i1 i2 h β' => by simp only [AV.nids,Bool.and_eq_true] at h; exact .cons (i1 h.1 β') (i2 h.2 β'))
theorem RV.nid {M : Pool} {β : Bmap} {v : AV} {cs : List Value} (h : RV M β v cs) (hn : v.nid = true) (β' : Bmap) : RV M β' v cs:=nid_aux.1 h hn β'
theorem VR.nid {M : Pool} {β : Bmap} {v : AV} {x : Value} (h : VR M β v x) (hn : v.nid = true) (β' : Bmap) : VR M β' v x:=nid_aux.2.2.1 h hn β'
def fldC : List AV → Nat → Nat → (AV → Prop) → Prop
  | [],_,_,_ => False
  | q :: _,0,off,K => off = 0 ∧ K q
  | q :: qs,j + 1,off,K => q.csz ≤ off ∧ fldC qs j (off - q.csz) K
def navC : List Stp → AV → (AV → Prop) → Prop
  | [],v,K => K v
  | .fld j off :: p,.agg ps,K => fldC ps j off fun q => navC p q K
  | .at i sz :: p,.ints k n xs,K => sz = 1 ∧ i < n ∧ navC p (.int k (xs.getD i 0)) K
  | .at i sz :: p,.arr s ps,K => s = sz ∧ i < ps.length ∧ ∀ q,ps[i]? = some q → navC p q K
  | .at i sz :: p,.lst s _ es,K => s = sz ∧ i < es.length ∧ ∀ q,es[i]? = some q → navC p q K
  | _,_,_ => False
def fldU : List AV → Nat → Nat → (AV → (AV → Prop) → Prop) → (List AV → Prop) → Prop
  | [],_,_,_,_ => False
  | q :: qs,0,off,U,K => off = 0 ∧ U q fun q' => K (q' :: qs)
  | q :: qs,j + 1,off,U,K => q.csz ≤ off ∧ fldU qs j (off - q.csz) U fun qs' => K (q :: qs')
def intU (k : IntKind) : AV → (Int → Prop) → Prop
  | .int k' y,K => k' = k ∧ K y
  | _,_ => False
def updC : List Stp → AV → AV → (AV → Prop) → Prop
  | [],v,x,K => x.csz = v.csz ∧ K x
  | .fld j off :: p,.agg ps,x,K => fldU ps j off (fun q K' => updC p q x K') fun ps' => K (.agg ps')
  | .at i sz :: p,.ints k n xs,x,K => p = [] ∧ sz = 1 ∧ i < n ∧ intU k x fun y => K (.ints k n (xs.set i y))
  | .at i sz :: p,.arr s ps,x,K => s = sz ∧ i < ps.length ∧ ∀ q,ps[i]? = some q → updC p q x fun q' => K (.arr s (ps.set i q'))
  | .at i sz :: p,.lst s n es,x,K => s = sz ∧ i < es.length ∧ x.nid = true ∧ ∀ q,es[i]? = some q → updC p q x fun q' => K (.lst s n (es.set i q'))
  | _,_,_,_ => False
def piece (cs : List Value) (o n : Nat) : List Value:=(cs.drop o).take n
def splice (cs : List Value) (o : Nat) (xs : List Value) : List Value:=cs.take o ++ (xs ++ cs.drop (o + xs.length))
theorem piece_all (cs : List Value) : piece cs 0 cs.length = cs:=by simp [piece]
theorem piece_piece (cs : List Value) (o n a m : Nat) (h : a + m ≤ n) : piece (piece cs o n) a m = piece cs (o + a) m:=by
  simp only [piece,List.drop_take,List.take_take,List.drop_drop]
  congr 1; omega
theorem splice_splice (cs : List Value) (o n a : Nat) (xs : List Value) (h : a + xs.length ≤ n) (hn : o + n ≤ cs.length) : splice cs o (splice (piece cs o n) a xs) = splice cs (o + a) xs:=by
  have hl : (splice (piece cs o n) a xs).length = n:=by simp [splice,piece]; omega
  apply List.ext_getElem?
  intro i
  simp only [splice,piece] at hl ⊢
  rw [hl]
  simp only [List.getElem?_append,List.getElem?_take,List.getElem?_drop,List.length_take,List.length_drop,List.length_append]
  repeat' split
  all_goals first | rfl | (exfalso; omega) | (congr 1; omega)
theorem RVs.nth {M : Pool} {β : Bmap} {sz : Nat} {ps : List AV} {cs : List Value} (h : RVs M β ps cs) (hs : ∀ p ∈ ps,p.csz = sz) {i : Nat} {q : AV} (hq : ps[i]? = some q) :
    i * sz + sz ≤ cs.length ∧ RV M β q (piece cs (i * sz) sz):=by
  induction ps generalizing cs i with
  | nil => simp at hq
  | cons p ps ih =>
    cases h with
    | cons hp hps =>
      rename_i c cs
      have hc:=hp.length
      rw [hs p (by simp)] at hc
      cases i with
      | zero =>
        simp only [List.getElem?_cons_zero,Option.some.injEq] at hq
        subst hq
        refine ⟨by simp [hc],?_⟩
        have : piece (c ++ cs) (0 * sz) sz = c:=by simp [piece,← hc]
        rw [this]; exact hp
      | succ i =>
        simp only [List.getElem?_cons_succ] at hq
        obtain ⟨h1,h2⟩:=ih hps (fun p hp => hs p (by simp [hp])) hq
        refine ⟨by simp [hc,Nat.add_mul]; omega,?_⟩
        have : piece (c ++ cs) ((i + 1) * sz) sz = piece cs (i * sz) sz:=by
          simp only [piece,Nat.add_mul,Nat.one_mul]
          rw [List.drop_append,List.drop_of_length_le (by omega),show i * sz + sz - c.length = i * sz by omega,List.nil_append]
        rw [this]; exact h2
theorem RVs.set {M : Pool} {β : Bmap} {sz : Nat} {ps : List AV} {cs xs : List Value} (h : RVs M β ps cs) (hs : ∀ p ∈ ps,p.csz = sz) {i : Nat} {q : AV} (hi : i < ps.length)
    (hq : RV M β q xs) (hz : xs.length = sz) : RVs M β (ps.set i q) (splice cs (i * sz) xs):=by
  induction ps generalizing cs i with
  | nil => simp at hi
  | cons p ps ih =>
    cases h with
    | cons hp hps =>
      rename_i c cs
      have hc:=hp.length
      rw [hs p (by simp)] at hc
      cases i with
      | zero =>
        have : splice (c ++ cs) (0 * sz) xs = xs ++ cs:=by simp [splice,hz,← hc]
        rw [this]; exact .cons hq hps
      | succ i =>
        have:=ih hps (fun p hp => hs p (by simp [hp])) (by simpa using hi) (i:=i)
        have e : splice (c ++ cs) ((i + 1) * sz) xs = c ++ splice cs (i * sz) xs:=by
          simp only [splice,Nat.add_mul,Nat.one_mul]
          rw [List.take_append,List.take_of_length_le (by omega),List.drop_append,List.drop_of_length_le (by omega),show i * sz + sz - c.length = i * sz by omega,
            show i * sz + sz + xs.length - c.length = i * sz + xs.length by omega]
          simp
        rw [e]; exact .cons hp this
theorem fldC_spec : ∀ (ps : List AV) (j off : Nat) (K : AV → Prop),fldC ps j off K → ∃ q,K q ∧ ∀ {M : Pool} {β : Bmap} {cs : List Value},RVs M β ps cs → off + q.csz ≤ cs.length ∧ RV M β q (piece cs off q.csz):=by
  intro ps
  induction ps with
  | nil => intro j off K h; exact h.elim
  | cons p ps ih =>
    intro j off K h
    cases j with
    | zero =>
      obtain ⟨rfl,hk⟩:=h
      refine ⟨p,hk,fun {M β cs} hr => ?_⟩
      cases hr with
      | cons hp hps =>
        rename_i c cs
        have:=hp.length
        refine ⟨by simp; omega,?_⟩
        have e : piece (c ++ cs) 0 p.csz = c:=by simp [piece,← this]
        rw [e]; exact hp
    | succ j =>
      obtain ⟨hle,h⟩:=h
      obtain ⟨q,hk,hq⟩:=ih _ _ _ h
      refine ⟨q,hk,fun {M β cs} hr => ?_⟩
      cases hr with
      | cons hp hps =>
        rename_i c cs
        have hl:=hp.length
        obtain ⟨h1,h2⟩:=hq hps
        refine ⟨by simp; omega,?_⟩
        have e : piece (c ++ cs) off q.csz = piece cs (off - p.csz) q.csz:=by
          simp only [piece]
          rw [List.drop_append,List.drop_of_length_le (by omega),List.nil_append,hl]
        rw [e]; exact h2
theorem nav_spec : ∀ (p : List Stp) (v : AV) (K : AV → Prop),navC p v K → ∃ q,K q ∧ ∀ {M : Pool} {β : Bmap} {cs : List Value},RV M β v cs → poff p + q.csz ≤ cs.length ∧ RV M β q (piece cs (poff p) q.csz):=by
  intro p
  induction p with
  | nil =>
    intro v K h
    refine ⟨v,by simpa [navC] using h,fun {M β cs} hr => ?_⟩
    have:=hr.length
    refine ⟨by simp [poff,this],?_⟩
    simp only [poff,← this,piece_all]; exact hr
  | cons s p ih =>
    intro v K h
    cases s with
    | fld j off =>
      cases v with
      | agg ps =>
        obtain ⟨q,hk,hq⟩:=fldC_spec _ _ _ _ h
        obtain ⟨r,hr,hr2⟩:=ih _ _ hk
        refine ⟨r,hr,fun {M β cs} hv => ?_⟩
        cases hv with
        | agg hps =>
          obtain ⟨h1,h2⟩:=hq hps
          obtain ⟨h3,h4⟩:=hr2 h2
          have hl : (piece cs off q.csz).length = q.csz:=by simp [piece]; omega
          rw [hl] at h3
          refine ⟨by simp only [poff]; omega,?_⟩
          rw [piece_piece _ _ _ _ _ h3] at h4
          exact h4
      | _ => exact h.elim
    | «at» i sz =>
      cases v with
      | ints k n xs =>
        obtain ⟨rfl,hi,h⟩:=h
        obtain ⟨r,hr,hr2⟩:=ih _ _ h
        refine ⟨r,hr,fun {M β cs} hv => ?_⟩
        cases hv with
        | ints _ hn =>
          have hx : i < xs.length:=by omega
          obtain ⟨h3,h4⟩:=hr2 (RV.int (M:=M) (β:=β) k (xs.getD i 0))
          have e : piece (xs.map (Value.int k)) (i * 1) 1 = [Value.int k (xs.getD i 0)]:=by
            simp [piece,List.drop_eq_getElem_cons,hx,List.getD]
          rw [← e] at h4 h3
          have hl : (piece (xs.map (Value.int k)) (i * 1) 1).length = 1:=by rw [e]; rfl
          rw [hl] at h3
          refine ⟨by simp only [poff,List.length_map]; omega,?_⟩
          rw [piece_piece _ _ _ _ _ h3] at h4
          exact h4
      | arr s ps =>
        obtain ⟨rfl,hi,h⟩:=h
        obtain ⟨r,hr,hr2⟩:=ih _ _ (h _ (List.getElem?_eq_getElem hi))
        refine ⟨r,hr,fun {M β cs} hv => ?_⟩
        cases hv with
        | arr hps hs =>
          obtain ⟨h1,h2⟩:=hps.nth hs (List.getElem?_eq_getElem hi)
          obtain ⟨h3,h4⟩:=hr2 h2
          have hl : (piece cs (i * s) s).length = s:=by simp [piece]; omega
          rw [hl] at h3
          refine ⟨by simp only [poff]; omega,?_⟩
          rw [piece_piece _ _ _ _ _ h3] at h4
          exact h4
      | lst s n ps =>
        obtain ⟨rfl,hi,h⟩:=h
        obtain ⟨r,hr,hr2⟩:=ih _ _ (h _ (List.getElem?_eq_getElem hi))
        refine ⟨r,hr,fun {M β cs} hv => ?_⟩
        cases hv with
        | lst hps hs hn =>
          obtain ⟨h1,h2⟩:=hps.nth hs (List.getElem?_eq_getElem hi)
          obtain ⟨h3,h4⟩:=hr2 (h2.mono (PLe.refl _) (BLe.nob β))
          have hl : (piece cs (i * s) s).length = s:=by simp [piece]; omega
          rw [hl] at h3
          refine ⟨by simp only [poff]; omega,?_⟩
          rw [piece_piece _ _ _ _ _ h3] at h4
          exact h4
      | _ => exact h.elim
theorem fldU_spec : ∀ (ps : List AV) (j off : Nat) (U : AV → (AV → Prop) → Prop) (K : List AV → Prop),fldU ps j off U K → ∃ q,∃ K' : AV → Prop,U q K' ∧ ∀ q',K' q' → q'.csz = q.csz → ∃ ps',K ps' ∧ AV.cszs ps' = AV.cszs ps ∧
    ∀ {M : Pool} {β : Bmap} {cs xc : List Value},RVs M β ps cs → RV M β q (piece cs off q.csz) ∧ off + q.csz ≤ cs.length ∧ (RV M β q' xc → RVs M β ps' (splice cs off xc)):=by
  intro ps
  induction ps with
  | nil => intro j off U K h; exact h.elim
  | cons p ps ih =>
    intro j off U K h
    cases j with
    | zero =>
      obtain ⟨rfl,hk⟩:=h
      refine ⟨p,_,hk,fun q' hq' hc => ⟨q' :: ps,hq',by simp [AV.cszs,hc],fun {M β cs xc} hr => ?_⟩⟩
      cases hr with
      | cons hp hps =>
        rename_i c cs
        have:=hp.length
        have e : piece (c ++ cs) 0 p.csz = c:=by simp [piece,← this]
        refine ⟨by rw [e]; exact hp,by simp; omega,fun hx => ?_⟩
        have hl:=hx.length
        have e : splice (c ++ cs) 0 xc = xc ++ cs:=by simp [splice,hl,hc,← this]
        rw [e]; exact .cons hx hps
    | succ j =>
      obtain ⟨hle,h⟩:=h
      obtain ⟨q,K',hk,hq⟩:=ih _ _ _ _ h
      refine ⟨q,K',hk,fun q' hq' hc => ?_⟩
      obtain ⟨ps',hK,hsz,hr⟩:=hq q' hq' hc
      refine ⟨p :: ps',hK,by simp [AV.cszs,hsz],fun {M β cs xc} hv => ?_⟩
      cases hv with
      | cons hp hps =>
        rename_i c cs
        have hl:=hp.length
        obtain ⟨h1,h2,h3⟩:=hr hps
        have e : piece (c ++ cs) off q.csz = piece cs (off - p.csz) q.csz:=by
          simp only [piece]
          rw [List.drop_append,List.drop_of_length_le (by omega),List.nil_append,hl]
        refine ⟨by rw [e]; exact h1,by simp; omega,fun hx => ?_⟩
        have e : splice (c ++ cs) off xc = c ++ splice cs (off - p.csz) xc:=by
          simp only [splice]
          rw [List.take_append,List.take_of_length_le (by omega),List.drop_append,List.drop_of_length_le (by omega),hl,show off + xc.length - p.csz = off - p.csz + xc.length by omega]
          simp
        rw [e]; exact .cons hp (h3 hx)
theorem upd_spec : ∀ (p : List Stp) (v x : AV) (K : AV → Prop),updC p v x K → ∃ v',K v' ∧ v'.csz = v.csz ∧ ∀ {M : Pool} {β : Bmap} {cs xc : List Value},RV M β v cs → RV M β x xc →
    poff p + xc.length ≤ cs.length ∧ RV M β v' (splice cs (poff p) xc):=by
  intro p
  induction p with
  | nil =>
    intro v x K h
    obtain ⟨hs,hk⟩ : x.csz = v.csz ∧ K x:=by simpa [updC] using h
    refine ⟨x,hk,hs,fun {M β cs xc} hr hx => ?_⟩
    have h1:=hr.length
    have h2:=hx.length
    refine ⟨by simp [poff]; omega,?_⟩
    have e : splice cs (poff []) xc = xc:=by simp [poff,splice]; omega
    rw [e]; exact hx
  | cons s p ih =>
    intro v x K h
    cases s with
    | fld j off =>
      cases v with
      | agg ps =>
        obtain ⟨q,K',hk,hq⟩:=fldU_spec _ _ _ _ _ h
        obtain ⟨q',hq',hcz,hr2⟩:=ih _ _ _ hk
        obtain ⟨ps',hK,hsz,hr⟩:=hq q' hq' hcz
        refine ⟨.agg ps',hK,by simp [AV.csz,hsz],fun {M β cs xc} hv hx => ?_⟩
        cases hv with
        | agg hps =>
          obtain ⟨h1,h2,h3⟩:=hr (xc:=splice (piece cs off q.csz) (poff p) xc) hps
          obtain ⟨h5,h6⟩:=hr2 h1 hx
          have hl : (piece cs off q.csz).length = q.csz:=by simp [piece]; omega
          rw [hl] at h5
          refine ⟨by simp only [poff]; omega,?_⟩
          have:=h3 h6
          rw [splice_splice _ _ _ _ _ h5 h2] at this
          exact .agg this
      | _ => exact h.elim
    | «at» i sz =>
      cases v with
      | ints k n xs =>
        obtain ⟨rfl,rfl,hi,h⟩:=h
        cases x with
        | int k' y =>
          obtain ⟨rfl,hk⟩:=h
          refine ⟨_,hk,by simp [AV.csz],fun {M β cs xc} hv hx => ?_⟩
          cases hv with
          | ints _ hn =>
            cases hx
            refine ⟨by simp [poff]; omega,?_⟩
            have e : splice (xs.map (Value.int k')) (poff [.at i 1]) [Value.int k' y] = (xs.set i y).map (Value.int k'):=by
              simp only [poff,splice,List.map_set,Nat.mul_one,Nat.add_zero,List.length_singleton]
              rw [List.set_eq_take_append_cons_drop,if_pos (by simp; omega)]
              simp
            rw [e]
            exact .ints _ (by simpa using hn)
        | _ => exact h.elim
      | arr s ps =>
        obtain ⟨rfl,hi,h⟩:=h
        obtain ⟨q',hq',hcz,hr2⟩:=ih _ _ _ (h _ (List.getElem?_eq_getElem hi))
        refine ⟨_,hq',by simp [AV.csz],fun {M β cs xc} hv hx => ?_⟩
        cases hv with
        | arr hps hs =>
          obtain ⟨h1,h2⟩:=hps.nth hs (List.getElem?_eq_getElem hi)
          obtain ⟨h5,h6⟩:=hr2 h2 hx
          have hl : (piece cs (i * s) s).length = s:=by simp [piece]; omega
          rw [hl] at h5
          refine ⟨by simp only [poff]; omega,?_⟩
          have hcs : q'.csz = s:=by rw [hcz]; exact hs _ (List.getElem_mem hi)
          have hl2 : (splice (piece cs (i * s) s) (poff p) xc).length = s:=by rw [h6.length,hcs]
          have:=hps.set hs hi h6 hl2
          rw [splice_splice _ _ _ _ _ h5 h1] at this
          exact .arr this fun z hz => by rcases List.mem_or_eq_of_mem_set hz with hz | rfl; exact hs z hz; exact hcs
      | lst s n ps =>
        obtain ⟨rfl,hi,hnid,h⟩:=h
        obtain ⟨q',hq',hcz,hr2⟩:=ih _ _ _ (h _ (List.getElem?_eq_getElem hi))
        refine ⟨_,hq',by simp [AV.csz],fun {M β cs xc} hv hx => ?_⟩
        cases hv with
        | lst hps hs hn =>
          obtain ⟨h1,h2⟩:=hps.nth hs (List.getElem?_eq_getElem hi)
          obtain ⟨h5,h6⟩:=hr2 h2 (hx.nid hnid nob)
          have hl : (piece cs (i * s) s).length = s:=by simp [piece]; omega
          rw [hl] at h5
          refine ⟨by simp only [poff]; omega,?_⟩
          have hcs : q'.csz = s:=by rw [hcz]; exact hs _ (List.getElem_mem hi)
          have hl2 : (splice (piece cs (i * s) s) (poff p) xc).length = s:=by rw [h6.length,hcs]
          have:=hps.set hs hi h6 hl2
          rw [splice_splice _ _ _ _ _ h5 h1] at this
          exact .lst this (fun z hz => by rcases List.mem_or_eq_of_mem_set hz with hz | rfl; exact hs z hz; exact hcs) (by simpa using hn)
      | _ => exact h.elim
end Go.Sy
namespace Go.Sy
open Go
inductive Ty where
  | int (k : IntKind)
  | bool
  | str
  | ptr (e : TypeId)
  | slice (e : TypeId)
  | arr (n : Nat) (e : TypeId) (t : Ty)
  | st (ts : List Ty)
  | map (k v : TypeId)
  | func
  deriving Inhabited
def Ty.multi : Ty → Bool
  | .arr .. | .st _ => true
  | _ => false
mutual
def Ty.size : Ty → Nat
  | .arr n _ t => n * t.size
  | .st ts => Ty.sizes ts
  | .int _ | .bool | .str | .ptr _ | .slice _ | .map .. | .func => 1
def Ty.sizes : List Ty → Nat
  | [] => 0
  | t :: ts => t.size + Ty.sizes ts
end
mutual
def Ty.zero : Ty → AV
  | .int k => .int k 0
  | .bool => .bool false
  | .str => .str []
  | .ptr _ => .nilp
  | .slice _ => .nils
  | .arr n _ (.int k) => .ints k n (List.replicate n 0)
  | .arr n _ t => .lst t.size n (List.replicate n t.zero)
  | .st ts => .agg (Ty.zeros ts)
  | .map .. => .nilm
  | .func => .nilf
def Ty.zeros : List Ty → List AV
  | [] => []
  | t :: ts => t.zero :: Ty.zeros ts
end
mutual
def Ty.zc : Ty → List Value
  | .int k => [.int k 0]
  | .bool => [.bool false]
  | .str => [.string ⟨#[]⟩]
  | .ptr _ => [.pointer none]
  | .slice _ => [.slice none 0 0]
  | .arr n _ t => (List.replicate n t.zc).flatten
  | .st ts => Ty.zcs ts
  | .map .. => [.map none]
  | .func => [.nilFunc]
def Ty.zcs : List Ty → List Value
  | [] => []
  | t :: ts => t.zc ++ Ty.zcs ts
end
def Ty.zv (t : Ty) : Value:=if t.multi then .agg t.zc.toArray else t.zc.headD undef
theorem zeros_rv {M : Pool} (n : Nat) (v : AV) (c : List Value) (h : ∀ β,RV M β v c) (β : Bmap) : RVs M β (List.replicate n v) (List.replicate n c).flatten:=by
  induction n with
  | zero => exact .nil
  | succ n ih => simp only [List.replicate_succ,List.flatten_cons]; exact .cons (h β) ih
theorem arr_zero {M : Pool} (n : Nat) (e : TypeId) (t : Ty) (ih : ∀ β,RV M β t.zero t.zc) (hz : t.zero.csz = t.size) (β : Bmap) : RV M β (Ty.arr n e t).zero (Ty.arr n e t).zc:=by
  have key : ∀ t : Ty,(∀ k,t ≠ .int k) → (∀ β,RV M β t.zero t.zc) → t.zero.csz = t.size → RV M β (.lst t.size n (List.replicate n t.zero)) (List.replicate n t.zc).flatten:=fun t _ ih hz =>
    .lst (zeros_rv n _ _ ih nob) (fun p hp => by rw [(List.mem_replicate.1 hp).2]; exact hz) (by simp)
  cases t with
  | int k =>
    have : (List.replicate n [Value.int k 0]).flatten = (List.replicate n 0).map (Value.int k):=by
      clear key
      induction n with
      | zero => rfl
      | succ n ih' => simp only [List.replicate_succ,List.flatten_cons,List.map_cons,ih',List.singleton_append]
    simp only [Ty.zero,Ty.zc,this]
    exact .ints k (by simp)
  | _ => simp only [Ty.zero,Ty.zc]; exact key _ (by intro k h; cases h) ih hz
theorem zero_csz : (∀ t : Ty,t.zero.csz = t.size) ∧ (∀ ts : List Ty,AV.cszs (Ty.zeros ts) = Ty.sizes ts):=by
  refine ⟨fun t => ?_,fun ts => ?_⟩
  · refine Ty.rec (motive_1:=fun t => t.zero.csz = t.size) (motive_2:=fun ts => AV.cszs (Ty.zeros ts) = Ty.sizes ts) ?_ ?_ ?_ ?_ ?_ ?_ ?_ ?_ ?_ ?_ ?_ t <;> intros <;> first | rfl | skip
    · rename_i t _; cases t <;> simp [Ty.zero,AV.csz,Ty.size]
    · simpa [Ty.zero,AV.csz,Ty.size]
    · simp_all [Ty.zeros,AV.cszs,Ty.sizes]
  · refine Ty.rec_1 (motive_1:=fun t => t.zero.csz = t.size) (motive_2:=fun ts => AV.cszs (Ty.zeros ts) = Ty.sizes ts) ?_ ?_ ?_ ?_ ?_ ?_ ?_ ?_ ?_ ?_ ?_ ts <;> intros <;> first | rfl | skip
    · rename_i t _; cases t <;> simp [Ty.zero,AV.csz,Ty.size]
    · simpa [Ty.zero,AV.csz,Ty.size]
    · simp_all [Ty.zeros,AV.cszs,Ty.sizes]
theorem zero_rv {M : Pool} : (∀ t : Ty,∀ β,RV M β t.zero t.zc):=by
  intro t
  refine Ty.rec (motive_1:=fun t => ∀ β,RV M β t.zero t.zc) (motive_2:=fun ts => ∀ β,RVs M β (Ty.zeros ts) (Ty.zcs ts)) ?_ ?_ ?_ ?_ ?_ ?_ ?_ ?_ ?_ ?_ ?_ t
  · intro k β; exact .int k 0
  · intro β; exact .bool false
  · intro β; exact .str []
  · intro e β; exact .nilp
  · intro e β; exact .nils
  · intro n e t ih β; exact arr_zero n e t ih (zero_csz.1 t) β
  · intro ts ih β; exact .agg (ih β)
  · intro k v β; exact .nilm
  · intro β; exact .nilf
  · intro β; exact .nil
  · intro t ts h hs β; exact .cons (h β) (hs β)
theorem zero_vr {M : Pool} (t : Ty) (β : Bmap) : VR M β t.zero t.zv:=by
  have h:=zero_rv (M:=M) t β
  cases t with
  | arr n e t => exact .agg (by cases t <;> rfl) h
  | st ts => exact .agg rfl h
  | _ => exact .one rfl h
def vq : Value → Value → Bool
  | .int k n,.int k' n' => k == k' && n == n'
  | .bool a,.bool b => a == b
  | .string a,.string b => a.data.toList == b.data.toList
  | .pointer none,.pointer none => true
  | .slice none 0 0,.slice none 0 0 => true
  | .map none,.map none => true
  | .nilFunc,.nilFunc => true
  | _,_ => false
theorem vq_eq {a b : Value} (h : vq a b = true) : a = b:=by
  unfold vq at h
  split at h
  all_goals first | rfl | skip
  · simp at h; obtain ⟨rfl,rfl⟩:=h; rfl
  · simp at h; subst h; rfl
  · rename_i a b
    have : a.data.toList = b.data.toList:=by simpa using h
    congr 1
    obtain ⟨⟨l⟩⟩:=a; obtain ⟨⟨m⟩⟩:=b
    simp at this; subst this; rfl
  · cases h
def vqs : List Value → List Value → Bool
  | [],[] => true
  | a :: as,b :: bs => vq a b && vqs as bs
  | _,_ => false
theorem vqs_eq : ∀ {a b : List Value},vqs a b = true → a = b
  | [],[],_ => rfl
  | a :: as,b :: bs,h => by simp only [vqs,Bool.and_eq_true] at h; rw [vq_eq h.1,vqs_eq h.2]
  | [],_ :: _,h => by cases h
  | _ :: _,[],h => by cases h
def zq (t : Ty) : Option Value → Bool
  | some (.agg cs) => t.multi && vqs cs.toList t.zc
  | some v => !t.multi && vqs [v] t.zc
  | none => false
theorem zq_eq {t : Ty} {z : Option Value} (h : zq t z = true) : z = some t.zv:=by
  unfold zq at h
  split at h
  · rename_i cs
    simp only [Bool.and_eq_true] at h
    have:=vqs_eq h.2
    simp only [Ty.zv,h.1,if_true,← this]
  · rename_i v _
    simp only [Bool.and_eq_true,Bool.not_eq_true'] at h
    have:=vqs_eq h.2
    simp only [Ty.zv,h.1,← this]; rfl
  · cases h
structure TyB (P : Program) (t : TypeId) (ty : Ty) : Prop where
  info : ∃ i,P.info? t = some i ∧ i.size = ty.size ∧ i.zero = some ty.zv
  guard : P.eqGuardType P.depth t = false
mutual
def Ty.ok (P : Program) : TypeId → Ty → Prop
  | t,.int k => TyB P t (.int k) ∧ P.underlying t = some (.int k)
  | t,.bool => TyB P t .bool ∧ P.underlying t = some .bool
  | t,.str => TyB P t .str ∧ P.underlying t = some .string
  | t,.ptr e => TyB P t (.ptr e) ∧ P.underlying t = some (.pointer e)
  | t,.slice e => TyB P t (.slice e) ∧ P.underlying t = some (.slice e)
  | t,.arr n e te => TyB P t (.arr n e te) ∧ P.underlying t = some (.array n e) ∧ 0 < te.size ∧ Ty.ok P e te
  | t,.st ts => TyB P t (.st ts) ∧ ∃ fs,P.underlying t = some (.struct fs) ∧ P.stoodInHeld t = false ∧ Ty.oks P 0 fs.toList ts
  | t,.map k v => TyB P t (.map k v) ∧ P.underlying t = some (.map k v)
  | t,.func => TyB P t .func ∧ ∃ a b c,P.underlying t = some (.func a b c)
def Ty.oks (P : Program) : Nat → List Field → List Ty → Prop
  | _,[],[] => True
  | off,f :: fs,ty :: ts => f.offset = off ∧ f.name ≠ "_" ∧ 0 < ty.size ∧ Ty.ok P f.type ty ∧ Ty.oks P (off + ty.size) fs ts
  | _,_,_ => False
end
theorem Ty.ok.base {P : Program} {t : TypeId} {ty : Ty} (h : ty.ok P t) : TyB P t ty:=by
  cases ty <;> first | exact h.1
def tyF (f : TypeId → Option Ty) : Nat → List Field → Option (List Ty)
  | _,[] => some []
  | off,x :: fs =>
    match f x.type with
    | some ty => if x.offset == off && x.name != "_" && decide (0 < ty.size) then (tyF f (off + ty.size) fs).map (ty :: ·) else none
    | none => none
def tyD (P : Program) (f : TypeId → Option Ty) (t : TypeId) : Option Ty :=
  match P.underlying t with
  | some (.int k) => some (.int k)
  | some .bool => some .bool
  | some .string => some .str
  | some (.pointer e) => some (.ptr e)
  | some (.slice e) => some (.slice e)
  | some (.array n e) => match f e with | some te => if 0 < te.size then some (.arr n e te) else none | none => none
  | some (.struct fs) => if P.stoodInHeld t then none else (tyF f 0 fs.toList).map .st
  | some (.map k v) => some (.map k v)
  | some (.func _ _ _) => some .func
  | _ => none
def tyq (P : Program) : Nat → TypeId → Option Ty
  | 0,_ => none
  | n + 1,t =>
    match tyD P (tyq P n) t,P.info? t with
    | some ty,some i => if i.size == ty.size && zq ty i.zero && !P.eqGuardType P.depth t then some ty else none
    | _,_ => none
theorem tyF_ok {P : Program} {f : TypeId → Option Ty} (hf : ∀ t ty,f t = some ty → ty.ok P t) : ∀ (fs : List Field) (off : Nat) (ts : List Ty),tyF f off fs = some ts → Ty.oks P off fs ts:=by
  intro fs
  induction fs with
  | nil => intro off ts h; simp [tyF] at h; subst h; simp [Ty.oks]
  | cons x fs ih =>
    intro off ts h
    simp only [tyF] at h
    split at h
    · rename_i ty hty
      split at h
      · rename_i hc
        simp only [Bool.and_eq_true,beq_iff_eq,bne_iff_ne,decide_eq_true_eq] at hc
        simp only [Option.map_eq_some_iff] at h
        obtain ⟨ts',h1,rfl⟩:=h
        exact ⟨hc.1.1,hc.1.2,hc.2,hf _ _ hty,ih _ _ h1⟩
      · cases h
    · cases h
theorem tyq_ok {P : Program} : ∀ (n : Nat) (t : TypeId) (ty : Ty),tyq P n t = some ty → ty.ok P t:=by
  intro n
  induction n with
  | zero => intro t ty h; cases h
  | succ n ih =>
    intro t ty h
    simp only [tyq] at h
    split at h
    · rename_i ty' i hd hi
      split at h
      · rename_i hc
        simp only [Bool.and_eq_true,beq_iff_eq,Bool.not_eq_true'] at hc
        cases h
        have hb : TyB P t ty:=⟨⟨i,hi,hc.1.1,zq_eq hc.1.2⟩,hc.2⟩
        unfold tyD at hd
        split at hd
        all_goals first | (cases hd; exact ⟨hb,by assumption⟩) | skip
        · rename_i hu
          split at hd
          · rename_i te hte
            split at hd
            · cases hd; exact ⟨hb,hu,by assumption,ih _ _ hte⟩
            · cases hd
          · cases hd
        · rename_i hu
          split at hd
          · cases hd
          · rename_i hp
            simp only [Option.map_eq_some_iff] at hd
            obtain ⟨ts,h1,rfl⟩:=hd
            exact ⟨hb,_,hu,by simpa using hp,tyF_ok ih _ _ _ h1⟩
        · cases hd; exact ⟨hb,_,_,_,by assumption⟩
        · cases hd
      · cases h
    · cases h
def tyC (P : Program) (t : TypeId) (K : Ty → Prop) : Prop:=∃ ty,tyq P 12 t = some ty ∧ K ty
theorem tyC_of {P : Program} {t : TypeId} {ty : Ty} (h : tyq P 12 t = some ty) (K : Ty → Prop) : tyC P t K = K ty:=by
  unfold tyC; rw [h]; simp
def byC (P : Program) (t : TypeId) (K : Nat → Prop) : Prop:=∃ i,P.info? t = some i ∧ K i.bytes
theorem byC_of {P : Program} {t : TypeId} {b : Nat} (h : (P.info? t).map (·.bytes) = some b) (K : Nat → Prop) : byC P t K = K b:=by
  unfold byC
  cases hi : P.info? t with
  | none => rw [hi] at h; cases h
  | some i => rw [hi] at h; simp at h; simp [h]
section
variable {P : Program} {t : TypeId} {ty : Ty} {w : World}
theorem r_under {d : TypeDesc} (h : P.underlying t = some d) : (underlying t).run P w = .ok d w:=by simp [underlying,h]
theorem r_info {i : TypeInfo} (h : P.info? t = some i) : (typeInfo t).run P w = .ok i w:=by simp [typeInfo,h]
theorem r_size (h : ty.ok P t) : (sizeOf t).run P w = .ok ty.size w:=by
  obtain ⟨i,hi,hs,_⟩:=h.base.info
  simp [sizeOf,r_info hi,hs]
theorem r_zero (h : ty.ok P t) : (zeroValue t).run P w = .ok ty.zv w:=by
  obtain ⟨i,hi,_,hz⟩:=h.base.info
  simp [zeroValue,r_info hi,hz]
theorem r_isAgg (h : ty.ok P t) : (isAgg t).run P w = .ok ty.multi w:=by
  cases ty with
  | st ts => obtain ⟨_,fs,h,_⟩:=h; simp [isAgg,r_under h,Ty.multi]
  | arr n e te => obtain ⟨_,h,_⟩:=h; simp [isAgg,r_under h,Ty.multi]
  | func => obtain ⟨_,_,_,_,h⟩:=h; simp [isAgg,r_under h,Ty.multi]
  | _ => obtain ⟨_,h⟩:=h; simp [isAgg,r_under h,Ty.multi]
end
end Go.Sy
namespace Go.Sy
open Go
@[simp] theorem add_none (b o n : Nat) : (⟨b,o,none⟩ : Addr).add n = ⟨b,o + n,none⟩:=by
  unfold Addr.add; split <;> simp_all
def CellsAt (w : World) (b o : Nat) (cs : List Value) : Prop:=∀ i v,cs[i]? = some v → w.cell? ⟨b,o + i,none⟩ = some v
theorem CellsAt.tail {w : World} {b o : Nat} {c : Value} {cs : List Value} (h : CellsAt w b o (c :: cs)) : CellsAt w b (o + 1) cs:=fun i v hv => by
  have:=h (i + 1) v (by simpa using hv)
  rwa [show o + (i + 1) = o + 1 + i by omega] at this
theorem CellsAt.head {w : World} {b o : Nat} {c : Value} {cs : List Value} (h : CellsAt w b o (c :: cs)) : w.cell? ⟨b,o,none⟩ = some c:=by simpa using h 0 c rfl
theorem CellsAt.of_block {w : World} {b : Nat} {cs : Array Value} {e : TypeId} {fz : Nat × Nat} (h : w.heap[b]? = some (.cells cs e fz)) (o n : Nat) : CellsAt w b o (piece cs.toList o n):=by
  intro i v hv
  simp only [piece,List.getElem?_take,List.getElem?_drop] at hv
  split at hv
  · simp only [World.cell?,h]
    simpa using hv
  · cases hv
theorem run_loadCellsFrom {P : Program} {w : World} {b o : Nat} : ∀ (cs : List Value) (i : Nat) (acc : Array Value),CellsAt w b (o + i) cs →
    (loadCellsFrom ⟨b,o,none⟩ i cs.length acc).run P w = .ok (acc ++ cs.toArray) w:=by
  intro cs
  induction cs with
  | nil => intro i acc h; simp [loadCellsFrom]
  | cons c cs ih =>
    intro i acc h
    have h0:=h.head
    simp only [List.length_cons,loadCellsFrom,Sem.run_bind,run_load,add_none,h0,Result.andThen_ok]
    rw [ih (i + 1) (acc.push c) (by have:=h.tail; rwa [show o + i + 1 = o + (i + 1) by omega] at this)]
    simp
theorem run_loadCells {P : Program} {w : World} {b o : Nat} {cs : List Value} (h : CellsAt w b o cs) : (loadCells ⟨b,o,none⟩ cs.length).run P w = .ok cs.toArray w:=by
  unfold loadCells
  rw [run_loadCellsFrom cs 0 #[] (by simpa using h)]
  simp
def _root_.Go.World.putBlock (w : World) (b : Nat) (o : Obj) : World:={ w with heap:=w.heap.setIfInBounds b o }
theorem getElem?_putBlock {w : World} {b : Nat} {o : Obj} (h : b < w.heap.size) (k : Nat) : (w.putBlock b o).heap[k]? = if k = b then some o else w.heap[k]?:=by
  simp only [World.putBlock,Array.getElem?_setIfInBounds]
  by_cases e : b = k
  · subst e; simp [h]
  · simp [e,Ne.symm e]
theorem setCell_block {w : World} {b o : Nat} {cs : Array Value} {e : TypeId} {fz : Nat × Nat} (h : w.heap[b]? = some (.cells cs e fz)) (v : Value) :
    w.setCell ⟨b,o,none⟩ v = w.putBlock b (.cells (cs.setIfInBounds o v) e fz):=by
  have hb : b < w.heap.size:=(Array.getElem?_eq_some_iff.1 h).1
  simp only [World.setCell,World.putBlock]
  congr 1
  apply Array.ext_getElem?
  intro i
  simp only [Array.getElem?_modify,Array.getElem?_setIfInBounds]
  by_cases e : b = i
  · subst e; simp only [h,hb,if_true]; rfl
  · simp [e]
theorem putBlock_putBlock {w : World} {b : Nat} {o o' : Obj} : (w.putBlock b o).putBlock b o' = w.putBlock b o':=by
  simp only [World.putBlock]
  congr 1
  apply Array.ext_getElem?
  intro i
  simp only [Array.getElem?_setIfInBounds,Array.size_setIfInBounds]
  repeat' split
  all_goals first | rfl | skip
  all_goals simp_all
theorem putBlock_same {w : World} {b : Nat} {o : Obj} (h : w.heap[b]? = some o) : w.putBlock b o = w:=by
  simp only [World.putBlock]
  have hb : b < w.heap.size:=(Array.getElem?_eq_some_iff.1 h).1
  have : w.heap.setIfInBounds b o = w.heap:=by
    apply Array.ext_getElem?
    intro i
    simp only [Array.getElem?_setIfInBounds]
    by_cases e : b = i
    · subst e; simp only [h,hb,if_true]
    · simp [e]
  rw [this]
theorem run_storeCells {P : Program} {b o : Nat} {e : TypeId} {fz : Nat × Nat} : ∀ (xs : List Value) (i : Nat) (w : World) (cs : List Value),w.heap[b]? = some (.cells cs.toArray e fz) → o + i + xs.length ≤ cs.length → freeCells fz cs.length →
    (∀ x ∈ xs,x.oneCell' = true) → (storeCells ⟨b,o,none⟩ xs i).run P w = .ok () (w.putBlock b (.cells (splice cs (o + i) xs).toArray e fz)):=by
  intro xs
  induction xs with
  | nil =>
    intro i w cs h hl hf h1
    have : splice cs (o + i) [] = cs:=by simp [splice]
    simp only [storeCells,this,putBlock_same h]
    rfl
  | cons x xs ih =>
    intro i w cs h hl hf h1
    simp only [List.length_cons] at hl
    have hc : w.cell? ⟨b,o + i,none⟩ = some (cs[o + i]'(by omega)):=by simp [World.cell?,h]
    have hz : w.frozen? ⟨b,o + i,none⟩ = false:=by
      have:=hf.no (o + i) (by omega)
      simp only [World.frozen?,h]
      simpa using this
    simp only [storeCells,Sem.run_bind,add_none]
    rw [run_store _ _ _ _ _ (h1 x (by simp)),hc]
    simp only [hz,Bool.false_eq_true,if_false,Result.andThen_ok]
    rw [setCell_block h]
    have hb : b < w.heap.size:=(Array.getElem?_eq_some_iff.1 h).1
    rw [ih (i + 1) _ (cs.set (o + i) x) (by rw [getElem?_putBlock hb]; simp) (by simp; omega) (by simpa using hf) (fun y hy => h1 y (by simp [hy])),putBlock_putBlock]
    congr 4
    simp only [splice]
    rw [List.set_eq_take_append_cons_drop,if_pos (by omega)]
    have e1 : List.take (o + (i + 1)) (List.take (o + i) cs ++ x :: List.drop (o + i + 1) cs) = List.take (o + i) cs ++ [x]:=by
      rw [List.take_append,List.take_of_length_le (by simp; omega)]
      congr 1
      rw [show o + (i + 1) - (List.take (o + i) cs).length = 1 by simp; omega]
      simp
    have e2 : List.drop (o + (i + 1) + xs.length) (List.take (o + i) cs ++ x :: List.drop (o + i + 1) cs) = List.drop (o + i + (x :: xs).length) cs:=by
      rw [List.drop_append,List.drop_of_length_le (by simp; omega),show o + (i + 1) + xs.length - (List.take (o + i) cs).length = xs.length + 1 by simp; omega]
      simp only [List.nil_append,List.drop_succ_cons,List.drop_drop,List.length_cons]
      congr 1; omega
    rw [e1,e2]
    simp
end Go.Sy
namespace Go.Sy
open Go
def lkC : TT → Nat → (AV → Prop) → Prop
  | [],_,_ => False
  | (i,v) :: T,t,K => if i = t then K v else lkC T t K
def objC : OO → Nat → (OB → Prop) → Prop
  | [],_,_ => False
  | (i,v) :: O,o,K => if i = o then K v else objC O o K
def obC : OB → (AV → Prop) → Prop
  | .var c,K => K c
  | .row c,K => K c
  | .map _,_ => False
  | .gm _ _ _,_ => False
def rowC : OB → (AV → Prop) → Prop
  | .row c,K => K c
  | _,_ => False
def cstC : Value → (AV → Prop) → Prop
  | .int k n,K => K (.int k n)
  | .bool b,K => K (.bool b)
  | .string s,K => K (.str s.data.toList)
  | .pointer none,K => K .nilp
  | .slice none 0 0,K => K .nils
  | .map none,K => K .nilm
  | .nilFunc,K => K .nilf
  | _,_ => False
def evC (T : TT) : Operand → (AV → Prop) → Prop
  | .tmp t,K => lkC T t K
  | .const v,K => cstC v K
  | .func f,K => K (.fn (.func f) [])
  | .global _,_ => False
def evsC (T : TT) : List Operand → (List AV → Prop) → Prop
  | [],K => K []
  | x :: xs,K => evC T x fun v => evsC T xs fun vs => K (v :: vs)
def putT : Option Tmp → AV → TT → TT
  | some d,v,T => (d,v) :: T
  | none,_,T => T
def boolC : AV → (Bool → Prop) → Prop
  | .bool b,K => K b
  | _,_ => False
def intC : AV → (Int → Prop) → Prop
  | .int _ n,K => K n
  | _,_ => False
def iteC (b : Bool) (K : Bool → Prop) : Prop:=(b = true → K true) ∧ (b = false → K false)
def fitC (ty : Ty) (q : AV) (K : Prop) : Prop:=q.csz = ty.size ∧ q.multi = ty.multi ∧ K
def nthC : List AV → Nat → (AV → Prop) → Prop
  | [],_,_ => False
  | q :: _,0,K => K q
  | _ :: qs,j + 1,K => nthC qs j K
def nthTC : List Ty → Nat → Nat → (Ty → Nat → Prop) → Prop
  | [],_,_,_ => False
  | t :: _,0,off,K => K t off
  | t :: ts,j + 1,off,K => nthTC ts j (off + t.size) K
def setC : List AV → Nat → AV → (List AV → Prop) → Prop
  | [],_,_,_ => False
  | q :: qs,0,v,K => v.csz = q.csz ∧ K (v :: qs)
  | q :: qs,j + 1,v,K => setC qs j v fun qs' => K (q :: qs')
def iand (k : IntKind) (a b : Int) : Int:=k.wrap ((BitVec.ofInt k.bits a &&& BitVec.ofInt k.bits b).toNat)
def ior (k : IntKind) (a b : Int) : Int:=k.wrap ((BitVec.ofInt k.bits a ||| BitVec.ofInt k.bits b).toNat)
def ixor (k : IntKind) (a b : Int) : Int:=k.wrap ((BitVec.ofInt k.bits a ^^^ BitVec.ofInt k.bits b).toNat)
def iandn (k : IntKind) (a b : Int) : Int:=k.wrap ((BitVec.ofInt k.bits a &&& ~~~BitVec.ofInt k.bits b).toNat)
def ishl (k : IntKind) (a : Int) (n : Nat) : Int:=k.wrap (a * 2 ^ (min n k.bits))
def ishr (k : IntKind) (a : Int) (n : Nat) : Int:=a.fdiv (2 ^ (min n k.bits))
def inot (k : IntKind) (a : Int) : Int:=ixor k (if k.signed then -1 else k.max) a
def intB : BinOp → IntKind → Int → IntKind → Int → (AV → Prop) → Prop
  | .shl,k,a,_,b,K => 0 ≤ b ∧ K (.int k (ishl k a b.toNat))
  | .shr,k,a,_,b,K => 0 ≤ b ∧ K (.int k (ishr k a b.toNat))
  | .add,k,a,k',b,K => k = k' ∧ K (.int k (k.wrap (a + b)))
  | .sub,k,a,k',b,K => k = k' ∧ K (.int k (k.wrap (a - b)))
  | .mul,k,a,k',b,K => k = k' ∧ K (.int k (k.wrap (a * b)))
  | .quo,k,a,k',b,K => k = k' ∧ b ≠ 0 ∧ K (.int k (k.wrap (a.tdiv b)))
  | .rem,k,a,k',b,K => k = k' ∧ b ≠ 0 ∧ K (.int k (a.tmod b))
  | .and,k,a,k',b,K => k = k' ∧ K (.int k (iand k a b))
  | .or,k,a,k',b,K => k = k' ∧ K (.int k (ior k a b))
  | .xor,k,a,k',b,K => k = k' ∧ K (.int k (ixor k a b))
  | .andNot,k,a,k',b,K => k = k' ∧ K (.int k (iandn k a b))
  | .eql,k,a,k',b,K => k = k' ∧ K (.bool (decide (a = b)))
  | .neq,k,a,k',b,K => k = k' ∧ K (.bool (!decide (a = b)))
  | .lss,k,a,k',b,K => k = k' ∧ K (.bool (decide (a < b)))
  | .leq,k,a,k',b,K => k = k' ∧ K (.bool (decide (a ≤ b)))
  | .gtr,k,a,k',b,K => k = k' ∧ K (.bool (decide (b < a)))
  | .geq,k,a,k',b,K => k = k' ∧ K (.bool (decide (b ≤ a)))
def strB : BinOp → List UInt8 → List UInt8 → (AV → Prop) → Prop
  | .add,a,b,K => (a.length + b.length : Int) ≤ 9223372036854775807 ∧ K (.str (a ++ b))
  | .eql,a,b,K => K (.bool (decide (a = b)))
  | .neq,a,b,K => K (.bool (!decide (a = b)))
  | _,_,_,_ => False
mutual
def eqC : Ty → AV → AV → (Bool → Prop) → Prop
  | .int _,.int k a,.int k' b,K => k = k' ∧ K (decide (a = b))
  | .bool,.bool a,.bool b,K => K (a == b)
  | .str,.str a,.str b,K => K (decide (a = b))
  | .ptr _,.nilp,.nilp,K => K true
  | .ptr _,.nilp,.ref _ _,K => K false
  | .ptr _,.ref _ _,.nilp,K => K false
  | .ptr _,.nilp,.pp _ _,K => K false
  | .ptr _,.pp _ _,.nilp,K => K false
  | .slice _,.nils,.nils,K => K true
  | .slice _,.sl c,.nils,K => 0 < c.cnt ∧ K false
  | .slice _,.osl _ _ _ _ len,.nils,K => 0 < len ∧ K false
  | .arr n _ (.int k),.ints k1 n1 xs,.ints k2 n2 ys,K => k1 = k ∧ k2 = k ∧ n1 = n ∧ n2 = n ∧ K (decide (xs = ys))
  | .st ts,.agg ps,.agg qs,K => eqsC ts ps qs K
  | _,_,_,_ => False
def eqsC : List Ty → List AV → List AV → (Bool → Prop) → Prop
  | [],[],[],K => K true
  | t :: ts,p :: ps,q :: qs,K => p.csz = t.size ∧ q.csz = t.size ∧ p.multi = t.multi ∧ q.multi = t.multi ∧ eqC t p q fun b => eqsC ts ps qs fun c => K (b && c)
  | _,_,_,_ => False
end
def binC (P : Program) (op : BinOp) (t : TypeId) : AV → AV → (AV → Prop) → Prop
  | .int k a,.int k' b,K => intB op k a k' b K
  | .str a,.str b,K => strB op a b K
  | x,y,K =>
    match op with
    | .eql => tyC P t fun ty => eqC ty x y fun b => K (.bool b)
    | .neq => tyC P t fun ty => eqC ty x y fun b => K (.bool (!b))
    | _ => False
def unC : UnOp → AV → (AV → Prop) → Prop
  | .neg,.int k n,K => K (.int k (k.wrap (0 - n)))
  | .xor,.int k n,K => K (.int k (inot k n))
  | .not,.bool b,K => K (.bool (!b))
  | _,_,_ => False
def loadC (O : OO) : AV → (AV → Prop) → Prop
  | .ref o p,K => objC O o fun ob => obC ob fun c => navC p c K
  | .pp c p,K => navC p c K
  | _,_ => False
def updOB : OB → List Stp → AV → (OB → Prop) → Prop
  | .var c,p,v,K => updC p c v fun c' => K (.var c')
  | .row c,p,v,K => (p = [] → v.isRow = true ∧ v.esz = c.esz ∧ v.cnt = c.cnt) ∧ updC p c v fun c' => K (.row c')
  | .map _,_,_,_ => False
  | .gm _ _ _,_,_,_ => False
def updO : OO → Nat → List Stp → AV → (OO → Prop) → Prop
  | [],_,_,_,_ => False
  | (i,ob) :: O,o,p,v,K => if i = o then updOB ob p v fun ob' => K ((i,ob') :: O) else updO O o p v fun O' => K ((i,ob) :: O')
def rmO : OO → Nat → (OO → Prop) → Prop
  | [],_,K => K []
  | (i,ob) :: O,o,K => if i = o then rmO O o K else rmO O o fun O' => K ((i,ob) :: O')
def subC : AV → Nat → Nat → (AV → Prop) → Prop
  | .ints k n xs,lo,len,K => lo + len ≤ n ∧ (lo = 0 ∧ len = n → K (.ints k n xs)) ∧ (¬ (lo = 0 ∧ len = n) → K (.ints k len ((xs.drop lo).take len)))
  | .lst sz n es,lo,len,K => lo + len ≤ n ∧ (lo = 0 ∧ len = n → K (.lst sz n es)) ∧ (¬ (lo = 0 ∧ len = n) → K (.lst sz len ((es.drop lo).take len)))
  | .arr sz ps,lo,len,K => lo + len ≤ ps.length ∧ K (.arr sz ((ps.drop lo).take len))
  | _,_,_,_ => False
mutual
def renC (σ : List (Nat × Nat)) : AV → (AV → Prop) → Prop
  | .ref o p,K => idC σ o fun o' => K (.ref o' p)
  | .osl o p sz lo len,K => idC σ o fun o' => K (.osl o' p sz lo len)
  | .mp o,K => idC σ o fun o' => K (.mp o')
  | .agg ps,K => rensC σ ps fun qs => K (.agg qs)
  | .arr sz ps,K => rensC σ ps fun qs => K (.arr sz qs)
  | .tup ps,K => rensC σ ps fun qs => K (.tup qs)
  | .fn f ps,K => rensC σ ps fun qs => K (.fn f qs)
  | .fb f ps,K => rensC σ ps fun qs => K (.fb f qs)
  | .int k n,K => K (.int k n)
  | .bool b,K => K (.bool b)
  | .str s,K => K (.str s)
  | .nilp,K => K .nilp
  | .ints k n xs,K => K (.ints k n xs)
  | .lst sz n es,K => K (.lst sz n es)
  | .sl c,K => K (.sl c)
  | .nils,K => K .nils
  | .pp c p,K => K (.pp c p)
  | .nilf,K => K .nilf
  | .nilm,K => K .nilm
  | .opq,K => K .opq
  | .junk,_ => False
def rensC (σ : List (Nat × Nat)) : List AV → (List AV → Prop) → Prop
  | [],K => K []
  | v :: vs,K => renC σ v fun w => rensC σ vs fun ws => K (w :: ws)
def idC : List (Nat × Nat) → Nat → (Nat → Prop) → Prop
  | [],_,_ => False
  | (i,j) :: σ,o,K => if i = o then K j else idC σ o K
end
def partsC (T : TT) : List (Nat × Operand) → (List (Nat × AV) → Prop) → Prop
  | [],K => K []
  | (j,x) :: l,K => evC T x fun v => v.mem = true ∧ partsC T l fun vs => K ((j,v) :: vs)
def bldS : List AV → List (Nat × AV) → (List AV → Prop) → Prop
  | ps,[],K => K ps
  | ps,(j,v) :: l,K => setC ps j v fun ps' => bldS ps' l K
def seqI (k : IntKind) : Nat → List (Nat × AV) → (Nat → List Int → Prop) → Prop
  | i,[],K => K i []
  | i,(j,v) :: l,K => if j = i then intU k v fun x => seqI k (i + 1) l fun m xs => K m (x :: xs)
    else i < j ∧ intU k v fun x => seqI k (j + 1) l fun m xs => K m (List.replicate (j - i) 0 ++ x :: xs)
def seqV (sz : Nat) : Nat → List (Nat × AV) → (Nat → List AV → Prop) → Prop
  | i,[],K => K i []
  | i,(j,v) :: l,K => j = i ∧ v.csz = sz ∧ seqV sz (i + 1) l fun m vs => K m (v :: vs)
def elemsC (n : Nat) (te : Ty) (l : List (Nat × AV)) (K : AV → Prop) : Prop :=
  match te with
  | .int k => seqI k 0 l fun m xs => m ≤ n ∧ K (.ints k n (xs ++ List.replicate (n - m) 0))
  | te => (l = [] ∧ n = 0 → K (.lst te.size 0 [])) ∧ (¬ (l = [] ∧ n = 0) → seqV te.size 0 l fun m vs => m ≤ n ∧ K (.arr te.size (vs ++ List.replicate (n - m) te.zero)))
def zerosC (n : Nat) (te : Ty) (K : AV → Prop) : Prop :=
  match te with
  | .int k => K (.ints k n (List.replicate n 0))
  | te => K (.lst te.size n (List.replicate n te.zero))
def catC : AV → AV → (AV → Prop) → Prop
  | .ints k n xs,.ints k' m ys,K => k = k' ∧ K (.ints k (n + m) (xs ++ ys))
  | .lst sz n es,.lst sz' m fs,K => sz = sz' ∧ K (.lst sz (n + m) (es ++ fs))
  | .lst sz n es,.arr sz' ps,K => sz = sz' ∧ AV.nids ps = true ∧ K (.lst sz (n + ps.length) (es ++ ps))
  | .arr sz ps,.arr sz' qs,K => sz = sz' ∧ K (.arr sz (ps ++ qs))
  | .arr sz ps,.lst sz' n es,K => sz = sz' ∧ AV.nids ps = true ∧ K (.lst sz (ps.length + n) (ps ++ es))
  | _,_,_ => False
def contC (O : OO) (te : Ty) : AV → (AV → Prop) → Prop
  | .sl c,K => c.esz = te.size ∧ K c
  | .nils,K => zerosC 0 te K
  | .osl o p sz lo len,K => sz = te.size ∧ objC O o fun ob => obC ob fun c => navC p c fun q => q.esz = te.size ∧ subC q lo len K
  | .str s,K => te = .int .u8 ∧ K (.ints .u8 s.length (s.map fun x => (x.toNat : Int)))
  | _,_ => False
def lenC : AV → (Nat → Prop) → Prop
  | .sl c,K => K c.cnt
  | .nils,K => K 0
  | .osl _ _ _ _ len,K => K len
  | _,_ => False
def strL : AV → (Nat → Prop) → Prop
  | .str s,K => K s.length
  | _,_ => False
def bytesOf (c : AV) (K : List UInt8 → Prop) : Prop :=
  match c with
  | .ints .u8 _ xs => K (xs.map fun x => UInt8.ofNat x.toNat)
  | _ => False
def cutC : AV → Nat → Option Nat → (AV → Prop) → Prop
  | .osl o p sz lo len,l,none,K => l ≤ len ∧ K (.osl o p sz (lo + l) (len - l))
  | .osl o p sz lo len,l,some h,K => l ≤ h ∧ h ≤ len ∧ K (.osl o p sz (lo + l) (h - l))
  | .sl c,l,none,K => l ≤ c.cnt ∧ subC c l (c.cnt - l) fun q => K (.sl q)
  | .sl c,l,some h,K => l ≤ h ∧ h ≤ c.cnt ∧ subC c l (h - l) fun q => K (.sl q)
  | .nils,l,none,K => l = 0 ∧ K .nils
  | .nils,l,some h,K => l = 0 ∧ h = 0 ∧ K .nils
  | _,_,_,_ => False
def cutS : AV → Nat → Option Nat → (AV → Prop) → Prop
  | .str s,l,none,K => l ≤ s.length ∧ K (.str (s.drop l))
  | .str s,l,some h,K => l ≤ h ∧ h ≤ s.length ∧ K (.str ((s.take h).drop l))
  | _,_,_,_ => False
def varC : OB → (AV → Prop) → Prop
  | .var c,K => K c
  | _,_ => False
def cutA (O : OO) (sz n : Nat) : AV → Nat → Option Nat → (AV → Prop) → Prop
  | .ref o p,l,none,K => l ≤ n ∧ (p = [] → objC O o fun ob => varC ob fun c => n ≤ c.csz) ∧ K (.osl o p sz l (n - l))
  | .ref o p,l,some h,K => l ≤ h ∧ h ≤ n ∧ (p = [] → objC O o fun ob => varC ob fun c => n ≤ c.csz) ∧ K (.osl o p sz l (h - l))
  | .pp c p,l,none,K => navC p c fun q => q.cnt = n ∧ q.esz = sz ∧ l ≤ n ∧ n ≤ n ∧ subC q l (n - l) fun r => K (.sl r)
  | .pp c p,l,some h,K => navC p c fun q => q.cnt = n ∧ q.esz = sz ∧ l ≤ h ∧ h ≤ n ∧ subC q l (h - l) fun r => K (.sl r)
  | _,_,_,_ => False
def optC (T : TT) : Option Operand → (Option Int → Prop) → Prop
  | none,K => K none
  | some x,K => evC T x fun v => intC v fun n => 0 ≤ n ∧ K (some n)
def viewC (O : OO) : Nat → AV → (AV → Prop) → Prop
  | _,.int k n,K => K (.int k n)
  | _,.bool b,K => K (.bool b)
  | _,.str s,K => K (.str s)
  | _,.nilp,K => K .nilp
  | _,.ints k n xs,K => K (.ints k n xs)
  | _,.lst sz n es,K => K (.lst sz n es)
  | _,.sl c,K => K (.sl c)
  | _,.nils,K => K .nils
  | _,.pp c p,K => K (.pp c p)
  | _,.nilf,K => K .nilf
  | _,.nilm,K => K .nilm
  | _,.opq,K => K .opq
  | _,.mp _,K => K .opq
  | f + 1,.osl o p sz lo len,K => objC O o fun ob => obC ob fun c => navC p c fun q => sz = q.esz ∧ subC q lo len fun r => viewC O f r fun r' => r'.isRow = true ∧ r'.cnt = len ∧ K (.sl r')
  | f + 1,.ref o p,K => objC O o fun ob => varC ob fun c => viewC O f c fun c' => K (.pp c' p)
  | f + 1,.agg ps,K => views (viewC O f) ps fun qs => K (.agg qs)
  | f + 1,.arr sz ps,K => views (viewC O f) ps fun qs => K (.lst sz qs.length qs)
  | _,_,_ => False
where views (V : AV → (AV → Prop) → Prop) : List AV → (List AV → Prop) → Prop
  | [],K => K []
  | v :: vs,K => V v fun w => views V vs fun ws => K (w :: ws)
end Go.Sy
namespace Go.Sy
open Go
set_option linter.unusedVariables false
abbrev KK:=AV → OO → Nat → Prop
abbrev CK:=TT → OO → Nat → Prop
def renOB (σ : List (Nat × Nat)) : OB → (OB → Prop) → Prop
  | .var c,K => renC σ c fun c' => K (.var c')
  | .row c,K => renC σ c fun c' => K (.row c')
  | .map ds,K => K (.map ds)
  | .gm f ks vs,K => rensC σ vs fun vs' => K (.gm f ks vs')
def renOO (σ : List (Nat × Nat)) : OO → (OO → Prop) → Prop
  | [],K => K []
  | (o,ob) :: O,K => idC σ o fun o' => renOB σ ob fun ob' => renOO σ O fun O' => K ((o',ob') :: O')
def rmsO : OO → List Nat → (OO → Prop) → Prop
  | O,[],K => K O
  | O,o :: os,K => rmO O o fun O' => rmsO O' os K
def holdsO (O : OO) (σ : List (Nat × Nat)) : OO → Prop
  | [] => True
  | (o,ob) :: O1 => (idC σ o fun o' => objC O o' fun ob' => renOB σ ob fun ob'' => ob' = ob'') ∧ holdsO O σ O1
def keys (O : OO) : List Nat:=O.map (·.1)
def AV.pf : AV → Bool
  | .sl _ | .pp .. | .fn .. | .fb .. | .junk => false
  | .agg ps => pfs ps
  | .arr _ ps => pfs ps
  | .tup ps => pfs ps
  | .lst _ _ es => pfs es
  | .int .. | .bool _ | .str _ | .nilp | .ref .. | .ints .. | .nils | .osl .. | .nilf | .nilm | .opq | .mp _ => true
where pfs : List AV → Bool
  | [] => true
  | v :: vs => v.pf && pfs vs
def OB.pf : OB → Bool
  | .var c => c.pf
  | .row c => c.pf
  | .map _ => true
  | .gm _ _ vs => AV.pf.pfs vs
def argsOK (bor : Bool) (σ : List (Nat × Nat)) (O : OO) : List AV → List AV → Prop
  | [],[] => True
  | a :: as,c :: cs => ((renC σ c fun c' => a = c') ∨ (bor = true ∧ c.nid = true ∧ viewC O 9 a fun c' => c' = c)) ∧ argsOK bor σ O as cs
  | _,_ => False
def homesOK (σ τ : List (Nat × Nat)) (O1 : OO) (n n' : Nat) : OO → Prop
  | [] => True
  | (o,_) :: O' => (idC τ o fun o' => (n ≤ o' ∧ o' < n') ∨ ((objC O1 o fun ob => ∃ c,ob = .var c) ∧ idC σ o fun o'' => o'' = o')) ∧ homesOK σ τ O1 n n' O'
def homesK (ks : List Nat) (σ τ : List (Nat × Nat)) (O1 : OO) (n n' : Nat) : OO → Prop
  | [] => True
  | (o,_) :: O' => (idC τ o fun o' => (n ≤ o' ∧ o' < n') ∨ (((objC O1 o fun ob => ∃ c,ob = .var c) ∨ ks.contains o = true) ∧ idC σ o fun o'' => o'' = o')) ∧ homesK ks σ τ O1 n n' O'
theorem homesOK.k {σ τ : List (Nat × Nat)} {O1 : OO} {n n' : Nat} : ∀ {O' : OO},(∀ {l : List (Nat × Nat)} {o : Nat} {K K' : Nat → Prop},(∀ x,K x → K' x) → idC l o K → idC l o K') → homesOK σ τ O1 n n' O' → homesK [] σ τ O1 n n' O'
  | [],_,_ => trivial
  | (o,_) :: O',hm,h => ⟨hm (fun x hx => hx.imp id fun hx => ⟨.inl hx.1,hx.2⟩) h.1,homesOK.k hm h.2⟩
def CallP (P : Program) (f : FuncId) (args : List AV) (O : OO) (n : Nat) (κ : AV → OO → Nat → Prop) : Prop :=
  ∃ (ks : List Nat) (bor : Bool) (σ τ : List (Nat × Nat)) (A : List AV) (O1 O2 : OO) (r : AV) (O' : OO) (n' : Nat),FnK P ks f A O1 r O' ∧ (rmsO O (σ.map (·.2)) fun O' => O' = O2) ∧ argsOK bor σ O2 args A ∧ holdsO O σ O1 ∧
    (σ.map (·.1) = keys O1) ∧ (keys O1).Nodup ∧ (σ.map (·.2)).Nodup ∧
    n ≤ n' ∧ (τ.map (·.1)).Nodup ∧ (τ.map (·.2)).Nodup ∧ homesK ks σ τ O1 n n' O' ∧ (τ.map (·.1) = keys O') ∧
      (bor = true → r.pf = true ∧ ∀ p ∈ O',p.2.pf = true) ∧
      renC τ r fun r' => renOO τ O' fun L => κ r' (L ++ O2) n'
def lenK (P : Program) (t : TypeId) (v : AV) (K : AV → Prop) : Prop:=tyC P t fun ty =>
  match ty with
  | .slice _ => lenC v fun m => K (.int .i64 m)
  | .str => strL v fun m => K (.int .i64 m)
  | .arr n _ _ => K (.int .i64 n)
  | _ => False
mutual
def idsV : AV → List Nat
  | .ref o _ => [o]
  | .osl o _ _ _ _ => [o]
  | .mp o => [o]
  | .agg ps => idsVs ps
  | .arr _ ps => idsVs ps
  | .tup ps => idsVs ps
  | .fn _ ps => idsVs ps
  | .fb _ ps => idsVs ps
  | .int .. | .bool _ | .str _ | .nilp | .ints .. | .lst .. | .sl _ | .nils | .pp .. | .nilf | .nilm | .opq | .junk => []
def idsVs : List AV → List Nat
  | [] => []
  | v :: vs => idsV v ++ idsVs vs
end
def idsOB : OB → List Nat
  | .var c => idsV c
  | .row c => idsV c
  | .map _ => []
  | .gm _ _ vs => idsVs vs
def idsO : OO → List Nat → List Nat
  | [],_ => []
  | (o,ob) :: V,l => if l.contains o = true then idsOB ob ++ idsO V l else idsO V l
def reach (V : OO) : Nat → List Nat → List Nat
  | 0,l => l
  | f + 1,l => l ++ reach V f (idsO V l)
def frzO : OO → List Nat → OO
  | [],_ => []
  | (o,ob) :: O,F => if F.contains o = true then (o,ob) :: frzO O F else frzO O F
def dropO : OO → List Nat → OO
  | [],_ => []
  | (o,ob) :: O,F => if F.contains o = true then dropO O F else (o,ob) :: dropO O F
def appC (te : Ty) (bts : Nat) (c d : AV) (n : Nat) (O : OO) (K : AV → OO → Nat → Prop) : Prop :=
  (c.cnt + d.cnt) * bts ≤ 140737488355328 ∧ c.esz = te.size ∧ catC c d fun e => K (.osl n [] te.size 0 (c.cnt + d.cnt)) ((n,.row e) :: O) (n + 1)
def ownC (te : Ty) (O : OO) : AV → (AV → OO → Prop) → Prop
  | .nils,K => zerosC 0 te fun c => K c O
  | .osl o p sz lo len,K => p = [] ∧ lo = 0 ∧ sz = te.size ∧ objC O o fun ob => rowC ob fun c => c.cnt = len ∧ rmO O o fun O' => K c O'
  | _,_ => False
def thawC (te : Ty) (O O' : OO) (s c d : AV) (K : AV → AV → OO → Prop) : Prop :=
  match c,d with
  | .lst _ _ _,.arr sz ps => (AV.nids ps = true → K c d O') ∧ (AV.nids ps = false → viewC (frzO O (reach O 3 (idsVs ps))) 9 (.arr sz ps) fun d' => ownC te (dropO O (reach O 3 (idsVs ps))) s fun c' O2 => K c' d' O2)
  | .arr sz ps,.lst _ _ _ => (AV.nids ps = true → K c d O') ∧ (AV.nids ps = false → viewC (frzO O (reach O 3 (idsVs ps))) 9 (.arr sz ps) fun c' => ownC te (dropO O (reach O 3 (idsVs ps))) s fun c2 O2 => c2 = .arr sz ps ∧ K c' d O2)
  | _,_ => K c d O'
def repO : OO → Nat → OB → OO
  | [],_,_ => []
  | (i,ob) :: O,o,ob' => if i = o then (i,ob') :: O else (i,ob) :: repO O o ob'
def truncC (O : OO) : AV → (OO → Prop) → Prop
  | .osl o p sz lo len,K => objC O o fun ob => rowC ob fun c => (c.cnt = len → K O) ∧ (¬ c.cnt = len → p = [] ∧ lo = 0 ∧ len < c.cnt ∧ subC c 0 len fun c' => K (repO O o (.row c')))
  | _,K => K O
def appendC (P : Program) (ts : List TypeId) (s x : AV) (O : OO) (n : Nat) (K : AV → OO → Nat → Prop) : Prop :=
  match ts with
  | [st,xt] => tyC P st fun sty =>
    match sty with
    | .slice e => tyC P e fun te => byC P e fun bts => 0 < bts ∧ 0 < te.size ∧
      match x with
      | .int _ m => tyC P xt fun xty => (∃ k,xty = .int k) ∧ 0 ≤ m ∧ m ≤ 9223372036854775807 ∧ zerosC m.toNat te fun d => truncC O s fun O1 => ownC te O1 s fun c O' => appC te bts c d n O' K
      | x => tyC P xt fun xty => (∀ k,xty ≠ .int k) ∧ contC O te x fun d => truncC O s fun O1 => ownC te O1 s fun c O' => thawC te O1 O' s c d fun c d O' => appC te bts c d n O' K
    | _ => False
  | _ => False
def putC : AV → Nat → AV → (AV → Prop) → Prop
  | .ints k n xs,lo,.ints k' m ys,K => k = k' ∧ lo + m ≤ n ∧ K (.ints k n (xs.take lo ++ (ys ++ xs.drop (lo + m))))
  | .lst sz n es,lo,.lst sz' m fs,K => sz = sz' ∧ lo + m ≤ n ∧ K (.lst sz n (es.take lo ++ (fs ++ es.drop (lo + m))))
  | _,_,_,_ => False
def copyC (P : Program) (ts : List TypeId) (s x : AV) (O : OO) (K : Nat → OO → Prop) : Prop :=
  match ts with
  | st :: _ => tyC P st fun sty =>
    match sty with
    | .slice e => tyC P e fun te => 0 < te.size ∧
      match s with
      | .osl o p sz lo len => sz = te.size ∧ contC O te x fun d => (d.cnt = 0 ∨ len = 0 → K 0 O) ∧
          (0 < d.cnt → 0 < len → d.cnt ≤ len → objC O o fun ob => obC ob fun c => navC p c fun q => putC q lo d fun q' => updO O o p q' fun O' => K d.cnt O') ∧
          (0 < d.cnt → 0 < len → ¬ d.cnt ≤ len → subC d 0 len fun d' => objC O o fun ob => obC ob fun c => navC p c fun q => putC q lo d' fun q' => updO O o p q' fun O' => K len O')
      | .nils => contC O te x fun _ => K 0 O
      | _ => False
    | _ => False
  | _ => False
def bltC (P : Program) (b : Builtin) (ts : List TypeId) (vs : List AV) (O : OO) (n : Nat) (K : AV → OO → Nat → Prop) : Prop :=
  match b,vs with
  | .len,[v] => (match ts with | [t] => lenK P t v fun r => K r O n | _ => False)
  | .append,[s,x] => appendC P ts s x O n K
  | .copy,[s,x] => copyC P ts s x O fun m O' => K (.int .i64 m) O' n
  | .min,[.int k a,.int k' b] => k = k' ∧ K (.int k (min a b)) O n
  | .max,[.int k a,.int k' b] => k = k' ∧ K (.int k (max a b)) O n
  | _,_ => False
def convC (P : Program) (q0 t0 : TypeId) (v : AV) (O : OO) (n : Nat) (K : AV → OO → Nat → Prop) : Prop:=tyC P q0 fun sty => tyC P t0 fun d =>
  match d,v with
  | .int k,.int _ a => K (.int k (k.wrap a)) O n
  | .str,.str s => K (.str s) O n
  | .slice e,.osl o p sz lo len => q0 = t0 ∧ 0 < len ∧ p = [] ∧ tyC P e fun te => te = .int .u8 ∧ objC O o fun ob => rowC ob fun _ => K (.osl o p sz lo len) O n
  | .slice e,.str s => sty = .str ∧ tyC P e fun te => te = .int .u8 ∧ K (.osl n [] 1 0 s.length) ((n,.row (.ints .u8 s.length (s.map fun x => (x.toNat : Int)))) :: O) (n + 1)
  | .str,v =>
    (match sty with
    | .slice e => tyC P e fun te => te = .int .u8 ∧ contC O te v fun c => bytesOf c fun s => K (.str s) O n
    | _ => False)
  | _,_ => False
def fldA (f : Nat) (ts : List Ty) : AV → (AV → Prop) → Prop
  | .ref o p,K => nthTC ts f 0 fun _ off => K (.ref o (p ++ [.fld f off]))
  | .pp c p,K => nthTC ts f 0 fun _ off => K (.pp c (p ++ [.fld f off]))
  | _,_ => False
def idxA (ty : Ty) (sz : Nat → (Nat → Prop) → Prop) (v : AV) (i : Int) (K : AV → Prop) : Prop :=
  match ty,v with
  | .arr n _ te,.ref o p => 0 ≤ i ∧ i < n ∧ K (.ref o (p ++ [.at i.toNat te.size]))
  | .arr n _ te,.pp c p => 0 ≤ i ∧ i < n ∧ K (.pp c (p ++ [.at i.toNat te.size]))
  | .slice e,.osl o p s lo len => 0 ≤ i ∧ i < len ∧ sz e fun z => s = z ∧ K (.ref o (p ++ [.at (lo + i.toNat) s]))
  | .slice e,.sl c => 0 ≤ i ∧ i < c.cnt ∧ sz e fun z => c.esz = z ∧ K (.pp c [.at i.toNat c.esz])
  | _,_ => False
def idxV (te : Ty) (n : Nat) : AV → Int → (AV → Prop) → Prop
  | .ints k m xs,i,K => m = n ∧ 0 ≤ i ∧ i < n ∧ te.size = 1 ∧ te.multi = false ∧ K (.int k (xs.getD i.toNat 0))
  | .lst sz m es,i,K => m = n ∧ 0 ≤ i ∧ i < n ∧ sz = te.size ∧ i.toNat < es.length ∧ ∀ q,es[i.toNat]? = some q → fitC te q (K q)
  | .arr sz ps,i,K => ps.length = n ∧ 0 ≤ i ∧ i < n ∧ sz = te.size ∧ ∀ q,ps[i.toNat]? = some q → fitC te q (K q)
  | _,_,_ => False
def s2aC (m : Nat) (te : Ty) : AV → (AV → Prop) → Prop
  | .sl c,K => 0 < m ∧ m ≤ c.cnt ∧ c.esz = te.size ∧ subC c 0 m fun q => K (.pp q [])
  | .osl o p sz lo len,K => p = [] ∧ lo = 0 ∧ 0 < m ∧ m ≤ len ∧ K (.ref o [])
  | _,_ => False
def mapKC (P : Program) : Ty → AV → (List Int → Prop) → Prop
  | .map kt et,.ints k m xs,K => tyC P kt fun tk => tyC P et fun te =>
      (match tk with
      | .arr m' _ tk' => (match tk' with
        | .int k' => m' = 32 ∧ k' = .u8 ∧ m = 32 ∧ k = .u8 ∧ te = .bool ∧ K xs
        | _ => False)
      | _ => False)
  | _,_,_ => False
def mapQ (P : Program) (ty : Ty) (u : AV) (K : List Int → Prop) (G : MK → Ty → Prop) : Prop :=
  match u with
  | .str t => (match ty with
    | .map kt et => tyC P kt fun tk => tyC P et fun te => tk = .str ∧ G (.str t) te
    | _ => False)
  | .int k n => (match ty with
    | .map kt et => tyC P kt fun tk => tyC P et fun te => tk = .int .i64 ∧ k = .i64 ∧ G (.int n) te
    | _ => False)
  | u => mapKC P ty u K
def gmC (k : MK) : OB → (List MK → List AV → Prop) → Prop
  | .gm f ks vs,K => k.isS = f ∧ K ks vs
  | .map ds,K => ds = [] ∧ K [] []
  | _,_ => False
def idxM : List MK → MK → Option Nat
  | [],_ => none
  | k' :: ks,k => if k' = k then some 0 else (idxM ks k).map (· + 1)
def getM (ks : List MK) (vs : List AV) (k : MK) : Option AV:=match idxM ks k with
  | some j => vs[j]?
  | none => none
def putM (ks : List MK) (vs : List AV) (k : MK) (z : AV) : List MK × List AV:=match idxM ks k with
  | some j => (ks,vs.set j z)
  | none => (ks ++ [k],vs ++ [z])
def fndC : Option AV → AV → (AV → Bool → Prop) → Prop
  | some v,_,K => K v true
  | none,z,K => K z false
def setG : OO → Nat → MK → AV → (OO → Prop) → Prop
  | [],_,_,_,_ => False
  | (i,ob) :: O,o,k,z,K => if i = o then gmC k ob fun ks vs => K ((i,.gm k.isS (putM ks vs k z).1 (putM ks vs k z).2) :: O) else setG O o k z fun O' => K ((i,ob) :: O')
def mpC : OB → (List (List Int) → Prop) → Prop
  | .map ds,K => K ds
  | _,_ => False
def setM : OO → Nat → List Int → (OO → Prop) → Prop
  | [],_,_,_ => False
  | (i,ob) :: O,o,d,K => if i = o then mpC ob fun ds => decide (d ∈ ds) = false ∧ K ((i,.map (ds ++ [d])) :: O) else setM O o d fun O' => K ((i,ob) :: O')
def vcOp (P : Program) (op : Op) (T : TT) (O : OO) (n : Nat) (K : KK) : Prop :=
  match op with
  | .move x => evC T x fun v => K v O n
  | .assign x => evC T x fun v => K v O n
  | .pick c a b => evC T c fun v => boolC v fun t => iteC t fun t => if t then evC T a fun v => K v O n else evC T b fun v => K v O n
  | .alloc t => tyC P t fun ty => K (.ref n []) ((n,.var ty.zero) :: O) (n + 1)
  | .box _ x => evC T x fun v => v.mem = true ∧ K (.ref n []) ((n,.var v) :: O) (n + 1)
  | .build t ps => tyC P t fun ty => partsC T ps.toList fun l =>
      (match ty with
      | .st ts => bldS (Ty.zeros ts) l fun qs => K (.agg qs) O n
      | .arr m _ te => elemsC m te l fun v => K v O n
      | _ => False)
  | .buildSlice t m ps => tyC P t fun ty => partsC T ps.toList fun l =>
      (match ty with
      | .slice e => tyC P e fun te => 0 < te.size ∧ m * te.size ≤ 16777216 ∧ elemsC m te l fun c => K (.osl n [] te.size 0 m) ((n,.row c) :: O) (n + 1)
      | _ => False)
  | .load t a => tyC P t fun ty => evC T a fun v => loadC O v fun q => fitC ty q (K q O n)
  | .store t a x => tyC P t fun ty => evC T a fun v => evC T x fun u => u.mem = true ∧ u.csz = ty.size ∧ 0 < ty.size ∧
      (match v with
      | .ref o p => updO O o p u fun O' => K .junk O' n
      | _ => False)
  | .nilCheck x => evC T x fun v =>
      (match v with
      | .ref o p => K (.ref o p) O n
      | .pp c p => K (.pp c p) O n
      | .fn (.func f) ps => K (.fn (.func f) ps) O n
      | _ => False)
  | .binOp o t x y _ => evC T x fun v => evC T y fun u => binC P o t v u fun r => K r O n
  | .unOp o _ x => evC T x fun v => unC o v fun r => K r O n
  | .convert q t x => evC T x fun v => convC P q t v O n fun r O' n' => K r O' n'
  | .makeFunc f fs cs => (match fs.toList with | [] => evsC T cs.toList fun vs => K (.fn f vs) O n | _ => cs.toList = [] ∧ evsC T fs.toList fun vs => K (.fb f vs) O n)
  | .makeSlice t l c => tyC P t fun ty => evC T l fun u => evC T c fun v => intC u fun i => intC v fun j =>
      (match ty with
      | .slice e => tyC P e fun te => byC P e fun bts => 0 < te.size ∧ 0 ≤ i ∧ i ≤ j ∧ j * bts ≤ 281474976710656 ∧ j ≤ 9223372036854775807 ∧ zerosC i.toNat te fun q => K (.osl n [] te.size 0 i.toNat) ((n,.row q) :: O) (n + 1)
      | _ => False)
  | .slice t x lo hi none => tyC P t fun ty => evC T x fun v => optC T lo fun l => optC T hi fun h =>
      (match ty with
      | .arr m _ te => cutA O te.size m v (l.getD 0).toNat (h.map Int.toNat) fun r => K r O n
      | .slice e => tyC P e fun te => (∀ o p sz lo len,v = .osl o p sz lo len → sz = te.size) ∧ (∀ c,v = .sl c → c.esz = te.size) ∧ cutC v (l.getD 0).toNat (h.map Int.toNat) fun r => K r O n
      | .str => cutS v (l.getD 0).toNat (h.map Int.toNat) fun r => K r O n
      | .ptr a => tyC P a fun at' => (match at' with | .arr m _ te => cutA O te.size m v (l.getD 0).toNat (h.map Int.toNat) fun r => K r O n | _ => False)
      | _ => False)
  | .sliceToArrayPointer t x => tyC P t fun ty => evC T x fun v => (match ty with | .arr m _ te => s2aC m te v fun r => K r O n | _ => False)
  | .fieldAddr s x f => tyC P s fun ty => evC T x fun v => (match ty with | .st ts => fldA f ts v fun r => K r O n | _ => False)
  | .field s x f => tyC P s fun ty => evC T x fun v =>
      (match ty,v with
      | .st ts,.agg ps => nthTC ts f 0 fun te off => fldC ps f off fun q => fitC te q (K q O n)
      | _,_ => False)
  | .indexAddr t x i => tyC P t fun ty => evC T x fun v => evC T i fun u => intC u fun j => idxA ty (fun e κ => tyC P e fun te => κ te.size) v j fun r => K r O n
  | .index t x i => tyC P t fun ty => evC T x fun v => evC T i fun u => intC u fun j =>
      (match ty with
      | .arr m _ te => idxV te m v j fun r => K r O n
      | .str => (match v with | .str s => 0 ≤ j ∧ j < s.length ∧ K (.int .u8 ((s.getD j.toNat 0).toNat : Int)) O n | _ => False)
      | _ => False)
  | .extract x i => evC T x fun v => (match v with | .tup vs => nthC vs i fun r => K r O n | _ => False)
  | .call c =>
      (match c.callee with
      | .value f => evC T f fun fv => evsC T c.args.toList fun vs => (match fv with | .fn (.func g) ps => CallP P g (vs ++ ps) O n fun r O' n' => K r O' n' | .fb (.func g) ps => CallP P g (ps ++ vs) O n fun r O' n' => K r O' n' | _ => False)
      | .builtin b => evsC T c.args.toList fun vs => bltC P b c.argTypes.toList vs O n fun r O' n' => K r O' n'
      | .invoke .. => False)
  | .makeMap _ none => K (.mp n) ((n,.map []) :: O) (n + 1)
  | .lookup t x i ok => tyC P t fun ty => evC T x fun v => evC T i fun u => mapQ P ty u (fun d => ok = false ∧
      (match v with
      | .mp o => objC O o fun ob => mpC ob fun ds => K (.bool (decide (d ∈ ds))) O n
      | _ => False)) fun k te =>
      (match v with
      | .mp o => objC O o fun ob => gmC k ob fun ks vs => fndC (getM ks vs k) te.zero fun r h => if ok = true then K (.tup [r,.bool h]) O n else K r O n
      | _ => False)
  | .mapUpdate t m k x | .insert t m k x => tyC P t fun ty => evC T m fun v => evC T k fun u => evC T x fun z => mapQ P ty u (fun d => z = .bool true ∧
      (match v with
      | .mp o => setM O o d fun O' => K .junk O' n
      | _ => False)) fun k te =>
      (match v with
      | .mp o => setG O o k z fun O' => K .junk O' n
      | _ => False)
  | _ => False
end Go.Sy
