/- The words of a symbolic reading of Go's code: values as trees, own objects by number, what a value is in memory. -/
import Derived.Calls
import Derived.Attr
import Derived.Laws.Sem
import Derived.Laws.World
import Derived.Laws.Append
namespace Go.Sy
open Go

inductive Stp where
  | at (i sz : Nat)
  | fld (j off : Nat)
  deriving DecidableEq

/-- A value as a tree. `ints`: n integers of a kind; `agg`: a struct's fields; `arr`: elements (they may name own objects); `lst`: elements that name none; `sl`: a slice whose memory never turns; `ref`, `osl`: into own objects; `pp`: into memory that never turns. -/
inductive AV where
  | int (k : IntKind) (n : Int)
  | bool (b : Bool)
  | str (s : List UInt8)
  | nilp
  | ref (o : Nat) (p : List Stp)
  | ints (k : IntKind) (n : Nat) (xs : List Int)
  | agg (ps : List AV)
  | arr (sz : Nat) (ps : List AV)
  | lst (sz n : Nat) (es : List AV)
  | sl (c : AV)
  | nils
  | osl (o : Nat) (p : List Stp) (sz lo len : Nat)
  | pp (c : AV) (p : List Stp)
  | fn (f : Fn) (cap : List AV)
  | nilf
  | nilm
  | mp (o : Nat)
  | tup (vs : List AV)
  | junk
  deriving Inhabited

def AV.multi : AV → Bool
  | .ints .. | .agg _ | .arr .. | .lst .. | .tup _ => true
  | _ => false

mutual
def AV.csz : AV → Nat
  | .ints _ n _ => n
  | .lst sz n _ => n * sz
  | .arr sz ps => ps.length * sz
  | .agg ps => AV.cszs ps
  | .int .. | .bool _ | .str _ | .nilp | .ref .. | .sl _ | .nils | .osl .. | .pp .. | .fn .. | .nilf | .nilm | .mp _ | .tup _ | .junk => 1
def AV.cszs : List AV → Nat
  | [] => 0
  | v :: vs => AV.csz v + AV.cszs vs
end

/-- How many elements a content has, and how many cells each has. -/
def AV.cnt : AV → Nat
  | .ints _ n _ => n
  | .lst _ n _ => n
  | .arr _ ps => ps.length
  | _ => 0
def AV.esz : AV → Nat
  | .ints .. => 1
  | .lst sz _ _ => sz
  | .arr sz _ => sz
  | _ => 0
def AV.isRow : AV → Bool
  | .ints .. | .lst .. | .arr .. => true
  | _ => false

def poff : List Stp → Nat
  | [] => 0
  | .at i sz :: p => i * sz + poff p
  | .fld _ off :: p => off + poff p

abbrev Pool := Nat → Nat → Option Value
/-- An object's block, and how many elements its row can hold. -/
abbrev Bmap := Nat → Option (Nat × Nat)
def nob : Bmap := fun _ => none

mutual
inductive RV (M : Pool) : Bmap → AV → List Value → Prop
  | int {β : Bmap} (k : IntKind) (n : Int) : RV M β (.int k n) [.int k n]
  | bool {β : Bmap} (b : Bool) : RV M β (.bool b) [.bool b]
  | str {β : Bmap} (s : List UInt8) : RV M β (.str s) [.string ⟨s.toArray⟩]
  | nilp {β : Bmap} : RV M β .nilp [.pointer none]
  | ref {β : Bmap} {o b κ : Nat} {p : List Stp} (h : β o = some (b, κ)) : RV M β (.ref o p) [.pointer (some ⟨b, poff p, none⟩)]
  | ints {β : Bmap} (k : IntKind) {n : Nat} {xs : List Int} (h : xs.length = n) : RV M β (.ints k n xs) (xs.map (.int k))
  | agg {β : Bmap} {ps : List AV} {cs : List Value} (h : RVs M β ps cs) : RV M β (.agg ps) cs
  | arr {β : Bmap} {sz : Nat} {ps : List AV} {cs : List Value} (h : RVs M β ps cs) (hs : ∀ p ∈ ps, p.csz = sz) : RV M β (.arr sz ps) cs
  | lst {β : Bmap} {sz n : Nat} {es : List AV} {cs : List Value} (h : RVs M nob es cs) (hs : ∀ p ∈ es, p.csz = sz) (hn : es.length = n) : RV M β (.lst sz n es) cs
  | sl {β : Bmap} {c : AV} {cc : List Value} {base : Option Addr} {len cap : Nat} (h : RV M nob c cc) (hr : c.isRow = true) (hl : c.cnt = len) (hc : len ≤ cap)
      (hm : len = 0 ∨ ∃ b off, base = some ⟨b, off, none⟩ ∧ ∀ i v, cc[i]? = some v → M b (off + i) = some v) : RV M β (.sl c) [.slice base len cap]
  | nils {β : Bmap} : RV M β .nils [.slice none 0 0]
  | osl {β : Bmap} {o b κ : Nat} {p : List Stp} {sz lo len cap : Nat} {base : Option Addr} (h : β o = some (b, κ)) (hc : len ≤ cap) (hk : p = [] → lo + cap ≤ κ)
      (ha : cap = 0 ∨ base = some ⟨b, poff p + lo * sz, none⟩) : RV M β (.osl o p sz lo len) [.slice base len cap]
  | pp {β : Bmap} {c : AV} {cc : List Value} {b off : Nat} {p : List Stp} (h : RV M nob c cc) (hm : ∀ i v, cc[i]? = some v → M b (off + i) = some v) :
      RV M β (.pp c p) [.pointer (some ⟨b, off + poff p, none⟩)]
  | fn {β : Bmap} {f : Fn} {cap : List AV} {xs : List Value} (h : VRs M β cap xs) : RV M β (.fn f cap) [.func f #[] xs.toArray]
  | nilf {β : Bmap} : RV M β .nilf [.nilFunc]
  | nilm {β : Bmap} : RV M β .nilm [.map none]
  | mp {β : Bmap} {o b κ : Nat} (h : β o = some (b, κ)) : RV M β (.mp o) [.map (some b)]
inductive RVs (M : Pool) : Bmap → List AV → List Value → Prop
  | nil {β : Bmap} : RVs M β [] []
  | cons {β : Bmap} {v : AV} {vs : List AV} {c cs : List Value} (h : RV M β v c) (hs : RVs M β vs cs) : RVs M β (v :: vs) (c ++ cs)
inductive VR (M : Pool) : Bmap → AV → Value → Prop
  | one {β : Bmap} {v : AV} {x : Value} (hm : v.multi = false) (h : RV M β v [x]) : VR M β v x
  | agg {β : Bmap} {v : AV} {cs : List Value} (hm : v.multi = true) (h : RV M β v cs) : VR M β v (.agg cs.toArray)
  | tup {β : Bmap} {vs : List AV} {xs : List Value} (h : VRs M β vs xs) : VR M β (.tup vs) (.tuple xs.toArray)
  | junk {β : Bmap} (x : Value) : VR M β .junk x
inductive VRs (M : Pool) : Bmap → List AV → List Value → Prop
  | nil {β : Bmap} : VRs M β [] []
  | cons {β : Bmap} {v : AV} {vs : List AV} {x : Value} {xs : List Value} (h : VR M β v x) (hs : VRs M β vs xs) : VRs M β (v :: vs) (x :: xs)
end

/-- An own object: a variable, or a row that a slice owns (it may have spare places). -/
inductive OB where
  | var (c : AV)
  | row (c : AV)
  | map (ks : List (AV × AV))
  deriving Inhabited

def lk {α : Type} : List (Nat × α) → Nat → Option α
  | [], _ => none
  | (i, v) :: T, t => if i = t then some v else lk T t

def freeCells (fz : Nat × Nat) (n : Nat) : Prop := fz.1 = fz.2 ∨ n ≤ fz.1
theorem freeCells.no {fz : Nat × Nat} {n : Nat} (h : freeCells fz n) : ∀ i, i < n → ¬ (fz.1 ≤ i ∧ i < fz.2) := fun i hi => by rcases h with h | h <;> omega

def OR (M : Pool) (β : Bmap) (b κ : Nat) (w : World) : OB → Prop
  | .var c => κ ≠ 0 ∧ c.csz ≤ κ ∧ ∃ cs e fz, w.heap[b]? = some (.cells cs e fz) ∧ freeCells fz cs.size ∧ RV M β c cs.toList
  | .row c => c.isRow = true ∧ 0 < c.esz ∧ ((κ = 0 ∧ c.cnt = 0 ∧ RV M β c []) ∨ (κ ≠ 0 ∧ ∃ cc sp e fz, w.heap[b]? = some (.cells (cc ++ sp).toArray e fz) ∧ freeCells fz (cc ++ sp).length ∧ RV M β c cc ∧ (cc ++ sp).length = κ * c.esz))
  | .map ks => κ ≠ 0 ∧ ∃ es clock, w.heap[b]? = some (.map es clock) ∧ ks.length = es.size ∧ VRs M β (ks.map (·.1)) (es.toList.map (·.key)) ∧ VRs M β (ks.map (·.2)) (es.toList.map (·.val))

structure Env where
  w0 : World
  own : Nat → Prop
  M0 : Pool
  B0 : Bmap
  n0 : Nat
  ok : Nat → Prop

abbrev TT := List (Nat × AV)
abbrev OO := List (Nat × OB)

structure St (E : Env) (M : Pool) (β : Bmap) (O : OO) (w : World) : Prop where
  pool : ∀ b i v, M b i = some v → w.cell? ⟨b, i, none⟩ = some v
  sub : ∀ b i v, E.M0 b i = some v → M b i = some v
  only : ∀ b i v, M b i = some v → E.M0 b i = some v ∨ E.own b ∨ E.w0.heap.size ≤ b
  objs : ∀ o ob, lk O o = some ob → ∃ b κ, β o = some (b, κ) ∧ OR M β b κ w ob
  mine : ∀ o ob b κ, lk O o = some ob → β o = some (b, κ) → κ ≠ 0 → (∀ i, M b i = none) ∧ (E.own b ∨ E.w0.heap.size ≤ b)
  inj : ∀ o o' ob ob' b κ κ', lk O o = some ob → lk O o' = some ob' → β o = some (b, κ) → β o' = some (b, κ') → κ ≠ 0 → κ' ≠ 0 → o = o'
  size : E.w0.heap.size ≤ w.heap.size
  keep : ∀ b, b < E.w0.heap.size → ¬ E.own b → w.heap[b]? = E.w0.heap[b]?
  os : w.os = E.w0.os
  tape : w.tape = E.w0.tape
  output : w.output = E.w0.output

structure RelAt (E : Env) (N : Nat) (M : Pool) (β : Bmap) (T : TT) (O : OO) (n : Nat) (a : Act) (w : World) : Prop where
  st : St E M β O w
  ids : ∀ o, n ≤ o → E.ok o → β o = none
  tmps : ∀ t v, lk T t = some v → ∃ x, a.tmps[t]? = some x ∧ VR M β v x
  nd : a.defers = []
  sz : a.tmps.size = N
  base : ∀ o, (o < E.n0 ∨ ¬ E.ok o) → β o = E.B0 o
  le0 : E.n0 ≤ n

def Rel (E : Env) (N : Nat) (T : TT) (O : OO) (n : Nat) (a : Act) (w : World) : Prop := ∃ M β, RelAt E N M β T O n a w

/-- What is so of memory where a call begins: the objects that are handed over lie apart. -/
def ownOf (O : OO) (β : Bmap) (b : Nat) : Prop := ∃ o ob κ, lk O o = some ob ∧ β o = some (b, κ) ∧ κ ≠ 0

/-- A call enters the function's code. -/
def Enters (P : Program) (f : FuncId) : Prop := ∃ fn, P.funcs[f]? = some fn ∧ (fn.name == "runtime.NumGoroutine") = false ∧ fn.body.isNone = false
/-- A function's contract: of arguments `args` and own objects `O` it returns `r`, and leaves the objects `O'`. -/
def FnC (P : Program) (f : FuncId) (args : List AV) (O : OO) (r : AV) (O' : OO) : Prop := Enters P f ∧
  ∀ (w : World) (M : Pool) (β : Bmap) (xs : List Value), (∀ o, lk O o = none → β o = none) → St ⟨w, ownOf O β, M, nob, 0, fun _ => True⟩ M β O w → VRs M β args xs →
    Calls P f xs.toArray w fun e w' => ∃ x M' β', e = .returned x ∧ VR M' β' r x ∧ St ⟨w, ownOf O β, M, nob, 0, fun _ => True⟩ M' β' O' w' ∧ (∀ o c, lk O o = some (.var c) → β' o = β o)

end Go.Sy
