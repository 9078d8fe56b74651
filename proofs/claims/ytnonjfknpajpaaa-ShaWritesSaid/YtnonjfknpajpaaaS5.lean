/- Operations, regions, code: what each asks of a state, and what it leaves. -/
import Derived.Test.YtnonjfknpajpaaaS4
namespace Go.Sy
open Go
set_option linter.unusedVariables false

/-- What is to be so of an operation's value, the objects and the next name behind it. -/
abbrev KK := AV → OO → Nat → Prop
/-- What is to be so of the state behind a piece of code. -/
abbrev CK := TT → OO → Nat → Prop

/-- An object as another state names it. -/
def renOB (σ : List (Nat × Nat)) : OB → (OB → Prop) → Prop
  | .var c, K => renC σ c fun c' => K (.var c')
  | .row c, K => renC σ c fun c' => K (.row c')
  | .map ks, K => rensC σ (ks.map (·.1)) fun as => rensC σ (ks.map (·.2)) fun bs => K (.map (as.zip bs))
def renOO (σ : List (Nat × Nat)) : OO → (OO → Prop) → Prop
  | [], K => K []
  | (o, ob) :: O, K => idC σ o fun o' => renOB σ ob fun ob' => renOO σ O fun O' => K ((o', ob') :: O')
def rmsO : OO → List Nat → (OO → Prop) → Prop
  | O, [], K => K O
  | O, o :: os, K => rmO O o fun O' => rmsO O' os K
/-- The state holds just these objects, by these names. -/
def holdsO (O : OO) (σ : List (Nat × Nat)) : OO → Prop
  | [] => True
  | (o, ob) :: O1 => (idC σ o fun o' => objC O o' fun ob' => renOB σ ob fun ob'' => ob' = ob'') ∧ holdsO O σ O1
def keys (O : OO) : List Nat := O.map (·.1)
/-- No memory that never turns is reached. -/
def AV.pf : AV → Bool
  | .sl _ | .pp .. | .fn .. | .junk => false
  | .agg ps => pfs ps
  | .arr _ ps => pfs ps
  | .tup ps => pfs ps
  | .lst _ _ es => pfs es
  | .int .. | .bool _ | .str _ | .nilp | .ref .. | .ints .. | .nils | .osl .. | .nilf | .nilm | .mp _ => true
where pfs : List AV → Bool
  | [] => true
  | v :: vs => v.pf && pfs vs
def OB.pf : OB → Bool
  | .var c => c.pf
  | .row c => c.pf
  | .map ks => AV.pf.pfs (ks.map (·.1)) && AV.pf.pfs (ks.map (·.2))

/-- Arguments as the contract names them. -/
def argsOK (bor : Bool) (σ : List (Nat × Nat)) (O : OO) : List AV → List AV → Prop
  | [], [] => True
  | a :: as, c :: cs => ((renC σ c fun c' => a = c') ∨ (bor = true ∧ c.nid = true ∧ viewC O 4 a fun c' => c' = c)) ∧ argsOK bor σ O as cs
  | _, _ => False
/-- Where the callee's objects come to lie: a variable that was handed over stays; all others are new. -/
def homesOK (σ τ : List (Nat × Nat)) (O1 : OO) (n n' : Nat) : OO → Prop
  | [] => True
  | (o, _) :: O' => (idC τ o fun o' => (n ≤ o' ∧ o' < n') ∨ ((objC O1 o fun ob => ∃ c, ob = .var c) ∧ idC σ o fun o'' => o'' = o')) ∧ homesOK σ τ O1 n n' O'
def CallP (P : Program) (f : FuncId) (args : List AV) (O : OO) (n : Nat) (κ : AV → OO → Nat → Prop) : Prop :=
  ∃ (bor : Bool) (σ τ : List (Nat × Nat)) (A : List AV) (O1 O2 : OO) (r : AV) (O' : OO) (n' : Nat), FnC P f A O1 r O' ∧ (rmsO O (σ.map (·.2)) fun O' => O' = O2) ∧ argsOK bor σ O2 args A ∧ holdsO O σ O1 ∧
    (σ.map (·.1) = keys O1) ∧ (keys O1).Nodup ∧ (σ.map (·.2)).Nodup ∧
    n ≤ n' ∧ (τ.map (·.1)).Nodup ∧ (τ.map (·.2)).Nodup ∧ homesOK σ τ O1 n n' O' ∧ (τ.map (·.1) = keys O') ∧
      (bor = true → r.pf = true ∧ ∀ p ∈ O', p.2.pf = true) ∧
      renC τ r fun r' => renOO τ O' fun L => κ r' (L ++ O2) n'

def lenK (P : Program) (t : TypeId) (v : AV) (K : AV → Prop) : Prop := tyC P t fun ty =>
  match ty with
  | .slice _ => lenC v fun m => K (.int .i64 m)
  | .str => strL v fun m => K (.int .i64 m)
  | .arr n _ _ => K (.int .i64 n)
  | _ => False
/-- append: a row of the call's own, or none, and what comes behind it. -/
def appC (te : Ty) (bts : Nat) (c d : AV) (n : Nat) (O : OO) (K : AV → OO → Nat → Prop) : Prop :=
  (c.cnt + d.cnt) * bts ≤ 140737488355328 ∧ c.esz = te.size ∧ catC c d fun e => K (.osl n [] te.size 0 (c.cnt + d.cnt)) ((n, .row e) :: O) (n + 1)
def ownC (te : Ty) (O : OO) : AV → (AV → OO → Prop) → Prop
  | .nils, K => zerosC 0 te fun c => K c O
  | .osl o p sz lo len, K => p = [] ∧ lo = 0 ∧ sz = te.size ∧ objC O o fun ob => rowC ob fun c => c.cnt = len ∧ rmO O o fun O' => K c O'
  | _, _ => False
def appendC (P : Program) (ts : List TypeId) (s x : AV) (O : OO) (n : Nat) (K : AV → OO → Nat → Prop) : Prop :=
  match ts with
  | [st, xt] => tyC P st fun sty =>
    match sty with
    | .slice e => tyC P e fun te => byC P e fun bts => 0 < bts ∧ 0 < te.size ∧
      match x with
      | .int _ m => tyC P xt fun xty => (∃ k, xty = .int k) ∧ 0 ≤ m ∧ m ≤ 9223372036854775807 ∧ zerosC m.toNat te fun d => ownC te O s fun c O' => appC te bts c d n O' K
      | x => tyC P xt fun xty => (∀ k, xty ≠ .int k) ∧ contC O te x fun d => ownC te O s fun c O' => appC te bts c d n O' K
    | _ => False
  | _ => False
/-- copy: into a row of the call's own. -/
def putC : AV → Nat → AV → (AV → Prop) → Prop
  | .ints k n xs, lo, .ints k' m ys, K => k = k' ∧ lo + m ≤ n ∧ K (.ints k n (xs.take lo ++ (ys ++ xs.drop (lo + m))))
  | .lst sz n es, lo, .lst sz' m fs, K => sz = sz' ∧ lo + m ≤ n ∧ K (.lst sz n (es.take lo ++ (fs ++ es.drop (lo + m))))
  | _, _, _, _ => False
def copyC (P : Program) (ts : List TypeId) (s x : AV) (O : OO) (K : Nat → OO → Prop) : Prop :=
  match ts with
  | st :: _ => tyC P st fun sty =>
    match sty with
    | .slice e => tyC P e fun te => 0 < te.size ∧
      match s with
      | .osl o p sz lo len => sz = te.size ∧ contC O te x fun d => (d.cnt = 0 ∨ len = 0 → K 0 O) ∧
          (0 < d.cnt → 0 < len → d.cnt ≤ len → objC O o fun ob => obC ob fun c => navC p c fun q => putC q lo d fun q' => updO O o p q' fun O' => K d.cnt O') ∧
          (0 < d.cnt → 0 < len → ¬ d.cnt ≤ len → subC d 0 len fun d' => objC O o fun ob => obC ob fun c => navC p c fun q => putC q lo d' fun q' => updO O o p q' fun O' => K len O')
      | .nils => contC O te x fun _ => K 0 O
      | _ => False
    | _ => False
  | _ => False

def bltC (P : Program) (b : Builtin) (ts : List TypeId) (vs : List AV) (O : OO) (n : Nat) (K : AV → OO → Nat → Prop) : Prop :=
  match b, vs with
  | .len, [v] => (match ts with | [t] => lenK P t v fun r => K r O n | _ => False)
  | .append, [s, x] => appendC P ts s x O n K
  | .copy, [s, x] => copyC P ts s x O fun m O' => K (.int .i64 m) O' n
  | .min, [.int k a, .int k' b] => k = k' ∧ K (.int k (min a b)) O n
  | .max, [.int k a, .int k' b] => k = k' ∧ K (.int k (max a b)) O n
  | _, _ => False

def convC (P : Program) (q0 t0 : TypeId) (v : AV) (O : OO) (n : Nat) (K : AV → OO → Nat → Prop) : Prop := tyC P q0 fun sty => tyC P t0 fun d =>
  match d, v with
  | .int k, .int _ a => K (.int k (k.wrap a)) O n
  | .str, .str s => K (.str s) O n
  | .slice e, .osl o p sz lo len => q0 = t0 ∧ 0 < len ∧ p = [] ∧ tyC P e fun te => te = .int .u8 ∧ objC O o fun ob => rowC ob fun _ => K (.osl o p sz lo len) O n
  | .slice e, .str s => sty = .str ∧ tyC P e fun te => te = .int .u8 ∧ K (.osl n [] 1 0 s.length) ((n, .row (.ints .u8 s.length (s.map fun x => (x.toNat : Int)))) :: O) (n + 1)
  | .str, v =>
    (match sty with
    | .slice e => tyC P e fun te => te = .int .u8 ∧ contC O te v fun c => bytesOf c fun s => K (.str s) O n
    | _ => False)
  | _, _ => False

def fldA (f : Nat) (ts : List Ty) : AV → (AV → Prop) → Prop
  | .ref o p, K => nthTC ts f 0 fun _ off => K (.ref o (p ++ [.fld f off]))
  | .pp c p, K => nthTC ts f 0 fun _ off => K (.pp c (p ++ [.fld f off]))
  | _, _ => False
def idxA (ty : Ty) (sz : Nat → (Nat → Prop) → Prop) (v : AV) (i : Int) (K : AV → Prop) : Prop :=
  match ty, v with
  | .arr n _ te, .ref o p => 0 ≤ i ∧ i < n ∧ K (.ref o (p ++ [.at i.toNat te.size]))
  | .arr n _ te, .pp c p => 0 ≤ i ∧ i < n ∧ K (.pp c (p ++ [.at i.toNat te.size]))
  | .slice e, .osl o p s lo len => 0 ≤ i ∧ i < len ∧ sz e fun z => s = z ∧ K (.ref o (p ++ [.at (lo + i.toNat) s]))
  | .slice e, .sl c => 0 ≤ i ∧ i < c.cnt ∧ sz e fun z => c.esz = z ∧ K (.pp c [.at i.toNat c.esz])
  | _, _ => False
def idxV (te : Ty) (n : Nat) : AV → Int → (AV → Prop) → Prop
  | .ints k m xs, i, K => m = n ∧ 0 ≤ i ∧ i < n ∧ te.size = 1 ∧ te.multi = false ∧ K (.int k (xs.getD i.toNat 0))
  | .lst sz m es, i, K => m = n ∧ 0 ≤ i ∧ i < n ∧ sz = te.size ∧ i.toNat < es.length ∧ ∀ q, es[i.toNat]? = some q → fitC te q (K q)
  | .arr sz ps, i, K => ps.length = n ∧ 0 ≤ i ∧ i < n ∧ sz = te.size ∧ ∀ q, ps[i.toNat]? = some q → fitC te q (K q)
  | _, _, _ => False

/-- The array that a slice's first places make. -/
def s2aC (m : Nat) (te : Ty) : AV → (AV → Prop) → Prop
  | .sl c, K => 0 < m ∧ m ≤ c.cnt ∧ c.esz = te.size ∧ subC c 0 m fun q => K (.pp q [])
  | .osl o p sz lo len, K => p = [] ∧ lo = 0 ∧ 0 < m ∧ m ≤ len ∧ K (.ref o [])
  | _, _ => False
def vcOp (P : Program) (op : Op) (T : TT) (O : OO) (n : Nat) (K : KK) : Prop :=
  match op with
  | .move x => evC T x fun v => K v O n
  | .assign x => evC T x fun v => K v O n
  | .pick c a b => evC T c fun v => boolC v fun t => iteC t fun t => if t then evC T a fun v => K v O n else evC T b fun v => K v O n
  | .alloc t => tyC P t fun ty => K (.ref n []) ((n, .var ty.zero) :: O) (n + 1)
  | .box _ x => evC T x fun v => v.mem = true ∧ K (.ref n []) ((n, .var v) :: O) (n + 1)
  | .build t ps => tyC P t fun ty => partsC T ps.toList fun l =>
      (match ty with
      | .st ts => bldS (Ty.zeros ts) l fun qs => K (.agg qs) O n
      | .arr m _ te => elemsC m te l fun v => K v O n
      | _ => False)
  | .buildSlice t m ps => tyC P t fun ty => partsC T ps.toList fun l =>
      (match ty with
      | .slice e => tyC P e fun te => 0 < te.size ∧ m * te.size ≤ 16777216 ∧ elemsC m te l fun c => K (.osl n [] te.size 0 m) ((n, .row c) :: O) (n + 1)
      | _ => False)
  | .load t a => tyC P t fun ty => evC T a fun v => loadC O v fun q => fitC ty q (K q O n)
  | .store t a x => tyC P t fun ty => evC T a fun v => evC T x fun u => u.mem = true ∧ u.csz = ty.size ∧ 0 < ty.size ∧
      (match v with
      | .ref o p => updO O o p u fun O' => K .junk O' n
      | _ => False)
  | .nilCheck x => evC T x fun v =>
      (match v with
      | .ref o p => K (.ref o p) O n
      | .pp c p => K (.pp c p) O n
      | .fn (.func f) ps => K (.fn (.func f) ps) O n
      | _ => False)
  | .binOp o t x y _ => evC T x fun v => evC T y fun u => binC P o t v u fun r => K r O n
  | .unOp o _ x => evC T x fun v => unC o v fun r => K r O n
  | .convert q t x => evC T x fun v => convC P q t v O n fun r O' n' => K r O' n'
  | .makeFunc f fs cs => fs.toList = [] ∧ evsC T cs.toList fun vs => K (.fn f vs) O n
  | .makeSlice t l c => tyC P t fun ty => evC T l fun u => evC T c fun v => intC u fun i => intC v fun j =>
      (match ty with
      | .slice e => tyC P e fun te => byC P e fun bts => 0 < te.size ∧ 0 ≤ i ∧ i ≤ j ∧ j * bts ≤ 281474976710656 ∧ j ≤ 9223372036854775807 ∧ zerosC i.toNat te fun q => K (.osl n [] te.size 0 i.toNat) ((n, .row q) :: O) (n + 1)
      | _ => False)
  | .slice t x lo hi none => tyC P t fun ty => evC T x fun v => optC T lo fun l => optC T hi fun h =>
      (match ty with
      | .arr m _ te => cutA O te.size m v (l.getD 0).toNat (h.map Int.toNat) fun r => K r O n
      | .slice e => tyC P e fun te => (∀ o p sz lo len, v = .osl o p sz lo len → sz = te.size) ∧ (∀ c, v = .sl c → c.esz = te.size) ∧ cutC v (l.getD 0).toNat (h.map Int.toNat) fun r => K r O n
      | .str => cutS v (l.getD 0).toNat (h.map Int.toNat) fun r => K r O n
      | .ptr a => tyC P a fun at' => (match at' with | .arr m _ te => cutA O te.size m v (l.getD 0).toNat (h.map Int.toNat) fun r => K r O n | _ => False)
      | _ => False)
  | .sliceToArrayPointer t x => tyC P t fun ty => evC T x fun v => (match ty with | .arr m _ te => s2aC m te v fun r => K r O n | _ => False)
  | .fieldAddr s x f => tyC P s fun ty => evC T x fun v => (match ty with | .st ts => fldA f ts v fun r => K r O n | _ => False)
  | .field s x f => tyC P s fun ty => evC T x fun v =>
      (match ty, v with
      | .st ts, .agg ps => nthTC ts f 0 fun te off => fldC ps f off fun q => fitC te q (K q O n)
      | _, _ => False)
  | .indexAddr t x i => tyC P t fun ty => evC T x fun v => evC T i fun u => intC u fun j => idxA ty (fun e κ => tyC P e fun te => κ te.size) v j fun r => K r O n
  | .index t x i => tyC P t fun ty => evC T x fun v => evC T i fun u => intC u fun j =>
      (match ty with
      | .arr m _ te => idxV te m v j fun r => K r O n
      | .str => (match v with | .str s => 0 ≤ j ∧ j < s.length ∧ K (.int .u8 ((s.getD j.toNat 0).toNat : Int)) O n | _ => False)
      | _ => False)
  | .extract x i => evC T x fun v => (match v with | .tup vs => nthC vs i fun r => K r O n | _ => False)
  | .call c =>
      (match c.callee with
      | .value f => evC T f fun fv => evsC T c.args.toList fun vs => (match fv with | .fn (.func g) ps => CallP P g (vs ++ ps) O n fun r O' n' => K r O' n' | _ => False)
      | .builtin b => evsC T c.args.toList fun vs => bltC P b c.argTypes.toList vs O n fun r O' n' => K r O' n'
      | .invoke .. => False)
  | _ => False

end Go.Sy
