/- What an operation asks and what comes of it, as a proposition that simp reckons. -/
import Derived.Test.YtnonjfknpajpaaaS3
namespace Go.Sy
open Go

def lkC : TT → Nat → (AV → Prop) → Prop
  | [], _, _ => False
  | (i, v) :: T, t, K => if i = t then K v else lkC T t K
def objC : OO → Nat → (OB → Prop) → Prop
  | [], _, _ => False
  | (i, v) :: O, o, K => if i = o then K v else objC O o K
def obC : OB → (AV → Prop) → Prop
  | .var c, K => K c
  | .row c, K => K c
  | .map _, _ => False
def rowC : OB → (AV → Prop) → Prop
  | .row c, K => K c
  | _, _ => False
def cstC : Value → (AV → Prop) → Prop
  | .int k n, K => K (.int k n)
  | .bool b, K => K (.bool b)
  | .string s, K => K (.str s.data.toList)
  | .pointer none, K => K .nilp
  | .slice none 0 0, K => K .nils
  | .map none, K => K .nilm
  | .nilFunc, K => K .nilf
  | _, _ => False
def evC (T : TT) : Operand → (AV → Prop) → Prop
  | .tmp t, K => lkC T t K
  | .const v, K => cstC v K
  | .func f, K => K (.fn (.func f) [])
  | .global _, _ => False
def evsC (T : TT) : List Operand → (List AV → Prop) → Prop
  | [], K => K []
  | x :: xs, K => evC T x fun v => evsC T xs fun vs => K (v :: vs)
def putT : Option Tmp → AV → TT → TT
  | some d, v, T => (d, v) :: T
  | none, _, T => T
def boolC : AV → (Bool → Prop) → Prop
  | .bool b, K => K b
  | _, _ => False
def intC : AV → (Int → Prop) → Prop
  | .int _ n, K => K n
  | _, _ => False
/-- A test, parted: each way knows its outcome. -/
def iteC (b : Bool) (K : Bool → Prop) : Prop := (b = true → K true) ∧ (b = false → K false)
def fitC (ty : Ty) (q : AV) (K : Prop) : Prop := q.csz = ty.size ∧ q.multi = ty.multi ∧ K
def nthC : List AV → Nat → (AV → Prop) → Prop
  | [], _, _ => False
  | q :: _, 0, K => K q
  | _ :: qs, j + 1, K => nthC qs j K
def nthTC : List Ty → Nat → Nat → (Ty → Nat → Prop) → Prop
  | [], _, _, _ => False
  | t :: _, 0, off, K => K t off
  | t :: ts, j + 1, off, K => nthTC ts j (off + t.size) K
def setC : List AV → Nat → AV → (List AV → Prop) → Prop
  | [], _, _, _ => False
  | q :: qs, 0, v, K => v.csz = q.csz ∧ K (v :: qs)
  | q :: qs, j + 1, v, K => setC qs j v fun qs' => K (q :: qs')

/-! Numbers. -/
def iand (k : IntKind) (a b : Int) : Int := k.wrap ((BitVec.ofInt k.bits a &&& BitVec.ofInt k.bits b).toNat)
def ior (k : IntKind) (a b : Int) : Int := k.wrap ((BitVec.ofInt k.bits a ||| BitVec.ofInt k.bits b).toNat)
def ixor (k : IntKind) (a b : Int) : Int := k.wrap ((BitVec.ofInt k.bits a ^^^ BitVec.ofInt k.bits b).toNat)
def iandn (k : IntKind) (a b : Int) : Int := k.wrap ((BitVec.ofInt k.bits a &&& ~~~BitVec.ofInt k.bits b).toNat)
def ishl (k : IntKind) (a : Int) (n : Nat) : Int := k.wrap (a * 2 ^ (min n k.bits))
def ishr (k : IntKind) (a : Int) (n : Nat) : Int := a.fdiv (2 ^ (min n k.bits))
def inot (k : IntKind) (a : Int) : Int := ixor k (if k.signed then -1 else k.max) a
def intB : BinOp → IntKind → Int → IntKind → Int → (AV → Prop) → Prop
  | .shl, k, a, _, b, K => 0 ≤ b ∧ K (.int k (ishl k a b.toNat))
  | .shr, k, a, _, b, K => 0 ≤ b ∧ K (.int k (ishr k a b.toNat))
  | .add, k, a, k', b, K => k = k' ∧ K (.int k (k.wrap (a + b)))
  | .sub, k, a, k', b, K => k = k' ∧ K (.int k (k.wrap (a - b)))
  | .mul, k, a, k', b, K => k = k' ∧ K (.int k (k.wrap (a * b)))
  | .quo, k, a, k', b, K => k = k' ∧ b ≠ 0 ∧ K (.int k (k.wrap (a.tdiv b)))
  | .rem, k, a, k', b, K => k = k' ∧ b ≠ 0 ∧ K (.int k (a.tmod b))
  | .and, k, a, k', b, K => k = k' ∧ K (.int k (iand k a b))
  | .or, k, a, k', b, K => k = k' ∧ K (.int k (ior k a b))
  | .xor, k, a, k', b, K => k = k' ∧ K (.int k (ixor k a b))
  | .andNot, k, a, k', b, K => k = k' ∧ K (.int k (iandn k a b))
  | .eql, k, a, k', b, K => k = k' ∧ K (.bool (decide (a = b)))
  | .neq, k, a, k', b, K => k = k' ∧ K (.bool (!decide (a = b)))
  | .lss, k, a, k', b, K => k = k' ∧ K (.bool (decide (a < b)))
  | .leq, k, a, k', b, K => k = k' ∧ K (.bool (decide (a ≤ b)))
  | .gtr, k, a, k', b, K => k = k' ∧ K (.bool (decide (b < a)))
  | .geq, k, a, k', b, K => k = k' ∧ K (.bool (decide (b ≤ a)))
def strB : BinOp → List UInt8 → List UInt8 → (AV → Prop) → Prop
  | .add, a, b, K => (a.length + b.length : Int) ≤ 9223372036854775807 ∧ K (.str (a ++ b))
  | .eql, a, b, K => K (.bool (decide (a = b)))
  | .neq, a, b, K => K (.bool (!decide (a = b)))
  | _, _, _, _ => False
mutual
def eqC : Ty → AV → AV → (Bool → Prop) → Prop
  | .int _, .int k a, .int k' b, K => k = k' ∧ K (decide (a = b))
  | .bool, .bool a, .bool b, K => K (a == b)
  | .str, .str a, .str b, K => K (decide (a = b))
  | .ptr _, .nilp, .nilp, K => K true
  | .ptr _, .nilp, .ref _ _, K => K false
  | .ptr _, .ref _ _, .nilp, K => K false
  | .ptr _, .nilp, .pp _ _, K => K false
  | .ptr _, .pp _ _, .nilp, K => K false
  | .arr n _ (.int k), .ints k1 n1 xs, .ints k2 n2 ys, K => k1 = k ∧ k2 = k ∧ n1 = n ∧ n2 = n ∧ K (decide (xs = ys))
  | .st ts, .agg ps, .agg qs, K => eqsC ts ps qs K
  | _, _, _, _ => False
def eqsC : List Ty → List AV → List AV → (Bool → Prop) → Prop
  | [], [], [], K => K true
  | t :: ts, p :: ps, q :: qs, K => p.csz = t.size ∧ q.csz = t.size ∧ p.multi = t.multi ∧ q.multi = t.multi ∧ eqC t p q fun b => eqsC ts ps qs fun c => K (b && c)
  | _, _, _, _ => False
end
def binC (P : Program) (op : BinOp) (t : TypeId) : AV → AV → (AV → Prop) → Prop
  | .int k a, .int k' b, K => intB op k a k' b K
  | .str a, .str b, K => strB op a b K
  | x, y, K =>
    match op with
    | .eql => tyC P t fun ty => eqC ty x y fun b => K (.bool b)
    | .neq => tyC P t fun ty => eqC ty x y fun b => K (.bool (!b))
    | _ => False
def unC : UnOp → AV → (AV → Prop) → Prop
  | .neg, .int k n, K => K (.int k (k.wrap (0 - n)))
  | .xor, .int k n, K => K (.int k (inot k n))
  | .not, .bool b, K => K (.bool (!b))
  | _, _, _ => False

/-! Memory. -/
def loadC (O : OO) : AV → (AV → Prop) → Prop
  | .ref o p, K => objC O o fun ob => obC ob fun c => navC p c K
  | .pp c p, K => navC p c K
  | _, _ => False
def updOB : OB → List Stp → AV → (OB → Prop) → Prop
  | .var c, p, v, K => updC p c v fun c' => K (.var c')
  | .row c, p, v, K => (p = [] → v.isRow = true ∧ v.esz = c.esz ∧ v.cnt = c.cnt) ∧ updC p c v fun c' => K (.row c')
  | .map _, _, _, _ => False
def updO : OO → Nat → List Stp → AV → (OO → Prop) → Prop
  | [], _, _, _, _ => False
  | (i, ob) :: O, o, p, v, K => if i = o then updOB ob p v fun ob' => K ((i, ob') :: O) else updO O o p v fun O' => K ((i, ob) :: O')
def rmO : OO → Nat → (OO → Prop) → Prop
  | [], _, K => K []
  | (i, ob) :: O, o, K => if i = o then rmO O o K else rmO O o fun O' => K ((i, ob) :: O')
/-- Elements of a content, from a place on. -/
def subC : AV → Nat → Nat → (AV → Prop) → Prop
  | .ints k n xs, lo, len, K => lo + len ≤ n ∧ (lo = 0 ∧ len = n → K (.ints k n xs)) ∧ (¬ (lo = 0 ∧ len = n) → K (.ints k len ((xs.drop lo).take len)))
  | .lst sz n es, lo, len, K => lo + len ≤ n ∧ (lo = 0 ∧ len = n → K (.lst sz n es)) ∧ (¬ (lo = 0 ∧ len = n) → K (.lst sz len ((es.drop lo).take len)))
  | .arr sz ps, lo, len, K => lo + len ≤ ps.length ∧ K (.arr sz ((ps.drop lo).take len))
  | _, _, _, _ => False
mutual
def renC (σ : List (Nat × Nat)) : AV → (AV → Prop) → Prop
  | .ref o p, K => idC σ o fun o' => K (.ref o' p)
  | .osl o p sz lo len, K => idC σ o fun o' => K (.osl o' p sz lo len)
  | .mp o, K => idC σ o fun o' => K (.mp o')
  | .agg ps, K => rensC σ ps fun qs => K (.agg qs)
  | .arr sz ps, K => rensC σ ps fun qs => K (.arr sz qs)
  | .tup ps, K => rensC σ ps fun qs => K (.tup qs)
  | .fn f ps, K => rensC σ ps fun qs => K (.fn f qs)
  | .int k n, K => K (.int k n)
  | .bool b, K => K (.bool b)
  | .str s, K => K (.str s)
  | .nilp, K => K .nilp
  | .ints k n xs, K => K (.ints k n xs)
  | .lst sz n es, K => K (.lst sz n es)
  | .sl c, K => K (.sl c)
  | .nils, K => K .nils
  | .pp c p, K => K (.pp c p)
  | .nilf, K => K .nilf
  | .nilm, K => K .nilm
  | .junk, _ => False
def rensC (σ : List (Nat × Nat)) : List AV → (List AV → Prop) → Prop
  | [], K => K []
  | v :: vs, K => renC σ v fun w => rensC σ vs fun ws => K (w :: ws)
def idC : List (Nat × Nat) → Nat → (Nat → Prop) → Prop
  | [], _, _ => False
  | (i, j) :: σ, o, K => if i = o then K j else idC σ o K
end

/-! Making values. -/
def partsC (T : TT) : List (Nat × Operand) → (List (Nat × AV) → Prop) → Prop
  | [], K => K []
  | (j, x) :: l, K => evC T x fun v => v.mem = true ∧ partsC T l fun vs => K ((j, v) :: vs)
def bldS : List AV → List (Nat × AV) → (List AV → Prop) → Prop
  | ps, [], K => K ps
  | ps, (j, v) :: l, K => setC ps j v fun ps' => bldS ps' l K
def seqI (k : IntKind) : Nat → List (Nat × AV) → (Nat → List Int → Prop) → Prop
  | i, [], K => K i []
  | i, (j, v) :: l, K => j = i ∧ intU k v fun x => seqI k (i + 1) l fun m xs => K m (x :: xs)
def seqV (sz : Nat) : Nat → List (Nat × AV) → (Nat → List AV → Prop) → Prop
  | i, [], K => K i []
  | i, (j, v) :: l, K => j = i ∧ v.csz = sz ∧ seqV sz (i + 1) l fun m vs => K m (v :: vs)
/-- `n` elements, of which the first ones are told. -/
def elemsC (n : Nat) (te : Ty) (l : List (Nat × AV)) (K : AV → Prop) : Prop :=
  match te with
  | .int k => seqI k 0 l fun m xs => m ≤ n ∧ K (.ints k n (xs ++ List.replicate (n - m) 0))
  | te => (l = [] ∧ n = 0 → K (.lst te.size 0 [])) ∧ (¬ (l = [] ∧ n = 0) → seqV te.size 0 l fun m vs => m ≤ n ∧ K (.arr te.size (vs ++ List.replicate (n - m) te.zero)))
def zerosC (n : Nat) (te : Ty) (K : AV → Prop) : Prop :=
  match te with
  | .int k => K (.ints k n (List.replicate n 0))
  | te => K (.lst te.size n (List.replicate n te.zero))
/-- One content behind another one. -/
def catC : AV → AV → (AV → Prop) → Prop
  | .ints k n xs, .ints k' m ys, K => k = k' ∧ K (.ints k (n + m) (xs ++ ys))
  | .lst sz n es, .lst sz' m fs, K => sz = sz' ∧ K (.lst sz (n + m) (es ++ fs))
  | .lst sz n es, .arr sz' ps, K => sz = sz' ∧ AV.nids ps = true ∧ K (.lst sz (n + ps.length) (es ++ ps))
  | .arr sz ps, .arr sz' qs, K => sz = sz' ∧ K (.arr sz (ps ++ qs))
  | .arr sz ps, .lst sz' n es, K => sz = sz' ∧ AV.nids ps = true ∧ K (.lst sz (ps.length + n) (ps ++ es))
  | _, _, _ => False
/-- A slice's content, for reading. -/
def contC (O : OO) (te : Ty) : AV → (AV → Prop) → Prop
  | .sl c, K => c.esz = te.size ∧ K c
  | .nils, K => zerosC 0 te K
  | .osl o p sz lo len, K => sz = te.size ∧ objC O o fun ob => obC ob fun c => navC p c fun q => q.esz = te.size ∧ subC q lo len K
  | .str s, K => te = .int .u8 ∧ K (.ints .u8 s.length (s.map fun x => (x.toNat : Int)))
  | _, _ => False
def lenC : AV → (Nat → Prop) → Prop
  | .sl c, K => K c.cnt
  | .nils, K => K 0
  | .osl _ _ _ _ len, K => K len
  | _, _ => False
def strL : AV → (Nat → Prop) → Prop
  | .str s, K => K s.length
  | _, _ => False
def bytesOf (c : AV) (K : List UInt8 → Prop) : Prop :=
  match c with
  | .ints .u8 _ xs => K (xs.map fun x => UInt8.ofNat x.toNat)
  | _ => False

/-- The slice expression. -/
def cutC : AV → Nat → Option Nat → (AV → Prop) → Prop
  | .osl o p sz lo len, l, none, K => l ≤ len ∧ K (.osl o p sz (lo + l) (len - l))
  | .osl o p sz lo len, l, some h, K => l ≤ h ∧ h ≤ len ∧ K (.osl o p sz (lo + l) (h - l))
  | .sl c, l, none, K => l ≤ c.cnt ∧ subC c l (c.cnt - l) fun q => K (.sl q)
  | .sl c, l, some h, K => l ≤ h ∧ h ≤ c.cnt ∧ subC c l (h - l) fun q => K (.sl q)
  | .nils, l, none, K => l = 0 ∧ K .nils
  | .nils, l, some h, K => l = 0 ∧ h = 0 ∧ K .nils
  | _, _, _, _ => False
def cutS : AV → Nat → Option Nat → (AV → Prop) → Prop
  | .str s, l, none, K => l ≤ s.length ∧ K (.str (s.drop l))
  | .str s, l, some h, K => l ≤ h ∧ h ≤ s.length ∧ K (.str ((s.take h).drop l))
  | _, _, _, _ => False
def varC : OB → (AV → Prop) → Prop
  | .var c, K => K c
  | _, _ => False
def cutA (O : OO) (sz n : Nat) : AV → Nat → Option Nat → (AV → Prop) → Prop
  | .ref o p, l, none, K => l ≤ n ∧ (p = [] → objC O o fun ob => varC ob fun c => n ≤ c.csz) ∧ K (.osl o p sz l (n - l))
  | .ref o p, l, some h, K => l ≤ h ∧ h ≤ n ∧ (p = [] → objC O o fun ob => varC ob fun c => n ≤ c.csz) ∧ K (.osl o p sz l (h - l))
  | _, _, _, _ => False
def optC (T : TT) : Option Operand → (Option Int → Prop) → Prop
  | none, K => K none
  | some x, K => evC T x fun v => intC v fun n => 0 ≤ n ∧ K (some n)

/-! Calls. -/
/-- As the callee sees it: own memory as memory that does not turn. -/
def viewC (O : OO) : Nat → AV → (AV → Prop) → Prop
  | _, .int k n, K => K (.int k n)
  | _, .bool b, K => K (.bool b)
  | _, .str s, K => K (.str s)
  | _, .nilp, K => K .nilp
  | _, .ints k n xs, K => K (.ints k n xs)
  | _, .lst sz n es, K => K (.lst sz n es)
  | _, .sl c, K => K (.sl c)
  | _, .nils, K => K .nils
  | _, .pp c p, K => K (.pp c p)
  | _, .nilf, K => K .nilf
  | _, .nilm, K => K .nilm
  | f + 1, .osl o p sz lo len, K => objC O o fun ob => obC ob fun c => navC p c fun q => sz = q.esz ∧ subC q lo len fun r => viewC O f r fun r' => r'.isRow = true ∧ r'.cnt = len ∧ K (.sl r')
  | f + 1, .agg ps, K => views (viewC O f) ps fun qs => K (.agg qs)
  | f + 1, .arr sz ps, K => views (viewC O f) ps fun qs => K (.lst sz qs.length qs)
  | _, _, _ => False
where views (V : AV → (AV → Prop) → Prop) : List AV → (List AV → Prop) → Prop
  | [], K => K []
  | v :: vs, K => V v fun w => views V vs fun ws => K (w :: ws)

end Go.Sy
