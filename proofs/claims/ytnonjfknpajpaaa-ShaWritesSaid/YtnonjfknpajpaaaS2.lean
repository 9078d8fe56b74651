/- Types as trees: what a type's number stands for in a program, checked off its table once. -/
import Derived.Test.YtnonjfknpajpaaaS1
namespace Go.Sy
open Go

inductive Ty where
  | int (k : IntKind)
  | bool
  | str
  | ptr (e : TypeId)
  | slice (e : TypeId)
  | arr (n : Nat) (e : TypeId) (t : Ty)
  | st (ts : List Ty)
  | map (k v : TypeId)
  | func
  deriving Inhabited

def Ty.multi : Ty → Bool
  | .arr .. | .st _ => true
  | _ => false
mutual
def Ty.size : Ty → Nat
  | .arr n _ t => n * t.size
  | .st ts => Ty.sizes ts
  | .int _ | .bool | .str | .ptr _ | .slice _ | .map .. | .func => 1
def Ty.sizes : List Ty → Nat
  | [] => 0
  | t :: ts => t.size + Ty.sizes ts
end
mutual
def Ty.zero : Ty → AV
  | .int k => .int k 0
  | .bool => .bool false
  | .str => .str []
  | .ptr _ => .nilp
  | .slice _ => .nils
  | .arr n _ (.int k) => .ints k n (List.replicate n 0)
  | .arr n _ t => .lst t.size n (List.replicate n t.zero)
  | .st ts => .agg (Ty.zeros ts)
  | .map .. => .nilm
  | .func => .nilf
def Ty.zeros : List Ty → List AV
  | [] => []
  | t :: ts => t.zero :: Ty.zeros ts
end
mutual
def Ty.zc : Ty → List Value
  | .int k => [.int k 0]
  | .bool => [.bool false]
  | .str => [.string ⟨#[]⟩]
  | .ptr _ => [.pointer none]
  | .slice _ => [.slice none 0 0]
  | .arr n _ t => (List.replicate n t.zc).flatten
  | .st ts => Ty.zcs ts
  | .map .. => [.map none]
  | .func => [.nilFunc]
def Ty.zcs : List Ty → List Value
  | [] => []
  | t :: ts => t.zc ++ Ty.zcs ts
end
def Ty.zv (t : Ty) : Value := if t.multi then .agg t.zc.toArray else t.zc.headD undef

theorem zero_nid : (∀ t : Ty, t.zero.nid = true) ∧ (∀ ts : List Ty, AV.nids (Ty.zeros ts) = true) := by
  refine ⟨fun t => ?_, fun ts => ?_⟩
  · refine Ty.rec (motive_1 := fun t => t.zero.nid = true) (motive_2 := fun ts => AV.nids (Ty.zeros ts) = true) ?_ ?_ ?_ ?_ ?_ ?_ ?_ ?_ ?_ ?_ ?_ t <;> intros <;> first | rfl | skip
    · rename_i t _; cases t <;> simp [Ty.zero, AV.nid]
    · simpa [Ty.zero, AV.nid]
    · simp_all [Ty.zeros, AV.nids]
  · refine Ty.rec_1 (motive_1 := fun t => t.zero.nid = true) (motive_2 := fun ts => AV.nids (Ty.zeros ts) = true) ?_ ?_ ?_ ?_ ?_ ?_ ?_ ?_ ?_ ?_ ?_ ts <;> intros <;> first | rfl | skip
    · rename_i t _; cases t <;> simp [Ty.zero, AV.nid]
    · simpa [Ty.zero, AV.nid]
    · simp_all [Ty.zeros, AV.nids]

theorem zeros_rv {M : Pool} (n : Nat) (v : AV) (c : List Value) (h : ∀ β, RV M β v c) (β : Bmap) : RVs M β (List.replicate n v) (List.replicate n c).flatten := by
  induction n with
  | zero => exact .nil
  | succ n ih => simp only [List.replicate_succ, List.flatten_cons]; exact .cons (h β) ih
theorem arr_zero {M : Pool} (n : Nat) (e : TypeId) (t : Ty) (ih : ∀ β, RV M β t.zero t.zc) (hz : t.zero.csz = t.size) (β : Bmap) : RV M β (Ty.arr n e t).zero (Ty.arr n e t).zc := by
  have key : ∀ t : Ty, (∀ k, t ≠ .int k) → (∀ β, RV M β t.zero t.zc) → t.zero.csz = t.size → RV M β (.lst t.size n (List.replicate n t.zero)) (List.replicate n t.zc).flatten := fun t _ ih hz =>
    .lst (zeros_rv n _ _ ih nob) (fun p hp => by rw [(List.mem_replicate.1 hp).2]; exact hz) (by simp)
  cases t with
  | int k =>
    have : (List.replicate n [Value.int k 0]).flatten = (List.replicate n 0).map (Value.int k) := by
      clear key
      induction n with
      | zero => rfl
      | succ n ih' => simp only [List.replicate_succ, List.flatten_cons, List.map_cons, ih', List.singleton_append]
    simp only [Ty.zero, Ty.zc, this]
    exact .ints k (by simp)
  | _ => simp only [Ty.zero, Ty.zc]; exact key _ (by intro k h; cases h) ih hz
theorem zero_csz : (∀ t : Ty, t.zero.csz = t.size) ∧ (∀ ts : List Ty, AV.cszs (Ty.zeros ts) = Ty.sizes ts) := by
  refine ⟨fun t => ?_, fun ts => ?_⟩
  · refine Ty.rec (motive_1 := fun t => t.zero.csz = t.size) (motive_2 := fun ts => AV.cszs (Ty.zeros ts) = Ty.sizes ts) ?_ ?_ ?_ ?_ ?_ ?_ ?_ ?_ ?_ ?_ ?_ t <;> intros <;> first | rfl | skip
    · rename_i t _; cases t <;> simp [Ty.zero, AV.csz, Ty.size]
    · simpa [Ty.zero, AV.csz, Ty.size]
    · simp_all [Ty.zeros, AV.cszs, Ty.sizes]
  · refine Ty.rec_1 (motive_1 := fun t => t.zero.csz = t.size) (motive_2 := fun ts => AV.cszs (Ty.zeros ts) = Ty.sizes ts) ?_ ?_ ?_ ?_ ?_ ?_ ?_ ?_ ?_ ?_ ?_ ts <;> intros <;> first | rfl | skip
    · rename_i t _; cases t <;> simp [Ty.zero, AV.csz, Ty.size]
    · simpa [Ty.zero, AV.csz, Ty.size]
    · simp_all [Ty.zeros, AV.cszs, Ty.sizes]
theorem zero_rv {M : Pool} : (∀ t : Ty, ∀ β, RV M β t.zero t.zc) := by
  intro t
  refine Ty.rec (motive_1 := fun t => ∀ β, RV M β t.zero t.zc) (motive_2 := fun ts => ∀ β, RVs M β (Ty.zeros ts) (Ty.zcs ts)) ?_ ?_ ?_ ?_ ?_ ?_ ?_ ?_ ?_ ?_ ?_ t
  · intro k β; exact .int k 0
  · intro β; exact .bool false
  · intro β; exact .str []
  · intro e β; exact .nilp
  · intro e β; exact .nils
  · intro n e t ih β; exact arr_zero n e t ih (zero_csz.1 t) β
  · intro ts ih β; exact .agg (ih β)
  · intro k v β; exact .nilm
  · intro β; exact .nilf
  · intro β; exact .nil
  · intro t ts h hs β; exact .cons (h β) (hs β)
theorem zero_vr {M : Pool} (t : Ty) (β : Bmap) : VR M β t.zero t.zv := by
  have h := zero_rv (M := M) t β
  cases t with
  | arr n e t => exact .agg (by cases t <;> rfl) h
  | st ts => exact .agg rfl h
  | _ => exact .one rfl h

/-! The table's word. -/
def vq : Value → Value → Bool
  | .int k n, .int k' n' => k == k' && n == n'
  | .bool a, .bool b => a == b
  | .string a, .string b => a.data.toList == b.data.toList
  | .pointer none, .pointer none => true
  | .slice none 0 0, .slice none 0 0 => true
  | .map none, .map none => true
  | .nilFunc, .nilFunc => true
  | _, _ => false
theorem vq_eq {a b : Value} (h : vq a b = true) : a = b := by
  unfold vq at h
  split at h
  all_goals first | rfl | skip
  · simp at h; obtain ⟨rfl, rfl⟩ := h; rfl
  · simp at h; subst h; rfl
  · rename_i a b
    have : a.data.toList = b.data.toList := by simpa using h
    congr 1
    obtain ⟨⟨l⟩⟩ := a; obtain ⟨⟨m⟩⟩ := b
    simp at this; subst this; rfl
  · cases h
def vqs : List Value → List Value → Bool
  | [], [] => true
  | a :: as, b :: bs => vq a b && vqs as bs
  | _, _ => false
theorem vqs_eq : ∀ {a b : List Value}, vqs a b = true → a = b
  | [], [], _ => rfl
  | a :: as, b :: bs, h => by simp only [vqs, Bool.and_eq_true] at h; rw [vq_eq h.1, vqs_eq h.2]
  | [], _ :: _, h => by cases h
  | _ :: _, [], h => by cases h
def zq (t : Ty) : Option Value → Bool
  | some (.agg cs) => t.multi && vqs cs.toList t.zc
  | some v => !t.multi && vqs [v] t.zc
  | none => false
theorem zq_eq {t : Ty} {z : Option Value} (h : zq t z = true) : z = some t.zv := by
  unfold zq at h
  split at h
  · rename_i cs
    simp only [Bool.and_eq_true] at h
    have := vqs_eq h.2
    simp only [Ty.zv, h.1, if_true, ← this]
  · rename_i v _
    simp only [Bool.and_eq_true, Bool.not_eq_true'] at h
    have := vqs_eq h.2
    simp only [Ty.zv, h.1, ← this]; rfl
  · cases h

/-- The number `t` stands for the type `ty` in `P`. -/
structure TyB (P : Program) (t : TypeId) (ty : Ty) : Prop where
  info : ∃ i, P.info? t = some i ∧ i.size = ty.size ∧ i.zero = some ty.zv
  guard : P.eqGuardType P.depth t = false
mutual
def Ty.ok (P : Program) : TypeId → Ty → Prop
  | t, .int k => TyB P t (.int k) ∧ P.underlying t = some (.int k)
  | t, .bool => TyB P t .bool ∧ P.underlying t = some .bool
  | t, .str => TyB P t .str ∧ P.underlying t = some .string
  | t, .ptr e => TyB P t (.ptr e) ∧ P.underlying t = some (.pointer e)
  | t, .slice e => TyB P t (.slice e) ∧ P.underlying t = some (.slice e)
  | t, .arr n e te => TyB P t (.arr n e te) ∧ P.underlying t = some (.array n e) ∧ 0 < te.size ∧ Ty.ok P e te
  | t, .st ts => TyB P t (.st ts) ∧ ∃ fs, P.underlying t = some (.struct fs) ∧ P.stoodInHeld t = false ∧ Ty.oks P 0 fs.toList ts
  | t, .map k v => TyB P t (.map k v) ∧ P.underlying t = some (.map k v)
  | t, .func => TyB P t .func ∧ ∃ a b c, P.underlying t = some (.func a b c)
def Ty.oks (P : Program) : Nat → List Field → List Ty → Prop
  | _, [], [] => True
  | off, f :: fs, ty :: ts => f.offset = off ∧ f.name ≠ "_" ∧ 0 < ty.size ∧ Ty.ok P f.type ty ∧ Ty.oks P (off + ty.size) fs ts
  | _, _, _ => False
end
theorem Ty.ok.base {P : Program} {t : TypeId} {ty : Ty} (h : ty.ok P t) : TyB P t ty := by
  cases ty <;> first | exact h.1

def tyF (f : TypeId → Option Ty) : Nat → List Field → Option (List Ty)
  | _, [] => some []
  | off, x :: fs =>
    match f x.type with
    | some ty => if x.offset == off && x.name != "_" && decide (0 < ty.size) then (tyF f (off + ty.size) fs).map (ty :: ·) else none
    | none => none
def tyD (P : Program) (f : TypeId → Option Ty) (t : TypeId) : Option Ty :=
  match P.underlying t with
  | some (.int k) => some (.int k)
  | some .bool => some .bool
  | some .string => some .str
  | some (.pointer e) => some (.ptr e)
  | some (.slice e) => some (.slice e)
  | some (.array n e) => match f e with | some te => if 0 < te.size then some (.arr n e te) else none | none => none
  | some (.struct fs) => if P.stoodInHeld t then none else (tyF f 0 fs.toList).map .st
  | some (.map k v) => some (.map k v)
  | some (.func _ _ _) => some .func
  | _ => none
def tyq (P : Program) : Nat → TypeId → Option Ty
  | 0, _ => none
  | n + 1, t =>
    match tyD P (tyq P n) t, P.info? t with
    | some ty, some i => if i.size == ty.size && zq ty i.zero && !P.eqGuardType P.depth t then some ty else none
    | _, _ => none

theorem tyF_ok {P : Program} {f : TypeId → Option Ty} (hf : ∀ t ty, f t = some ty → ty.ok P t) : ∀ (fs : List Field) (off : Nat) (ts : List Ty), tyF f off fs = some ts → Ty.oks P off fs ts := by
  intro fs
  induction fs with
  | nil => intro off ts h; simp [tyF] at h; subst h; simp [Ty.oks]
  | cons x fs ih =>
    intro off ts h
    simp only [tyF] at h
    split at h
    · rename_i ty hty
      split at h
      · rename_i hc
        simp only [Bool.and_eq_true, beq_iff_eq, bne_iff_ne, decide_eq_true_eq] at hc
        simp only [Option.map_eq_some_iff] at h
        obtain ⟨ts', h1, rfl⟩ := h
        exact ⟨hc.1.1, hc.1.2, hc.2, hf _ _ hty, ih _ _ h1⟩
      · cases h
    · cases h
theorem tyq_ok {P : Program} : ∀ (n : Nat) (t : TypeId) (ty : Ty), tyq P n t = some ty → ty.ok P t := by
  intro n
  induction n with
  | zero => intro t ty h; cases h
  | succ n ih =>
    intro t ty h
    simp only [tyq] at h
    split at h
    · rename_i ty' i hd hi
      split at h
      · rename_i hc
        simp only [Bool.and_eq_true, beq_iff_eq, Bool.not_eq_true'] at hc
        cases h
        have hb : TyB P t ty := ⟨⟨i, hi, hc.1.1, zq_eq hc.1.2⟩, hc.2⟩
        unfold tyD at hd
        split at hd
        all_goals first | (cases hd; exact ⟨hb, by assumption⟩) | skip
        · rename_i hu
          split at hd
          · rename_i te hte
            split at hd
            · cases hd; exact ⟨hb, hu, by assumption, ih _ _ hte⟩
            · cases hd
          · cases hd
        · rename_i hu
          split at hd
          · cases hd
          · rename_i hp
            simp only [Option.map_eq_some_iff] at hd
            obtain ⟨ts, h1, rfl⟩ := hd
            exact ⟨hb, _, hu, by simpa using hp, tyF_ok ih _ _ _ h1⟩
        · cases hd; exact ⟨hb, _, _, _, by assumption⟩
        · cases hd
      · cases h
    · cases h

/-- What stands for a type's number; the facts about a program's own numbers are laid beside its text. -/
def tyC (P : Program) (t : TypeId) (K : Ty → Prop) : Prop := ∃ ty, tyq P 12 t = some ty ∧ K ty
theorem tyC_of {P : Program} {t : TypeId} {ty : Ty} (h : tyq P 12 t = some ty) (K : Ty → Prop) : tyC P t K = K ty := by
  unfold tyC; rw [h]; simp
def byC (P : Program) (t : TypeId) (K : Nat → Prop) : Prop := ∃ i, P.info? t = some i ∧ K i.bytes
theorem byC_of {P : Program} {t : TypeId} {b : Nat} (h : (P.info? t).map (·.bytes) = some b) (K : Nat → Prop) : byC P t K = K b := by
  unfold byC
  cases hi : P.info? t with
  | none => rw [hi] at h; cases h
  | some i => rw [hi] at h; simp at h; simp [h]

section
variable {P : Program} {t : TypeId} {ty : Ty} {w : World}
theorem r_under {d : TypeDesc} (h : P.underlying t = some d) : (underlying t).run P w = .ok d w := by simp [underlying, h]
theorem r_info {i : TypeInfo} (h : P.info? t = some i) : (typeInfo t).run P w = .ok i w := by simp [typeInfo, h]
theorem r_size (h : ty.ok P t) : (sizeOf t).run P w = .ok ty.size w := by
  obtain ⟨i, hi, hs, _⟩ := h.base.info
  simp [sizeOf, r_info hi, hs]
theorem r_zero (h : ty.ok P t) : (zeroValue t).run P w = .ok ty.zv w := by
  obtain ⟨i, hi, _, hz⟩ := h.base.info
  simp [zeroValue, r_info hi, hz]
theorem r_isAgg (h : ty.ok P t) : (isAgg t).run P w = .ok ty.multi w := by
  cases ty with
  | st ts => obtain ⟨_, fs, h, _⟩ := h; simp [isAgg, r_under h, Ty.multi]
  | arr n e te => obtain ⟨_, h, _⟩ := h; simp [isAgg, r_under h, Ty.multi]
  | func => obtain ⟨_, _, _, _, h⟩ := h; simp [isAgg, r_under h, Ty.multi]
  | _ => obtain ⟨_, h⟩ := h; simp [isAgg, r_under h, Ty.multi]
end
end Go.Sy
