/- Plain laws of the relation between trees and values. -/
import Derived.Test.YtnonjfknpajpaaaS0
namespace Go.Sy
open Go

theorem ind4 {M : Pool} {p1 : Bmap → AV → List Value → Prop} {p2 : Bmap → List AV → List Value → Prop} {p3 : Bmap → AV → Value → Prop} {p4 : Bmap → List AV → List Value → Prop}
    (m0 : ∀ {β : Bmap} (k : IntKind) (n : Int), p1 β (.int k n) [.int k n])
    (m1 : ∀ {β : Bmap} (b : Bool), p1 β (.bool b) [.bool b])
    (m2 : ∀ {β : Bmap} (s : List UInt8), p1 β (.str s) [.string ⟨s.toArray⟩])
    (m3 : ∀ {β : Bmap}, p1 β .nilp [.pointer none])
    (m4 : ∀ {β : Bmap} {o b κ : Nat} {p : List Stp} (_ : β o = some (b, κ)), p1 β (.ref o p) [.pointer (some ⟨b, poff p, none⟩)])
    (m5 : ∀ {β : Bmap} (k : IntKind) {n : Nat} {xs : List Int} (_ : xs.length = n), p1 β (.ints k n xs) (xs.map (.int k)))
    (m6 : ∀ {β : Bmap} {ps : List AV} {cs : List Value} (_ : RVs M β ps cs), p2 β ps cs → p1 β (.agg ps) cs)
    (m7 : ∀ {β : Bmap} {sz : Nat} {ps : List AV} {cs : List Value} (_ : RVs M β ps cs) (_ : ∀ p ∈ ps, p.csz = sz), p2 β ps cs → p1 β (.arr sz ps) cs)
    (m8 : ∀ {β : Bmap} {sz n : Nat} {es : List AV} {cs : List Value} (_ : RVs M nob es cs) (_ : ∀ p ∈ es, p.csz = sz) (_ : es.length = n), p2 nob es cs → p1 β (.lst sz n es) cs)
    (m9 : ∀ {β : Bmap} {c : AV} {cc : List Value} {base : Option Addr} {len cap : Nat} (_ : RV M nob c cc) (_ : c.isRow = true) (_ : c.cnt = len) (_ : len ≤ cap) (_ : len = 0 ∨ ∃ b off, base = some ⟨b, off, none⟩ ∧ ∀ i v, cc[i]? = some v → M b (off + i) = some v), p1 nob c cc → p1 β (.sl c) [.slice base len cap])
    (m10 : ∀ {β : Bmap}, p1 β .nils [.slice none 0 0])
    (m11 : ∀ {β : Bmap} {o b κ : Nat} {p : List Stp} {sz lo len cap : Nat} {base : Option Addr} (_ : β o = some (b, κ)) (_ : len ≤ cap) (_ : p = [] → lo + cap ≤ κ) (_ : cap = 0 ∨ base = some ⟨b, poff p + lo * sz, none⟩), p1 β (.osl o p sz lo len) [.slice base len cap])
    (m12 : ∀ {β : Bmap} {c : AV} {cc : List Value} {b off : Nat} {p : List Stp} (_ : RV M nob c cc) (_ : ∀ i v, cc[i]? = some v → M b (off + i) = some v), p1 nob c cc → p1 β (.pp c p) [.pointer (some ⟨b, off + poff p, none⟩)])
    (m13 : ∀ {β : Bmap} {f : Fn} {cap : List AV} {xs : List Value} (_ : VRs M β cap xs), p4 β cap xs → p1 β (.fn f cap) [.func f #[] xs.toArray])
    (m14 : ∀ {β : Bmap}, p1 β .nilf [.nilFunc])
    (m15 : ∀ {β : Bmap}, p1 β .nilm [.map none])
    (m16 : ∀ {β : Bmap} {o b κ : Nat} (_ : β o = some (b, κ)), p1 β (.mp o) [.map (some b)])
    (m17 : ∀ {β : Bmap}, p2 β [] [])
    (m18 : ∀ {β : Bmap} {v : AV} {vs : List AV} {c cs : List Value} (_ : RV M β v c) (_ : RVs M β vs cs), p1 β v c → p2 β vs cs → p2 β (v :: vs) (c ++ cs))
    (m19 : ∀ {β : Bmap} {v : AV} {x : Value} (_ : v.multi = false) (_ : RV M β v [x]), p1 β v [x] → p3 β v x)
    (m20 : ∀ {β : Bmap} {v : AV} {cs : List Value} (_ : v.multi = true) (_ : RV M β v cs), p1 β v cs → p3 β v (.agg cs.toArray))
    (m21 : ∀ {β : Bmap} {vs : List AV} {xs : List Value} (_ : VRs M β vs xs), p4 β vs xs → p3 β (.tup vs) (.tuple xs.toArray))
    (m22 : ∀ {β : Bmap} (x : Value), p3 β .junk x)
    (m23 : ∀ {β : Bmap}, p4 β [] [])
    (m24 : ∀ {β : Bmap} {v : AV} {vs : List AV} {x : Value} {xs : List Value} (_ : VR M β v x) (_ : VRs M β vs xs), p3 β v x → p4 β vs xs → p4 β (v :: vs) (x :: xs))
    : (∀ {β v cs}, RV M β v cs → p1 β v cs) ∧ (∀ {β vs cs}, RVs M β vs cs → p2 β vs cs) ∧ (∀ {β v x}, VR M β v x → p3 β v x) ∧ (∀ {β vs xs}, VRs M β vs xs → p4 β vs xs) := by
  exact ⟨@fun _ _ _ h => RV.rec (motive_1 := fun β v cs _ => p1 β v cs) (motive_2 := fun β vs cs _ => p2 β vs cs) (motive_3 := fun β v x _ => p3 β v x) (motive_4 := fun β vs xs _ => p4 β vs xs) @m0 @m1 @m2 @m3 @m4 @m5 @m6 @m7 @m8 @m9 @m10 @m11 @m12 @m13 @m14 @m15 @m16 @m17 @m18 @m19 @m20 @m21 @m22 @m23 @m24 h,
    @fun _ _ _ h => RVs.rec (motive_1 := fun β v cs _ => p1 β v cs) (motive_2 := fun β vs cs _ => p2 β vs cs) (motive_3 := fun β v x _ => p3 β v x) (motive_4 := fun β vs xs _ => p4 β vs xs) @m0 @m1 @m2 @m3 @m4 @m5 @m6 @m7 @m8 @m9 @m10 @m11 @m12 @m13 @m14 @m15 @m16 @m17 @m18 @m19 @m20 @m21 @m22 @m23 @m24 h,
    @fun _ _ _ h => VR.rec (motive_1 := fun β v cs _ => p1 β v cs) (motive_2 := fun β vs cs _ => p2 β vs cs) (motive_3 := fun β v x _ => p3 β v x) (motive_4 := fun β vs xs _ => p4 β vs xs) @m0 @m1 @m2 @m3 @m4 @m5 @m6 @m7 @m8 @m9 @m10 @m11 @m12 @m13 @m14 @m15 @m16 @m17 @m18 @m19 @m20 @m21 @m22 @m23 @m24 h,
    @fun _ _ _ h => VRs.rec (motive_1 := fun β v cs _ => p1 β v cs) (motive_2 := fun β vs cs _ => p2 β vs cs) (motive_3 := fun β v x _ => p3 β v x) (motive_4 := fun β vs xs _ => p4 β vs xs) @m0 @m1 @m2 @m3 @m4 @m5 @m6 @m7 @m8 @m9 @m10 @m11 @m12 @m13 @m14 @m15 @m16 @m17 @m18 @m19 @m20 @m21 @m22 @m23 @m24 h⟩

def AV.mem : AV → Bool
  | .tup _ | .junk => false
  | _ => true
theorem cszs_const {vs : List AV} {sz : Nat} (h : ∀ p ∈ vs, p.csz = sz) : AV.cszs vs = vs.length * sz := by
  induction vs with
  | nil => simp [AV.cszs]
  | cons v vs ih => simp [AV.cszs, h v (by simp), ih (fun p hp => h p (by simp [hp])), Nat.add_mul, Nat.add_comm]

theorem length_aux {M : Pool} : (∀ {β v cs}, RV M β v cs → cs.length = v.csz) ∧ (∀ {β vs cs}, RVs M β vs cs → cs.length = AV.cszs vs) ∧ (∀ {β v x}, VR M β v x → True) ∧ (∀ {β vs xs}, VRs M β vs xs → True) := @ind4 M (fun _ v cs => cs.length = v.csz) (fun _ vs cs => cs.length = AV.cszs vs) (fun _ _ _ => True) (fun _ _ _ => True)
  (by intros; rfl) (by intros; rfl) (by intros; rfl) (by intros; rfl) (by intros; rfl) (by intros; simpa [AV.csz]) (by intros; simpa [AV.csz]) (by intro β sz ps cs _ hs h; rw [h, cszs_const hs]; simp [AV.csz])
  (by intro β sz n es cs _ hs hn h; rw [h, cszs_const hs, hn]; simp [AV.csz]) (by intros; rfl) (by intros; rfl) (by intros; rfl) (by intros; rfl) (by intros; rfl) (by intros; rfl) (by intros; rfl) (by intros; rfl) (by intros; rfl)
  (by intro β v vs c cs _ _ h k; simp [AV.cszs, h, k]) (by intros; trivial) (by intros; trivial) (by intros; trivial) (by intros; trivial) (by intros; trivial) (by intros; trivial)
theorem RV.length {M : Pool} {β : Bmap} {v : AV} {cs : List Value} (h : RV M β v cs) : cs.length = v.csz := length_aux.1 h
theorem RVs.length {M : Pool} {β : Bmap} {vs : List AV} {cs : List Value} (h : RVs M β vs cs) : cs.length = AV.cszs vs := length_aux.2.1 h

theorem one_aux {M : Pool} : (∀ {β v cs}, RV M β v cs → ∀ x ∈ cs, x.oneCell' = true) ∧ (∀ {β vs cs}, RVs M β vs cs → ∀ x ∈ cs, x.oneCell' = true) ∧ (∀ {β v x}, VR M β v x → True) ∧ (∀ {β vs xs}, VRs M β vs xs → True) := @ind4 M (fun _ _ cs => ∀ x ∈ cs, x.oneCell' = true) (fun _ _ cs => ∀ x ∈ cs, x.oneCell' = true) (fun _ _ _ => True) (fun _ _ _ => True)
  (by simp [Value.oneCell']) (by simp [Value.oneCell']) (by simp [Value.oneCell']) (by simp [Value.oneCell']) (by simp [Value.oneCell']) (by simp [Value.oneCell']) (by intro _ _ _ _ h; exact h) (by intro _ _ _ _ _ _ h; exact h)
  (by intro _ _ _ _ _ _ _ _ h; exact h) (by simp [Value.oneCell']) (by simp [Value.oneCell']) (by simp [Value.oneCell']) (by simp [Value.oneCell']) (by simp [Value.oneCell']) (by simp [Value.oneCell']) (by simp [Value.oneCell']) (by simp [Value.oneCell']) (by simp)
  (by intro β v vs c cs _ _ h k x hx; rcases List.mem_append.1 hx with hx | hx; exact h x hx; exact k x hx) (by intros; trivial) (by intros; trivial) (by intros; trivial) (by intros; trivial) (by intros; trivial) (by intros; trivial)
theorem RV.one {M : Pool} {β : Bmap} {v : AV} {cs : List Value} (h : RV M β v cs) : ∀ x ∈ cs, x.oneCell' = true := one_aux.1 h

def PLe (M M' : Pool) : Prop := ∀ b i v, M b i = some v → M' b i = some v
def BLe (β β' : Bmap) : Prop := ∀ o x, β o = some x → β' o = some x
theorem BLe.refl (β : Bmap) : BLe β β := fun _ _ h => h
theorem BLe.trans {a b c : Bmap} (h : BLe a b) (k : BLe b c) : BLe a c := fun _ _ x => k _ _ (h _ _ x)
theorem BLe.nob (β : Bmap) : BLe nob β := fun _ _ h => by cases h
theorem PLe.refl (M : Pool) : PLe M M := fun _ _ _ h => h
theorem PLe.trans {a b c : Pool} (h : PLe a b) (k : PLe b c) : PLe a c := fun _ _ _ x => k _ _ _ (h _ _ _ x)

theorem mono_aux {M M' : Pool} (hM : PLe M M') : (∀ {β v cs}, RV M β v cs → ∀ β', BLe β β' → RV M' β' v cs) ∧ (∀ {β vs cs}, RVs M β vs cs → ∀ β', BLe β β' → RVs M' β' vs cs) ∧
  (∀ {β v x}, VR M β v x → ∀ β', BLe β β' → VR M' β' v x) ∧ (∀ {β vs xs}, VRs M β vs xs → ∀ β', BLe β β' → VRs M' β' vs xs) := @ind4 M (fun β v cs => ∀ β', BLe β β' → RV M' β' v cs) (fun β vs cs => ∀ β', BLe β β' → RVs M' β' vs cs)
  (fun β v x => ∀ β', BLe β β' → VR M' β' v x) (fun β vs xs => ∀ β', BLe β β' → VRs M' β' vs xs)
  (fun k n _ _ => .int k n) (fun b _ _ => .bool b) (fun s _ _ => .str s) (fun _ _ => .nilp) (fun h _ hb => .ref (hb _ _ h)) (fun k _ _ h _ _ => .ints k h)
  (fun _ ih β' hb => .agg (ih β' hb)) (fun _ hs ih β' hb => .arr (ih β' hb) hs) (fun _ hs hn ih _ _ => .lst (ih nob (BLe.refl _)) hs hn)
  (fun _ hr hl hc hm ih _ _ => .sl (ih nob (BLe.refl _)) hr hl hc (hm.imp id fun ⟨b, off, e, h⟩ => ⟨b, off, e, fun i v hi => hM _ _ _ (h i v hi)⟩))
  (fun _ _ => .nils) (fun h hc hk ha _ hb => .osl (hb _ _ h) hc hk ha) (fun _ hm ih _ _ => .pp (ih nob (BLe.refl _)) fun i v hi => hM _ _ _ (hm i v hi))
  (fun _ ih β' hb => .fn (ih β' hb)) (fun _ _ => .nilf) (fun _ _ => .nilm) (fun h _ hb => .mp (hb _ _ h)) (fun _ _ => .nil) (fun _ _ i1 i2 β' hb => .cons (i1 β' hb) (i2 β' hb))
  (fun hm _ ih β' hb => .one hm (ih β' hb)) (fun hm _ ih β' hb => .agg hm (ih β' hb)) (fun _ ih β' hb => .tup (ih β' hb)) (fun x _ _ => .junk x) (fun _ _ => .nil) (fun _ _ i1 i2 β' hb => .cons (i1 β' hb) (i2 β' hb))
section
variable {M M' : Pool} {β β' : Bmap} {v : AV} {vs : List AV} {cs xs : List Value} {x : Value}
theorem RV.mono (h : RV M β v cs) (hM : PLe M M') (hb : BLe β β') : RV M' β' v cs := (mono_aux hM).1 h β' hb
theorem RVs.mono (h : RVs M β vs cs) (hM : PLe M M') (hb : BLe β β') : RVs M' β' vs cs := (mono_aux hM).2.1 h β' hb
theorem VR.mono (h : VR M β v x) (hM : PLe M M') (hb : BLe β β') : VR M' β' v x := (mono_aux hM).2.2.1 h β' hb
theorem VRs.mono (h : VRs M β vs xs) (hM : PLe M M') (hb : BLe β β') : VRs M' β' vs xs := (mono_aux hM).2.2.2 h β' hb

/-- A value and its cells. -/
theorem VR.cells (h : VR M β v x) (ht : v.mem = true) : RV M β v x.cells.toList := by
  cases h with
  | junk x => cases ht
  | one hm h =>
    have h1 := h.one x (by simp)
    have : x.cells = #[x] := by cases x <;> first | rfl | simp [Value.oneCell'] at h1
    simpa [this] using h
  | agg hm h => simpa [Value.cells] using h
  | tup h => cases ht
theorem VR.of_cells {cs : List Value} (h : RV M β v cs) (hm : v.multi = true) : VR M β v (.agg cs.toArray) := .agg hm h
theorem VR.of_one (h : RV M β v [x]) (hm : v.multi = false) : VR M β v x := .one hm h
end

theorem RVs.append {M : Pool} {β : Bmap} {vs ws : List AV} {cs ds : List Value} (h : RVs M β vs cs) (k : RVs M β ws ds) : RVs M β (vs ++ ws) (cs ++ ds) := by
  induction vs generalizing cs with
  | nil => cases h; simpa using k
  | cons v vs ih => cases h with | cons h hs => rw [List.append_assoc]; exact .cons h (ih hs)

/-! No own object is named. -/
mutual
def AV.nid : AV → Bool
  | .ref .. | .osl .. | .mp _ => false
  | .agg ps => AV.nids ps
  | .arr _ ps => AV.nids ps
  | .tup ps => AV.nids ps
  | .fn _ ps => AV.nids ps
  | .int .. | .bool _ | .str _ | .nilp | .ints .. | .lst .. | .sl _ | .nils | .pp .. | .nilf | .nilm | .junk => true
def AV.nids : List AV → Bool
  | [] => true
  | v :: vs => v.nid && AV.nids vs
end
theorem nid_aux {M : Pool} : (∀ {β v cs}, RV M β v cs → v.nid = true → ∀ β', RV M β' v cs) ∧ (∀ {β vs cs}, RVs M β vs cs → AV.nids vs = true → ∀ β', RVs M β' vs cs) ∧
    (∀ {β v x}, VR M β v x → v.nid = true → ∀ β', VR M β' v x) ∧ (∀ {β vs xs}, VRs M β vs xs → AV.nids vs = true → ∀ β', VRs M β' vs xs) :=
  @ind4 M (fun β v cs => v.nid = true → ∀ β', RV M β' v cs) (fun β vs cs => AV.nids vs = true → ∀ β', RVs M β' vs cs) (fun β v x => v.nid = true → ∀ β', VR M β' v x) (fun β vs xs => AV.nids vs = true → ∀ β', VRs M β' vs xs)
  (fun k n _ _ => .int k n) (fun b _ _ => .bool b) (fun s _ _ => .str s) (fun _ _ => .nilp) (fun _ h => by simp [AV.nid] at h) (fun k _ _ h _ _ => .ints k h)
  (fun _ ih h β' => .agg (ih (by simpa [AV.nid] using h) β')) (fun _ hs ih h β' => .arr (ih (by simpa [AV.nid] using h) β') hs) (fun h hs hn _ _ _ => .lst h hs hn)
  (fun h hr hl hc hm _ _ _ => .sl h hr hl hc hm) (fun _ _ => .nils) (fun _ _ _ _ h => by simp [AV.nid] at h) (fun h hm _ _ _ => .pp h hm)
  (fun _ ih h β' => .fn (ih (by simpa [AV.nid] using h) β')) (fun _ _ => .nilf) (fun _ _ => .nilm) (fun _ h => by simp [AV.nid] at h) (fun _ _ => .nil)
  (fun _ _ i1 i2 h β' => by simp only [AV.nids, Bool.and_eq_true] at h; exact .cons (i1 h.1 β') (i2 h.2 β'))
  (fun hm _ ih h β' => .one hm (ih h β')) (fun hm _ ih h β' => .agg hm (ih h β')) (fun _ ih h β' => .tup (ih (by simpa [AV.nid] using h) β')) (fun x _ _ => .junk x) (fun _ _ => .nil)
  (fun _ _ i1 i2 h β' => by simp only [AV.nids, Bool.and_eq_true] at h; exact .cons (i1 h.1 β') (i2 h.2 β'))
theorem RV.nid {M : Pool} {β : Bmap} {v : AV} {cs : List Value} (h : RV M β v cs) (hn : v.nid = true) (β' : Bmap) : RV M β' v cs := nid_aux.1 h hn β'
theorem VR.nid {M : Pool} {β : Bmap} {v : AV} {x : Value} (h : VR M β v x) (hn : v.nid = true) (β' : Bmap) : VR M β' v x := nid_aux.2.2.1 h hn β'

/-! Ways into a tree. -/
def fldC : List AV → Nat → Nat → (AV → Prop) → Prop
  | [], _, _, _ => False
  | q :: _, 0, off, K => off = 0 ∧ K q
  | q :: qs, j + 1, off, K => q.csz ≤ off ∧ fldC qs j (off - q.csz) K
def navC : List Stp → AV → (AV → Prop) → Prop
  | [], v, K => K v
  | .fld j off :: p, .agg ps, K => fldC ps j off fun q => navC p q K
  | .at i sz :: p, .ints k n xs, K => sz = 1 ∧ i < n ∧ navC p (.int k (xs.getD i 0)) K
  | .at i sz :: p, .arr s ps, K => s = sz ∧ i < ps.length ∧ ∀ q, ps[i]? = some q → navC p q K
  | .at i sz :: p, .lst s _ es, K => s = sz ∧ i < es.length ∧ ∀ q, es[i]? = some q → navC p q K
  | _, _, _ => False
def fldU : List AV → Nat → Nat → (AV → (AV → Prop) → Prop) → (List AV → Prop) → Prop
  | [], _, _, _, _ => False
  | q :: qs, 0, off, U, K => off = 0 ∧ U q fun q' => K (q' :: qs)
  | q :: qs, j + 1, off, U, K => q.csz ≤ off ∧ fldU qs j (off - q.csz) U fun qs' => K (q :: qs')
def intU (k : IntKind) : AV → (Int → Prop) → Prop
  | .int k' y, K => k' = k ∧ K y
  | _, _ => False
def updC : List Stp → AV → AV → (AV → Prop) → Prop
  | [], v, x, K => x.csz = v.csz ∧ K x
  | .fld j off :: p, .agg ps, x, K => fldU ps j off (fun q K' => updC p q x K') fun ps' => K (.agg ps')
  | .at i sz :: p, .ints k n xs, x, K => p = [] ∧ sz = 1 ∧ i < n ∧ intU k x fun y => K (.ints k n (xs.set i y))
  | .at i sz :: p, .arr s ps, x, K => s = sz ∧ i < ps.length ∧ ∀ q, ps[i]? = some q → updC p q x fun q' => K (.arr s (ps.set i q'))
  | .at i sz :: p, .lst s n es, x, K => s = sz ∧ i < es.length ∧ x.nid = true ∧ ∀ q, es[i]? = some q → updC p q x fun q' => K (.lst s n (es.set i q'))
  | _, _, _, _ => False

/-- A piece of cells. -/
def piece (cs : List Value) (o n : Nat) : List Value := (cs.drop o).take n
def splice (cs : List Value) (o : Nat) (xs : List Value) : List Value := cs.take o ++ (xs ++ cs.drop (o + xs.length))
theorem piece_all (cs : List Value) : piece cs 0 cs.length = cs := by simp [piece]
theorem piece_piece (cs : List Value) (o n a m : Nat) (h : a + m ≤ n) : piece (piece cs o n) a m = piece cs (o + a) m := by
  simp only [piece, List.drop_take, List.take_take, List.drop_drop]
  congr 1; omega
theorem splice_splice (cs : List Value) (o n a : Nat) (xs : List Value) (h : a + xs.length ≤ n) (hn : o + n ≤ cs.length) : splice cs o (splice (piece cs o n) a xs) = splice cs (o + a) xs := by
  have hl : (splice (piece cs o n) a xs).length = n := by simp [splice, piece]; omega
  apply List.ext_getElem?
  intro i
  simp only [splice, piece] at hl ⊢
  rw [hl]
  simp only [List.getElem?_append, List.getElem?_take, List.getElem?_drop, List.length_take, List.length_drop, List.length_append]
  repeat' split
  all_goals first | rfl | (exfalso; omega) | (congr 1; omega)

theorem RVs.nth {M : Pool} {β : Bmap} {sz : Nat} {ps : List AV} {cs : List Value} (h : RVs M β ps cs) (hs : ∀ p ∈ ps, p.csz = sz) {i : Nat} {q : AV} (hq : ps[i]? = some q) :
    i * sz + sz ≤ cs.length ∧ RV M β q (piece cs (i * sz) sz) := by
  induction ps generalizing cs i with
  | nil => simp at hq
  | cons p ps ih =>
    cases h with
    | cons hp hps =>
      rename_i c cs
      have hc := hp.length
      rw [hs p (by simp)] at hc
      cases i with
      | zero =>
        simp only [List.getElem?_cons_zero, Option.some.injEq] at hq
        subst hq
        refine ⟨by simp [hc], ?_⟩
        have : piece (c ++ cs) (0 * sz) sz = c := by simp [piece, ← hc]
        rw [this]; exact hp
      | succ i =>
        simp only [List.getElem?_cons_succ] at hq
        obtain ⟨h1, h2⟩ := ih hps (fun p hp => hs p (by simp [hp])) hq
        refine ⟨by simp [hc, Nat.add_mul]; omega, ?_⟩
        have : piece (c ++ cs) ((i + 1) * sz) sz = piece cs (i * sz) sz := by
          simp only [piece, Nat.add_mul, Nat.one_mul]
          rw [List.drop_append, List.drop_of_length_le (by omega), show i * sz + sz - c.length = i * sz by omega, List.nil_append]
        rw [this]; exact h2
theorem RVs.set {M : Pool} {β : Bmap} {sz : Nat} {ps : List AV} {cs xs : List Value} (h : RVs M β ps cs) (hs : ∀ p ∈ ps, p.csz = sz) {i : Nat} {q : AV} (hi : i < ps.length)
    (hq : RV M β q xs) (hz : xs.length = sz) : RVs M β (ps.set i q) (splice cs (i * sz) xs) := by
  induction ps generalizing cs i with
  | nil => simp at hi
  | cons p ps ih =>
    cases h with
    | cons hp hps =>
      rename_i c cs
      have hc := hp.length
      rw [hs p (by simp)] at hc
      cases i with
      | zero =>
        have : splice (c ++ cs) (0 * sz) xs = xs ++ cs := by simp [splice, hz, ← hc]
        rw [this]; exact .cons hq hps
      | succ i =>
        have := ih hps (fun p hp => hs p (by simp [hp])) (by simpa using hi) (i := i)
        have e : splice (c ++ cs) ((i + 1) * sz) xs = c ++ splice cs (i * sz) xs := by
          simp only [splice, Nat.add_mul, Nat.one_mul]
          rw [List.take_append, List.take_of_length_le (by omega), List.drop_append, List.drop_of_length_le (by omega), show i * sz + sz - c.length = i * sz by omega,
            show i * sz + sz + xs.length - c.length = i * sz + xs.length by omega]
          simp
        rw [e]; exact .cons hp this

theorem fldC_spec : ∀ (ps : List AV) (j off : Nat) (K : AV → Prop), fldC ps j off K → ∃ q, K q ∧ ∀ {M : Pool} {β : Bmap} {cs : List Value}, RVs M β ps cs → off + q.csz ≤ cs.length ∧ RV M β q (piece cs off q.csz) := by
  intro ps
  induction ps with
  | nil => intro j off K h; exact h.elim
  | cons p ps ih =>
    intro j off K h
    cases j with
    | zero =>
      obtain ⟨rfl, hk⟩ := h
      refine ⟨p, hk, fun {M β cs} hr => ?_⟩
      cases hr with
      | cons hp hps =>
        rename_i c cs
        have := hp.length
        refine ⟨by simp; omega, ?_⟩
        have e : piece (c ++ cs) 0 p.csz = c := by simp [piece, ← this]
        rw [e]; exact hp
    | succ j =>
      obtain ⟨hle, h⟩ := h
      obtain ⟨q, hk, hq⟩ := ih _ _ _ h
      refine ⟨q, hk, fun {M β cs} hr => ?_⟩
      cases hr with
      | cons hp hps =>
        rename_i c cs
        have hl := hp.length
        obtain ⟨h1, h2⟩ := hq hps
        refine ⟨by simp; omega, ?_⟩
        have e : piece (c ++ cs) off q.csz = piece cs (off - p.csz) q.csz := by
          simp only [piece]
          rw [List.drop_append, List.drop_of_length_le (by omega), List.nil_append, hl]
        rw [e]; exact h2
theorem nav_spec : ∀ (p : List Stp) (v : AV) (K : AV → Prop), navC p v K → ∃ q, K q ∧ ∀ {M : Pool} {β : Bmap} {cs : List Value}, RV M β v cs → poff p + q.csz ≤ cs.length ∧ RV M β q (piece cs (poff p) q.csz) := by
  intro p
  induction p with
  | nil =>
    intro v K h
    refine ⟨v, by simpa [navC] using h, fun {M β cs} hr => ?_⟩
    have := hr.length
    refine ⟨by simp [poff, this], ?_⟩
    simp only [poff, ← this, piece_all]; exact hr
  | cons s p ih =>
    intro v K h
    cases s with
    | fld j off =>
      cases v with
      | agg ps =>
        obtain ⟨q, hk, hq⟩ := fldC_spec _ _ _ _ h
        obtain ⟨r, hr, hr2⟩ := ih _ _ hk
        refine ⟨r, hr, fun {M β cs} hv => ?_⟩
        cases hv with
        | agg hps =>
          obtain ⟨h1, h2⟩ := hq hps
          obtain ⟨h3, h4⟩ := hr2 h2
          have hl : (piece cs off q.csz).length = q.csz := by simp [piece]; omega
          rw [hl] at h3
          refine ⟨by simp only [poff]; omega, ?_⟩
          rw [piece_piece _ _ _ _ _ h3] at h4
          exact h4
      | _ => exact h.elim
    | «at» i sz =>
      cases v with
      | ints k n xs =>
        obtain ⟨rfl, hi, h⟩ := h
        obtain ⟨r, hr, hr2⟩ := ih _ _ h
        refine ⟨r, hr, fun {M β cs} hv => ?_⟩
        cases hv with
        | ints _ hn =>
          have hx : i < xs.length := by omega
          obtain ⟨h3, h4⟩ := hr2 (RV.int (M := M) (β := β) k (xs.getD i 0))
          have e : piece (xs.map (Value.int k)) (i * 1) 1 = [Value.int k (xs.getD i 0)] := by
            simp [piece, List.drop_eq_getElem_cons, hx, List.getD]
          rw [← e] at h4 h3
          have hl : (piece (xs.map (Value.int k)) (i * 1) 1).length = 1 := by rw [e]; rfl
          rw [hl] at h3
          refine ⟨by simp only [poff, List.length_map]; omega, ?_⟩
          rw [piece_piece _ _ _ _ _ h3] at h4
          exact h4
      | arr s ps =>
        obtain ⟨rfl, hi, h⟩ := h
        obtain ⟨r, hr, hr2⟩ := ih _ _ (h _ (List.getElem?_eq_getElem hi))
        refine ⟨r, hr, fun {M β cs} hv => ?_⟩
        cases hv with
        | arr hps hs =>
          obtain ⟨h1, h2⟩ := hps.nth hs (List.getElem?_eq_getElem hi)
          obtain ⟨h3, h4⟩ := hr2 h2
          have hl : (piece cs (i * s) s).length = s := by simp [piece]; omega
          rw [hl] at h3
          refine ⟨by simp only [poff]; omega, ?_⟩
          rw [piece_piece _ _ _ _ _ h3] at h4
          exact h4
      | lst s n ps =>
        obtain ⟨rfl, hi, h⟩ := h
        obtain ⟨r, hr, hr2⟩ := ih _ _ (h _ (List.getElem?_eq_getElem hi))
        refine ⟨r, hr, fun {M β cs} hv => ?_⟩
        cases hv with
        | lst hps hs hn =>
          obtain ⟨h1, h2⟩ := hps.nth hs (List.getElem?_eq_getElem hi)
          obtain ⟨h3, h4⟩ := hr2 (h2.mono (PLe.refl _) (BLe.nob β))
          have hl : (piece cs (i * s) s).length = s := by simp [piece]; omega
          rw [hl] at h3
          refine ⟨by simp only [poff]; omega, ?_⟩
          rw [piece_piece _ _ _ _ _ h3] at h4
          exact h4
      | _ => exact h.elim

theorem fldU_spec : ∀ (ps : List AV) (j off : Nat) (U : AV → (AV → Prop) → Prop) (K : List AV → Prop), fldU ps j off U K → ∃ q, ∃ K' : AV → Prop, U q K' ∧ ∀ q', K' q' → q'.csz = q.csz → ∃ ps', K ps' ∧ AV.cszs ps' = AV.cszs ps ∧
    ∀ {M : Pool} {β : Bmap} {cs xc : List Value}, RVs M β ps cs → RV M β q (piece cs off q.csz) ∧ off + q.csz ≤ cs.length ∧ (RV M β q' xc → RVs M β ps' (splice cs off xc)) := by
  intro ps
  induction ps with
  | nil => intro j off U K h; exact h.elim
  | cons p ps ih =>
    intro j off U K h
    cases j with
    | zero =>
      obtain ⟨rfl, hk⟩ := h
      refine ⟨p, _, hk, fun q' hq' hc => ⟨q' :: ps, hq', by simp [AV.cszs, hc], fun {M β cs xc} hr => ?_⟩⟩
      cases hr with
      | cons hp hps =>
        rename_i c cs
        have := hp.length
        have e : piece (c ++ cs) 0 p.csz = c := by simp [piece, ← this]
        refine ⟨by rw [e]; exact hp, by simp; omega, fun hx => ?_⟩
        have hl := hx.length
        have e : splice (c ++ cs) 0 xc = xc ++ cs := by simp [splice, hl, hc, ← this]
        rw [e]; exact .cons hx hps
    | succ j =>
      obtain ⟨hle, h⟩ := h
      obtain ⟨q, K', hk, hq⟩ := ih _ _ _ _ h
      refine ⟨q, K', hk, fun q' hq' hc => ?_⟩
      obtain ⟨ps', hK, hsz, hr⟩ := hq q' hq' hc
      refine ⟨p :: ps', hK, by simp [AV.cszs, hsz], fun {M β cs xc} hv => ?_⟩
      cases hv with
      | cons hp hps =>
        rename_i c cs
        have hl := hp.length
        obtain ⟨h1, h2, h3⟩ := hr hps
        have e : piece (c ++ cs) off q.csz = piece cs (off - p.csz) q.csz := by
          simp only [piece]
          rw [List.drop_append, List.drop_of_length_le (by omega), List.nil_append, hl]
        refine ⟨by rw [e]; exact h1, by simp; omega, fun hx => ?_⟩
        have e : splice (c ++ cs) off xc = c ++ splice cs (off - p.csz) xc := by
          simp only [splice]
          rw [List.take_append, List.take_of_length_le (by omega), List.drop_append, List.drop_of_length_le (by omega), hl, show off + xc.length - p.csz = off - p.csz + xc.length by omega]
          simp
        rw [e]; exact .cons hp (h3 hx)
theorem nids_any {vs : List AV} (h : AV.nids vs = true) : ∀ v ∈ vs, v.nid = true := by
  induction vs with
  | nil => simp
  | cons v vs ih => simp only [AV.nids, Bool.and_eq_true] at h; intro x hx; rcases List.mem_cons.1 hx with rfl | hx; exact h.1; exact ih h.2 x hx
theorem upd_spec : ∀ (p : List Stp) (v x : AV) (K : AV → Prop), updC p v x K → ∃ v', K v' ∧ v'.csz = v.csz ∧ ∀ {M : Pool} {β : Bmap} {cs xc : List Value}, RV M β v cs → RV M β x xc →
    poff p + xc.length ≤ cs.length ∧ RV M β v' (splice cs (poff p) xc) := by
  intro p
  induction p with
  | nil =>
    intro v x K h
    obtain ⟨hs, hk⟩ : x.csz = v.csz ∧ K x := by simpa [updC] using h
    refine ⟨x, hk, hs, fun {M β cs xc} hr hx => ?_⟩
    have h1 := hr.length
    have h2 := hx.length
    refine ⟨by simp [poff]; omega, ?_⟩
    have e : splice cs (poff []) xc = xc := by simp [poff, splice]; omega
    rw [e]; exact hx
  | cons s p ih =>
    intro v x K h
    cases s with
    | fld j off =>
      cases v with
      | agg ps =>
        obtain ⟨q, K', hk, hq⟩ := fldU_spec _ _ _ _ _ h
        obtain ⟨q', hq', hcz, hr2⟩ := ih _ _ _ hk
        obtain ⟨ps', hK, hsz, hr⟩ := hq q' hq' hcz
        refine ⟨.agg ps', hK, by simp [AV.csz, hsz], fun {M β cs xc} hv hx => ?_⟩
        cases hv with
        | agg hps =>
          obtain ⟨h1, h2, h3⟩ := hr (xc := splice (piece cs off q.csz) (poff p) xc) hps
          obtain ⟨h5, h6⟩ := hr2 h1 hx
          have hl : (piece cs off q.csz).length = q.csz := by simp [piece]; omega
          rw [hl] at h5
          refine ⟨by simp only [poff]; omega, ?_⟩
          have := h3 h6
          rw [splice_splice _ _ _ _ _ h5 h2] at this
          exact .agg this
      | _ => exact h.elim
    | «at» i sz =>
      cases v with
      | ints k n xs =>
        obtain ⟨rfl, rfl, hi, h⟩ := h
        cases x with
        | int k' y =>
          obtain ⟨rfl, hk⟩ := h
          refine ⟨_, hk, by simp [AV.csz], fun {M β cs xc} hv hx => ?_⟩
          cases hv with
          | ints _ hn =>
            cases hx
            refine ⟨by simp [poff]; omega, ?_⟩
            have e : splice (xs.map (Value.int k')) (poff [.at i 1]) [Value.int k' y] = (xs.set i y).map (Value.int k') := by
              simp only [poff, splice, List.map_set, Nat.mul_one, Nat.add_zero, List.length_singleton]
              rw [List.set_eq_take_append_cons_drop, if_pos (by simp; omega)]
              simp
            rw [e]
            exact .ints _ (by simpa using hn)
        | _ => exact h.elim
      | arr s ps =>
        obtain ⟨rfl, hi, h⟩ := h
        obtain ⟨q', hq', hcz, hr2⟩ := ih _ _ _ (h _ (List.getElem?_eq_getElem hi))
        refine ⟨_, hq', by simp [AV.csz], fun {M β cs xc} hv hx => ?_⟩
        cases hv with
        | arr hps hs =>
          obtain ⟨h1, h2⟩ := hps.nth hs (List.getElem?_eq_getElem hi)
          obtain ⟨h5, h6⟩ := hr2 h2 hx
          have hl : (piece cs (i * s) s).length = s := by simp [piece]; omega
          rw [hl] at h5
          refine ⟨by simp only [poff]; omega, ?_⟩
          have hcs : q'.csz = s := by rw [hcz]; exact hs _ (List.getElem_mem hi)
          have hl2 : (splice (piece cs (i * s) s) (poff p) xc).length = s := by rw [h6.length, hcs]
          have := hps.set hs hi h6 hl2
          rw [splice_splice _ _ _ _ _ h5 h1] at this
          exact .arr this fun z hz => by rcases List.mem_or_eq_of_mem_set hz with hz | rfl; exact hs z hz; exact hcs
      | lst s n ps =>
        obtain ⟨rfl, hi, hnid, h⟩ := h
        obtain ⟨q', hq', hcz, hr2⟩ := ih _ _ _ (h _ (List.getElem?_eq_getElem hi))
        refine ⟨_, hq', by simp [AV.csz], fun {M β cs xc} hv hx => ?_⟩
        cases hv with
        | lst hps hs hn =>
          obtain ⟨h1, h2⟩ := hps.nth hs (List.getElem?_eq_getElem hi)
          obtain ⟨h5, h6⟩ := hr2 h2 (hx.nid hnid nob)
          have hl : (piece cs (i * s) s).length = s := by simp [piece]; omega
          rw [hl] at h5
          refine ⟨by simp only [poff]; omega, ?_⟩
          have hcs : q'.csz = s := by rw [hcz]; exact hs _ (List.getElem_mem hi)
          have hl2 : (splice (piece cs (i * s) s) (poff p) xc).length = s := by rw [h6.length, hcs]
          have := hps.set hs hi h6 hl2
          rw [splice_splice _ _ _ _ _ h5 h1] at this
          exact .lst this (fun z hz => by rcases List.mem_or_eq_of_mem_set hz with hz | rfl; exact hs z hz; exact hcs) (by simpa using hn)
      | _ => exact h.elim

end Go.Sy
