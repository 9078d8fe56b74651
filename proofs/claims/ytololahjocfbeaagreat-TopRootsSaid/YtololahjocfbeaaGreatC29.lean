/- Texts, joined. -/
import Derived.Test.YtololahjocfbeaaGreatC12
import Derived.Test.YtololahjocfbeaaGreatC28
import Derived.RangeFuncRecord
namespace Go.Proofs.YtololahjocfbeaaGreat
open Go Go.Sy Go.Proofs.Tryz
set_option maxRecDepth 100000
set_option maxHeartbeats 8000000
set_option linter.unusedSimpArgs false
set_option linter.unusedVariables false
attribute [go_sem] pl128
def emptyD : Nat → List Int
  | 0 => sumD [2]
  | k + 1 => nodeL (emptyD k) (emptyD k)
theorem emptyD_good : ∀ k, goodD (emptyD k)
  | 0 => ⟨sumD_len _, sumD_mem _⟩
  | k + 1 => nodeL_good _ _
def empties (n : Nat) : List (List Int) := (List.range n).map emptyD
theorem empties_len (n : Nat) : (empties n).length = n := by simp [empties]
theorem empties_succ (n : Nat) : empties (n + 1) = empties n ++ [emptyD n] := by simp [empties, List.range_succ]
theorem empties_get {n i : Nat} (h : i < n) : (empties n)[i]? = some (emptyD i) := by simp [empties, h]
theorem sums117 {a : List Int} (ha : ∀ x ∈ a, 0 ≤ x ∧ x < 256) (hn : a.length ≤ 1000000) : FnC Tryz.prog 167 [.sl (.lst 1 1 [bsl a])] [] (.ints .u8 32 (sumD a)) [] := by
  have h := sums_spec [a] (fun p hp => by rw [List.mem_singleton] at hp; subst hp; exact ha) (by simpa [cat] using hn) (by simp)
  simpa [cat] using h
def emT (i : Nat) : List (List Int) := empties i ++ List.replicate (257 - i) zs
theorem emT_len {i : Nat} (h : i ≤ 257) : (emT i).length = 257 := by unfold emT; rw [List.length_append, empties_len, List.length_replicate]; omega
theorem emT_0 : List.replicate 257 (AV.ints .u8 32 (List.replicate 32 0)) = (emT 0).map dg := by
  unfold emT
  rw [show empties 0 = [] from rfl, List.nil_append, List.map_replicate]
  rfl
theorem emT_set {i : Nat} (h : i < 257) : ((emT i).map dg).set i (.ints .u8 32 (emptyD i)) = (emT (i + 1)).map dg := by
  unfold emT
  rw [empties_succ, show 257 - i = (257 - (i + 1)) + 1 by omega, List.replicate_succ, List.map_append, List.map_cons, List.map_append, List.map_append, List.map_cons, List.map_nil, List.set_append_right _ _ (by rw [List.length_map, empties_len]; exact Nat.le_refl _), List.length_map, empties_len, Nat.sub_self, List.set_cons_zero, List.append_assoc]
  rfl
theorem emT_old {i j : Nat} (h : j < i) (K : AV → Prop) : getP ((emT i).map dg) j K = K (.ints .u8 32 (emptyD j)) := by
  refine getP_map (f := dg) (a := emptyD j) ?_ K
  unfold emT
  rw [List.getElem?_append_left (by rw [empties_len]; exact h), empties_get h]
theorem emT_new {i : Nat} (h : i < 257) (K : AV → Prop) : getP ((emT i).map dg) i K = K (.ints .u8 32 zs) := by
  refine getP_map (f := dg) (a := zs) ?_ K
  unfold emT
  rw [List.getElem?_append_right (by rw [empties_len]; exact Nat.le_refl _), empties_len, Nat.sub_self, List.getElem?_replicate, if_pos (by omega)]
theorem emT_end : emT 257 = empties 257 := by unfold emT; rw [Nat.sub_self, List.replicate_zero, List.append_nil]
theorem empty17_spec : FnC Tryz.prog 128 [] [] (.osl 0 [] 32 0 257) [(0, .row (.lst 32 257 ((empties 257).map dg)))] := by
  have h2 := sums117 (a := [2]) (by decide) (by decide)
  have e0 := emT_0
  have g0 := fun K => emT_new (i := 0) (by omega) K
  have s0 := emT_set (i := 0) (by omega)
  have l0 : ((emT 0).map dg).length = 257 := by rw [List.length_map, emT_len (by omega)]
  have z0 : sumD [2] = emptyD 0 := rfl
  rw [← emT_end]
  refine fnN mix pl128 0 0 [.tmp 0] Tryz.func128 rfl (by kernel_rfl) (by kernel_rfl) rfl (by kernel_rfl) (by kernel_rfl) (by simp) ?_
  simp -implicitDefEqProofs (disch := omega) only [go_sem, ↓reduceIte, e0]
  refine callB h2 ?_ ?_
  · simp -implicitDefEqProofs (disch := omega) only [go_sem, ↓reduceIte, bsl, List.length_singleton, List.length_cons, List.length_nil]
  simp -implicitDefEqProofs (disch := omega) only [go_sem, ↓reduceIte, e0, ↓g0, s0, l0, z0]
  refine loop (ι := Nat) 1 (fun i => i ≤ 256) (fun i => [(1, .osl 0 [] 32 0 257), (9, .int .i64 i)]) (fun i => [(0, .row (.lst 32 257 ((emT (i + 1)).map dg)))]) (fun i => 256 - i) 0 [(0, 0)] [] (Nat.zero_le _) rfl ?_ ?_ ?_ (fun i hi => ?_)
  · simp -implicitDefEqProofs (disch := omega) only [go_sem, ↓reduceIte]
  · simp -implicitDefEqProofs (disch := omega) only [go_sem, ↓reduceIte]
  · simp -implicitDefEqProofs (disch := omega) only [go_sem, ↓reduceIte]
  simp -implicitDefEqProofs (disch := omega) only [go_sem, ↓reduceIte]
  refine brd (fun h => ?_) (fun h => ?_)
  · have g1 := fun K => emT_old (i := i + 1) (j := i) (by omega) K
    have g2 := fun K => emT_new (i := i + 1) (by omega) K
    have s1 := emT_set (i := i + 1) (by omega)
    have l1 : ((emT (i + 1)).map dg).length = 257 := by rw [List.length_map, emT_len (by omega)]
    have hn := node_spec17 (emptyD i) (emptyD i) (emptyD_good i) (emptyD_good i)
    have en : nodeL (emptyD i) (emptyD i) = emptyD (i + 1) := rfl
    rw [en] at hn
    have ti : ((i : Int) + 1).toNat = i + 1 := by omega
    simp -implicitDefEqProofs (disch := omega) only [go_sem, ↓reduceIte, ↓g1, l1]
    refine call0 hn ?_
    simp -implicitDefEqProofs (disch := omega) only [go_sem, ↓reduceIte, ↓g1, ↓g2, s1, l1, ti]
    refine ⟨i + 1, [(0, 0)], [], [], by dsimp only; omega, by dsimp only; omega, rfl, ?_, ?_, ?_⟩ <;> simp -implicitDefEqProofs (disch := omega) only [go_sem, ↓reduceIte]
  obtain rfl : i = 256 := by omega
  simp -implicitDefEqProofs (disch := omega) only [go_sem, ↓reduceIte]
  refine ⟨[(0, 0)], [], [], rfl, ?_, ?_, ?_⟩ <;> simp -implicitDefEqProofs (disch := omega) only [go_sem, ↓reduceIte]
def bitD (d : List Int) (k : Int) : Int := if 0 ≤ k ∧ k < 256 then (d.getD (31 - (k / 8).toNat) 0 / 2 ^ (k % 8).toNat) % 2 else 0
theorem bit17_spec (d : List Int) (k : Int) (hd : goodD d) : FnC Tryz.prog 168 [.ints .u8 32 d, .int .i64 k] [] (.int .i64 (bitD d k)) [] := by
  unfold bitD
  refine fn0 mix [] 0 2 [.tmp 4] Tryz.func168 rfl (by kernel_rfl) (by kernel_rfl) rfl (by kernel_rfl) (by kernel_rfl) (by simp) ?_
  simp -implicitDefEqProofs (disch := omega) only [go_sem, ↓reduceIte]
  refine brd (fun h => ?_) (fun h => ?_)
  · rw [if_neg (by omega)]
    simp -implicitDefEqProofs (disch := omega) only [go_sem, ↓reduceIte]
  simp -implicitDefEqProofs (disch := omega) only [go_sem, ↓reduceIte]
  refine brd (fun h2 => ?_) (fun h2 => ?_)
  · rw [if_neg (by omega)]
    simp -implicitDefEqProofs (disch := omega) only [go_sem, ↓reduceIte]
  rw [if_pos (by omega)]
  obtain ⟨k, rfl⟩ := Int.eq_ofNat_of_zero_le (show 0 ≤ k by omega)
  have t1 : (255 - (k : Int)).tdiv 8 = ((31 - k / 8 : Nat) : Int) := by rw [Int.tdiv_eq_ediv_of_nonneg (by omega)]; omega
  have t2 : (7 : Int) - (255 - (k : Int)).tmod 8 = ((k % 8 : Nat) : Int) := by rw [Int.tmod_eq_emod_of_nonneg (by omega)]; omega
  have e1 : ((k : Int) / 8).toNat = k / 8 := by omega
  have e2 : ((k : Int) % 8).toNat = k % 8 := by omega
  rw [e1, e2]
  have hx : 0 ≤ d.getD (31 - k / 8) 0 ∧ d.getD (31 - k / 8) 0 < 256 := getD_all' hd.2 (by rw [hd.1]; omega)
  have hr : k % 8 < 8 := by omega
  have hs : ishr .u8 (d.getD (31 - k / 8) 0) (k % 8) = d.getD (31 - k / 8) 0 / 2 ^ (k % 8) := ishr_div _ _ _ (by show k % 8 ≤ 8; omega)
  have hp : (1 : Int) ≤ 2 ^ (k % 8) := by exact_mod_cast Nat.one_le_two_pow
  have hq : 0 ≤ d.getD (31 - k / 8) 0 / 2 ^ (k % 8) ∧ d.getD (31 - k / 8) 0 / 2 ^ (k % 8) < 256 := ⟨Int.ediv_nonneg hx.1 (by omega), Int.lt_of_le_of_lt (Int.ediv_le_self _ hx.1) hx.2⟩
  generalize d.getD (31 - k / 8) 0 / 2 ^ (k % 8) = v at *
  have hm : iand .i64 v 1 = v % 2 := iand_mask 1 rfl (by decide) hq.1 (by show v < 2 ^ 64; omega)
  have hj : 31 - k / 8 < 32 := by omega
  generalize 31 - k / 8 = j at *
  generalize k % 8 = r at *
  have hr0 : (0 : Int) ≤ (r : Int) := by omega
  simp -implicitDefEqProofs (disch := omega) only [go_sem, ↓reduceIte, t1, t2, hs, hm, hr0]
  exact hj
end Go.Proofs.YtololahjocfbeaaGreat
namespace Go.Sy
open Go
set_option linter.unusedSimpArgs false
set_option linter.unusedVariables false
section
variable {E : Env} {N : Nat} {M M' M1 : Pool} {β β' β1 β2 : Bmap} {T T' : TT} {O O' O1 O2 : OO} {n m : Nat} {a : Act} {w w' : World} {P : Program} {o : Oper}
abbrev Runner := List Value → World → (Ending → World → Prop) → Prop
def RunC (R : Runner) (args : List AV) (O : OO) (r : AV) (O' : OO) : Prop :=
  ∀ (w : World) (M : Pool) (β : Bmap) (xs : List Value), (∀ o, lk O o = none → β o = none) → St ⟨w, ownOf O β, M, nob, 0, fun _ => True⟩ M β O w → VRs M β args xs →
    R xs w fun e w' => ∃ x M' β', e = .returned x ∧ VR M' β' r x ∧ St ⟨w, ownOf O β, M, nob, 0, fun _ => True⟩ M' β' O' w' ∧ (∀ o c, lk O o = some (.var c) → β' o = β o)
def RunP (R : Runner) (args : List AV) (O : OO) (n : Nat) (κ : AV → OO → Nat → Prop) : Prop :=
  ∃ (bor : Bool) (σ τ : List (Nat × Nat)) (A : List AV) (O1 O2 : OO) (r : AV) (O' : OO) (n' : Nat), RunC R A O1 r O' ∧ (rmsO O (σ.map (·.2)) fun O' => O' = O2) ∧ argsOK bor σ O2 args A ∧ holdsO O σ O1 ∧
    (σ.map (·.1) = keys O1) ∧ (keys O1).Nodup ∧ (σ.map (·.2)).Nodup ∧
    n ≤ n' ∧ (τ.map (·.1)).Nodup ∧ (τ.map (·.2)).Nodup ∧ homesOK σ τ O1 n n' O' ∧ (τ.map (·.1) = keys O') ∧
      (bor = true → r.pf = true ∧ ∀ p ∈ O', p.2.pf = true) ∧
      renC τ r fun r' => renOO τ O' fun L => κ r' (L ++ O2) n'
theorem RelAt.swap (h : RelAt E N M β T O n a w) {l : Nat} {x : Obj} (hl : w.heap[l]? = some x) (hc : ∀ cs e fz, x ≠ .cells cs e fz) (hm : ∀ es cl, x ≠ .map es cl) {W0 : World} (hs : w'.heap.size = w.heap.size) (hb : ∀ b, b ≠ l → w'.heap[b]? = w.heap[b]?) (hos : w'.os = W0.os) (htp : w'.tape = W0.tape) (hou : w'.output = W0.output)
    (hz : W0.heap.size = E.w0.heap.size) (hk : ∀ b, b < E.w0.heap.size → ¬ E.own b → w'.heap[b]? = W0.heap[b]?) : RelAt { E with w0 := W0 } N M β T O n a w' := by
  have cells : ∀ b i v, w.cell? ⟨b, i, none⟩ = some v → w'.cell? ⟨b, i, none⟩ = some v := fun b i v hv => by
    have hne : b ≠ l := fun e => by
      subst e
      unfold World.cell? at hv
      simp only [hl] at hv
      cases x <;> simp_all
    unfold World.cell? at hv ⊢
    simp only [hb b hne]
    exact hv
  have st := h.st
  refine ⟨⟨fun b i v hv => cells b i v (st.pool b i v hv), st.sub, fun b i v hv => (st.only b i v hv).imp id (Or.imp id fun h => by show W0.heap.size ≤ b; rw [hz]; exact h), fun o ob ho => ?_, fun o ob b κ h1 h2 h3 => ⟨(st.mine o ob b κ h1 h2 h3).1, (st.mine o ob b κ h1 h2 h3).2.imp id fun h => by show W0.heap.size ≤ b; rw [hz]; exact h⟩, st.inj, ?_, fun b hlt hn => hk b (by rw [← hz]; exact hlt) hn, hos, htp, hou⟩, h.ids, h.tmps, h.nd, h.sz, h.base, h.le0⟩
  · obtain ⟨b, κ, h1, h2⟩ := st.objs o ob ho
    refine ⟨b, κ, h1, h2.mono (BLe.refl _) fun hk => hb b fun e => ?_⟩
    subst e
    cases ob with
    | var c => obtain ⟨_, _, cs, e, fz, h3, _⟩ := h2; rw [hl] at h3; exact hc _ _ _ (Option.some.inj h3)
    | row c =>
      obtain ⟨_, _, ⟨h3, _⟩ | ⟨_, cc, sp, e, fz, h3, _⟩⟩ := h2
      · exact hk h3
      · rw [hl] at h3; exact hc _ _ _ (Option.some.inj h3)
    | map ks => obtain ⟨_, es, cl, h3, _⟩ := h2; rw [hl] at h3; exact hm _ _ (Option.some.inj h3)
    | gm f ks vs => obtain ⟨_, es, cl, h3, _⟩ := h2; rw [hl] at h3; exact hm _ _ (Option.some.inj h3)
  · show W0.heap.size ≤ w'.heap.size
    rw [hz, hs]; exact st.size
theorem RelAt.laid (h : RelAt E N M β T O n a w) (x : Obj) : RelAt E N M β T O n a (w.alloc x) := by
  have st := h.st
  have old : ∀ b, b < w.heap.size → (w.alloc x).heap[b]? = w.heap[b]? := fun b hb => by
    show (w.heap.push x)[b]? = _
    rw [Array.getElem?_push, if_neg (by omega)]
  refine ⟨⟨fun b i v hv => ?_, st.sub, st.only, fun o ob ho => ?_, st.mine, st.inj, ?_, fun b hlt hn => ?_, st.os, st.tape, st.output⟩, h.ids, h.tmps, h.nd, h.sz, h.base, h.le0⟩
  · have hlt := st.pool_lt hv
    have hc := st.pool b i v hv
    unfold World.cell? at hc ⊢
    simp only [old b hlt]
    exact hc
  · obtain ⟨b, κ, h1, h2⟩ := st.objs o ob ho
    exact ⟨b, κ, h1, h2.mono (BLe.refl _) fun hk => old b (h2.lt hk)⟩
  · rw [World.size_alloc]; have := st.size; omega
  · rw [old b (Nat.lt_of_lt_of_le hlt st.size)]; exact st.keep b hlt hn
theorem RelAt.other (h : RelAt E N M β T O n a w) (hown : ∀ b, E.own b → ∃ cs e fz, E.w0.heap[b]? = some (.cells cs e fz)) {l : Nat} {x : Obj} (hl : E.w0.heap[l]? = some x) (hc : ∀ cs e fz, x ≠ .cells cs e fz) : w.heap[l]? = some x := by
  rw [h.st.keep l (Array.getElem?_eq_some_iff.1 hl).1 fun ho => ?_, hl]
  obtain ⟨cs, e, fz, h1⟩ := hown l ho
  rw [hl] at h1
  exact hc _ _ _ (Option.some.inj h1)
def quiet (o : Oper) : Bool := match o.op with | .move _ | .assign _ | .load .. | .store .. => true | _ => false
end
end Go.Sy
namespace Go.Sy
open Go
set_option linter.unusedSimpArgs false
set_option linter.unusedVariables false
@[congr] theorem RunP_congr {R : Runner} {args args' : List AV} {O : OO} {n : Nat} {κ : AV → OO → Nat → Prop} (h : mk args = args') : RunP R args O n κ = RunP R args' O n κ := by rw [← h]; rfl
def vcY (P : Program) (R : Runner) (y : AV) (refs : List AV) : List Oper → CK → CK
  | [], K, T, O, n => K T O n
  | o :: rest, K, T, O, n => match o.guard with
    | some _ => False
    | none => match o.op with
      | .call c => (match c.callee with
        | .value f => evC T f fun fv => fv = y ∧ evsC T c.args.toList fun vs => RunP R (vs ++ refs) O n fun r O' n' => nxt o.dst r O' n' T (vcY P R y refs rest K)
        | _ => False)
      | .defer _ => False
      | op => vcOp P op T O n fun v O' n' => nxt o.dst v O' n' T (vcY P R y refs rest K)
def vcD (P : Program) (tb : List (Nat × Plan)) (k : Nat) (Y : List Oper → CK → CK) : Code → CK → (Nat → CK) → CK → CK
  | .skip, K, _, _, T, O, n => K T O n
  | .region _ _ true, _, _, _, _, _, _ => False
  | .region id ops false, K, _, _, T, O, n => (match lk tb (200000 + id) with
      | none => vcOps P ops.toList ops.toList K T O n
      | some _ => Y ops.toList K T O n)
  | .seq a b, K, X, R, T, O, n => vcD P tb k Y a (vcD P tb k Y b K X R) X R T O n
  | .cond c x y, K, X, R, T, O, n => evC T c fun v => boolC v fun b => (b = true → vcD P tb k Y x K X R T O n) ∧ (b = false → vcD P tb k Y y K X R T O n)
  | .block id c, K, X, R, T, O, n => vcD P tb k Y c K (fun i => if i = id then K else X i) R T O n
  | .loop c, _, X, R, T, O, n => VLoop k (fun K' => vcD P tb k Y c K' X R) T O n
  | .exit id, _, X, _, T, O, n => X id T O n
  | .label _, K, _, _, T, O, n => K T O n
  | .ret, _, _, R, T, O, n => R T O n
  | _, _, _, _, _, _, _ => False
section
variable {P : Program} {tb : List (Nat × Plan)} {k : Nat} {K : CK} {X : Nat → CK} {R : CK} {T : TT} {O : OO} {n : Nat} {Y : List Oper → CK → CK}
theorem vcD_cond (c : Operand) (x y : Code) : vcD P tb k Y (.cond c x y) K X R T O n = evC T c fun v => boolC v fun b => brC b (vcD P tb k Y x K X R T O n) (vcD P tb k Y y K X R T O n) := by
  simp only [vcD]
  rfl
theorem vcD_reg (id : Nat) (l : List Oper) : vcD P tb k Y (.region id l.toArray false) K X R T O n = ev (lk tb (200000 + id)) fun q => match q with
    | none => vcOps P l l K T O n
    | some _ => Y l K T O n := by
  simp only [vcD, ev_eq]
end
attribute [go_sem ↓ high] vcD_cond vcD_reg
attribute [go_sem ↓] vcD vcY
section
variable {E : Env} {N : Nat} {M M' M1 : Pool} {β β' β1 β2 : Bmap} {T T' : TT} {O O' O1 O2 : OO} {n m : Nat} {a : Act} {w w' : World} {P : Program} {o : Oper}
def YRun (P : Program) (l : Nat) (rec : Loop) (xp : List Value) : Runner := fun xs w Q => ∀ ys, xs = ys ++ xp → w.heap[l]? = some (.loop rec) →
  ∃ fn tmps assign body, (Instr.yield l ys.toArray).run P w = .ok (.round l fn tmps assign body) w ∧ RoundIn Fence.wide 0 P l fn tmps assign body w Q
theorem YRun.mono {l : Nat} {rec : Loop} {xp : List Value} (xs : List Value) (w : World) (Q Q' : Ending → World → Prop) (h : ∀ e w', Q e w' → Q' e w') (hy : YRun P l rec xp xs w Q) : YRun P l rec xp xs w Q' := fun ys e hl => by
  obtain ⟨fn, tmps, assign, body, h1, h2⟩ := hy ys e hl
  exact ⟨fn, tmps, assign, body, h1, h2.mono h⟩
theorem VRs.append {vs us : List AV} {xs zs : List Value} (h : VRs M β vs xs) (h' : VRs M β us zs) : VRs M β (vs ++ us) (xs ++ zs) := by
  induction vs generalizing xs with
  | nil => cases h; exact h'
  | cons v vs ih => cases h with | cons h1 h2 => exact .cons h1 (ih h2)
end
end Go.Sy
namespace Go.Sy
open Go
set_option linter.unusedSimpArgs false
set_option linter.unusedVariables false
section
variable {E : Env} {N : Nat} {M M' M1 : Pool} {β β' β1 β2 : Bmap} {T T' : TT} {O O' O1 O2 : OO} {n m : Nat} {a : Act} {w w' : World} {P : Program} {o : Oper}
theorem VRs.len {vs : List AV} {xs : List Value} (h : VRs M β vs xs) : xs.length = vs.length := by
  induction vs generalizing xs with
  | nil => cases h; rfl
  | cons v vs ih => cases h with | cons h1 h2 => simp [ih h2]
theorem VRs.split {vs us : List AV} {xs zs : List Value} (h : VRs M β (vs ++ us) (xs ++ zs)) (hl : zs.length = us.length) : VRs M β vs xs ∧ VRs M β us zs := by
  have hx : xs.length = vs.length := by have := h.len; simp only [List.length_append] at this; omega
  clear hl
  induction vs generalizing xs with
  | nil =>
    cases xs with
    | nil => exact ⟨.nil, h⟩
    | cons x xs => cases hx
  | cons v vs ih =>
    cases xs with
    | nil => cases hx
    | cons x xs => cases h with | cons h1 h2 => exact ⟨.cons h1 (ih h2 (by simpa using hx)).1, (ih h2 (by simpa using hx)).2⟩
def ItRun (P : Program) (gf : FuncId) (l : Nat) (rec : Loop) (xp : List Value) : Runner := fun xs w Q => ∀ ys, xs = ys ++ xp → w.heap[l]? = some (.loop rec) →
  Calls P gf ys.toArray w fun e w' => Q e w' ∧ ∀ (b : Nat) (x : Obj), w.heap[b]? = some x → (∀ cs e fz, x ≠ .cells cs e fz) → w'.heap[b]? = some x
theorem ItRun.mono {gf : FuncId} {l : Nat} {rec : Loop} {xp : List Value} (xs : List Value) (w : World) (Q Q' : Ending → World → Prop) (h : ∀ e w', Q e w' → Q' e w') (hy : ItRun P gf l rec xp xs w Q) : ItRun P gf l rec xp xs w Q' := fun ys e hl =>
  Calls.mono (hy ys e hl) fun e w' h' => ⟨h e w' h'.1, h'.2⟩
end
end Go.Sy
namespace Go.Sy
open Go
set_option linter.unusedSimpArgs false
set_option linter.unusedVariables false
section
variable {E : Env} {N : Nat} {M M' M1 : Pool} {β β' β1 β2 : Bmap} {T T' : TT} {O O' O1 O2 : OO} {n m : Nat} {a : Act} {w w' : World} {P : Program} {o : Oper}
theorem RelAt.back {D : Nat} {w1 : World} (h1 : St E M1 β1 O1 w1) (h : RelAt ⟨w1, fun b => (E.own b ∨ E.w0.heap.size ≤ b) ∧ b ≠ D, E.M0, E.B0, E.n0, E.ok⟩ N M β T O n a w) : RelAt E N M β T O n a w := by
  have st := h.st
  have hs := h1.size
  refine ⟨⟨st.pool, st.sub, fun b i v hv => (st.only b i v hv).imp id fun ho => ho.elim (fun h => h.1) (fun h => .inr (Nat.le_trans hs h)), st.objs, fun o ob b κ g1 g2 g3 => ⟨(st.mine o ob b κ g1 g2 g3).1, (st.mine o ob b κ g1 g2 g3).2.elim (fun h => h.1) (fun h => .inr (Nat.le_trans hs h))⟩, st.inj, Nat.le_trans hs st.size, fun b hlt hn => ?_, st.os.trans h1.os, st.tape.trans h1.tape, st.output.trans h1.output⟩, h.ids, h.tmps, h.nd, h.sz, h.base, h.le0⟩
  rw [st.keep b (Nat.lt_of_lt_of_le hlt hs) (fun ho => ho.1.elim hn (fun h => by omega))]
  exact h1.keep b hlt hn
end
end Go.Sy
namespace Go.Proofs.YtololahjocfbeaaGreat
open Go Go.Sy Go.Proofs.Tryz
set_option maxRecDepth 100000
set_option maxHeartbeats 8000000
set_option linter.unusedSimpArgs false
set_option linter.unusedVariables false
attribute [go_sem] pl160
def leafP (a b : List Int) : List Int := sumD (0 :: (a ++ b))
theorem leafP_good (a b : List Int) : goodD (leafP a b) := ⟨sumD_len _, sumD_mem _⟩
theorem leaf_spec17 (a b : List Int) (ha : goodD a) (hb : goodD b) : FnC Tryz.prog 160 [.agg [.ints .u8 32 a, .ints .u8 32 b]] [] (.ints .u8 32 (leafP a b)) [] := by
  have h1 := sums3 (a := [0]) (b := a) (c := b) (by decide) ha.2 hb.2 (by rw [List.length_singleton, ha.1, hb.1]; decide)
  have l1 := ha.1
  have l2 := hb.1
  refine fn0 mix pl160 0 1 [.cell 2 25] Tryz.func160 rfl (by kernel_rfl) (by kernel_rfl) rfl (by kernel_rfl) (by kernel_rfl) (by simp) ?_
  simp -implicitDefEqProofs (disch := omega) only [go_sem, ↓reduceIte]
  refine callB h1 ?_ ?_
  · simp -implicitDefEqProofs (disch := omega) only [go_sem, ↓reduceIte, bsl, l1, l2]
  simp -implicitDefEqProofs (disch := omega) only [go_sem, ↓reduceIte, leafP]
def hf (d : List Int) (j : Nat) : Int := d.getD j 0 / 2 + (if j = 0 then 0 else d.getD (j - 1) 0 % 2 * 128)
abbrev En := List Int × List Int
def enV (e : En) : AV := .agg [.ints .u8 32 e.1, .ints .u8 32 e.2]
def goodE (e : En) : Prop := goodD e.1 ∧ goodD e.2
theorem getEn {l : List En} {i : Nat} {e : En} (h : l[i]? = some e) (K : AV → Prop) : getP (l.map enV) i K = K (.agg [.ints .u8 32 e.1, .ints .u8 32 e.2]) := getP_map (f := enV) h K
end Go.Proofs.YtololahjocfbeaaGreat
