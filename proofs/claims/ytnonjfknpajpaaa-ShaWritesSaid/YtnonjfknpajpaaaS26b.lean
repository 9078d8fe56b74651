/- Regions whose order is open: what is asked, in one order. -/
import Derived.Test.YtnonjfknpajpaaaS26a
import Derived.Orders
namespace Go.Sy
open Go
set_option linter.unusedSimpArgs false
set_option linter.unusedVariables false

/-- The order in which the operations are gone through; of each: which ones that lie ahead of it it does not wait for; if it turns memory, the temporaries by which it finds it. -/
abbrev Plan := List (Nat × List Nat × Option (List Nat))
def hidX : List (Nat × List Nat) → List Nat → List Nat
  | [], _ => []
  | (p, W) :: acc, us => if us.contains p = true then W ++ hidX acc us else hidX acc us
def keepC : OO → List Nat → (OO → Prop) → Prop
  | [], _, K => K []
  | (o, ob) :: O, X, K => if X.contains o = true then keepC O X fun O' => K ((o, ob) :: O') else keepC O X K
mutual
def idsV : AV → List Nat
  | .ref o _ => [o]
  | .osl o _ _ _ _ => [o]
  | .mp o => [o]
  | .agg ps => idsVs ps
  | .arr _ ps => idsVs ps
  | .tup ps => idsVs ps
  | .fn _ ps => idsVs ps
  | .int .. | .bool _ | .str _ | .nilp | .ints .. | .lst .. | .sl _ | .nils | .pp .. | .nilf | .nilm | .junk => []
def idsVs : List AV → List Nat
  | [] => []
  | v :: vs => idsV v ++ idsVs vs
end
def idsOB : OB → List Nat
  | .var c => idsV c
  | .row c => idsV c
  | .map ks => idsVs (ks.map (·.1)) ++ idsVs (ks.map (·.2))
def idsO : OO → List Nat → List Nat
  | [], _ => []
  | (o, ob) :: V, l => if l.contains o = true then idsOB ob ++ idsO V l else idsO V l
def reach (V : OO) : Nat → List Nat → List Nat
  | 0, l => l
  | f + 1, l => l ++ reach V f (idsO V l)
def idsT (T : TT) : List Nat → List Nat
  | [] => []
  | t :: ts => (match lk T t with | some v => idsV v | none => []) ++ idsT T ts
def touch (V : OO) (T : TT) : Option (List Nat) → List Nat
  | none => []
  | some ts => reach V 3 (idsT T ts)
def rng : Nat → Nat → List Nat
  | _, 0 => []
  | n, k + 1 => n :: rng (n + 1) k
def sameC (W : List Nat) (V' : OO) : OO → Prop
  | [] => True
  | (o, ob) :: V => (W.contains o = false → objC V' o fun ob' => ob' = ob) ∧ sameC W V' V
def newC (ks : List Nat) (n n' : Nat) : OO → Prop
  | [] => True
  | (o, _) :: V => (ks.contains o = true ∨ (n ≤ o ∧ o < n')) ∧ newC ks n n' V
def ltC : List Nat → Nat → Prop
  | [], _ => True
  | o :: W, n => o < n ∧ ltC W n
def wOp (P : Program) (op : Op) (X : List Nat) (ld : Option (List Nat)) (T : TT) (O : OO) (n : Nat) (K : AV → OO → Nat → List Nat → Prop) : Prop :=
  rmsO O X fun V => keepC O X fun R => vcOp P op T V n fun v V' n' => (sameC (touch V T ld) V' V ∧ newC (keys V) n n' V' ∧ ltC (touch V T ld) n ∧ n ≤ n') ∧ K v (V' ++ R) n' (touch V T ld ++ rng n (n' - n))
def vcWalk (P : Program) (all : List Oper) : Plan → List (Nat × List Nat) → CK → CK
  | [], _, K, T, O, n => K T O n
  | (i, us, ld) :: pl, acc, K, T, O, n =>
    match all[i]? with
    | none => False
    | some o =>
      match o.guard with
      | none => wOp P o.op (hidX acc us) ld T O n fun v O' n' W => vcWalk P all pl ((i, W) :: acc) K (putT o.dst v T) O' n'
      | some (j, want) => gdC all j want T (fun T => wOp P o.op (hidX acc us) ld T O n fun v O' n' W => vcWalk P all pl ((i, W) :: acc) K (putT o.dst v T) O' n')
          (fun T => vcWalk P all pl ((i, []) :: acc) K (putT o.dst (.tup []) T) O n)
def waits (o : Oper) (b : Nat) : Bool := o.after.toList.any fun e => Region.binds .any e && e.on == b
def okPlan (ops : Array Oper) : List (Nat × List Nat) → Plan → Bool
  | acc, [] => (List.range ops.size).all fun j => (acc.map (·.1)).contains j
  | acc, (i, us, ld) :: pl =>
    match ops[i]? with
    | none => false
    | some o =>
      let B := (acc.map (·.1)).filter fun b => !us.contains b
      !(acc.map (·.1)).contains i && B.all (fun b => waits o b || acc.any fun c => waits o c.1 && c.2.contains b) &&
      o.after.toList.all (fun e => !Region.binds .any e || B.contains e.on) &&
      (acc.map (·.1)).all (fun u => !us.contains u || match ops[u]? with | some x => x.apart ops o | none => false) && (ld.isNone || us.isEmpty) && okPlan ops ((i, B) :: acc) pl

/-! The operations in that order, each with what it saw and left. -/
structure Rec where
  i : Nat
  us : List Nat
  o : Oper
  T : TT
  n : Nat
  V : OO
  v : AV
  V' : OO
  n' : Nat
  W : List Nat
  B : List Nat
  loud : Bool
def updR (r : Rec) (O : OO) : OO := (r.V'.filter fun p => r.W.contains p.1) ++ (O.filter fun p => !r.W.contains p.1)
theorem lk_updR (r : Rec) (O : OO) (o : Nat) : lk (updR r O) o = if r.W.contains o = true then lk r.V' o else lk O o := by
  unfold updR
  rw [lk_append, lk_filter (q := fun o => r.W.contains o), lk_filter (q := fun o => !r.W.contains o)]
  cases h : r.W.contains o
  · simp
  · simp
    cases lk r.V' o <;> rfl
def OS (S : Nat → Bool) : List Rec → OO → OO
  | [], O => O
  | r :: rs, O => OS S rs (if S r.i = true then updR r O else O)
def TS (S : Nat → Bool) : List Rec → TT → TT
  | [], T => T
  | r :: rs, T => TS S rs (if S r.i = true then putT r.o.dst r.v T else T)
section
variable {S S' : Nat → Bool}
theorem OS_append (l1 l2 : List Rec) : ∀ O, OS S (l1 ++ l2) O = OS S l2 (OS S l1 O) := by
  induction l1 with
  | nil => intro O; rfl
  | cons r l ih => intro O; simp only [List.cons_append, OS, ih]
theorem TS_append (l1 l2 : List Rec) : ∀ O, TS S (l1 ++ l2) O = TS S l2 (TS S l1 O) := by
  induction l1 with
  | nil => intro O; rfl
  | cons r l ih => intro O; simp only [List.cons_append, TS, ih]
theorem OS_skip {o : Nat} (l : List Rec) (h : ∀ r ∈ l, S r.i = true → r.W.contains o = false) : ∀ O, lk (OS S l O) o = lk O o := by
  induction l with
  | nil => intro O; rfl
  | cons r l ih =>
    intro O
    simp only [OS]
    rw [ih fun q hq => h q (by simp [hq])]
    split
    · rename_i e; rw [lk_updR, h r (by simp) e]; simp
    · rfl
theorem OS_lk {o : Nat} (l : List Rec) : ∀ {O O' : OO}, lk O o = lk O' o → lk (OS S l O) o = lk (OS S l O') o := by
  induction l with
  | nil => intro O O' h; exact h
  | cons r l ih =>
    intro O O' h
    simp only [OS]
    refine ih ?_
    split
    · rw [lk_updR, lk_updR, h]
    · exact h
theorem OS_agree {o : Nat} (l : List Rec) (h : ∀ r ∈ l, S r.i = false → r.W.contains o = false) : ∀ {O O' : OO}, lk O o = lk O' o → lk (OS S l O) o = lk (OS (fun _ => true) l O') o := by
  induction l with
  | nil => intro O O' h; exact h
  | cons r l ih =>
    intro O O' ho
    simp only [OS, if_true]
    refine ih (fun q hq => h q (by simp [hq])) ?_
    rw [lk_updR]
    cases e : S r.i with
    | true => simp only [if_true]; rw [lk_updR, ho]
    | false => simp only [Bool.false_eq_true, if_false, h r (by simp) e]; exact ho
theorem OS_congr (l : List Rec) (h : ∀ r ∈ l, S r.i = S' r.i) : ∀ O, OS S l O = OS S' l O := by
  induction l with
  | nil => intro O; rfl
  | cons r l ih => intro O; simp only [OS, h r (by simp)]; exact ih (fun q hq => h q (by simp [hq])) _
theorem lk_putT (d : Option Tmp) (v : AV) (T : TT) (t : Nat) : lk (putT d v T) t = if d = some t then some v else lk T t := by
  cases d with
  | none => simp [putT]
  | some d => simp [putT, lk]
theorem TS_skip {t : Nat} (l : List Rec) (h : ∀ r ∈ l, S r.i = true → r.o.dst ≠ some t) : ∀ T, lk (TS S l T) t = lk T t := by
  induction l with
  | nil => intro O; rfl
  | cons r l ih =>
    intro O
    simp only [TS]
    rw [ih fun q hq => h q (by simp [hq])]
    split
    · rename_i e; rw [lk_putT, if_neg (h r (by simp) e)]
    · rfl
theorem TS_lk {o : Nat} (l : List Rec) : ∀ {O O' : TT}, lk O o = lk O' o → lk (TS S l O) o = lk (TS S l O') o := by
  induction l with
  | nil => intro O O' h; exact h
  | cons r l ih =>
    intro O O' h
    simp only [TS]
    refine ih ?_
    split
    · rw [lk_putT, lk_putT, h]
    · exact h
theorem TS_agree {t : Nat} (l : List Rec) (h : ∀ r ∈ l, S r.i = false → r.o.dst ≠ some t) : ∀ {T T' : TT}, lk T t = lk T' t → lk (TS S l T) t = lk (TS (fun _ => true) l T') t := by
  induction l with
  | nil => intro O O' h; exact h
  | cons r l ih =>
    intro T T' ho
    simp only [TS, if_true]
    refine ih (fun q hq => h q (by simp [hq])) ?_
    rw [lk_putT]
    cases e : S r.i with
    | true => simp only [if_true]; rw [lk_putT, ho]
    | false => simp only [Bool.false_eq_true, if_false]; rw [if_neg (h r (by simp) e)]; exact ho
theorem TS_congr (l : List Rec) (h : ∀ r ∈ l, S r.i = S' r.i) : ∀ O, TS S l O = TS S' l O := by
  induction l with
  | nil => intro O; rfl
  | cons r l ih => intro O; simp only [TS, h r (by simp)]; exact ih (fun q hq => h q (by simp [hq])) _
end
structure RecOK (P : Program) (ops : Array Oper) (T0 : TT) (O0 : OO) (pre : List Rec) (r : Rec) : Prop where
  op : ops[r.i]? = some r.o
  fresh : ∀ p ∈ pre, p.i ≠ r.i
  mem : ∀ p ∈ pre, p.i ∈ r.B ∨ p.i ∈ r.us
  bef : ∀ b ∈ r.B, waits r.o b = true ∨ ∃ c ∈ pre, waits r.o c.i = true ∧ b ∈ c.B
  isB : ∀ b ∈ r.B, ∃ p ∈ pre, p.i = b
  edge : ∀ e ∈ r.o.after, Region.binds .any e = true → e.on ∈ r.B
  apart : ∀ p ∈ pre, p.i ∈ r.us → p.o.apart ops r.o = true
  loud : r.loud = true → ∀ p ∈ pre, p.i ∈ r.B
  quiet : r.loud = false → ∀ o ∈ r.W, r.n ≤ o
  wlt : ∀ o ∈ r.W, o < r.n'
  nle : r.n ≤ r.n'
  view : ∀ o ob, lk r.V o = some ob → lk (OS (fun _ => true) pre O0) o = some ob ∧ (∀ p ∈ pre, p.i ∈ r.us → o ∉ p.W) ∧ o < r.n
  tmps : ∀ t, lk r.T t = lk (TS (fun _ => true) pre T0) t
  same : ∀ o, o ∉ r.W → lk r.V' o = lk r.V o
  newer : ∀ p ∈ pre, p.n' ≤ r.n
  run : (vcOp P r.o.op r.T r.V r.n (fun v V' n' => v = r.v ∧ V' = r.V' ∧ n' = r.n') ∧ (r.o.guard = none ∨ ∃ j want g, r.o.guard = some (j, want) ∧ (ops[j]?).bind (·.dst) = some g ∧ lk r.T g = some (.bool want))) ∨
    (r.v = .tup [] ∧ r.W = [] ∧ ∃ j want g u, r.o.guard = some (j, want) ∧ (ops[j]?).bind (·.dst) = some g ∧ lk r.T g = some u ∧ (u = .bool (!want) ∨ u = .tup []))

theorem keepC_spec : ∀ {O : OO} {X : List Nat} {κ : OO → Prop}, keepC O X κ → ∃ R, κ R ∧ ∀ o, lk R o = if X.contains o = true then lk O o else none := by
  intro O
  induction O with
  | nil => intro X κ h; exact ⟨[], h, fun o => by simp [lk]⟩
  | cons p O ih =>
    obtain ⟨i, ob⟩ := p
    intro X κ h
    simp only [keepC] at h
    split at h
    · rename_i e
      obtain ⟨R, h1, h2⟩ := ih h
      refine ⟨_, h1, fun o => ?_⟩
      simp only [lk, h2]
      by_cases hi : i = o
      · subst hi; simp only [if_true, e]
      · simp [hi]
    · rename_i e
      obtain ⟨R, h1, h2⟩ := ih h
      refine ⟨_, h1, fun o => ?_⟩
      rw [h2]
      by_cases hi : i = o
      · subst hi; simp only [if_neg e]
      · simp [lk, hi]
theorem mem_rng {o n k : Nat} : o ∈ rng n k ↔ n ≤ o ∧ o < n + k := by
  induction k generalizing n with
  | zero => simp [rng]
  | succ k ih => simp only [rng, List.mem_cons, ih]; omega
theorem sameC_spec {W : List Nat} {V' : OO} : ∀ {V : OO}, sameC W V' V → ∀ o ob, lk V o = some ob → o ∉ W → lk V' o = some ob := by
  intro V
  induction V with
  | nil => intro _ o ob h; cases h
  | cons p V ih =>
    obtain ⟨i, b⟩ := p
    intro h o ob hl hw
    simp only [lk] at hl
    split at hl
    · rename_i e
      subst e
      cases hl
      obtain ⟨ob', h1, h2⟩ := objC_spec (h.1 (by simpa using hw))
      rw [h1, h2]
    · exact ih h.2 _ _ hl hw
theorem newC_spec {ks : List Nat} {n n' : Nat} : ∀ {V : OO}, newC ks n n' V → ∀ o ob, lk V o = some ob → o ∈ ks ∨ (n ≤ o ∧ o < n') := by
  intro V
  induction V with
  | nil => intro _ o ob h; cases h
  | cons p V ih =>
    obtain ⟨i, b⟩ := p
    intro h o ob hl
    simp only [lk] at hl
    split at hl
    · rename_i e
      subst e
      exact h.1.imp (by simp) id
    · exact ih h.2 _ _ hl
theorem ltC_spec {n : Nat} : ∀ {W : List Nat}, ltC W n → ∀ o ∈ W, o < n := by
  intro W
  induction W with
  | nil => intro _ o h; cases h
  | cons a W ih => intro h o ho; rcases List.mem_cons.1 ho with rfl | ho; exact h.1; exact ih h.2 o ho
end Go.Sy
