/- Helpers for loops; numbers that fit. -/
import Derived.Test.YtnonjfknpajpaaaS30
namespace Go.Sy
open Go
set_option linter.unusedVariables false
/-- The round's end: another state of the family. -/
def Nxt {ι : Type} (k m : Nat) (Q : ι → Prop) (I : ι → TT) (J : ι → OO) (μ : ι → Nat) (i : ι) (T : TT) (O : OO) : Prop :=
  ∃ i' σ Z F, Q i' ∧ μ i' < μ i ∧ okσ k m σ Z F = true ∧ idsOK σ k ∧ tmpsOK σ Z (frzO O F) T (I i') ∧ holdsN O σ Z (frzO O F) (J i')
/-- A loop: the states' family, by what is so of its index; the measure; where it begins. -/
theorem loop {k : Nat} {F : CK → CK} {T : TT} {O : OO} {n : Nat} {ι : Type} (m : Nat) (Q : ι → Prop) (I : ι → TT) (J : ι → OO) (μ : ι → Nat) (i0 : ι) (σ0 : List (Nat × Nat)) (Z0 : List Nat) (h0 : Q i0) (hσ : okσ k m σ0 Z0 [] = true)
    (hid : idsOK σ0 k) (hT : tmpsOK σ0 Z0 [] T (I i0)) (hO : holdsN O σ0 Z0 [] (J i0)) (h : ∀ i, Q i → F (fun T O _ => Nxt k m Q I J μ i T O) (I i) (J i) m) : VLoop k F T O n := by
  refine ⟨{ i // Q i }, fun i => I i.1, fun i => J i.1, fun _ => m, fun i => μ i.1, ⟨i0, h0⟩, ⟨σ0, Z0, [], hσ, hid, by rw [frzO_nil]; exact hT, by rw [frzO_nil]; exact hO⟩, fun i => ?_⟩
  have := h i.1 i.2
  have e : (fun (T : TT) (O : OO) (_ : Nat) => Nxt k m Q I J μ i.1 T O) = fun (T' : TT) (O' : OO) (_ : Nat) => ∃ i' : { i // Q i }, μ i'.1 < μ i.1 ∧ Sub k T' O' (I i'.1) (J i'.1) m := by
    funext T O n
    exact propext ⟨fun ⟨i', σ, Z, F, hq, hμ, a, b, c, d⟩ => ⟨⟨i', hq⟩, hμ, σ, Z, F, a, b, c, d⟩, fun ⟨⟨i', hq⟩, hμ, σ, Z, F, a, b, c, d⟩ => ⟨i', σ, Z, F, hq, hμ, a, b, c, d⟩⟩
  rwa [e] at this
/-- Fresh names for what a call hands back. -/
def fresh (n : Nat) : Nat → List (Nat × Nat)
  | 0 => []
  | m + 1 => fresh n m ++ [(m, n + m)]
theorem rmsO_run {l : List Nat} : ∀ {O : OO} {κ : OO → Prop}, rmsO O l κ → ∃ O2, (rmsO O l fun O' => O' = O2) ∧ κ O2 := by
  have one : ∀ {O : OO} {o : Nat} {κ : OO → Prop}, rmO O o κ → ∃ O2, κ O2 ∧ ∀ κ', κ' O2 → rmO O o κ' := by
    intro O
    induction O with
    | nil => intro o κ h; exact ⟨[], h, fun _ h => h⟩
    | cons p O ih =>
      obtain ⟨i, ob⟩ := p
      intro o κ h
      simp only [rmO] at h ⊢
      split at h
      · rename_i e
        obtain ⟨O2, h1, h2⟩ := ih h
        exact ⟨O2, h1, fun κ' hk => by rw [if_pos e]; exact h2 _ hk⟩
      · rename_i e
        obtain ⟨O2, h1, h2⟩ := ih h
        exact ⟨_, h1, fun κ' hk => by rw [if_neg e]; exact h2 _ hk⟩
  induction l with
  | nil =>
    intro O κ h
    refine ⟨O, ?_, ?_⟩
    · cases O <;> rfl
    · cases O <;> exact h
  | cons o l ih =>
    intro O κ h
    have h' : rmO O o fun O' => rmsO O' l κ := by cases O <;> exact h
    obtain ⟨O1, h1, h2⟩ := one h'
    obtain ⟨O2, h3, h4⟩ := ih h1
    refine ⟨O2, ?_, h4⟩
    have : rmO O o fun O' => rmsO O' l fun O' => O' = O2 := h2 _ h3
    cases O <;> exact this
section
variable {P : Program} {O O' O1 : OO} {n : Nat}
/-- A call in general: `bor` lends own memory; `σ` are the objects that are handed over (by the contract's names), `τ` what the objects are called that are handed back. -/
theorem callG {f : FuncId} {args A : List AV} {r : AV} {κ : KK} (bor : Bool) (σ τ : List (Nat × Nat)) (n' : Nat) (h : FnC P f A O1 r O') (h1 : (σ.map (·.1) = keys O1) ∧ (keys O1).Nodup ∧ (σ.map (·.2)).Nodup ∧ n ≤ n' ∧ (τ.map (·.1)).Nodup ∧ (τ.map (·.2)).Nodup ∧ τ.map (·.1) = keys O')
    (hk : ev (σ.map (·.2)) fun l => rmsO O l fun O2 => argsOK bor σ O2 args A ∧ holdsO O σ O1 ∧ homesOK σ τ O1 n n' O' ∧ (bor = true → r.pf = true ∧ ∀ p ∈ O', p.2.pf = true) ∧ renC τ r fun r' => renOO τ O' fun L => κ r' (L ++ O2) n') : CallP P f args O n κ := by
  obtain ⟨O2, k0, k1, k2, k3, k4, k5⟩ := rmsO_run hk
  obtain ⟨a1, a2, a3, a4, a5, a6, a7⟩ := h1
  exact ⟨bor, σ, τ, A, O1, O2, r, O', n', h, k0, k1, k2, a1, a2, a3, a4, a5, a6, k3, a7, k4, k5⟩
theorem idC_fresh {K : Nat → Prop} {o : Nat} : ∀ {m : Nat}, o < m → K (n + o) → idC (fresh n m) o K := by
  have app : ∀ (l : List (Nat × Nat)) (p : Nat × Nat), (∀ q ∈ l, q.1 ≠ o) → (p.1 = o ∧ K p.2) → idC (l ++ [p]) o K := by
    intro l
    induction l with
    | nil => intro p _ h; simp only [List.nil_append, idC]; rw [if_pos h.1]; exact h.2
    | cons q l ih =>
      intro p h hp
      simp only [List.cons_append, idC]
      rw [if_neg (h q (by simp))]
      exact ih p (fun q hq => h q (by simp [hq])) hp
  have appl : ∀ (l : List (Nat × Nat)) (p : Nat × Nat), idC l o K → idC (l ++ [p]) o K := by
    intro l
    induction l with
    | nil => intro p h; exact h.elim
    | cons q l ih =>
      intro p h
      simp only [List.cons_append, idC] at h ⊢
      split at h
      · rename_i e; rw [if_pos e]; exact h
      · rename_i e; rw [if_neg e]; exact ih p h
  intro m
  induction m with
  | zero => intro h; omega
  | succ m ih =>
    intro h hk
    by_cases e : o = m
    · subst e
      refine app _ _ (fun q hq => ?_) ⟨rfl, hk⟩
      have : ∀ m, ∀ q ∈ fresh n m, q.1 < m := by
        intro m
        induction m with
        | zero => intro q hq; cases hq
        | succ m ih =>
          intro q hq
          simp only [fresh, List.mem_append, List.mem_singleton] at hq
          rcases hq with hq | rfl
          · have := ih q hq; omega
          · exact Nat.lt_succ_self _
      have := this _ q hq
      omega
    · exact appl _ _ (ih (by omega) hk)
theorem fresh_fst : ∀ m, (fresh n m).map (·.1) = List.range m
  | 0 => rfl
  | m + 1 => by simp [fresh, fresh_fst m, List.range_succ]
theorem fresh_snd : ∀ m, (fresh n m).map (·.2) = (List.range m).map (n + ·)
  | 0 => rfl
  | m + 1 => by simp [fresh, fresh_snd m, List.range_succ]
theorem fresh_homes {m : Nat} : ∀ {O' : OO}, (∀ o ∈ keys O', o < m) → homesOK [] (fresh n m) [] n (n + m) O'
  | [], _ => trivial
  | (o, ob) :: O', h => ⟨idC_fresh (h o (by simp [keys])) (.inl ⟨by omega, by have := h o (by simp [keys]); omega⟩), fresh_homes fun o ho => h o (by simp only [keys, List.map_cons, List.mem_cons] at ho ⊢; exact .inr ho)⟩
theorem fresh_ok (m : Nat) {O' : OO} (hO : keys O' = List.range m) : (([] : List (Nat × Nat)).map (·.1) = keys ([] : OO)) ∧ (keys ([] : OO)).Nodup ∧ (([] : List (Nat × Nat)).map (·.2)).Nodup ∧ n ≤ n + m ∧ ((fresh n m).map (·.1)).Nodup ∧ ((fresh n m).map (·.2)).Nodup ∧ (fresh n m).map (·.1) = keys O' := by
  refine ⟨rfl, List.nodup_nil, List.nodup_nil, Nat.le_add_right _ _, ?_, ?_, ?_⟩
  · rw [fresh_fst]; exact List.nodup_range
  · rw [fresh_snd]
    exact List.Pairwise.map _ (fun a b h => by intro e; exact h (by omega)) List.nodup_range
  · rw [fresh_fst, hO]
/-- A call that is handed nothing of the caller's own, and hands back `m` new objects. -/
theorem callF {f : FuncId} {args : List AV} {r : AV} {κ : KK} (m : Nat) (h : FnC P f args [] r O') (hk : renC (fresh n m) r fun r' => renOO (fresh n m) O' fun L => κ r' (L ++ O) (n + m)) (ha : AV.plains args = true := by rfl) (hO : keys O' = List.range m := by rfl) : CallP P f args O n κ :=
  callG false [] (fresh n m) (n + m) h (fresh_ok m hO) (by
    have : rmsO O [] fun O2 => argsOK false [] O2 args args ∧ holdsO O [] [] ∧ homesOK [] (fresh n m) [] n (n + m) O' ∧ (false = true → r.pf = true ∧ ∀ p ∈ O', p.2.pf = true) ∧ renC (fresh n m) r fun r' => renOO (fresh n m) O' fun L => κ r' (L ++ O2) (n + m) :=
      rmsO_nil _ _ ⟨argsOK_plain _ _ _ ha, trivial, fresh_homes (fun o ho => by rw [hO] at ho; simpa using ho), (fun h => by cases h), hk⟩
    exact this)
/-- A call that borrows, and hands back `m` new objects. -/
theorem callBF {f : FuncId} {args A : List AV} {r : AV} {κ : KK} (m : Nat) (h : FnC P f A [] r O') (ha : argsOK true [] O args A) (hk : renC (fresh n m) r fun r' => renOO (fresh n m) O' fun L => κ r' (L ++ O) (n + m)) (hO : keys O' = List.range m := by rfl) (hp : r.pf = true := by rfl) (hq : (O'.all fun p => p.2.pf) = true := by rfl) : CallP P f args O n κ :=
  callG true [] (fresh n m) (n + m) h (fresh_ok m hO) (by
    have : rmsO O [] fun O2 => argsOK true [] O2 args A ∧ holdsO O [] [] ∧ homesOK [] (fresh n m) [] n (n + m) O' ∧ (true = true → r.pf = true ∧ ∀ p ∈ O', p.2.pf = true) ∧ renC (fresh n m) r fun r' => renOO (fresh n m) O' fun L => κ r' (L ++ O2) (n + m) :=
      rmsO_nil _ _ ⟨ha, trivial, fresh_homes (fun o ho => by rw [hO] at ho; simpa using ho), (fun _ => ⟨hp, fun p hp => List.all_eq_true.1 hq p hp⟩), hk⟩
    exact this)
end
theorem wrap_i64 {n : Int} (h : -9223372036854775808 ≤ n) (h' : n < 9223372036854775808) : IntKind.i64.wrap n = n := by
  have e : IntKind.i64.wrap n = if (9223372036854775808 : Int) ≤ n % 18446744073709551616 then n % 18446744073709551616 - 18446744073709551616 else n % 18446744073709551616 := by
    show (if (true && decide ((9223372036854775808 : Int) ≤ n % 18446744073709551616)) = true then _ else _) = _
    by_cases h : (9223372036854775808 : Int) ≤ n % 18446744073709551616 <;> simp [h] <;> rfl
  rw [e]
  split <;> omega
theorem wrap_u64 {n : Int} (h : 0 ≤ n) (h' : n < 18446744073709551616) : IntKind.u64.wrap n = n := by
  simp only [IntKind.wrap, IntKind.bits, IntKind.signed, Bool.false_and]
  simp; omega
theorem wrap_u32 {n : Int} (h : 0 ≤ n) (h' : n < 4294967296) : IntKind.u32.wrap n = n := by
  simp only [IntKind.wrap, IntKind.bits, IntKind.signed, Bool.false_and]
  simp; omega
theorem wrap_u16 {n : Int} (h : 0 ≤ n) (h' : n < 65536) : IntKind.u16.wrap n = n := by
  simp only [IntKind.wrap, IntKind.bits, IntKind.signed, Bool.false_and]
  simp; omega
theorem wrap_u8 {n : Int} (h : 0 ≤ n) (h' : n < 256) : IntKind.u8.wrap n = n := by
  simp only [IntKind.wrap, IntKind.bits, IntKind.signed, Bool.false_and]
  simp; omega
/-- Bounds that are so fall out. -/
theorem wrap_mod (n : Int) : IntKind.i64.wrap n % 18446744073709551616 = n % 18446744073709551616 := by
  have e : IntKind.i64.wrap n = if (9223372036854775808 : Int) ≤ n % 18446744073709551616 then n % 18446744073709551616 - 18446744073709551616 else n % 18446744073709551616 := by
    show (if (true && decide ((9223372036854775808 : Int) ≤ n % 18446744073709551616)) = true then _ else _) = _
    by_cases h : (9223372036854775808 : Int) ≤ n % 18446744073709551616 <;> simp [h] <;> rfl
  rw [e]
  split <;> omega
theorem wrap_congr {a b : Int} (h : a % 18446744073709551616 = b % 18446744073709551616) : IntKind.i64.wrap a = IntKind.i64.wrap b := by
  have e : ∀ n, IntKind.i64.wrap n = if (9223372036854775808 : Int) ≤ n % 18446744073709551616 then n % 18446744073709551616 - 18446744073709551616 else n % 18446744073709551616 := fun n => by
    show (if (true && decide ((9223372036854775808 : Int) ≤ n % 18446744073709551616)) = true then _ else _) = _
    by_cases h : (9223372036854775808 : Int) ≤ n % 18446744073709551616 <;> simp [h] <;> rfl
  rw [e, e, h]
theorem osl_cond (a : Nat) (b : List Stp) (c d e z : Nat) : (∀ (o : Nat) (p : List Stp) (sz lo len : Nat), AV.osl a b c d e = AV.osl o p sz lo len → sz = z) = (c = z) := by
  apply propext
  constructor
  · intro h; exact h _ _ _ _ _ rfl
  · rintro h o p sz lo len e; cases e; exact h
theorem le_and {a b : Int} {K : Prop} (h : a ≤ b) : (a ≤ b ∧ K) = K := by simp [h]
theorem lt_and {a b : Int} {K : Prop} (h : a < b) : (a < b ∧ K) = K := by simp [h]
theorem nle_and {a b : Nat} {K : Prop} (h : a ≤ b) : (a ≤ b ∧ K) = K := by simp [h]
theorem nlt_and {a b : Nat} {K : Prop} (h : a < b) : (a < b ∧ K) = K := by simp [h]
theorem ne_and {a b : Int} {K : Prop} (h : a ≠ b) : (a ≠ b ∧ K) = K := by simp [h]
theorem wf_i64 {t : Int} (h : (Lit.int .i64 t).wf = true) : -9223372036854775808 ≤ t ∧ t < 9223372036854775808 := by
  simp [Lit.wf, IntKind.min, IntKind.max, IntKind.signed, IntKind.bits] at h; omega
theorem wf_u64 {t : Int} (h : (Lit.int .u64 t).wf = true) : 0 ≤ t ∧ t < 18446744073709551616 := by
  simp [Lit.wf, IntKind.min, IntKind.max, IntKind.signed, IntKind.bits] at h; omega
theorem wf_u32 {t : Int} (h : (Lit.int .u32 t).wf = true) : 0 ≤ t ∧ t < 4294967296 := by
  simp [Lit.wf, IntKind.min, IntKind.max, IntKind.signed, IntKind.bits] at h; omega
theorem wf_u16 {t : Int} (h : (Lit.int .u16 t).wf = true) : 0 ≤ t ∧ t < 65536 := by
  simp [Lit.wf, IntKind.min, IntKind.max, IntKind.signed, IntKind.bits] at h; omega
theorem wf_u8 {t : Int} (h : (Lit.int .u8 t).wf = true) : 0 ≤ t ∧ t < 256 := by
  simp [Lit.wf, IntKind.min, IntKind.max, IntKind.signed, IntKind.bits] at h; omega
attribute [go_sem ↓] fresh
attribute [go_sem] Int.toNat_natCast Int.natCast_add Int.natCast_mul Int.natCast_zero Int.natCast_one Int.cast_ofNat_Int
attribute [go_sem] osl_cond
attribute [go_sem] wrap_i64 wrap_u64 wrap_u32 wrap_u16 wrap_u8 le_and lt_and nle_and nlt_and ne_and
end Go.Sy
