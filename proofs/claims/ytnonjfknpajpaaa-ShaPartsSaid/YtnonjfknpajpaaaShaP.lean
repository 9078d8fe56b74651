/- The walk of ShaParts. -/
import Derived.Test.YtnonjfknpajpaaaShaW
namespace Go.Proofs.Ytnonjfknpajpaaa
open Go Go.Sy Go.Proofs.Try
set_option maxRecDepth 100000
set_option maxHeartbeats 16000000
set_option linter.unusedSimpArgs false
set_option linter.unusedVariables false
def plP14 : List (Nat × Plan) := [(10, [(0, [], none), (1, [], none), (2, [], none), (3, [0, 1, 2], none), (4, [0, 1, 2, 3], none), (5, [0, 1, 2], none), (6, [0, 1, 2, 3, 4, 5], none), (7, [0, 1, 2, 3, 4, 5, 6], none), (8, [0, 1, 2, 3, 4, 5, 6, 7], none), (9, [0, 1, 2, 3, 4, 5], none), (10, [0, 1, 2, 3, 4, 5, 6, 7, 8, 9], none), (11, [0, 1, 2, 3, 4, 5, 6, 7, 8, 9, 10], none), (12, [0, 1, 2, 3, 4, 5, 6, 7, 8, 9], none), (13, [0, 1, 2], none), (14, [], none), (15, [], none), (16, [], none), (17, [], none), (18, [], none), (19, [], none), (20, [17, 18, 19], none), (21, [], some [63]), (22, [], none), (23, [], none), (24, [], none), (25, [], none), (26, [], none), (27, [], none)])]

attribute [go_sem] plP14
theorem subC_len (kk : IntKind) (m : Nat) (xs : List Int) (lo len : Nat) (κ : AV → Prop) (h : xs.length = m) : subC (.ints kk m xs) lo len κ = (lo + len ≤ m ∧ κ (.ints kk len ((xs.drop lo).take len))) := by
  rw [subC_ints]
  by_cases e : lo = 0 ∧ len = m
  · obtain ⟨rfl, rfl⟩ := e
    subst h
    rw [decide_eq_true ⟨rfl, rfl⟩, brC_true]; simp
  · rw [decide_eq_false e, brC_false]
/-- A list of slices, of which some are nil. -/
def vd (x x' : AV) : Prop := x = x' ∨ ∃ c, x = .sl c ∧ c.void = true ∧ x' = .nils
def vds : List AV → List AV → Prop
  | [], l => l = []
  | x :: l, l' => ∃ y m, l' = y :: m ∧ vd x y ∧ vds l m
theorem vds_rv {M : Pool} : ∀ {l l' : List AV} {cs : List Value}, vds l l' → RVs M nob l' cs → RVs M nob l cs
  | [], l', cs, h, g => by
    have h : l' = [] := h
    subst h; exact g
  | x :: l, l', cs, ⟨y, m, e, h1, h2⟩, g => by
    have e : _ = y :: m := e
    subst e
    cases g with
    | cons g1 g2 =>
      refine .cons ?_ (vds_rv h2 g2)
      rcases h1 with rfl | ⟨c, rfl, hc, rfl⟩
      · exact g1
      · cases g1
        exact .sl (cc := []) (rv_void hc) (void_row hc).1 (void_row hc).2 (Nat.le_refl _) (.inl rfl)
theorem vds_csz : ∀ {l l' : List AV} (sz : Nat), vds l l' → (∀ p ∈ l', p.csz = sz) → ∀ p ∈ l, p.csz = sz
  | [], _, _, _, _, p, hp => by cases hp
  | x :: l, l', sz, ⟨y, m, e, h1, h2⟩, h, p, hp => by
    have e : _ = y :: m := e
    subst e
    rcases List.mem_cons.1 hp with rfl | hp
    · have hy := h y (by simp)
      rcases h1 with rfl | ⟨c, rfl, hc, rfl⟩
      · exact hy
      · exact hy
    · exact vds_csz sz h2 (fun q hq => h q (by simp [hq])) p hp
theorem vds_len : ∀ {l l' : List AV}, vds l l' → l'.length = l.length
  | [], l', h => by
    have h : l' = [] := h
    subst h; rfl
  | x :: l, l', ⟨y, m, e, _, h2⟩ => by
    have e : _ = y :: m := e
    subst e
    simp [vds_len h2]
theorem FnC.nils1 {P : Program} {f : FuncId} {sz n : Nat} {es es' : List AV} {r : AV} {O O' : OO} (h : FnC P f [.sl (.lst sz n es)] O r O') (hv : vds es es') : FnC P f [.sl (.lst sz n es')] O r O' :=
  ⟨h.1, fun w M β xs hids hst hxs => h.2 w M β xs hids hst (by
    cases hxs with
    | cons h1 h2 =>
      cases h2
      obtain ⟨cc, base, cap, rfl, hcc, hr, hcap, hm⟩ := h1.sl_inv
      cases hcc with
      | lst g hz hn => exact .cons (.one rfl (.sl (.lst (vds_rv hv g) (vds_csz sz hv hz) (by rw [← hn, vds_len hv])) rfl rfl hcap hm)) .nil)⟩
theorem shaParts_spec (b : List Int) (at_ then_ : Int) (ha : 0 ≤ at_ ∧ at_ < 65536) (ht : 0 ≤ then_ ∧ then_ < 65536) (hb : ∀ x ∈ b, 0 ≤ x ∧ x < 256) (hl : b.length ≤ 9223372036854775807) : FnC Try.prog 14 [.sl (.ints .u8 b.length b), .int .u16 at_, .int .u16 then_] [] (.bool true) [] := by
  refine fn0 mix plP14 0 3 [.tmp 6] Try.func14 rfl (by kernel_rfl) (by kernel_rfl) rfl (by kernel_rfl) (by kernel_rfl) (by simp) ?_
  simp (implicitDefEqProofs := false) (disch := omega) only [go_sem, ↓reduceIte, ↓subC_len]
  refine brd (fun h => ?_) (fun h => ?_)
  · simp (implicitDefEqProofs := false) (disch := omega) only [go_sem, ↓reduceIte, ↓subC_len]
    refine call0 knows01_spec ?_
    simp (implicitDefEqProofs := false) (disch := omega) only [go_sem, ↓reduceIte, ↓subC_len]
  have hL : b.length ≤ 2000 := by omega
  obtain ⟨i, e1, hi⟩ : ∃ i : Nat, at_.tmod ((b.length : Int) + 1) = i ∧ i ≤ b.length := by
    have h1 := Int.tmod_nonneg ((b.length : Int) + 1) ha.1
    have h2 := Int.tmod_lt_of_pos at_ (show (0 : Int) < b.length + 1 by omega)
    exact ⟨_, (Int.toNat_of_nonneg h1).symm, by omega⟩
  obtain ⟨j, e2, hj⟩ : ∃ j : Nat, then_.tmod ((b.length : Int) - i + 1) = j ∧ j ≤ b.length - i := by
    have h1 := Int.tmod_nonneg ((b.length : Int) - i + 1) ht.1
    have h2 := Int.tmod_lt_of_pos then_ (show (0 : Int) < b.length - i + 1 by omega)
    exact ⟨_, (Int.toNat_of_nonneg h1).symm, by omega⟩
  simp (implicitDefEqProofs := false) (disch := omega) only [go_sem, ↓reduceIte, ↓subC_len, e1, e2]
  have t1 : (b.take i).length = i := by rw [List.length_take]; omega
  have t2 : (b.drop i).length = b.length - i := List.length_drop
  have hb1 : ∀ x ∈ b.take i, 0 ≤ x ∧ x < 256 := fun x hx => hb x (List.mem_of_mem_take hx)
  have hb2 : ∀ x ∈ b.drop i, 0 ≤ x ∧ x < 256 := fun x hx => hb x (List.mem_of_mem_drop hx)
  have w1 := write_abs [] (b.take i) (by simp) hb1 (by omega) (by simp)
  rw [t1, List.nil_append] at w1
  have w2 := write_abs (b.take i) (b.drop i) hb1 hb2 (by omega) (by omega)
  rw [t2, t1, List.take_append_drop] at w2
  have d2 : (b.drop i).take (b.length - i) = b.drop i := List.take_of_length_le (by omega)
  refine callF 2 new_abs ?_
  simp (implicitDefEqProofs := false) (disch := omega) only [go_sem, ↓reduceIte, ↓subC_len, e1, e2]
  refine callG false [(0, 0), (1, 1)] [(0, 0), (1, 2)] 3 w1 ?_ ?_
  · simp [keys]
  simp (implicitDefEqProofs := false) (disch := omega) only [go_sem, ↓reduceIte, ↓subC_len, e1, e2, t1]
  refine callG false [(0, 0), (1, 2)] [(0, 0), (1, 3)] 4 w2 ?_ ?_
  · simp [keys]
  simp (implicitDefEqProofs := false) (disch := omega) only [go_sem, ↓reduceIte, ↓subC_len, e1, e2, d2]
  refine callB (sums_spec [b] (by simpa using hb) (by simp [cat]; omega) (by simp)) ?_ ?_
  · simp (implicitDefEqProofs := false) (disch := omega) only [go_sem, ↓reduceIte, bsl]
  have e3 : ((i : Int) + j).toNat = i + j := by omega
  have e4 : i + j - i = j := by omega
  have d3 : (b.drop (i + j)).take (b.length - (i + j)) = b.drop (i + j) := List.take_of_length_le (by rw [List.length_drop]; omega)
  have t3 : ((b.drop i).take j).length = j := by rw [List.length_take, List.length_drop]; omega
  have t4 : (b.drop (i + j)).length = b.length - (i + j) := List.length_drop
  have hc : cat [b.take i, (b.drop i).take j, [], b.drop (i + j)] = b := by
    have : (b.drop i).take j ++ b.drop (i + j) = b.drop i := by rw [← List.drop_drop]; exact List.take_append_drop _ _
    simp only [cat, List.flatMap_cons, List.flatMap_nil, id_eq, List.append_nil, List.nil_append]
    rw [this, List.take_append_drop]
  have hS := sums_spec [b.take i, (b.drop i).take j, [], b.drop (i + j)] (by
    intro p hp x hx
    simp only [List.mem_cons, List.not_mem_nil, or_false] at hp
    rcases hp with rfl | rfl | rfl | rfl
    · exact hb1 x hx
    · exact hb2 x (List.mem_of_mem_take hx)
    · cases hx
    · exact hb x (List.mem_of_mem_drop hx)) (by rw [hc]; omega) (by simp)
  rw [hc] at hS
  have hS' : FnC Try.prog 50 [.sl (.lst 1 4 [.sl (.ints .u8 i (b.take i)), .sl (.ints .u8 j ((b.drop i).take j)), .nils, .sl (.ints .u8 (b.length - (i + j)) (b.drop (i + j)))])] [] (.ints .u8 32 (sumD b)) [] :=
    FnC.nils1 hS ⟨_, _, rfl, .inl (by rw [bsl, t1]), _, _, rfl, .inl (by rw [bsl, t3]), _, _, rfl, .inr ⟨.ints .u8 0 [], rfl, rfl, rfl⟩, _, _, rfl, .inl (by rw [bsl, t4]), rfl⟩
  have hc1 : cat [b] = b := by simp [cat]
  simp (implicitDefEqProofs := false) (disch := omega) only [go_sem, ↓reduceIte, ↓subC_len, e1, e2, d2, e3, e4, d3, hc1]
  refine callB hS' ?_ ?_
  · simp (implicitDefEqProofs := false) (disch := omega) only [go_sem, ↓reduceIte]
  simp (implicitDefEqProofs := false) (disch := omega) only [go_sem, ↓reduceIte, ↓subC_len]
  refine callB (sums_spec [b] (by simpa using hb) (by simp [cat]; omega) (by simp)) ?_ ?_
  · simp (implicitDefEqProofs := false) (disch := omega) only [go_sem, ↓reduceIte, bsl]
  simp (implicitDefEqProofs := false) (disch := omega) only [go_sem, ↓reduceIte, hc1]
  refine callG false [(0, 0), (1, 3)] [(0, 0), (1, 10)] 11 (sum_abs b hb (by omega)) ?_ ?_
  · simp [keys]
  simp (implicitDefEqProofs := false) (disch := omega) only [go_sem, ↓reduceIte]
  refine call0 knows01_spec ?_
  simp (implicitDefEqProofs := false) (disch := omega) only [go_sem, ↓reduceIte]
end Go.Proofs.Ytnonjfknpajpaaa
