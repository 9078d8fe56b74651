/- The contracts of planchetref11's Verify; the walk of HyperVerifies. -/
import Derived.Test.YthhlielliopegaaGreatHyper3
import Derived.Test.YthhlielliopegaaGreatKeyed
import Derived.Test.YthhlielliopegaaGreatRef01
namespace Go.Proofs.YthhlielliopegaaGreat
open Go Go.Sy Go.Proofs.Tryz
set_option maxRecDepth 100000
set_option maxHeartbeats 8000000
set_option linter.unusedSimpArgs false
set_option linter.unusedVariables false
attribute [go_sem] pl13
theorem refmsg_spec (a b : Int) (r root pub : List Int) (index : Int) (m : List Int) (n : Nat) (hr : goodD r) (ht : goodD root) (hm : m.length = n) (hm' : ∀ x ∈ m, 0 ≤ x ∧ x < 256) (hn : n ≤ 10000) (hi : 0 ≤ index ∧ index < 1000000) :
    FnC Tryz.prog 35 [.agg [.agg [.int .i64 a, .int .i64 b], .ints .u8 32 root, .ints .u8 32 pub], .ints .u8 32 r, .int .i64 index, .sl (.ints .u8 n m)] [] (.ints .u8 32 (msgD r root index m)) [] := by
  refine fn0 mix [] 0 4 [.cell 8 23] Tryz.func35 rfl (by kernel_rfl) (by kernel_rfl) rfl (by kernel_rfl) (by kernel_rfl) (by simp) ?_
  simp (implicitDefEqProofs := false) (disch := omega) only [go_sem, ↓reduceIte]
  refine call0 (refmessage_spec r root index m n hi.1 (by omega) hr.1 hr.2 ht.1 ht.2 hm hm' hn) ?_
  simp (implicitDefEqProofs := false) (disch := omega) only [go_sem, ↓reduceIte]
theorem part_has {b1 b2 : Nat} {x : AV} (h : TD.has (.st [.sl b1 (.arr 32 (.int .u8)), .sl b2 (.arr 32 (.int .u8))]) x) : ∃ p : Part, x = pt p ∧ goodPt p := by
  simp only [TD.has.eq_5, TD.hass] at h
  obtain ⟨_, rfl, _, _, rfl, ha, _, _, rfl, hb, rfl⟩ := h
  obtain ⟨d1, rfl, h1, _⟩ := digests_of (bs := b1) ha
  obtain ⟨d2, rfl, h2, _⟩ := digests_of (bs := b2) hb
  exact ⟨(d1, d2), rfl, h1, h2⟩
section
variable (root pub r : List Int) (ht : goodD root) (hp : goodD pub) (hrg : goodD r)
include ht hp hrg in
theorem refverify_spec (a b i : Int) (sg : List Part) (text : List Int) (m : Nat) (hm : text.length = m) (hm' : ∀ x ∈ text, 0 ≤ x ∧ x < 256) (hn : m ≤ 10000) (hg : ∀ p ∈ sg, goodPt p) (hsl : sg.length ≤ 9223372036854775807) (hi : i < 9223372036854775808) :
    FnC Tryz.prog 13 [.agg [.agg [.int .i64 a, .int .i64 b], .ints .u8 32 root, .ints .u8 32 pub], .agg [.int .i64 i, .ints .u8 32 r, .sl (.lst 2 sg.length (sg.map pt))], .sl (.ints .u8 m text)] []
      (.bool (decide (formedP a b i sg ∧ vK pub (msgD r root i text) b.toNat i.toNat sg sg.length = root))) [] := by
  have hm6 := manyD_le a b
  refine fn0 mix pl13 0 3 [.tmp 6] Tryz.func13 rfl (by kernel_rfl) (by kernel_rfl) rfl (by kernel_rfl) (by kernel_rfl) (by simp) ?_
  simp (implicitDefEqProofs := false) (disch := omega) only [go_sem, ↓reduceIte]
  refine call0 (refright_spec a b) ?_
  by_cases hr : rightP a b
  case neg =>
    have e : decide (formedP a b i sg ∧ vK pub (msgD r root i text) b.toNat i.toNat sg sg.length = root) = false := decide_eq_false (fun x => by
      have h1 := x.1.1
      have h2 := x.1.2.1
      rw [manyD, if_neg hr] at h2
      omega)
    rw [decide_eq_false hr, e]
    simp (implicitDefEqProofs := false) (disch := omega) only [go_sem, ↓reduceIte]
  rw [decide_eq_true hr]
  simp (implicitDefEqProofs := false) (disch := omega) only [go_sem, ↓reduceIte]
  refine call0 (formed_spec a b i r sg hsl) ?_
  by_cases hf : formedP a b i sg
  case neg =>
    have e : decide (formedP a b i sg ∧ vK pub (msgD r root i text) b.toNat i.toNat sg sg.length = root) = false := decide_eq_false (fun x => hf x.1)
    rw [decide_eq_false hf, e]
    simp (implicitDefEqProofs := false) (disch := omega) only [go_sem, ↓reduceIte]
  rw [decide_eq_true hf]
  have hf' := hf
  obtain ⟨f1, f2, f3, f4⟩ := hf'
  have hr' := hr
  unfold rightP at hr'
  obtain ⟨n, rfl⟩ := Int.eq_ofNat_of_zero_le (show 0 ≤ b by omega)
  obtain ⟨idx, rfl⟩ := Int.eq_ofNat_of_zero_le f1
  have e : decide (formedP a n idx sg ∧ vK pub (msgD r root idx text) (n : Int).toNat (idx : Int).toNat sg sg.length = root) = decide (vK pub (msgD r root idx text) n idx sg sg.length = root) := by simp [hf]
  rw [e]
  have hpw := power_spec n (by omega)
  have hpe : (2 : Int) ^ n = (pw n : Int) := by simp [pw]
  rw [hpe] at hpw
  simp (implicitDefEqProofs := false) (disch := omega) only [go_sem, ↓reduceIte]
  refine call0 (refmsg_spec a n r root pub idx text m hrg ht hm hm' hn (by omega)) ?_
  generalize hM : msgD r root idx text = M
  have hMg : goodD M := by rw [← hM]; exact ofD_good _ _ _
  simp (implicitDefEqProofs := false) (disch := omega) only [go_sem, ↓reduceIte]
  refine call0 hpw ?_
  simp (implicitDefEqProofs := false) (disch := omega) only [go_sem, ↓reduceIte]
  have hvg : ∀ k, k ≤ sg.length → goodD (vK pub M n idx sg k) := by
    intro k hk
    obtain _ | k := k
    · exact hMg
    · have hm := getPt_mem (show k < sg.length by omega)
      exact overD_good (f4 _ hm).1 (hg _ hm).1 _ _ _ _ _ _
  refine loop (ι := Nat) 3 (fun k => k ≤ sg.length) (fun k => [(3, .ref 0 []), (4, .ref 1 []), (6, .bool false), (7, .ref 2 []), (8, .int .i64 (pw n)), (9, .int .i64 (atN n idx k)), (10, .int .i64 k)])
    (fun k => [(0, .var (.agg [.agg [.int .i64 a, .int .i64 n], .ints .u8 32 root, .ints .u8 32 pub])), (1, .var (.agg [.int .i64 idx, .ints .u8 32 r, .sl (.lst 2 sg.length (sg.map pt))])), (2, .var (.ints .u8 32 (vK pub M n idx sg k)))])
    (fun k => sg.length - k) 0 [(0, 0), (1, 1), (2, 2)] [] (Nat.zero_le _) rfl ?_ ?_ ?_ (fun k hk => ?_)
  · simp (implicitDefEqProofs := false) (disch := omega) only [go_sem, ↓reduceIte]
  · simp (implicitDefEqProofs := false) (disch := omega) only [go_sem, ↓reduceIte, atN]
  · simp (implicitDefEqProofs := false) (disch := omega) only [go_sem, ↓reduceIte, vK]
  have hvk := hvg k hk
  have hle := atN_le n idx (k + 1)
  have hle0 := atN_le n idx k
  have hpp := pw_pos n
  have hp4 : pw n ≤ pw 4 := pw_le (by omega)
  have hp5 : pw 4 = 16 := rfl
  have hlf : atN n idx k % pw n < pw n := Nat.mod_lt _ (by omega)
  have t2 : (atN n idx k : Int).tmod (pw n : Int) = ((atN n idx k % pw n : Nat) : Int) := by rw [Int.tmod_eq_emod_of_nonneg (by omega), Int.natCast_emod]
  have t3 : (atN n idx k : Int).tdiv (pw n : Int) = (atN n idx (k + 1) : Int) := by rw [Int.tdiv_eq_ediv_of_nonneg (by omega), ← Int.natCast_ediv]; rfl
  simp (implicitDefEqProofs := false) (disch := omega) only [go_sem, ↓reduceIte]
  refine brd (fun h => ?_) (fun h => ?_)
  · have hlt : k < sg.length := by omega
    have hm := getPt_mem hlt
    have hle2 : (sg.map pt).length = sg.length := List.length_map _
    have hgp : ∀ K : AV → Prop, getP (sg.map pt) k K = K (.agg [.sl (.lst 32 (sg.getD k ([], [])).1.length ((sg.getD k ([], [])).1.map dg)), .sl (.lst 32 (sg.getD k ([], [])).2.length ((sg.getD k ([], [])).2.map dg))]) := fun K => getP_map (f := pt) (getPt hlt) K
    have hv1 : overD pub (vK pub M n idx sg k) k (atN n idx (k + 1) : Nat) (atN n idx k % pw n) n (sg.getD k ([], [])) = vK pub M n idx sg (k + 1) := rfl
    generalize sg.getD k ([], []) = P at *
    obtain ⟨p1, p2⟩ := f4 _ hm
    have p2' : P.2.length = n := by omega
    have w0 := base_good (l := (k : Int)) (k := 0) (f := ((atN n idx k % pw n : Nat) : Int)) (atN n idx (k + 1) : Nat) (by omega) (by decide) (by omega)
    have w1 := base_good (l := (k : Int)) (k := 1) (f := ((atN n idx k % pw n : Nat) : Int)) (atN n idx (k + 1) : Nat) (by omega) (by decide) (by omega)
    have hfr := refwfrom_spec pub (vK pub M n idx sg k) _ hp hvk w0 P.1 p1 (hg _ hm).1
    have hcp := refcompress_spec pub _ (rowN (leadD P.1 (vK pub M n idx sg k) pub (base k (atN n idx (k + 1) : Nat) 0 ((atN n idx k % pw n : Nat) : Int))) 67) 67 hp w1 (rowN_len _ _) (by decide) (by decide) (rowN_good fun i hi => leadD_good p1 (hg _ hm).1 _ _ _ hi)
    have hld := ledD_good p1 (hg _ hm).1 pub (vK pub M n idx sg k) k (atN n idx (k + 1) : Nat) (atN n idx k % pw n)
    have hcl := refclimb_spec pub k (atN n idx (k + 1) : Nat) hp (by omega) (by omega) (ledD pub (vK pub M n idx sg k) k (atN n idx (k + 1) : Nat) (atN n idx k % pw n) P) P.2 (atN n idx k % pw n) n p2' (by omega) (by omega) hld (hg _ hm).2
    have e1 : compressD pub (base k (atN n idx (k + 1) : Nat) 1 ((atN n idx k % pw n : Nat) : Int)) (rowN (leadD P.1 (vK pub M n idx sg k) pub (base k (atN n idx (k + 1) : Nat) 0 ((atN n idx k % pw n : Nat) : Int))) 67) = ledD pub (vK pub M n idx sg k) k (atN n idx (k + 1) : Nat) (atN n idx k % pw n) P := rfl
    have e2 : climbD pub k (atN n idx (k + 1) : Nat) (ledD pub (vK pub M n idx sg k) k (atN n idx (k + 1) : Nat) (atN n idx k % pw n) P) P.2 (atN n idx k % pw n) n = vK pub M n idx sg (k + 1) := hv1
    rw [e1] at hcp
    rw [e2] at hcl
    rw [p1, p2'] at hgp
    simp (implicitDefEqProofs := false) (disch := omega) only [go_sem, ↓reduceIte, ↓hgp, hle2, t2, t3]
    refine call0 (refbase_spec k (atN n idx (k + 1) : Nat) 0 ((atN n idx k % pw n : Nat) : Int) (by omega) (by omega)) ?_
    simp (implicitDefEqProofs := false) (disch := omega) only [go_sem, ↓reduceIte]
    refine callF 1 hfr ?_
    simp (implicitDefEqProofs := false) (disch := omega) only [go_sem, ↓reduceIte]
    refine call0 (refbase_spec k (atN n idx (k + 1) : Nat) 1 ((atN n idx k % pw n : Nat) : Int) (by omega) (by omega)) ?_
    simp (implicitDefEqProofs := false) (disch := omega) only [go_sem, ↓reduceIte]
    refine callB hcp ?_ ?_
    · simp (implicitDefEqProofs := false) (disch := omega) only [go_sem, ↓reduceIte]
    simp (implicitDefEqProofs := false) (disch := omega) only [go_sem, ↓reduceIte]
    refine call0 hcl ?_
    simp (implicitDefEqProofs := false) (disch := omega) only [go_sem, ↓reduceIte]
    refine ⟨k + 1, [(0, 0), (1, 1), (2, 2)], [], [], by dsimp only; omega, by dsimp only; omega, rfl, ?_, ?_, ?_⟩ <;> simp (implicitDefEqProofs := false) (disch := omega) only [go_sem, ↓reduceIte]
  · obtain rfl : k = sg.length := by omega
    simp (implicitDefEqProofs := false) (disch := omega) only [go_sem, ↓reduceIte]
end
end Go.Proofs.YthhlielliopegaaGreat
