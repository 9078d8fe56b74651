/- What is shown of an index: that a commitment is there, or that none is; what a version is shown by. -/
import Derived.Test.YthhlielliopegaaGreatGP
import Derived.Test.YthhlielliopegaaGreatHeads
namespace Go.Proofs.YthhlielliopegaaGreat
open Go Go.Sy Go.Proofs.Tryz
set_option maxRecDepth 100000
set_option maxHeartbeats 8000000
set_option linter.unusedSimpArgs false
set_option linter.unusedVariables false
attribute [go_sem] pl7 pl9 pl28 pl62
section
variable (root index known : List Int) (hi : goodD index) (hk : goodD known) (W : List (List Int)) (L : Nat) (hW : W.length = L) (hL : L ≤ 9223372036854775807) (hg : ∀ d ∈ W, goodD d)
include hi hk hW hL hg in
theorem leads_spec (x : List Int) (hx : goodD x) : FnC Tryz.prog 58 [.ints .u8 32 x, .ints .u8 32 index, .ints .u8 32 root, .agg [.ints .u8 32 known, .sl (.lst 32 L (W.map dg))]] [] (.bool (decide (pops known = L ∧ climbR index known W x 256 = root))) [] := by
  by_cases hp : pops known = L
  · have e : decide (pops known = L ∧ climbR index known W x 256 = root) = decide (climbR index known W x 256 = root) := by simp [hp]
    rw [e]
    refine fn0 mix [] 0 4 [.tmp 8] Tryz.func58 rfl (by kernel_rfl) (by kernel_rfl) rfl (by kernel_rfl) (by kernel_rfl) (by simp) ?_
    simp (implicitDefEqProofs := false) (disch := omega) only [go_sem, ↓reduceIte]
    refine call0 (climb_ok x index known hx hi hk W L hW hL hg hp) ?_
    simp (implicitDefEqProofs := false) (disch := omega) only [go_sem, ↓reduceIte]
  · rw [decide_eq_false (fun h => hp h.1)]
    refine fn0 mix [] 0 4 [.tmp 8] Tryz.func58 rfl (by kernel_rfl) (by kernel_rfl) rfl (by kernel_rfl) (by kernel_rfl) (by simp) ?_
    simp (implicitDefEqProofs := false) (disch := omega) only [go_sem, ↓reduceIte]
    refine call0 (climb_bad x index known hk W L hW hL hp) ?_
    simp (implicitDefEqProofs := false) (disch := omega) only [go_sem, ↓reduceIte]
include hi hk hW hL hg in
theorem present_spec (c : List Int) (hc : goodD c) : FnC Tryz.prog 28 [.ints .u8 32 root, .ints .u8 32 index, .ints .u8 32 c, .agg [.ints .u8 32 known, .sl (.lst 32 L (W.map dg))]] [] (.bool (decide (pops known = L ∧ climbR index known W (leafP index c) 256 = root))) [] := by
  refine fn0 mix pl28 0 4 [.tmp 8] Tryz.func28 rfl (by kernel_rfl) (by kernel_rfl) rfl (by kernel_rfl) (by kernel_rfl) (by simp) ?_
  simp (implicitDefEqProofs := false) (disch := omega) only [go_sem, ↓reduceIte]
  refine call0 (leaf_spec17 index c hi hc) ?_
  simp (implicitDefEqProofs := false) (disch := omega) only [go_sem, ↓reduceIte]
  refine call0 (leads_spec root index known hi hk W L hW hL hg (leafP index c) (leafP_good _ _)) ?_
  simp (implicitDefEqProofs := false) (disch := omega) only [go_sem, ↓reduceIte]
include hi hk hW hL hg in
theorem absent_spec : FnC Tryz.prog 62 [.ints .u8 32 root, .ints .u8 32 index, .agg [.ints .u8 32 known, .sl (.lst 32 L (W.map dg))]] [] (.bool (decide (pops known = L ∧ climbR index known W (emptyD 0) 256 = root))) [] := by
  have g1 : ∀ K, getP ((empties 257).map dg) 0 K = K (.ints .u8 32 (emptyD 0)) := fun K => getP_map (f := dg) (empties_get (n := 257) (i := 0) (by omega)) K
  have l1 : ((empties 257).map dg).length = 257 := by rw [List.length_map, empties_len]
  refine fn0 mix pl62 0 3 [.tmp 6] Tryz.func62 rfl (by kernel_rfl) (by kernel_rfl) rfl (by kernel_rfl) (by kernel_rfl) (by simp) ?_
  simp (implicitDefEqProofs := false) (disch := omega) only [go_sem, ↓reduceIte]
  refine callF 1 empty17_spec ?_
  simp (implicitDefEqProofs := false) (disch := omega) only [go_sem, ↓reduceIte, ↓g1, l1]
  refine call0 (leads_spec root index known hi hk W L hW hL hg (emptyD 0) (emptyD_good _)) ?_
  simp (implicitDefEqProofs := false) (disch := omega) only [go_sem, ↓reduceIte]
end
/-- A version that is shown. -/
structure SV where
  ver : Int
  val : List Int
  nonce : List Int
  salt : List Int
  known : List Int
  W : List (List Int)
instance : Inhabited SV := ⟨⟨0, [], [], [], [], []⟩⟩
def shAV (x : SV) : AV := .agg [.int .i64 x.ver, .sl (.ints .u8 x.val.length x.val), .ints .u8 32 x.nonce, .ints .u8 32 x.salt, .agg [.ints .u8 32 x.known, .sl (.lst 32 x.W.length (x.W.map dg))]]
def goodSV (x : SV) : Prop := (∀ y ∈ x.val, 0 ≤ y ∧ y < 256) ∧ goodD x.nonce ∧ goodD x.salt ∧ goodD x.known ∧ (∀ d ∈ x.W, goodD d) ∧ x.W.length ≤ 9223372036854775807
theorem fromD_good (nonce name : List Int) (v : Int) : goodD (fromD nonce name v) := ⟨sumD_len _, sumD_mem _⟩
theorem madeD_good (s v : List Int) : goodD (madeD s v) := ⟨sumD_len _, sumD_mem _⟩
def isShown (tree name : List Int) (x : SV) : Prop := namedP name x.ver ∧ x.val.length ≤ 64 ∧ pops x.known = x.W.length ∧ climbR (fromD x.nonce name x.ver) x.known x.W (leafP (fromD x.nonce name x.ver) (madeD x.salt x.val)) 256 = tree
instance (tree name : List Int) (x : SV) : Decidable (isShown tree name x) := by unfold isShown; infer_instance
def isAbsent (tree name : List Int) (v : Int) (nonce known : List Int) (W : List (List Int)) : Prop := namedP name v ∧ pops known = W.length ∧ climbR (fromD nonce name v) known W (emptyD 0) 256 = tree
instance (tree name : List Int) (v : Int) (nonce known : List Int) (W : List (List Int)) : Decidable (isAbsent tree name v nonce known W) := by unfold isAbsent; infer_instance
section
variable (tree name : List Int) (n : Nat) (hn : name.length = n) (hm : ∀ x ∈ name, 0 ≤ x ∧ x < 256)
include hn hm
theorem shown_spec (x : SV) (hx : goodSV x) : FnC Tryz.prog 8 [.ints .u8 32 tree, .sl (.ints .u8 n name), .agg [.int .i64 x.ver, .sl (.ints .u8 x.val.length x.val), .ints .u8 32 x.nonce, .ints .u8 32 x.salt, .agg [.ints .u8 32 x.known, .sl (.lst 32 x.W.length (x.W.map dg))]]] [] (.bool (decide (isShown tree name x))) [] := by
  obtain ⟨hv, hnc, hs, hk, hg, hL⟩ := hx
  by_cases h1 : namedP name x.ver
  · by_cases h2 : x.val.length ≤ 64
    · have e : decide (isShown tree name x) = decide (pops x.known = x.W.length ∧ climbR (fromD x.nonce name x.ver) x.known x.W (leafP (fromD x.nonce name x.ver) (madeD x.salt x.val)) 256 = tree) := decide_eq_decide.2 (by unfold isShown; simp [h1, h2])
      rw [e]
      refine fn0 mix [] 0 3 [.tmp 6] Tryz.func8 rfl (by kernel_rfl) (by kernel_rfl) rfl (by kernel_rfl) (by kernel_rfl) (by simp) ?_
      simp (implicitDefEqProofs := false) (disch := omega) only [go_sem, ↓reduceIte]
      refine call0 (from16_ok x.nonce name x.ver n hn h1 hnc.1 hnc.2 hm) ?_
      simp (implicitDefEqProofs := false) (disch := omega) only [go_sem, ↓reduceIte]
      refine call0 (made16_ok x.salt x.val x.val.length rfl h2 hs.1 hs.2 hv) ?_
      simp (implicitDefEqProofs := false) (disch := omega) only [go_sem, ↓reduceIte]
      refine call0 (present_spec tree _ x.known (fromD_good _ _ _) hk x.W x.W.length rfl hL hg (madeD x.salt x.val) (madeD_good _ _)) ?_
      simp (implicitDefEqProofs := false) (disch := omega) only [go_sem, ↓reduceIte]
    · rw [show decide (isShown tree name x) = false from decide_eq_false (fun h => h2 h.2.1)]
      refine fn0 mix [] 0 3 [.tmp 6] Tryz.func8 rfl (by kernel_rfl) (by kernel_rfl) rfl (by kernel_rfl) (by kernel_rfl) (by simp) ?_
      simp (implicitDefEqProofs := false) (disch := omega) only [go_sem, ↓reduceIte]
      refine call0 (from16_ok x.nonce name x.ver n hn h1 hnc.1 hnc.2 hm) ?_
      simp (implicitDefEqProofs := false) (disch := omega) only [go_sem, ↓reduceIte]
      refine call0 (made16_bad x.salt x.val x.val.length rfl (by omega)) ?_
      simp (implicitDefEqProofs := false) (disch := omega) only [go_sem, ↓reduceIte]
  · rw [show decide (isShown tree name x) = false from decide_eq_false (fun h => h1 h.1)]
    refine fn0 mix [] 0 3 [.tmp 6] Tryz.func8 rfl (by kernel_rfl) (by kernel_rfl) rfl (by kernel_rfl) (by kernel_rfl) (by simp) ?_
    simp (implicitDefEqProofs := false) (disch := omega) only [go_sem, ↓reduceIte]
    refine call0 (from16_bad x.nonce name x.ver n hn h1) ?_
    simp (implicitDefEqProofs := false) (disch := omega) only [go_sem, ↓reduceIte]
theorem refshown_spec (x : SV) (hx : goodSV x) : FnC Tryz.prog 7 [.ints .u8 32 tree, .sl (.ints .u8 n name), .int .i64 x.ver, .sl (.ints .u8 x.val.length x.val), .ints .u8 32 x.nonce, .ints .u8 32 x.salt, .ints .u8 32 x.known, .sl (.lst 32 x.W.length (x.W.map dg))] [] (.bool (decide (isShown tree name x))) [] := by
  obtain ⟨hv, hnc, hs, hk, hg, hL⟩ := hx
  have hmay := may16_spec name x.ver n hn
  have hwh := refwhole_spec x.known hk x.W x.W.length rfl hL
  by_cases h1 : namedP name x.ver
  · rw [decide_eq_true h1] at hmay
    by_cases h2 : x.val.length ≤ 64
    · have d2 : decide ((64 : Int) < (x.val.length : Int)) = false := decide_eq_false (by omega)
      by_cases h3 : pops x.known = x.W.length
      · rw [decide_eq_true h3] at hwh
        have e : decide (isShown tree name x) = decide (climbR (fromD x.nonce name x.ver) x.known x.W (leafP (fromD x.nonce name x.ver) (madeD x.salt x.val)) 256 = tree) := decide_eq_decide.2 (by unfold isShown; simp [h1, h2, h3])
        rw [e]
        refine fn0 mix pl7 0 8 [.tmp 16] Tryz.func7 rfl (by kernel_rfl) (by kernel_rfl) rfl (by kernel_rfl) (by kernel_rfl) (by simp) ?_
        simp (implicitDefEqProofs := false) (disch := omega) only [go_sem, ↓reduceIte]
        refine call0 hmay ?_
        simp (implicitDefEqProofs := false) (disch := omega) only [go_sem, ↓reduceIte, d2]
        refine call0 hwh ?_
        simp (implicitDefEqProofs := false) (disch := omega) only [go_sem, ↓reduceIte]
        refine call0 (reffrom16_spec x.nonce name x.ver n hn (by have := h1.2.1; omega) hnc.1 hnc.2 hm) ?_
        simp (implicitDefEqProofs := false) (disch := omega) only [go_sem, ↓reduceIte]
        refine call0 (refmade16_spec x.salt x.val x.val.length rfl (by omega) hs.1 hs.2 hv) ?_
        simp (implicitDefEqProofs := false) (disch := omega) only [go_sem, ↓reduceIte]
        refine call0 (refleaf_spec17 _ _ (fromD_good _ _ _) (madeD_good _ _)) ?_
        simp (implicitDefEqProofs := false) (disch := omega) only [go_sem, ↓reduceIte]
        refine call0 (refclimb18_spec _ _ x.known (leafP_good _ _) (fromD_good _ _ _) hk x.W x.W.length rfl hL hg h3) ?_
        simp (implicitDefEqProofs := false) (disch := omega) only [go_sem, ↓reduceIte]
      · rw [decide_eq_false h3] at hwh
        rw [show decide (isShown tree name x) = false from decide_eq_false (fun h => h3 h.2.2.1)]
        refine fn0 mix pl7 0 8 [.tmp 16] Tryz.func7 rfl (by kernel_rfl) (by kernel_rfl) rfl (by kernel_rfl) (by kernel_rfl) (by simp) ?_
        simp (implicitDefEqProofs := false) (disch := omega) only [go_sem, ↓reduceIte]
        refine call0 hmay ?_
        simp (implicitDefEqProofs := false) (disch := omega) only [go_sem, ↓reduceIte, d2]
        refine call0 hwh ?_
        simp (implicitDefEqProofs := false) (disch := omega) only [go_sem, ↓reduceIte]
    · have d2 : decide ((64 : Int) < (x.val.length : Int)) = true := decide_eq_true (by omega)
      rw [show decide (isShown tree name x) = false from decide_eq_false (fun h => h2 h.2.1)]
      refine fn0 mix pl7 0 8 [.tmp 16] Tryz.func7 rfl (by kernel_rfl) (by kernel_rfl) rfl (by kernel_rfl) (by kernel_rfl) (by simp) ?_
      simp (implicitDefEqProofs := false) (disch := omega) only [go_sem, ↓reduceIte]
      refine call0 hmay ?_
      simp (implicitDefEqProofs := false) (disch := omega) only [go_sem, ↓reduceIte, d2]
  · rw [decide_eq_false h1] at hmay
    rw [show decide (isShown tree name x) = false from decide_eq_false (fun h => h1 h.1)]
    refine fn0 mix pl7 0 8 [.tmp 16] Tryz.func7 rfl (by kernel_rfl) (by kernel_rfl) rfl (by kernel_rfl) (by kernel_rfl) (by simp) ?_
    simp (implicitDefEqProofs := false) (disch := omega) only [go_sem, ↓reduceIte]
    refine call0 hmay ?_
    simp (implicitDefEqProofs := false) (disch := omega) only [go_sem, ↓reduceIte]
theorem refabsent_spec (v : Int) (nonce known : List Int) (hnc : goodD nonce) (hk : goodD known) (W : List (List Int)) (hL : W.length ≤ 9223372036854775807) (hg : ∀ d ∈ W, goodD d) : FnC Tryz.prog 9 [.ints .u8 32 tree, .sl (.ints .u8 n name), .int .i64 v, .ints .u8 32 nonce, .ints .u8 32 known, .sl (.lst 32 W.length (W.map dg))] [] (.bool (decide (isAbsent tree name v nonce known W))) [] := by
  have hmay := may16_spec name v n hn
  have hwh := refwhole_spec known hk W W.length rfl hL
  have g1 : ∀ K, getP ((empties 257).map dg) 0 K = K (.ints .u8 32 (emptyD 0)) := fun K => getP_map (f := dg) (empties_get (n := 257) (i := 0) (by omega)) K
  have l1 : ((empties 257).map dg).length = 257 := by rw [List.length_map, empties_len]
  by_cases h1 : namedP name v
  · rw [decide_eq_true h1] at hmay
    by_cases h3 : pops known = W.length
    · rw [decide_eq_true h3] at hwh
      have e : decide (isAbsent tree name v nonce known W) = decide (climbR (fromD nonce name v) known W (emptyD 0) 256 = tree) := decide_eq_decide.2 (by unfold isAbsent; simp [h1, h3])
      rw [e]
      refine fn0 mix pl9 0 6 [.tmp 12] Tryz.func9 rfl (by kernel_rfl) (by kernel_rfl) rfl (by kernel_rfl) (by kernel_rfl) (by simp) ?_
      simp (implicitDefEqProofs := false) (disch := omega) only [go_sem, ↓reduceIte]
      refine call0 hmay ?_
      simp (implicitDefEqProofs := false) (disch := omega) only [go_sem, ↓reduceIte]
      refine call0 hwh ?_
      simp (implicitDefEqProofs := false) (disch := omega) only [go_sem, ↓reduceIte]
      refine callF 1 refempty_spec17 ?_
      simp (implicitDefEqProofs := false) (disch := omega) only [go_sem, ↓reduceIte, ↓g1, l1]
      refine call0 (reffrom16_spec nonce name v n hn (by have := h1.2.1; omega) hnc.1 hnc.2 hm) ?_
      simp (implicitDefEqProofs := false) (disch := omega) only [go_sem, ↓reduceIte]
      refine call0 (refclimb18_spec _ _ known (emptyD_good _) (fromD_good _ _ _) hk W W.length rfl hL hg h3) ?_
      simp (implicitDefEqProofs := false) (disch := omega) only [go_sem, ↓reduceIte]
    · rw [decide_eq_false h3] at hwh
      rw [show decide (isAbsent tree name v nonce known W) = false from decide_eq_false (fun h => h3 h.2.1)]
      refine fn0 mix pl9 0 6 [.tmp 12] Tryz.func9 rfl (by kernel_rfl) (by kernel_rfl) rfl (by kernel_rfl) (by kernel_rfl) (by simp) ?_
      simp (implicitDefEqProofs := false) (disch := omega) only [go_sem, ↓reduceIte]
      refine call0 hmay ?_
      simp (implicitDefEqProofs := false) (disch := omega) only [go_sem, ↓reduceIte]
      refine call0 hwh ?_
      simp (implicitDefEqProofs := false) (disch := omega) only [go_sem, ↓reduceIte]
  · rw [decide_eq_false h1] at hmay
    rw [show decide (isAbsent tree name v nonce known W) = false from decide_eq_false (fun h => h1 h.1)]
    refine fn0 mix pl9 0 6 [.tmp 12] Tryz.func9 rfl (by kernel_rfl) (by kernel_rfl) rfl (by kernel_rfl) (by kernel_rfl) (by simp) ?_
    simp (implicitDefEqProofs := false) (disch := omega) only [go_sem, ↓reduceIte]
    refine call0 hmay ?_
    simp (implicitDefEqProofs := false) (disch := omega) only [go_sem, ↓reduceIte]
end
end Go.Proofs.YthhlielliopegaaGreat
