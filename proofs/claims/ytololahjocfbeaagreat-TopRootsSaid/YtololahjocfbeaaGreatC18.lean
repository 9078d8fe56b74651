/- Texts, joined. -/
import Derived.Test.YtololahjocfbeaaGreatC17
import Derived.Test.YtololahjocfbeaaGreatC10
import Derived.Test.YtololahjocfbeaaGreatC11
import Derived.Test.YtololahjocfbeaaGreatC12
namespace Go.Proofs.YtololahjocfbeaaGreat
open Go Go.Sy Go.Proofs.Tryz
set_option maxRecDepth 100000
set_option maxHeartbeats 8000000
set_option linter.unusedSimpArgs false
set_option linter.unusedVariables false
theorem deal_spent (D : DS) (S : SS) (F : Int × Int × Int) (x : ST) (total batch next : Int) (m : List Int) (n : Nat) (hn : m.length = n) (hc : ¬ (n = 0 ∨ 200 < n)) (he : toU m ≠ x.msg) (hs : total - 1 ≤ next) (ht : 0 ≤ total ∧ total ≤ 65536) :
    FnC Tryz.prog 78 [.ref 3 [], .sl (.ints .u8 n m)] (sgO 4 5 D S F x total batch next false) (.tup [.int .i64 0, .int .i64 0, .int .i64 6]) (sgO 6 7 D S F x total batch next false) := by
  have k := may_spec D S F x total batch next m n hn (by omega)
  rw [if_neg hc] at k
  have e1 : decide ((m.map fun x => UInt8.ofNat x.toNat) = x.msg) = false := decide_eq_false he
  have e2 : decide (total - 1 ≤ next) = true := decide_eq_true hs
  refine fnV mix plSD 4 6 2 [.tmp 4, .tmp 5, .tmp 6] Tryz.func78 rfl (by kernel_rfl) (by kernel_rfl) rfl (by kernel_rfl) (by kernel_rfl) (by simp) rfl rfl ?_
  simp -implicitDefEqProofs (disch := omega) only [go_sem, ↓reduceIte]
  refine callG false [(0, 0), (1, 1), (2, 2), (3, 3), (4, 4), (5, 5)] [(0, 0), (1, 1), (2, 2), (3, 3), (6, 6), (7, 7)] 8 k ?_ ?_
  · simp [keys]
  simp -implicitDefEqProofs (disch := omega) only [go_sem, ↓reduceIte, e1, e2]
  refine ⟨[(0, 0), (1, 1), (2, 2), (3, 3), (6, 6), (7, 7)], [], [], rfl, ?_, ?_, ?_⟩ <;> simp -implicitDefEqProofs (disch := omega) only [go_sem, ↓reduceIte]
def dealY (x : ST) (total batch next : Int) (m : List UInt8) : ST := ⟨x.gen, x.key, if x.res ≤ next then min (next + batch) (total - 1) else x.res, x.key, next, m⟩
def dealF (F : Int × Int × Int) (x : ST) (total batch next : Int) : Int × Int × Int := if x.res ≤ next then lst3 F (x.gen, x.key, min (next + batch) (total - 1)) else F
theorem deal_new (D : DS) (h : okD D) (hw : D.wait.length ≤ 90000) (S : SS) (hg : S.gone = false) (hT : S.turn ≤ 4611686018427387000) (hsz : 272 ≤ D.sz) (F : Int × Int × Int) (x : ST) (total batch next : Int) (m : List Int) (n : Nat) (hn : m.length = n) (hc : ¬ (n = 0 ∨ 200 < n)) (he : toU m ≠ x.msg) (hs : ¬ total - 1 ≤ next) (ht : 0 ≤ total ∧ total ≤ 65536) (hb : 0 ≤ batch ∧ batch ≤ 100) (hx : 0 ≤ next) :
    FnC Tryz.prog 78 [.ref 3 [], .sl (.ints .u8 n m)] (sgO 4 5 D S F x total batch next false)
      (if (replD D S (tx (dealY x total batch next (toU m)))).1 = 0 then .tup [.int .i64 x.key, .int .i64 next, .int .i64 0] else .tup [.int .i64 0, .int .i64 0, .int .i64 9])
      (sgO 6 7 (replD D S (tx (dealY x total batch next (toU m)))).2.1 (replD D S (tx (dealY x total batch next (toU m)))).2.2 (dealF F x total batch next) (if (replD D S (tx (dealY x total batch next (toU m)))).1 = 0 then dealY x total batch next (toU m) else x) total batch
        (if (replD D S (tx (dealY x total batch next (toU m)))).1 = 0 then next + 1 else next) (decide ((replD D S (tx (dealY x total batch next (toU m)))).1 ≠ 0))) := by
  have k := may_spec D S F x total batch next m n hn (by omega)
  rw [if_neg hc] at k
  have e1 : decide ((m.map fun x => UInt8.ofNat x.toNat) = x.msg) = false := decide_eq_false he
  have e2 : decide (total - 1 ≤ next) = false := decide_eq_false hs
  have hml : (toU m).length ≤ 200 := by rw [toU_len]; omega
  have k2 := store_spec D h hw S hg hT (dealF F x total batch next) x (dealY x total batch next (toU m)) hml hsz total batch next
  by_cases c1 : x.res ≤ next
  · have e3 : decide (x.res ≤ next) = true := decide_eq_true c1
    have eY : dealY x total batch next (toU m) = ⟨x.gen, x.key, min (next + batch) (total - 1), x.key, next, toU m⟩ := by unfold dealY; rw [if_pos c1]
    have eF : dealF F x total batch next = lst3 F (x.gen, x.key, min (next + batch) (total - 1)) := by unfold dealF; rw [if_pos c1]
    have kr := sraise_spec D S F x total batch next false x.key (min (next + batch) (total - 1))
    rw [eY, eF] at k2 ⊢
    generalize replD D S (tx ⟨x.gen, x.key, min (next + batch) (total - 1), x.key, next, toU m⟩) = R at *
    obtain ⟨r, D', S'⟩ := R
    dsimp only at k2 ⊢
    by_cases c : r = 0
    · rw [if_pos c, if_pos c, decide_eq_false (fun h => h c)] at k2
      rw [if_pos c, if_pos c, if_pos c, decide_eq_false (fun h => h c)]
      generalize lst3 F (x.gen, x.key, min (next + batch) (total - 1)) = F' at *
      refine fnV mix plSD 4 6 2 [.tmp 4, .tmp 5, .tmp 6] Tryz.func78 rfl (by kernel_rfl) (by kernel_rfl) rfl (by kernel_rfl) (by kernel_rfl) (by simp) rfl rfl ?_
      simp -implicitDefEqProofs (disch := omega) only [go_sem, ↓reduceIte]
      refine callG false [(0, 0), (1, 1), (2, 2), (3, 3), (4, 4), (5, 5)] [(0, 0), (1, 1), (2, 2), (3, 3), (6, 6), (7, 7)] 8 k ?_ ?_
      · simp [keys]
      simp -implicitDefEqProofs (disch := omega) only [go_sem, ↓reduceIte, e1, e2, e3]
      refine callG false [(0, 0), (1, 1), (2, 2), (3, 3), (4, 6), (5, 7)] [(0, 0), (1, 1), (2, 2), (3, 3), (6, 9), (7, 10)] 11 kr ?_ ?_
      · simp [keys]
      simp -implicitDefEqProofs (disch := omega) only [go_sem, ↓reduceIte]
      refine callG false [(0, 0), (1, 1), (2, 2), (3, 3), (4, 9), (5, 10)] [(0, 0), (1, 1), (2, 2), (3, 3), (6, 11), (7, 12)] 13 k2 ?_ ?_
      · simp [keys, toU]
      simp -implicitDefEqProofs (disch := omega) only [go_sem, ↓reduceIte, toU]
      refine ⟨[(0, 0), (1, 1), (2, 2), (3, 3), (6, 11), (7, 12)], [], [], rfl, ?_, ?_, ?_⟩ <;> simp -implicitDefEqProofs (disch := omega) only [go_sem, ↓reduceIte, toU]
    · rw [if_neg c, if_neg c, decide_eq_true c] at k2
      rw [if_neg c, if_neg c, if_neg c, decide_eq_true c]
      generalize lst3 F (x.gen, x.key, min (next + batch) (total - 1)) = F' at *
      refine fnV mix plSD 4 6 2 [.tmp 4, .tmp 5, .tmp 6] Tryz.func78 rfl (by kernel_rfl) (by kernel_rfl) rfl (by kernel_rfl) (by kernel_rfl) (by simp) rfl rfl ?_
      simp -implicitDefEqProofs (disch := omega) only [go_sem, ↓reduceIte]
      refine callG false [(0, 0), (1, 1), (2, 2), (3, 3), (4, 4), (5, 5)] [(0, 0), (1, 1), (2, 2), (3, 3), (6, 6), (7, 7)] 8 k ?_ ?_
      · simp [keys]
      simp -implicitDefEqProofs (disch := omega) only [go_sem, ↓reduceIte, e1, e2, e3]
      refine callG false [(0, 0), (1, 1), (2, 2), (3, 3), (4, 6), (5, 7)] [(0, 0), (1, 1), (2, 2), (3, 3), (6, 9), (7, 10)] 11 kr ?_ ?_
      · simp [keys]
      simp -implicitDefEqProofs (disch := omega) only [go_sem, ↓reduceIte]
      refine callG false [(0, 0), (1, 1), (2, 2), (3, 3), (4, 9), (5, 10)] [(0, 0), (1, 1), (2, 2), (3, 3), (6, 11), (7, 12)] 13 k2 ?_ ?_
      · simp [keys, toU]
      simp -implicitDefEqProofs (disch := omega) only [go_sem, ↓reduceIte, toU]
      refine ⟨[(0, 0), (1, 1), (2, 2), (3, 3), (6, 11), (7, 12)], [], [], rfl, ?_, ?_, ?_⟩ <;> simp -implicitDefEqProofs (disch := omega) only [go_sem, ↓reduceIte, toU]
  · have e3 : decide (x.res ≤ next) = false := decide_eq_false c1
    have eY : dealY x total batch next (toU m) = ⟨x.gen, x.key, x.res, x.key, next, toU m⟩ := by unfold dealY; rw [if_neg c1]
    have eF : dealF F x total batch next = F := by unfold dealF; rw [if_neg c1]
    rw [eY, eF] at k2 ⊢
    generalize replD D S (tx ⟨x.gen, x.key, x.res, x.key, next, toU m⟩) = R at *
    obtain ⟨r, D', S'⟩ := R
    dsimp only at k2 ⊢
    by_cases c : r = 0
    · rw [if_pos c, if_pos c, decide_eq_false (fun h => h c)] at k2
      rw [if_pos c, if_pos c, if_pos c, decide_eq_false (fun h => h c)]
      refine fnV mix plSD 4 6 2 [.tmp 4, .tmp 5, .tmp 6] Tryz.func78 rfl (by kernel_rfl) (by kernel_rfl) rfl (by kernel_rfl) (by kernel_rfl) (by simp) rfl rfl ?_
      simp -implicitDefEqProofs (disch := omega) only [go_sem, ↓reduceIte]
      refine callG false [(0, 0), (1, 1), (2, 2), (3, 3), (4, 4), (5, 5)] [(0, 0), (1, 1), (2, 2), (3, 3), (6, 6), (7, 7)] 8 k ?_ ?_
      · simp [keys]
      simp -implicitDefEqProofs (disch := omega) only [go_sem, ↓reduceIte, e1, e2, e3]
      refine callG false [(0, 0), (1, 1), (2, 2), (3, 3), (4, 6), (5, 7)] [(0, 0), (1, 1), (2, 2), (3, 3), (6, 9), (7, 10)] 11 k2 ?_ ?_
      · simp [keys, toU]
      simp -implicitDefEqProofs (disch := omega) only [go_sem, ↓reduceIte, toU]
      refine ⟨[(0, 0), (1, 1), (2, 2), (3, 3), (6, 9), (7, 10)], [], [], rfl, ?_, ?_, ?_⟩ <;> simp -implicitDefEqProofs (disch := omega) only [go_sem, ↓reduceIte, toU]
    · rw [if_neg c, if_neg c, decide_eq_true c] at k2
      rw [if_neg c, if_neg c, if_neg c, decide_eq_true c]
      refine fnV mix plSD 4 6 2 [.tmp 4, .tmp 5, .tmp 6] Tryz.func78 rfl (by kernel_rfl) (by kernel_rfl) rfl (by kernel_rfl) (by kernel_rfl) (by simp) rfl rfl ?_
      simp -implicitDefEqProofs (disch := omega) only [go_sem, ↓reduceIte]
      refine callG false [(0, 0), (1, 1), (2, 2), (3, 3), (4, 4), (5, 5)] [(0, 0), (1, 1), (2, 2), (3, 3), (6, 6), (7, 7)] 8 k ?_ ?_
      · simp [keys]
      simp -implicitDefEqProofs (disch := omega) only [go_sem, ↓reduceIte, e1, e2, e3]
      refine callG false [(0, 0), (1, 1), (2, 2), (3, 3), (4, 6), (5, 7)] [(0, 0), (1, 1), (2, 2), (3, 3), (6, 9), (7, 10)] 11 k2 ?_ ?_
      · simp [keys, toU]
      simp -implicitDefEqProofs (disch := omega) only [go_sem, ↓reduceIte, toU]
      refine ⟨[(0, 0), (1, 1), (2, 2), (3, 3), (6, 9), (7, 10)], [], [], rfl, ?_, ?_, ?_⟩ <;> simp -implicitDefEqProofs (disch := omega) only [go_sem, ↓reduceIte, toU]
def opX (F : Int × Int × Int) (x : ST) : ST := ⟨(lst3 F (x.gen, x.key, x.res)).1 + 1, (lst3 F (x.gen, x.key, x.res)).2.1, (lst3 F (x.gen, x.key, x.res)).2.2, x.lk, x.li, x.msg⟩
def opF (F : Int × Int × Int) (x : ST) : Int × Int × Int := lst3 F ((opX F x).gen, (opX F x).key, (opX F x).res)
abbrev spO (i j s g : Nat) (D : DS) (S : SS) (F : Int × Int × Int) (x : ST) (total batch next : Int) (gone : Bool) : OO :=
  [(0, .var (dskV i j D)), (1, .var (fcV F)), (s, .var (slV S)), (g, .var (sgV s 1 x total batch next gone)), (i, .row (.ints .u8 D.b.length D.b)), (j, .row (.lst 2 D.wait.length (D.wait.map wtV)))]
attribute [go_sem] spO
attribute [simp] spO
theorem sopen_spec (D : DS) (h : okD D) (ho : D.off = false) (hsz : 318 ≤ D.sz) (hi : thereD D 1) (hb : ∀ I : Nat, I ≤ 1 → ∀ x ∈ readB D I, 0 ≤ x ∧ x < 256) (hw : D.wait = []) (F : Int × Int × Int) (x : ST) (total batch : Int) (ht : 2 ≤ total ∧ total ≤ 65536) (hbt : 1 ≤ batch ∧ batch ≤ 16)
    (T : Nat) (t : List Int) (hT : T ≤ 1000) (hop : openS D = ⟨T, t, false⟩) (hx : (T = 0 ∧ x = ⟨0, 0, 0, 0, 0, []⟩) ∨ (1 ≤ T ∧ t = tx x ∧ x.msg.length ≤ 200 ∧ ∀ v ∈ [x.gen, x.key, x.res, x.lk, x.li], 0 ≤ v ∧ v ≤ 4611686018427387904))
    (hF : 0 ≤ F.1 ∧ F.1 ≤ 4611686018427387000) (hr : (replD D ⟨T, t, false⟩ (tx (opX F x))).1 = 0) :
    FnC Tryz.prog 116 [.ref 0 [], .int .i64 0, .ref 1 [], .int .i64 total, .int .i64 batch] [(0, .var (dskV 2 3 D)), (1, .var (fcV F)), (2, .row (.ints .u8 D.b.length D.b)), (3, .row (.lst 2 D.wait.length (D.wait.map wtV)))]
      (.tup [.ref 7 [], .int .i64 0]) (spO 4 5 6 7 (replD D ⟨T, t, false⟩ (tx (opX F x))).2.1 (replD D ⟨T, t, false⟩ (tx (opX F x))).2.2 (opF F x) (opX F x) total batch (opX F x).res false) := by
  have k1 := open_spec D h ho (by omega) hi hb
  rw [hop] at k1
  have k2 := room_spec D h ⟨T, t, false⟩
  have k3 := sturn_spec D ⟨T, t, false⟩
  have hxm : x.msg.length ≤ 200 := by
    rcases hx with ⟨_, rfl⟩ | ⟨_, _, h, _⟩
    · exact Nat.zero_le _
    · exact h
  have ke := least3_spec F (x.gen, x.key, x.res)
  have kr := sraise_spec D ⟨T, t, false⟩ F (opX F x) total batch (opX F x).res false (opX F x).key (opX F x).res
  have ks := store_spec D h (by rw [hw]; simp) ⟨T, t, false⟩ rfl (by dsimp only; omega) (opF F x) (opX F x) (opX F x) hxm (by omega) total batch (opX F x).res
  rw [hr, if_pos rfl, if_pos rfl, decide_eq_false (fun h => h rfl)] at ks
  have d1 : decide ((D.sz : Int) - 18 < 300) = false := decide_eq_false (by omega)
  have b1 : decide (total < 2) = false := decide_eq_false (by omega)
  have b2 : decide (65536 < total) = false := decide_eq_false (by omega)
  have b3 : decide (batch < 1) = false := decide_eq_false (by omega)
  have b4 : decide (16 < batch) = false := decide_eq_false (by omega)
  have hM : 0 ≤ (lst3 F (x.gen, x.key, x.res)).1 ∧ (lst3 F (x.gen, x.key, x.res)).1 ≤ 4611686018427387904 := by
    have : (lst3 F (x.gen, x.key, x.res)).1 = max F.1 x.gen := rfl
    rcases hx with ⟨_, rfl⟩ | ⟨_, _, _, hv⟩
    · rw [this]; dsimp only; omega
    · have := hv x.gen (by simp)
      omega
  unfold opF opX at *
  generalize replD D ⟨T, t, false⟩ (tx ⟨(lst3 F (x.gen, x.key, x.res)).1 + 1, (lst3 F (x.gen, x.key, x.res)).2.1, (lst3 F (x.gen, x.key, x.res)).2.2, x.lk, x.li, x.msg⟩) = R at *
  obtain ⟨r, D', S'⟩ := R
  dsimp only at ke kr ks hM ⊢
  rcases hx with ⟨rfl, rfl⟩ | ⟨hT1, rfl, _, hv⟩
  · refine fnV mix plSO 2 4 5 [.tmp 10, .tmp 11] Tryz.func116 rfl (by kernel_rfl) (by kernel_rfl) rfl (by kernel_rfl) (by kernel_rfl) (by simp) rfl rfl ?_
    simp -implicitDefEqProofs (disch := omega) only [go_sem, ↓reduceIte, b1, b2, b3, b4]
    refine callG false [(0, 0), (1, 2), (2, 3)] [(0, 0), (3, 4), (4, 5), (6, 6)] 7 k1 ?_ ?_
    · simp [keys]
    simp -implicitDefEqProofs (disch := omega) only [go_sem, ↓reduceIte]
    refine callG false [(0, 0), (1, 6), (2, 4), (3, 5)] [(0, 0), (1, 6), (4, 7), (5, 8)] 9 k2 ?_ ?_
    · simp [keys]
    simp -implicitDefEqProofs (disch := omega) only [go_sem, ↓reduceIte, d1]
    refine callG false [(0, 0), (1, 6), (2, 7), (3, 8)] [(0, 0), (1, 6), (4, 10), (5, 11)] 12 k3 ?_ ?_
    · simp [keys]
    simp -implicitDefEqProofs (disch := omega) only [go_sem, ↓reduceIte]
    dsimp only at ke kr ks hM ⊢
    generalize lst3 F (0, 0, 0) = M at *
    refine callG false [(0, 1)] [(0, 1)] 13 (marks3_spec F) ?_ ?_
    · simp [keys]
    simp -implicitDefEqProofs (disch := omega) only [go_sem, ↓reduceIte]
    refine call0 ke ?_
    simp -implicitDefEqProofs (disch := omega) only [go_sem, ↓reduceIte]
    refine callG false [(0, 0), (1, 6), (2, 1), (3, 9), (4, 10), (5, 11)] [(0, 0), (1, 6), (2, 1), (3, 9), (6, 14), (7, 15)] 16 kr ?_ ?_
    · simp [keys]
    simp -implicitDefEqProofs (disch := omega) only [go_sem, ↓reduceIte]
    refine callG false [(0, 0), (1, 6), (2, 1), (3, 9), (4, 14), (5, 15)] [(0, 0), (1, 6), (2, 1), (3, 9), (6, 16), (7, 17)] 18 ks ?_ ?_
    · simp [keys]
    simp -implicitDefEqProofs (disch := omega) only [go_sem, ↓reduceIte]
    refine ⟨[(0, 0), (1, 1), (6, 6), (7, 9), (4, 16), (5, 17)], [], [], rfl, ?_, ?_, ?_⟩ <;> simp -implicitDefEqProofs (disch := omega) only [go_sem, ↓reduceIte]
  · have ktx := text_spec D ⟨T, tx x, false⟩ (by dsimp only; rw [tx_len]; omega)
    have krd := read_row x.gen x.key x.res x.lk x.li x.msg hxm hv
    have et : rowS [x.gen, x.key, x.res, x.lk, x.li] x.msg = tx x := rfl
    rw [et, ← tx_len x] at krd
    have dT : decide (0 < (T : Int)) = true := decide_eq_true (by omega)
    generalize lst3 F (x.gen, x.key, x.res) = M at *
    generalize tx x = X at *
    refine fnV mix plSO 2 4 5 [.tmp 10, .tmp 11] Tryz.func116 rfl (by kernel_rfl) (by kernel_rfl) rfl (by kernel_rfl) (by kernel_rfl) (by simp) rfl rfl ?_
    simp -implicitDefEqProofs (disch := omega) only [go_sem, ↓reduceIte, b1, b2, b3, b4]
    refine callG false [(0, 0), (1, 2), (2, 3)] [(0, 0), (3, 4), (4, 5), (6, 6)] 7 k1 ?_ ?_
    · simp [keys]
    simp -implicitDefEqProofs (disch := omega) only [go_sem, ↓reduceIte]
    refine callG false [(0, 0), (1, 6), (2, 4), (3, 5)] [(0, 0), (1, 6), (4, 7), (5, 8)] 9 k2 ?_ ?_
    · simp [keys]
    simp -implicitDefEqProofs (disch := omega) only [go_sem, ↓reduceIte, d1]
    refine callG false [(0, 0), (1, 6), (2, 7), (3, 8)] [(0, 0), (1, 6), (4, 10), (5, 11)] 12 k3 ?_ ?_
    · simp [keys]
    simp -implicitDefEqProofs (disch := omega) only [go_sem, ↓reduceIte, dT]
    refine callG false [(0, 0), (1, 6), (2, 10), (3, 11)] [(0, 0), (1, 6), (4, 12), (5, 13), (6, 14)] 15 ktx ?_ ?_
    · simp [keys]
    simp -implicitDefEqProofs (disch := omega) only [go_sem, ↓reduceIte]
    refine callB krd ?_ ?_
    · simp -implicitDefEqProofs (disch := omega) only [go_sem, ↓reduceIte]
    simp -implicitDefEqProofs (disch := omega) only [go_sem, ↓reduceIte]
    refine callG false [(0, 1)] [(0, 1)] 16 (marks3_spec F) ?_ ?_
    · simp [keys]
    simp -implicitDefEqProofs (disch := omega) only [go_sem, ↓reduceIte]
    refine call0 ke ?_
    simp -implicitDefEqProofs (disch := omega) only [go_sem, ↓reduceIte]
    refine callG false [(0, 0), (1, 6), (2, 1), (3, 9), (4, 12), (5, 13)] [(0, 0), (1, 6), (2, 1), (3, 9), (6, 17), (7, 18)] 19 kr ?_ ?_
    · simp [keys]
    simp -implicitDefEqProofs (disch := omega) only [go_sem, ↓reduceIte]
    refine callG false [(0, 0), (1, 6), (2, 1), (3, 9), (4, 17), (5, 18)] [(0, 0), (1, 6), (2, 1), (3, 9), (6, 19), (7, 20)] 21 ks ?_ ?_
    · simp [keys]
    simp -implicitDefEqProofs (disch := omega) only [go_sem, ↓reduceIte]
    refine ⟨[(0, 0), (1, 1), (6, 6), (7, 9), (4, 19), (5, 20)], [], [], rfl, ?_, ?_, ?_⟩ <;> simp -implicitDefEqProofs (disch := omega) only [go_sem, ↓reduceIte]
end Go.Proofs.YtololahjocfbeaaGreat
namespace Go.Proofs.YtololahjocfbeaaGreat
open Go Go.Sy Go.Proofs.Tryz
set_option maxRecDepth 100000
set_option maxHeartbeats 4000000
set_option linter.unusedSimpArgs false
set_option linter.unusedVariables false
theorem for_spec (xs : List Int) (w : Int) : FnC Tryz.prog 244 [.ints .u32 8 xs, .int .u32 w] [] (.ints .u32 8 (xs.set 7 w)) [] := by
  refine fn0 mix [] 0 2 [.cell 4 282] Tryz.func244 rfl (by kernel_rfl) (by kernel_rfl) rfl (by kernel_rfl) (by kernel_rfl) (by simp) ?_
  simp -implicitDefEqProofs only [go_sem, ↓reduceIte]
theorem at_spec (xs : List Int) (a b : Int) : FnC Tryz.prog 223 [.ints .u32 8 xs, .int .u32 a, .int .u32 b] [] (.ints .u32 8 (((xs.set 5 a).set 6 b).set 7 0)) [] := by
  refine fn0 mix [] 0 3 [.cell 6 282] Tryz.func223 rfl (by kernel_rfl) (by kernel_rfl) rfl (by kernel_rfl) (by kernel_rfl) (by simp) ?_
  simp -implicitDefEqProofs only [go_sem, ↓reduceIte]
def base (l a k f : Int) : List Int := [l, IntKind.u32.wrap (ishr .u64 a 32), IntKind.u32.wrap a, k, f, 0, 0, 0]
theorem base_spec (l a k f : Int) : FnC Tryz.prog 224 [.int .u32 l, .int .u64 a, .int .u32 k, .int .u32 f] [] (.ints .u32 8 (base l a k f)) [] := by
  refine fn0 mix [] 0 4 [.cell 8 282] Tryz.func224 rfl (by kernel_rfl) (by kernel_rfl) rfl (by kernel_rfl) (by kernel_rfl) (by simp) ?_
  simp -implicitDefEqProofs only [go_sem, ↓reduceIte]
  simp [base]
theorem ots_spec (l a f : Int) : FnC Tryz.prog 221 [.int .u32 l, .int .u64 a, .int .u32 f] [] (.ints .u32 8 (base l a 0 f)) [] := by
  refine fn0 mix [] 0 3 [.cell 6 282] Tryz.func221 rfl (by kernel_rfl) (by kernel_rfl) rfl (by kernel_rfl) (by kernel_rfl) (by simp) ?_
  simp -implicitDefEqProofs only [go_sem, ↓reduceIte]
  refine call0 (base_spec _ _ _ _) ?_
  simp -implicitDefEqProofs only [go_sem, ↓reduceIte]
theorem ltree_spec (l a f : Int) : FnC Tryz.prog 175 [.int .u32 l, .int .u64 a, .int .u32 f] [] (.ints .u32 8 (base l a 1 f)) [] := by
  refine fn0 mix [] 0 3 [.cell 6 282] Tryz.func175 rfl (by kernel_rfl) (by kernel_rfl) rfl (by kernel_rfl) (by kernel_rfl) (by simp) ?_
  simp -implicitDefEqProofs only [go_sem, ↓reduceIte]
  refine call0 (base_spec _ _ _ _) ?_
  simp -implicitDefEqProofs only [go_sem, ↓reduceIte]
theorem tree_spec (l a : Int) : FnC Tryz.prog 247 [.int .u32 l, .int .u64 a] [] (.ints .u32 8 (base l a 2 0)) [] := by
  refine fn0 mix [] 0 2 [.cell 4 282] Tryz.func247 rfl (by kernel_rfl) (by kernel_rfl) rfl (by kernel_rfl) (by kernel_rfl) (by simp) ?_
  simp -implicitDefEqProofs only [go_sem, ↓reduceIte]
  refine call0 (base_spec _ _ _ _) ?_
  simp -implicitDefEqProofs only [go_sem, ↓reduceIte]
theorem wrap_u32' (n : Int) : IntKind.u32.wrap n = n % 4294967296 := by
  simp [IntKind.wrap, IntKind.signed, IntKind.bits]
def bytesA (ws : List Int) : List Int := ws.flatMap fun w => be w 4
theorem bytesA_len : ∀ ws : List Int, (bytesA ws).length = 4 * ws.length
  | [] => rfl
  | w :: ws => by
    have := bytesA_len ws
    simp only [bytesA, List.flatMap_cons, List.length_append, be_len, List.length_cons] at this ⊢
    omega
theorem bytesA_succ {ws : List Int} {i : Nat} (h : i < ws.length) : bytesA (ws.take (i + 1)) = bytesA (ws.take i) ++ be (ws.getD i 0) 4 := by
  unfold bytesA
  rw [List.take_add_one, List.flatMap_append, List.getElem?_eq_getElem h]
  simp only [Option.toList_some, List.flatMap_cons, List.flatMap_nil, List.append_nil, List.getD, List.getElem?_eq_getElem h, Option.getD_some]
theorem bytes_spec (ws : List Int) (hl : ws.length = 8) (hw : ∀ w ∈ ws, 0 ≤ w ∧ w < 4294967296) : FnC Tryz.prog 260 [.ints .u32 8 ws] [] (.osl 0 [] 1 0 32) [(0, .row (.ints .u8 32 (bytesA ws)))] := by
  refine fnN mix [] 0 1 [.tmp 2] Tryz.func260 rfl (by kernel_rfl) (by kernel_rfl) rfl (by kernel_rfl) (by kernel_rfl) (by simp) ?_
  simp -implicitDefEqProofs (disch := omega) only [go_sem, ↓reduceIte]
  refine loop (ι := Nat) 1 (fun i => i ≤ 8) (fun i => [(6, .ints .u32 8 ws), (7, .int .i64 i), (3, .osl 0 [] 1 0 (4 * i))]) (fun i => [(0, .row (.ints .u8 (4 * i) (bytesA (ws.take i))))]) (fun i => 8 - i) 0 [] [0] (Nat.zero_le _) rfl ?_ ?_ ?_ (fun i hi => ?_)
  · simp -implicitDefEqProofs (disch := omega) only [go_sem, ↓reduceIte]
  · simp -implicitDefEqProofs (disch := omega) only [go_sem, ↓reduceIte]
  · simp -implicitDefEqProofs (disch := omega) only [go_sem, ↓reduceIte, List.take_zero, bytesA, List.flatMap_nil]
  simp -implicitDefEqProofs (disch := omega) only [go_sem, ↓reduceIte]
  refine brd (fun h => ?_) (fun h => ?_)
  · have hx := getD_all' hw (show i < ws.length by omega)
    have hs := bytesA_succ (show i < ws.length by omega)
    simp -implicitDefEqProofs (disch := omega) only [go_sem, ↓reduceIte]
    refine callF 1 (number_spec _ 4 4 rfl) ?_
    simp -implicitDefEqProofs (disch := omega) only [go_sem, ↓reduceIte]
    refine ⟨i + 1, [(0, 2)], [], [], by dsimp only; omega, by dsimp only; omega, rfl, ?_, ?_, ?_⟩ <;> simp -implicitDefEqProofs (disch := omega) only [go_sem, ↓reduceIte, hs, Nat.mul_add]
  obtain rfl : i = 8 := by omega
  simp -implicitDefEqProofs (disch := omega) only [go_sem, ↓reduceIte, List.take_of_length_le]
  refine ⟨[(0, 0)], [], [], rfl, ?_, ?_, ?_⟩ <;> simp -implicitDefEqProofs (disch := omega) only [go_sem, ↓reduceIte, List.take_of_length_le]
def words : Nat → List Int → List Int
  | 0, _ => []
  | k + 1, xs => ofb (xs.take 4) :: words k (xs.drop 4)
theorem words_len : ∀ (k : Nat) (xs : List Int), (words k xs).length = k
  | 0, _ => rfl
  | k + 1, xs => by simp [words, words_len k]
theorem words_get : ∀ (k i : Nat) (xs : List Int), i < k → (words k xs).getD i 0 = ofb ((xs.drop (4 * i)).take 4)
  | 0, i, xs, h => by omega
  | k + 1, 0, xs, h => by simp [words]
  | k + 1, i + 1, xs, h => by
    have := words_get k i (xs.drop 4) (by omega)
    rw [words, List.getD_cons_succ, this, List.drop_drop, show 4 + 4 * i = 4 * (i + 1) by omega]
theorem words_mem : ∀ (k : Nat) (xs : List Int), (∀ x ∈ xs, 0 ≤ x ∧ x < 256) → ∀ w ∈ words k xs, 0 ≤ w ∧ w < 4294967296
  | 0, xs, _, w, h => by cases h
  | k + 1, xs, hb, w, h => by
    simp only [words, List.mem_cons] at h
    rcases h with rfl | h
    · have := ofb_lt hb 4
      have e : (256 : Int) ^ 4 = 4294967296 := by decide
      rw [e] at this
      exact this
    · exact words_mem k (xs.drop 4) (fun x hx => hb x (List.mem_of_mem_drop hx)) w h
theorem set_step {ws : List Int} {k i : Nat} (hl : ws.length = k) (hi : i < k) {x : Int} (hx : ws.getD i 0 = x) : (ws.take i ++ List.replicate (k - i) 0).set i x = ws.take (i + 1) ++ List.replicate (k - (i + 1)) 0 := by
  subst hx
  have e : k - i = k - (i + 1) + 1 := by omega
  have ht : List.take (i + 1) ws = List.take i ws ++ [ws.getD i 0] := by
    rw [List.take_add_one, List.getElem?_eq_getElem (show i < ws.length by omega)]
    simp only [Option.toList_some, List.getD, List.getElem?_eq_getElem (show i < ws.length by omega), Option.getD_some]
  rw [e, List.replicate_succ, List.set_append_right _ _ (by rw [List.length_take]; omega), List.length_take, show i - min i ws.length = 0 by omega, List.set_cons_zero, ht, List.append_assoc]
  rfl
end Go.Proofs.YtololahjocfbeaaGreat
