/- The signer: its fence is raised, its state is stored. -/
import Derived.Test.YtjaailbgeadnnaaGreatSgn
namespace Go.Proofs.YtjaailbgeadnnaaGreat
open Go Go.Sy Go.Proofs.Tryz
set_option maxRecDepth 100000
set_option maxHeartbeats 8000000
set_option linter.unusedSimpArgs false
set_option linter.unusedVariables false

structure ST where
  gen : Int
  key : Int
  res : Int
  lk : Int
  li : Int
  msg : List UInt8
abbrev sgstV (x : ST) : AV := .agg [.int .i64 x.gen, .int .i64 x.key, .int .i64 x.res, .agg [.int .i64 x.lk, .int .i64 x.li, .str x.msg]]
abbrev sgV (a b : Nat) (x : ST) (total batch next : Int) (gone : Bool) : AV := .agg [sgstV x, .ref a [], .ref b [], .int .i64 total, .int .i64 batch, .int .i64 next, .bool gone]
abbrev fcV (F : Int × Int × Int) : AV := .agg [.agg [.int .i64 F.1, .int .i64 F.2.1, .int .i64 F.2.2]]
abbrev sgO (i j : Nat) (D : DS) (S : SS) (F : Int × Int × Int) (x : ST) (total batch next : Int) (gone : Bool) : OO :=
  [(0, .var (dskV i j D)), (1, .var (slV S)), (2, .var (fcV F)), (3, .var (sgV 1 2 x total batch next gone)), (i, .row (.ints .u8 D.b.length D.b)), (j, .row (.lst 2 D.wait.length (D.wait.map wtV)))]
attribute [go_sem] sgstV sgV fcV sgO
attribute [simp] sgO
def tx (x : ST) : List Int := rowS [x.gen, x.key, x.res, x.lk, x.li] x.msg
theorem tx_len (x : ST) : (tx x).length = 54 + x.msg.length := rowS_len rfl _
def plSO : List (Nat × Plan) := [(14, [(0, [], none), (1, [], some [72]), (2, [0, 1], none), (3, [0, 1], none), (4, [0, 1], none), (5, [0, 1], none), (6, [0, 1], none), (7, [0, 1, 2, 3, 4, 5, 6], none), (8, [0, 1, 2, 3, 4, 5, 6], none), (9, [0, 1, 2, 3, 4, 5, 6], none), (10, [0, 1, 2, 3, 4, 5, 6], none), (11, [0, 1, 2, 3, 4, 5, 6], none), (12, [0, 1, 2, 3, 4, 5, 6, 7, 8, 9, 10, 11], none), (13, [0, 1, 2, 3, 4, 5, 6, 7, 8, 9, 10, 11], none), (14, [0, 1, 2, 3, 4, 5, 6, 7, 8, 9, 10, 11], none), (15, [0, 1, 2, 3, 4, 5, 6, 7, 8, 9, 10, 11], none), (16, [0, 1, 2, 3, 4, 5, 6, 7, 8, 9, 10, 11], none), (17, [0, 1], none), (18, [], none), (19, [0, 1, 2, 3, 4, 5, 6, 7, 8, 9, 10, 11, 12, 13, 14, 15, 16, 17, 18], none), (20, [], some [17])]), (15, [(0, [], none), (4, [0], none), (5, [0], none), (6, [0], none), (13, [], none), (14, [], none), (15, [], none), (16, [], some [106]), (1, [0, 4, 5, 6, 13, 14, 15, 16], none), (7, [0, 4, 5, 6, 13, 14, 15, 16, 1], none), (8, [0, 4, 5, 6, 13, 14, 15, 16, 1], none), (17, [], none), (18, [], none), (19, [], none), (20, [], some [109]), (2, [0, 4, 5, 6, 13, 14, 15, 16, 1, 7, 8, 17, 18, 19, 20], none), (9, [0, 4, 5, 6, 13, 14, 15, 16, 1, 7, 8, 17, 18, 19, 20, 2], none), (10, [0, 4, 5, 6, 13, 14, 15, 16, 1, 7, 8, 17, 18, 19, 20, 2], none), (21, [], none), (22, [], none), (23, [], none), (24, [], some [112]), (3, [0, 4, 5, 6, 13, 14, 15, 16, 1, 7, 8, 17, 18, 19, 20, 2, 9, 10, 21, 22, 23, 24], none), (11, [0, 4, 5, 6, 13, 14, 15, 16, 1, 7, 8, 17, 18, 19, 20, 2, 9, 10, 21, 22, 23, 24, 3], none), (12, [0, 4, 5, 6, 13, 14, 15, 16, 1, 7, 8, 17, 18, 19, 20, 2, 9, 10, 21, 22, 23, 24, 3], none), (25, [], none), (26, [], none), (27, [], some [114])]), (16, [(0, [], none), (1, [0], none), (2, [0], none), (3, [0], none), (4, [0], none), (5, [0], none), (6, [0, 1, 2, 3, 4, 5], none), (7, [0, 1, 2, 3, 4, 5], none), (8, [0, 1, 2, 3, 4, 5], none), (9, [0, 1, 2, 3, 4, 5], none), (10, [], some [115, 120, 124])])]
attribute [go_sem] plSO
def plSD : List (Nat × Plan) := [(4, [(0, [], none), (1, [], none), (2, [0, 1], none), (3, [0, 1], none), (4, [0, 1], none), (5, [0, 1], none), (6, [0, 1], none), (7, [0, 1], none), (8, [], none), (9, [], none)]), (5, [(0, [], none), (1, [], none), (2, [], none), (3, [], none), (4, [], none), (5, [], none), (6, [0, 1, 2, 3, 4, 5], none), (7, [0, 1, 2, 3, 4, 5], none), (8, [0, 1, 2, 3, 4, 5], none), (9, [0, 1, 2, 3, 4, 5], none), (10, [0, 1, 2, 3, 4, 5], none), (11, [0, 1, 2, 3, 4, 5], none), (12, [6, 7, 8, 9, 10, 11], none), (13, [], none), (14, [], none)]), (6, [(0, [], none), (1, [], none), (2, [], none), (3, [], none), (4, [0, 1, 2, 3], none), (5, [0, 1, 2, 3], none), (6, [0, 1, 2, 3], none), (7, [0, 1, 2, 3], none), (8, [0, 1, 2, 3], none), (9, [], none), (10, [], none)]), (9, [(0, [], none), (1, [], none), (2, [], none), (3, [], none), (4, [0, 1, 2, 3], none), (5, [0, 1, 2, 3], none), (6, [0, 1, 2, 3], none), (7, [0, 1, 2, 3], none), (8, [0, 1, 2, 3], none), (9, [], none)]), (10, [(0, [], none), (1, [], none), (2, [], none), (3, [], none), (4, [0, 1, 2, 3], none), (5, [0, 1, 2, 3], none), (6, [0, 1, 2, 3], none), (7, [0, 1, 2, 3], none), (8, [], none), (9, [0, 1, 2, 3, 4, 5, 6, 7, 8], none), (10, [0, 1, 2, 3, 4, 5, 6, 7, 8], none), (11, [0, 1, 2, 3, 4, 5, 6, 7, 8], none), (12, [0, 1, 2, 3, 4, 5, 6, 7, 8], none), (13, [0, 1, 2, 3, 4, 5, 6, 7, 8], none), (14, [], none), (15, [], none), (16, [], some [78])]), (11, [(0, [], none), (1, [0], none), (2, [0], none), (3, [0], none), (4, [0], none), (5, [0], none), (6, [0, 1, 2, 3, 4, 5], none), (7, [0, 1, 2, 3, 4, 5], none), (8, [], some [79, 84, 86])]), (12, [(0, [], none), (1, [], none), (2, [], none), (3, [], none), (4, [], none), (5, [0, 1, 2, 3, 4], none), (6, [0, 1, 2, 3, 4], none), (7, [0, 1, 2, 3, 4], none), (8, [0, 1, 2, 3, 4], none), (9, [0, 1, 2, 3, 4, 5, 6, 7, 8], none), (10, [0, 1, 2, 3, 4, 5, 6, 7, 8], none), (11, [], none), (12, [], none), (13, [], some [100])]), (17, [(0, [], none), (1, [], none), (2, [], none), (3, [], none), (4, [], none), (5, [], none), (6, [0, 1, 2, 3, 4, 5], none), (7, [0, 1, 2, 3, 4, 5], none), (8, [0, 1, 2, 3, 4, 5], none), (9, [0, 1, 2, 3, 4, 5], none), (10, [0, 1, 2, 3, 4, 5], none), (11, [0, 1, 2, 3, 4, 5], none), (12, [6, 7, 8, 9, 10, 11], none), (13, [], none), (14, [], none)])]
attribute [go_sem] plSD
def plSR : List (Nat × Plan) := [(4, [(0, [], none), (1, [], none), (2, [0, 1], none), (3, [0, 1], none), (4, [0, 1], none), (5, [0, 1], none), (6, [0, 1], none), (7, [0, 1], none), (8, [], none), (9, [], none)]), (5, [(0, [], none), (1, [], none), (2, [], none), (3, [], none), (4, [], none), (5, [], none), (6, [0, 1, 2, 3, 4, 5], none), (7, [0, 1, 2, 3, 4, 5], none), (8, [0, 1, 2, 3, 4, 5], none), (9, [0, 1, 2, 3, 4, 5], none), (10, [0, 1, 2, 3, 4, 5], none), (11, [0, 1, 2, 3, 4, 5], none), (12, [6, 7, 8, 9, 10, 11], none), (13, [], none), (14, [], none)]), (6, [(0, [], none), (1, [], none), (2, [], none), (3, [], none), (4, [0, 1, 2, 3], none), (5, [0, 1, 2, 3], none), (6, [0, 1, 2, 3], none), (7, [0, 1, 2, 3], none), (8, [], none), (9, [], none)]), (9, [(0, [], none), (1, [0], none), (2, [0], none), (3, [0], none), (4, [0], none), (5, [0], none), (6, [0, 1, 2, 3, 4, 5], none), (7, [0, 1, 2, 3, 4, 5], none), (8, [0, 1, 2, 3, 4, 5], none), (9, [0, 1, 2, 3, 4, 5], none), (10, [0, 1, 2, 3, 4, 5], none), (11, [0, 1, 2, 3, 4, 5], none), (12, [0, 1, 2, 3, 4, 5, 6, 7, 8, 9, 10, 11], none), (13, [0, 1, 2, 3, 4, 5, 6, 7, 8, 9, 10, 11], none), (14, [0, 1, 2, 3, 4, 5, 6, 7, 8, 9, 10, 11], none), (15, [0, 1, 2, 3, 4, 5, 6, 7, 8, 9, 10, 11], none), (16, [0, 1, 2, 3, 4, 5, 6, 7, 8, 9, 10, 11], none), (17, [0, 1, 2, 3, 4, 5, 6, 7, 8, 9, 10, 11, 12, 13, 14, 15, 16], none), (18, [0, 1, 2, 3, 4, 5, 6, 7, 8, 9, 10, 11, 12, 13, 14, 15, 16], none), (19, [0, 1, 2, 3, 4, 5, 6, 7, 8, 9, 10, 11, 12, 13, 14, 15, 16], none), (20, [0, 1, 2, 3, 4, 5, 6, 7, 8, 9, 10, 11, 12, 13, 14, 15, 16], none), (21, [0, 1, 2, 3, 4, 5, 6, 7, 8, 9, 10, 11, 12, 13, 14, 15, 16, 17, 18, 19, 20], none), (22, [0, 1, 2, 3, 4, 5, 6, 7, 8, 9, 10, 11, 12, 13, 14, 15, 16, 17, 18, 19, 20], none), (23, [0, 1, 2, 3, 4, 5, 6, 7, 8, 9, 10, 11], none), (24, [0], none), (25, [], some [55, 79]), (26, [], none)]), (13, [(0, [], none), (1, [], none), (2, [], none), (3, [], none), (4, [], none), (5, [], none), (6, [0, 1, 2, 3, 4, 5], none), (7, [0, 1, 2, 3, 4, 5], none), (8, [0, 1, 2, 3, 4, 5], none), (9, [0, 1, 2, 3, 4, 5], none), (10, [0, 1, 2, 3, 4, 5], none), (11, [0, 1, 2, 3, 4, 5], none), (12, [6, 7, 8, 9, 10, 11], none), (13, [], none), (14, [], none)])]
attribute [go_sem] plSR
def plSd : List (Nat × Plan) := [(13, [(0, [], none), (1, [], none), (2, [0, 1], none), (3, [0, 1], none), (4, [0, 1, 2, 3], none), (5, [0, 1, 2, 3], none), (6, [0, 1, 2, 3, 4, 5], none), (7, [0, 1, 2, 3, 4, 5], none), (8, [0, 1, 2, 3, 4, 5, 6, 7], none), (9, [0, 1, 2, 3, 4, 5, 6, 7], none), (10, [0, 1, 2, 3, 4, 5, 6, 7, 8, 9], none), (11, [0, 1, 2, 3, 4, 5, 6, 7, 8, 9], none), (12, [0, 1, 2, 3, 4, 5, 6, 7, 8, 9], none), (13, [0, 1, 2, 3, 4, 5, 6, 7, 8, 9], none), (14, [0, 1, 2, 3, 4, 5], none), (15, [], none), (16, [], some [2]), (17, [], none)])]
attribute [go_sem] plSd
def plSs : List (Nat × Plan) := [(1, [(0, [], none), (1, [], none), (2, [], none), (3, [], none), (4, [0, 1, 2, 3], none), (5, [0, 1, 2, 3], none), (6, [0, 1, 2, 3], none), (7, [0, 1, 2, 3, 4, 5, 6], none), (8, [0, 1, 2, 3, 4, 5, 6], none), (9, [0, 1, 2, 3, 4, 5, 6, 7, 8], none), (10, [0, 1, 2, 3, 4, 5, 6, 7, 8], none), (11, [0, 1, 2, 3, 4, 5, 6, 7, 8, 9, 10], none), (12, [0, 1, 2, 3, 4, 5, 6, 7, 8, 9, 10], none), (13, [0, 1, 2, 3, 4, 5, 6, 7, 8, 9, 10, 11, 12], none), (14, [0, 1, 2, 3, 4, 5, 6, 7, 8, 9, 10, 11, 12], none), (15, [0, 1, 2, 3, 4, 5, 6, 7, 8, 9, 10, 11, 12], none), (16, [0, 1, 2, 3, 4, 5, 6, 7, 8, 9, 10, 11, 12, 13, 14, 15], none), (17, [0, 1, 2, 3, 4, 5, 6, 7, 8, 9, 10, 11, 12, 13, 14, 15], none), (18, [0, 1, 2, 3, 4, 5, 6, 7, 8, 9, 10, 11, 12, 13, 14, 15], none), (19, [0, 1, 2, 3, 4, 5, 6], none), (20, [0, 1, 2, 3], none), (21, [], some [9, 26]), (22, [], none)])]
attribute [go_sem] plSs
def plSr : List (Nat × Plan) := [(0, [(0, [], none), (1, [], none), (2, [], none), (3, [], none), (4, [0, 1, 2, 3], none), (5, [0, 1, 2, 3], none), (6, [0, 1, 2, 3], none), (7, [0, 1, 2, 3], none), (8, [0, 1, 2, 3], none), (9, [0, 1, 2, 3, 4, 5, 6, 7, 8], none), (10, [0, 1, 2, 3, 4, 5, 6, 7, 8, 9], none), (11, [0, 1, 2, 3], none), (12, [], some [9, 17])])]
attribute [go_sem] plSr
theorem raise3_spec (F : Int × Int × Int) (b0 b1 b2 : Int) : FnC Tryz.prog 91 [.ref 0 [], .agg [.int .i64 b0, .int .i64 b1, .int .i64 b2]] [(0, .var (fcV F))] (.agg [.int .i64 (lst3 F (b0, b1, b2)).1, .int .i64 (lst3 F (b0, b1, b2)).2.1, .int .i64 (lst3 F (b0, b1, b2)).2.2]) [(0, .var (fcV (lst3 F (b0, b1, b2))))] := by
  obtain ⟨a0, a1, a2⟩ := F
  exact raise_spec a0 a1 a2 b0 b1 b2
theorem marks3_spec (F : Int × Int × Int) : FnC Tryz.prog 53 [.ref 0 []] [(0, .var (fcV F))] (.agg [.int .i64 F.1, .int .i64 F.2.1, .int .i64 F.2.2]) [(0, .var (fcV F))] := by
  obtain ⟨a0, a1, a2⟩ := F
  exact marks_spec a0 a1 a2
theorem least3_spec (F G : Int × Int × Int) : FnC Tryz.prog 52 [.agg [.int .i64 F.1, .int .i64 F.2.1, .int .i64 F.2.2], .agg [.int .i64 G.1, .int .i64 G.2.1, .int .i64 G.2.2]] [] (.agg [.int .i64 (lst3 F G).1, .int .i64 (lst3 F G).2.1, .int .i64 (lst3 F G).2.2]) [] := by
  obtain ⟨a0, a1, a2⟩ := F
  obtain ⟨b0, b1, b2⟩ := G
  exact least_spec a0 a1 a2 b0 b1 b2
theorem sraise_spec (D : DS) (S : SS) (F : Int × Int × Int) (x : ST) (total batch next : Int) (gone : Bool) (key high : Int) :
    FnC Tryz.prog 54 [.ref 3 [], .int .i64 key, .int .i64 high] (sgO 4 5 D S F x total batch next gone) (.tup []) (sgO 6 7 D S (lst3 F (x.gen, key, high)) x total batch next gone) := by
  refine fnV mix plSr 4 6 3 [] Tryz.func54 rfl (by kernel_rfl) (by kernel_rfl) rfl (by kernel_rfl) (by kernel_rfl) (by simp) rfl rfl ?_
  simp (implicitDefEqProofs := false) (disch := omega) only [go_sem, ↓reduceIte]
  refine callG false [(0, 2)] [(0, 2)] 6 (raise3_spec F x.gen key high) ?_ ?_
  · simp [keys]
  simp (implicitDefEqProofs := false) (disch := omega) only [go_sem, ↓reduceIte]
  refine ⟨[(0, 0), (1, 1), (2, 2), (3, 3), (6, 4), (7, 5)], [], [], rfl, ?_, ?_, ?_⟩ <;> simp (implicitDefEqProofs := false) (disch := omega) only [go_sem, ↓reduceIte]
theorem store_spec (D : DS) (h : okD D) (hw : D.wait.length ≤ 90000) (S : SS) (hg : S.gone = false) (hT : S.turn ≤ 4611686018427387000) (F : Int × Int × Int) (x y : ST) (hm : y.msg.length ≤ 200) (hs : 272 ≤ D.sz) (total batch next : Int) :
    FnC Tryz.prog 55 [.ref 3 [], sgstV y] (sgO 4 5 D S F x total batch next false) (.int .i64 (if (replD D S (tx y)).1 = 0 then 0 else 9))
      (sgO 6 7 (replD D S (tx y)).2.1 (replD D S (tx y)).2.2 F (if (replD D S (tx y)).1 = 0 then y else x) total batch next (decide ((replD D S (tx y)).1 ≠ 0))) := by
  have k1 := row_spec y.msg (by omega) [y.gen, y.key, y.res, y.lk, y.li] rfl
  have k2 := replace_own D h hw S hg hT (tx y) (54 + y.msg.length) (tx_len y) (by omega)
  have et : rowS [y.gen, y.key, y.res, y.lk, y.li] y.msg = tx y := rfl
  rw [et] at k1
  generalize tx y = Y at *
  generalize replD D S Y = R at *
  obtain ⟨r, D', S'⟩ := R
  dsimp only at k2 ⊢
  by_cases c : r = 0
  · subst c
    rw [if_pos rfl, if_pos rfl, decide_eq_false (fun h => h rfl)]
    refine fnV mix plSs 4 6 2 [.tmp 4] Tryz.func55 rfl (by kernel_rfl) (by kernel_rfl) rfl (by kernel_rfl) (by kernel_rfl) (by simp) rfl rfl ?_
    simp (implicitDefEqProofs := false) (disch := omega) only [go_sem, ↓reduceIte]
    refine callBF 1 k1 ?_ ?_
    · simp (implicitDefEqProofs := false) (disch := omega) only [go_sem, ↓reduceIte]
    simp (implicitDefEqProofs := false) (disch := omega) only [go_sem, ↓reduceIte]
    refine callG false [(6, 8), (0, 0), (1, 1), (2, 4), (3, 5)] [(0, 0), (1, 1), (4, 9), (5, 10)] 11 k2 ?_ ?_
    · simp [keys]
    simp (implicitDefEqProofs := false) (disch := omega) only [go_sem, ↓reduceIte]
    refine ⟨[(0, 0), (1, 1), (2, 2), (3, 3), (6, 9), (7, 10)], [], [], rfl, ?_, ?_, ?_⟩ <;> simp (implicitDefEqProofs := false) (disch := omega) only [go_sem, ↓reduceIte]
  · rw [if_neg c, if_neg c, decide_eq_true c]
    have d1 : decide (r = 0) = false := decide_eq_false c
    refine fnV mix plSs 4 6 2 [.tmp 4] Tryz.func55 rfl (by kernel_rfl) (by kernel_rfl) rfl (by kernel_rfl) (by kernel_rfl) (by simp) rfl rfl ?_
    simp (implicitDefEqProofs := false) (disch := omega) only [go_sem, ↓reduceIte]
    refine callBF 1 k1 ?_ ?_
    · simp (implicitDefEqProofs := false) (disch := omega) only [go_sem, ↓reduceIte]
    simp (implicitDefEqProofs := false) (disch := omega) only [go_sem, ↓reduceIte]
    refine callG false [(6, 8), (0, 0), (1, 1), (2, 4), (3, 5)] [(0, 0), (1, 1), (4, 9), (5, 10)] 11 k2 ?_ ?_
    · simp [keys]
    simp (implicitDefEqProofs := false) (disch := omega) only [go_sem, ↓reduceIte, d1]
    refine ⟨[(0, 0), (1, 1), (2, 2), (3, 3), (6, 9), (7, 10)], [], [], rfl, ?_, ?_, ?_⟩ <;> simp (implicitDefEqProofs := false) (disch := omega) only [go_sem, ↓reduceIte]
theorem may_spec (D : DS) (S : SS) (F : Int × Int × Int) (x : ST) (total batch next : Int) (m : List Int) (n : Nat) (hn : m.length = n) (hnl : n ≤ 9223372036854775807) :
    FnC Tryz.prog 83 [.ref 3 [], .sl (.ints .u8 n m)] (sgO 4 5 D S F x total batch next false) (.int .i64 (if n = 0 ∨ 200 < n then 1 else 0)) (sgO 6 7 D S F x total batch next false) := by
  by_cases c0 : n = 0
  · subst c0
    rw [if_pos (.inl rfl)]
    refine fnV mix [] 4 6 2 [.tmp 4] Tryz.func83 rfl (by kernel_rfl) (by kernel_rfl) rfl (by kernel_rfl) (by kernel_rfl) (by simp) rfl rfl ?_
    simp (implicitDefEqProofs := false) (disch := omega) only [go_sem, ↓reduceIte]
    refine ⟨[(0, 0), (1, 1), (2, 2), (3, 3), (6, 4), (7, 5)], [], [], rfl, ?_, ?_, ?_⟩ <;> simp (implicitDefEqProofs := false) (disch := omega) only [go_sem, ↓reduceIte]
  have d0 : decide ((n : Int) = 0) = false := decide_eq_false (by omega)
  by_cases c1 : 200 < n
  · rw [if_pos (.inr c1)]
    have d1 : decide (200 < (n : Int)) = true := decide_eq_true (by omega)
    refine fnV mix [] 4 6 2 [.tmp 4] Tryz.func83 rfl (by kernel_rfl) (by kernel_rfl) rfl (by kernel_rfl) (by kernel_rfl) (by simp) rfl rfl ?_
    simp (implicitDefEqProofs := false) (disch := omega) only [go_sem, ↓reduceIte, d0, d1]
    refine ⟨[(0, 0), (1, 1), (2, 2), (3, 3), (6, 4), (7, 5)], [], [], rfl, ?_, ?_, ?_⟩ <;> simp (implicitDefEqProofs := false) (disch := omega) only [go_sem, ↓reduceIte]
  · rw [if_neg (by omega)]
    have d1 : decide (200 < (n : Int)) = false := decide_eq_false (by omega)
    refine fnV mix [] 4 6 2 [.tmp 4] Tryz.func83 rfl (by kernel_rfl) (by kernel_rfl) rfl (by kernel_rfl) (by kernel_rfl) (by simp) rfl rfl ?_
    simp (implicitDefEqProofs := false) (disch := omega) only [go_sem, ↓reduceIte, d0, d1]
    refine ⟨[(0, 0), (1, 1), (2, 2), (3, 3), (6, 4), (7, 5)], [], [], rfl, ?_, ?_, ?_⟩ <;> simp (implicitDefEqProofs := false) (disch := omega) only [go_sem, ↓reduceIte]
theorem skey_spec (D : DS) (S : SS) (F : Int × Int × Int) (x : ST) (total batch next : Int) (gone : Bool) : FnC Tryz.prog 38 [.ref 3 []] (sgO 4 5 D S F x total batch next gone) (.int .i64 x.key) (sgO 6 7 D S F x total batch next gone) := by
  refine fnV mix [] 4 6 1 [.tmp 2] Tryz.func38 rfl (by kernel_rfl) (by kernel_rfl) rfl (by kernel_rfl) (by kernel_rfl) (by simp) rfl rfl ?_
  simp (implicitDefEqProofs := false) (disch := omega) only [go_sem, ↓reduceIte]
  refine ⟨[(0, 0), (1, 1), (2, 2), (3, 3), (6, 4), (7, 5)], [], [], rfl, ?_, ?_, ?_⟩ <;> simp (implicitDefEqProofs := false) (disch := omega) only [go_sem, ↓reduceIte]
end Go.Proofs.YtjaailbgeadnnaaGreat
