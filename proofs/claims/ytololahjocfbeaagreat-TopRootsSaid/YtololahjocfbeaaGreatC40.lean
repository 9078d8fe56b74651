/- Texts, joined. -/
import Derived.Test.YtololahjocfbeaaGreatC39
import Derived.Test.YtololahjocfbeaaGreatC12
import Derived.Test.YtololahjocfbeaaGreatC20
import Derived.Test.YtololahjocfbeaaGreatC22
import Derived.Test.YtololahjocfbeaaGreatC27
import Derived.Test.YtololahjocfbeaaGreatC32
import Derived.Test.YtololahjocfbeaaGreatC33
namespace Go.Proofs.YtololahjocfbeaaGreat
open Go Go.Sy Go.Proofs.Tryz
set_option maxRecDepth 100000
set_option maxHeartbeats 8000000
set_option linter.unusedSimpArgs false
set_option linter.unusedVariables false
def growsP (a : List Int) (m : Int) (b : List Int) (n : Int) (W : List (List Int)) : Prop := 1 ≤ m ∧ m ≤ n ∧ n ≤ 200 ∧ depG n.toNat m.toNat n.toNat false = W.length ∧ groV a W n.toNat m.toNat n.toNat false = (a, b)
instance (a : List Int) (m : Int) (b : List Int) (n : Int) (W : List (List Int)) : Decidable (growsP a m b n W) := by unfold growsP; infer_instance
theorem grows_spec (a b : List Int) (m n : Int) (W : List (List Int)) (L : Nat) (ha : goodD a) (hb : goodD b) (hW : W.length = L) (hL : L ≤ 1000000) (hg : ∀ d ∈ W, goodD d) :
    FnC Tryz.prog 92 [.ints .u8 32 a, .int .i64 m, .ints .u8 32 b, .int .i64 n, .sl (.lst 32 L (W.map dg))] [] (.bool (decide (growsP a m b n W))) [] := by
  refine fn0 mix [] 0 5 [.tmp 10] Tryz.func92 rfl (by kernel_rfl) (by kernel_rfl) rfl (by kernel_rfl) (by kernel_rfl) (by simp) ?_
  simp -implicitDefEqProofs (disch := omega) only [go_sem, ↓reduceIte]
  refine brd (fun h => ?_) (fun h1 => ?_)
  · have h := h
    have e : decide (growsP a m b n W) = false := decide_eq_false (fun h => by unfold growsP at h; omega)
    rw [e]
    simp -implicitDefEqProofs (disch := omega) only [go_sem, ↓reduceIte]
  simp -implicitDefEqProofs (disch := omega) only [go_sem, ↓reduceIte]
  refine brd (fun h => ?_) (fun h2 => ?_)
  · have h := h
    have e : decide (growsP a m b n W) = false := decide_eq_false (fun h => by unfold growsP at h; omega)
    rw [e]
    simp -implicitDefEqProofs (disch := omega) only [go_sem, ↓reduceIte]
  simp -implicitDefEqProofs (disch := omega) only [go_sem, ↓reduceIte]
  refine brd (fun h => ?_) (fun h3 => ?_)
  · have h := h
    have e : decide (growsP a m b n W) = false := decide_eq_false (fun h => by unfold growsP at h; omega)
    rw [e]
    simp -implicitDefEqProofs (disch := omega) only [go_sem, ↓reduceIte]
  obtain ⟨M, rfl⟩ := Int.eq_ofNat_of_zero_le (show 0 ≤ m by omega)
  obtain ⟨N, rfl⟩ := Int.eq_ofNat_of_zero_le (show 0 ≤ n by omega)
  obtain ⟨o, w, ho, hw, hv, hc⟩ := gup_spec a ha W L hW hL hg N M N false (Nat.le_refl _) (by omega) (by omega) (by omega)
  have e : decide (growsP a M b N W) = decide (depG N M N false = L ∧ groV a W N M N false = (a, b)) := by
    apply decide_eq_decide.2
    unfold growsP
    rw [Int.toNat_natCast, Int.toNat_natCast, hW]
    constructor
    · intro h; exact ⟨h.2.2.2.1, h.2.2.2.2⟩
    · intro h; exact ⟨by omega, by omega, by omega, h.1, h.2⟩
  rw [e]
  generalize depG N M N false = D at *
  generalize groV a W N M N false = V at *
  simp -implicitDefEqProofs (disch := omega) only [go_sem, ↓reduceIte]
  refine callG false [(0, 0), (1, 3), (2, 4), (3, 2)] [(0, 0), (1, 3), (2, 4), (3, 2)] 5 hc ?_ ?_
  · simp [keys]
  by_cases c1 : D ≤ L
  · rw [decide_eq_true c1]
    by_cases c2 : D = L
    · subst c2
      have hv := hv (Nat.le_refl _)
      have e2 : decide (D = D ∧ V = (a, b)) = (decide (o = a) && decide (w = b)) := by
        rw [← hv]; simp
      rw [Nat.sub_self, e2]
      simp -implicitDefEqProofs (disch := omega) only [go_sem, ↓reduceIte]
      by_cases c3 : o = a
      · have e3 : decide (o = a) = true := decide_eq_true c3
        simp -implicitDefEqProofs (disch := omega) only [go_sem, ↓reduceIte, e3]
      · have e3 : decide (o = a) = false := decide_eq_false c3
        simp -implicitDefEqProofs (disch := omega) only [go_sem, ↓reduceIte, e3]
    · have e2 : decide (D = L ∧ V = (a, b)) = false := decide_eq_false (fun h => c2 h.1)
      rw [e2]
      have e3 : decide (((L - D : Nat) : Int) = 0) = false := decide_eq_false (by omega)
      have e4 : ¬ L - D = 0 := by omega
      simp -implicitDefEqProofs (disch := omega) only [go_sem, ↓reduceIte, e3, e4]
  · rw [decide_eq_false c1]
    have e2 : decide (D = L ∧ V = (a, b)) = false := decide_eq_false (fun h => c1 (by omega))
    rw [e2]
    simp -implicitDefEqProofs (disch := omega) only [go_sem, ↓reduceIte]
attribute [go_sem] pl51
theorem headT_len (k e : Int) {t l : List Int} (ht : t.length = 32) (hl : l.length = 32) : (headT k e t l).length = 81 := by
  unfold headT nums dcat
  simp [be_len, ht, hl]
theorem cat1 (a : List Int) : cat [a] = a := by simp [cat]
section
variable (root pub r : List Int) (ht : goodD root) (hp : goodD pub) (hrg : goodD r)
include ht hp hrg in
theorem head22_spec (a b i : Int) (sg : List Part) (hg : ∀ p ∈ sg, goodPt p) (hsl : sg.length ≤ 9223372036854775807) (hi : i < 9223372036854775808) (k e : Int) (t l : List Int) (h1 : goodD t) (h2 : goodD l) :
    FnC Tryz.prog 51 [.agg [.agg [.int .i64 a, .int .i64 b], .ints .u8 32 root, .ints .u8 32 pub], .agg [.int .i64 k, .int .i64 e, .ints .u8 32 t, .ints .u8 32 l], .agg [.int .i64 i, .ints .u8 32 r, .sl (.lst 2 sg.length (sg.map pt))]] []
      (.bool (decide (formedP a b i sg ∧ vK pub (msgD r root i (headT k e t l)) b.toNat i.toNat sg sg.length = root))) [] := by
  have hv := verify_spec root pub r ht hp hrg a b i sg [headT k e t l] hg hsl hi (fun p hp x hx => by rw [List.mem_singleton] at hp; subst hp; exact headT_mem k e h1.2 h2.2 x hx) (by rw [cat1, headT_len k e h1.1 h2.1]; decide) (by simp)
  rw [cat1] at hv
  have hb : bsl (headT k e t l) = .sl (.ints .u8 81 (headT k e t l)) := by unfold bsl; rw [headT_len k e h1.1 h2.1]
  rw [List.map_cons, List.map_nil, hb] at hv
  refine fn0 mix pl51 0 3 [.tmp 6] Tryz.func51 rfl (by kernel_rfl) (by kernel_rfl) rfl (by kernel_rfl) (by kernel_rfl) (by simp) ?_
  simp -implicitDefEqProofs (disch := omega) only [go_sem, ↓reduceIte]
  refine callF 1 (headText_spec k e t l) ?_
  simp -implicitDefEqProofs (disch := omega) only [go_sem, ↓reduceIte]
  refine callB hv ?_ ?_
  · simp -implicitDefEqProofs (disch := omega) only [go_sem, ↓reduceIte]
  simp -implicitDefEqProofs (disch := omega) only [go_sem, ↓reduceIte]
end
theorem grows22_spec (a b t t' : List Int) (k k' m n : Int) (W : List (List Int)) (L : Nat) (ha : goodD a) (hb : goodD b) (hW : W.length = L) (hL : L ≤ 1000000) (hg : ∀ d ∈ W, goodD d) :
    FnC Tryz.prog 41 [.agg [.int .i64 k, .int .i64 m, .ints .u8 32 t, .ints .u8 32 a], .agg [.int .i64 k', .int .i64 n, .ints .u8 32 t', .ints .u8 32 b], .sl (.lst 32 L (W.map dg))] [] (.bool (decide (growsP a m b n W))) [] := by
  refine fn0 mix [] 0 3 [.tmp 6] Tryz.func41 rfl (by kernel_rfl) (by kernel_rfl) rfl (by kernel_rfl) (by kernel_rfl) (by simp) ?_
  simp -implicitDefEqProofs (disch := omega) only [go_sem, ↓reduceIte]
  refine call0 (grows_spec a b m n W L ha hb hW hL hg) ?_
  simp -implicitDefEqProofs (disch := omega) only [go_sem, ↓reduceIte]
section
variable (na ma : List Int) (a n b : Int) (y : Dy) (sg : List Sn)
theorem wdir_spec : FnC Tryz.prog 18 [.ref 6 []] (wO na ma a n b y sg 7 8 9 10 11 12 13 14) (.ref 5 []) (wO na ma a n b y sg 15 16 17 18 19 20 21 22) := by
  refine fnV mix [] 7 15 1 [.tmp 2] Tryz.func18 rfl (by kernel_rfl) (by kernel_rfl) rfl (by kernel_rfl) (by kernel_rfl) (by simp) rfl rfl ?_
  simp -implicitDefEqProofs (disch := omega) only [go_sem, ↓reduceIte]
  refine ⟨[(0, 0), (1, 1), (2, 2), (3, 3), (4, 4), (5, 5), (6, 6), (15, 7), (16, 8), (17, 9), (18, 10), (19, 11), (20, 12), (21, 13), (22, 14)], [], [], rfl, ?_, ?_, ?_⟩ <;> simp -implicitDefEqProofs (disch := omega) only [go_sem, ↓reduceIte]
theorem wsigned_spec (hl : sg.length ≤ 1000) : FnC Tryz.prog 13 [.ref 6 []] (wO na ma a n b y sg 7 8 9 10 11 12 13 14) (.osl 23 [] 36 0 sg.length) (wO na ma a n b y sg 15 16 17 18 19 20 21 22 ++ [(23, .row (.lst 36 sg.length (sg.map snV)))]) := by
  refine fnV mix [] 7 15 1 [.tmp 2] Tryz.func13 rfl (by kernel_rfl) (by kernel_rfl) rfl (by kernel_rfl) (by kernel_rfl) (by simp) rfl rfl ?_
  simp -implicitDefEqProofs (disch := omega) only [go_sem, ↓reduceIte, List.nil_append]
  refine ⟨[(0, 0), (1, 1), (2, 2), (3, 3), (4, 4), (5, 5), (6, 6), (15, 7), (16, 8), (17, 9), (18, 10), (19, 11), (20, 12), (21, 13), (22, 14), (23, 16)], [], [], rfl, ?_, ?_, ?_⟩ <;> simp -implicitDefEqProofs (disch := omega) only [go_sem, ↓reduceIte]
end
theorem run_own (na ma : List Int) (a n : Int) (y : Dy) (s : Sn) (c2 : Int) (ns : Nat)
    (h : FnC Tryz.prog 12 [cfgV a n 1 ma na, .int .i64 ns, .int .i64 400, .sl (.lst 5 3 [actC (.sl (.ints .u8 1 [97])), actP, actP])] [] (.tup [.ref 6 [], .osl 15 [] 1 0 3, .int .i64 0]) (wO na ma a n 1 y [s] 7 8 9 10 11 12 13 14 ++ [(15, .row (.ints .i64 3 [0, 0, c2]))])) :
    FnC Tryz.prog 12 [cfgV a n 1 ma na, .int .i64 ns, .int .i64 400, .osl 17 [] 5 0 3] [(16, .row (.ints .u8 1 [97])), (17, .row (.arr 5 [actC (.osl 16 [] 1 0 1), actP, actP]))] (.tup [.ref 6 [], .osl 15 [] 1 0 3, .int .i64 0]) (wO na ma a n 1 y [s] 7 8 9 10 11 12 13 14 ++ [(15, .row (.ints .i64 3 [0, 0, c2]))]) := by
  refine h.sub [] [] [16, 17] rfl ?_ ?_
  · simp -implicitDefEqProofs (disch := omega) only [go_sem, ↓reduceIte]
  · simp -implicitDefEqProofs (disch := omega) only [go_sem, ↓reduceIte]
theorem head_true (ma : List Int) (a n : Nat) (ha : 1 ≤ a ∧ a ≤ 4) (hn : 1 ≤ n ∧ n ≤ 4) (k : Int) (idx : Nat) (hi : idx < manyD a n) (kk ep : Int) (t l : List Int) (h1 : goodD t) (h2 : goodD l) :
    FnC Tryz.prog 51 [.agg [.agg [.int .i64 a, .int .i64 n], .ints .u8 32 (keyR (secK ma k 1) (secK ma k 3) a n), .ints .u8 32 (secK ma k 3)], .agg [.int .i64 kk, .int .i64 ep, .ints .u8 32 t, .ints .u8 32 l],
      .agg [.int .i64 idx, .ints .u8 32 (sgR ma k idx), .sl (.lst 2 a ((sgP a n ma k idx (headT kk ep t l)).map pt))]] [] (.bool true) [] := by
  have hro := root_own (secK ma k 1) (secK ma k 3) ha hn hi
  have hMg : goodD (msgD (sgR ma k idx) (keyR (secK ma k 1) (secK ma k 3) a n) idx (headT kk ep t l)) := ofD_good _ _ _
  have hvo := vK_own (seed := secK ma k 1) (pub := secK ma k 3) hMg n idx a a (Nat.le_refl _)
  rw [hro _] at hvo
  have hle : (sgP a n ma k idx (headT kk ep t l)).length = a := partsK_len _ _ _ _ _ _
  have hgp : ∀ p ∈ sgP a n ma k idx (headT kk ep t l), goodPt p := fun p h => by
    obtain ⟨k, _, rfl⟩ := partsK_mem h
    exact partK_good _ _ _ _
  have hok : ∀ p ∈ sgP a n ma k idx (headT kk ep t l), p.1.length = 67 ∧ p.2.length = n := fun p h => by
    obtain ⟨k, _, rfl⟩ := partsK_mem h
    exact ⟨rowN_len _ _, wayD_len _ _ _ _ _ _⟩
  have hma := manyD_le a n
  have hmb : (2 : Nat) ^ ((a : Int) * n).toNat ≤ 2 ^ 16 := Nat.pow_le_pow_right (by decide) (by
    have : ((a : Int) * n) ≤ 16 := by
      have := Nat.mul_le_mul ha.2 hn.2
      exact_mod_cast this
    omega)
  have v := head22_spec (keyR (secK ma k 1) (secK ma k 3) a n) (secK ma k 3) (sgR ma k idx) (keyR_good _ _ _ _) (secK_good _ _ _) (rD_good _ _) a n idx (sgP a n ma k idx (headT kk ep t l)) hgp (by rw [hle]; omega) (by omega) kk ep t l h1 h2
  have hd : formedP a n idx (sgP a n ma k idx (headT kk ep t l)) ∧ vK (secK ma k 3) (msgD (sgR ma k idx) (keyR (secK ma k 1) (secK ma k 3) a n) idx (headT kk ep t l)) ((n : Int)).toNat ((idx : Int)).toNat (sgP a n ma k idx (headT kk ep t l)) (sgP a n ma k idx (headT kk ep t l)).length = keyR (secK ma k 1) (secK ma k 3) a n := by
    refine ⟨⟨by omega, by omega, by omega, fun p h => ⟨(hok p h).1, by have := (hok p h).2; omega⟩⟩, ?_⟩
    rw [hle, Int.toNat_natCast, Int.toNat_natCast]
    exact hvo
  rw [decide_eq_true hd, hle] at v
  exact v
def plWk : List (Nat × Plan) := [(6, [(0, [], none), (1, [], none), (2, [], none), (3, [], none), (4, [], some [57]), (5, [], none), (6, [3, 4, 5], none), (7, [3, 4, 5, 6], none), (8, [], none), (9, [], none), (10, [], none)])]
attribute [go_sem] plWk
theorem works_spec : FnC Tryz.prog 11 [] [] (.bool true) [] := by
  have hr : rightP ((1 : Nat) : Int) ((1 : Nat) : Int) := by decide
  obtain ⟨y1, y2, y3, s, e, h0, h1, h2, he, heg, hix, hke⟩ := two_acts 1 1 (by decide) (by decide) (by decide) zs zs zs_good zs_good
  have kr := run_own zs zs _ _ y3 s 6 6 (run_three 6 zs zs _ _ (yN 6) y1 y2 y3 s 6 (wnew_spec 6 (by decide) _ _ zs zs hr) h0 h1 h2)
  have kg := wsigned_spec zs zs ((1 : Nat) : Int) ((1 : Nat) : Int) 1 y3 [s] (by simp)
  have kd := wdir_spec zs zs ((1 : Nat) : Int) ((1 : Nat) : Int) 1 y3 [s]
  have kh := head_own zs zs 1 1 1 y3 zs_good (by decide) (by decide) 0 e (by rw [he]; rfl) (by rw [he]; simp) (fun x hx => by rw [he, List.mem_singleton] at hx; rw [hx]; exact heg) 0 hix (by decide)
  have hR := hdF_good y3.es 0 e.tree
  have kp := public_pp zs (bookP zs y3) rfl [.pp (dskP y3.D) [], .pp (sgPP y3 (manyD ((1 : Nat) : Int) ((1 : Nat) : Int)) 1) [], .pp (slPA 2 y3.D y3.S2) [], .int .i64 y3.size, wtP y3.ps, .bool y3.gone] ((1 : Nat) : Int) ((1 : Nat) : Int) 1 zs zs_good hr 0
  have kv := head_true zs 1 1 (by decide) (by decide) e.key 0 (by decide) e.key (((0 : Nat) : Int) + 1) e.tree (hdF y3.es 0 e.tree) heg hR
  rw [← hke] at kp
  generalize sgP 1 1 zs e.key 0 (headT e.key (((0 : Nat) : Int) + 1) e.tree (hdF y3.es 0 e.tree)) = Z at *
  generalize hdF y3.es 0 e.tree = R at *
  generalize sgR zs e.key 0 = RR at *
  generalize keyR (secK zs e.key 1) (secK zs e.key 3) ((1 : Nat) : Int) ((1 : Nat) : Int) = K at *
  generalize secK zs e.key 3 = K3 at *
  rw [hke] at kp kh kv
  dsimp only [dirOW, dirOg, wO, List.cons_append, List.nil_append, List.length_cons, List.length_nil] at kr kg kd kh
  simp only [Int.natCast_zero, Int.natCast_one, Int.zero_add, Int.cast_ofNat_Int] at kr kg kd kh kp kv
  unfold zs at kr kg kd kh kp
  refine fn0 mix plWk 0 0 [.tmp 0] Tryz.func11 rfl (by kernel_rfl) (by kernel_rfl) rfl (by kernel_rfl) (by kernel_rfl) (by simp) ?_
  simp -implicitDefEqProofs (disch := omega) only [go_sem, ↓reduceIte]
  refine callG false [(16, 1), (17, 2)] [(0, 3), (1, 4), (2, 5), (3, 6), (4, 7), (5, 8), (6, 9), (7, 10), (8, 11), (9, 12), (10, 13), (11, 14), (12, 15), (13, 16), (14, 17), (15, 18)] 19 kr ?_ ?_
  · simp [keys]
  simp -implicitDefEqProofs (disch := omega) only [go_sem, ↓reduceIte]
  refine callG false [(0, 3), (1, 4), (2, 5), (3, 6), (4, 7), (5, 8), (6, 9), (7, 10), (8, 11), (9, 12), (10, 13), (11, 14), (12, 15), (13, 16), (14, 17)] [(0, 3), (1, 4), (2, 5), (3, 6), (4, 7), (5, 8), (6, 9), (15, 19), (16, 20), (17, 21), (18, 22), (19, 23), (20, 24), (21, 25), (22, 26), (23, 27)] 28 kg ?_ ?_
  · simp [keys]
  simp -implicitDefEqProofs (disch := omega) only [go_sem, ↓reduceIte]
  refine callG false [(0, 3), (1, 4), (2, 5), (3, 6), (4, 7), (5, 8), (6, 9), (7, 19), (8, 20), (9, 21), (10, 22), (11, 23), (12, 24), (13, 25), (14, 26)] [(0, 3), (1, 4), (2, 5), (3, 6), (4, 7), (5, 8), (6, 9), (15, 28), (16, 29), (17, 30), (18, 31), (19, 32), (20, 33), (21, 34), (22, 35)] 36 kd ?_ ?_
  · simp [keys]
  simp -implicitDefEqProofs (disch := omega) only [go_sem, ↓reduceIte]
  refine callG false [(0, 3), (1, 4), (2, 5), (3, 6), (4, 7), (5, 8), (6, 28), (7, 29), (8, 30), (9, 31), (10, 32), (11, 33), (12, 34)] [(0, 3), (1, 4), (2, 5), (3, 6), (4, 7), (5, 8), (13, 36), (14, 37), (15, 38), (16, 39), (17, 40), (18, 41), (19, 42), (20, 43)] 44 kh ?_ ?_
  · simp [keys]
  simp -implicitDefEqProofs (disch := omega) only [go_sem, ↓reduceIte]
  refine callG false [(0, 3), (1, 4), (2, 5), (3, 6), (4, 7), (5, 8), (6, 9), (7, 36), (8, 37), (9, 38), (10, 39), (11, 40), (12, 41), (13, 42), (14, 35)] [(0, 3), (1, 4), (2, 5), (3, 6), (4, 7), (5, 8), (6, 9), (15, 46), (16, 47), (17, 48), (18, 49), (19, 50), (20, 51), (21, 52), (22, 53)] 54 kd ?_ ?_
  · simp [keys]
  simp -implicitDefEqProofs (disch := omega) only [go_sem, ↓reduceIte]
  refine callB kp ?_ ?_
  · simp -implicitDefEqProofs (disch := omega) only [go_sem, ↓reduceIte]
  simp -implicitDefEqProofs (disch := omega) only [go_sem, ↓reduceIte]
  refine callB kv ?_ ?_
  · simp -implicitDefEqProofs (disch := omega) only [go_sem, ↓reduceIte]
  simp -implicitDefEqProofs (disch := omega) only [go_sem, ↓reduceIte]
def pairL (a b : List Int) : List Int := 1 :: (a ++ b)
theorem sum_pair (a b : List Int) : sumD (pairL a b) = nodeL a b := rfl
theorem pair_inj_left {a b a' b' : List Int} (h : pairL a b = pairL a' b') (hl : a.length = a'.length) : a = a' ∧ b = b' := by
  unfold pairL at h
  exact List.append_inj (List.cons.inj h).2 hl
theorem pair_inj_right {a b a' b' : List Int} (h : pairL a b = pairL a' b') (hl : b.length = b'.length) : a = a' ∧ b = b' := by
  unfold pairL at h
  exact List.append_inj' (List.cons.inj h).2 hl
def growT (a : List Int) (W : List (List Int)) : Nat → Nat → Nat → Bool → List (List Int)
  | 0, _, _, _ => []
  | f + 1, m, n, cut => if m = n then [] else if m ≤ halfN n then pairL (groV a W f m (halfN n) cut).2 (W.getD (depG f m (halfN n) cut) []) :: growT a W f m (halfN n) cut
    else pairL (W.getD (depG f (m - halfN n) (n - halfN n) true) []) (groV a W f (m - halfN n) (n - halfN n) true).2 :: growT a W f (m - halfN n) (n - halfN n) true
theorem growT_lo (a : List Int) (W : List (List Int)) (f : Nat) {m n : Nat} (cut : Bool) (h : m ≠ n) (hi : m ≤ halfN n) : growT a W (f + 1) m n cut = pairL (groV a W f m (halfN n) cut).2 (W.getD (depG f m (halfN n) cut) []) :: growT a W f m (halfN n) cut := by rw [growT, if_neg h, if_pos hi]
theorem growT_hi (a : List Int) (W : List (List Int)) (f : Nat) {m n : Nat} (cut : Bool) (h : m ≠ n) (hi : ¬ m ≤ halfN n) : growT a W (f + 1) m n cut = pairL (W.getD (depG f (m - halfN n) (n - halfN n) true) []) (groV a W f (m - halfN n) (n - halfN n) true).2 :: growT a W f (m - halfN n) (n - halfN n) true := by rw [growT, if_neg h, if_neg hi]
def PartsAt (T T' : List (List Int)) (p : Nat) : Prop := p < T.length ∧ p < T'.length ∧ (∀ j, j < p → T.getD j [] = T'.getD j []) ∧ T.getD p [] ≠ T'.getD p []
def Found (T T' : List (List Int)) : Prop := ∃ p, PartsAt T T' p ∧ sumD (T.getD p []) = sumD (T'.getD p [])
theorem found_head {h h' : List Int} {T T' : List (List Int)} (hs : sumD h = sumD h') (k : h = h' → Found T T') : Found (h :: T) (h' :: T') := by
  by_cases e : h = h'
  · obtain ⟨p, ⟨h1, h2, h3, h4⟩, h5⟩ := k e
    refine ⟨p + 1, ⟨by simpa using h1, by simpa using h2, fun j hj => ?_, by simpa using h4⟩, by simpa using h5⟩
    cases j with
    | zero => simpa using e
    | succ j => simpa using h3 j (by omega)
  · exact ⟨0, ⟨by simp, by simp, fun j hj => by omega, by simpa using e⟩, by simpa using hs⟩
theorem groV_good {a : List Int} (ha : goodD a) {W : List (List Int)} (hW : ∀ d ∈ W, goodD d) : ∀ (f m n : Nat) (cut : Bool), depG f m n cut ≤ W.length → goodD (groV a W f m n cut).1 ∧ goodD (groV a W f m n cut).2 := by
  intro f
  induction f with
  | zero => intro m n cut _; exact ⟨ha, ha⟩
  | succ f ih =>
    intro m n cut h
    by_cases c1 : m = n
    · subst c1
      rw [depG_eq] at h
      rw [groV_eq]
      cases cut
      · rw [if_neg (by decide)]; exact ⟨ha, ha⟩
      · rw [if_pos rfl] at h ⊢
        have := getD_good hW (show 0 < W.length by omega)
        exact ⟨this, this⟩
    by_cases c2 : m ≤ halfN n
    · rw [depG_lo f cut c1 c2] at h
      rw [groV_lo _ _ f cut c1 c2]
      exact ⟨(ih m (halfN n) cut (by omega)).1, nodeL_good _ _⟩
    · rw [groV_hi _ _ f cut c1 c2]
      exact ⟨nodeL_good _ _, nodeL_good _ _⟩
theorem grow_found {a a' : List Int} (ha : goodD a) (ha' : goodD a') {W W' : List (List Int)} (hW : ∀ d ∈ W, goodD d) (hW' : ∀ d ∈ W', goodD d) : ∀ (f m n : Nat) (cut : Bool), n ≤ f → 1 ≤ m → m ≤ n →
    depG f m n cut ≤ W.length → depG f m n cut ≤ W'.length → (groV a W f m n cut).2 = (groV a' W' f m n cut).2 → (groV a W f m n cut).1 ≠ (groV a' W' f m n cut).1 → Found (growT a W f m n cut) (growT a' W' f m n cut) := by
  intro f
  induction f with
  | zero => intro m n cut h1 h2; omega
  | succ f ih =>
    intro m n cut h1 h2 h3 h4 h5 h6 h7
    by_cases c1 : m = n
    · subst c1
      rw [groV_eq, groV_eq] at h6 h7
      cases cut
      · rw [if_neg (by decide), if_neg (by decide)] at h6 h7; exact absurd h6 h7
      · rw [if_pos rfl, if_pos rfl] at h6 h7; exact absurd h6 h7
    have hk := halfN_lt (show 2 ≤ n by omega)
    by_cases c2 : m ≤ halfN n
    · rw [depG_lo f cut c1 c2] at h4 h5
      rw [groV_lo _ _ f cut c1 c2, groV_lo _ _ f cut c1 c2] at h6 h7
      rw [growT_lo _ _ f cut c1 c2, growT_lo _ _ f cut c1 c2]
      refine found_head (by rw [sum_pair, sum_pair]; exact h6) (fun e => ih _ _ _ (by omega) h2 c2 (by omega) (by omega) ?_ h7)
      exact (pair_inj_left e (by rw [(groV_good ha hW _ _ _ _ (by omega)).2.1, (groV_good ha' hW' _ _ _ _ (by omega)).2.1])).1
    · rw [depG_hi f cut c1 c2] at h4 h5
      rw [groV_hi _ _ f cut c1 c2, groV_hi _ _ f cut c1 c2] at h6 h7
      rw [growT_hi _ _ f cut c1 c2, growT_hi _ _ f cut c1 c2]
      refine found_head (by rw [sum_pair, sum_pair]; exact h6) (fun e => ?_)
      have e := pair_inj_right e (by rw [(groV_good ha hW _ _ _ _ (by omega)).2.1, (groV_good ha' hW' _ _ _ _ (by omega)).2.1])
      refine ih _ _ _ (by omega) (by omega) (by omega) (by omega) (by omega) e.2 (fun h => h7 ?_)
      dsimp only
      rw [e.1, h]
def stepT (W : List (List Int)) (r : Bool) (j : Nat) (x : List Int) : List Int := if r = true then pairL (W.getD j []) x else pairL x (W.getD j [])
def upTx (W : List (List Int)) : List Bool → Nat → List Int → List (List Int)
  | [], _, _ => []
  | r :: rs, j, x => stepT W r j x :: upTx W rs (j + 1) (sumD (stepT W r j x))
def upEnd (W : List (List Int)) : List Bool → Nat → List Int → List Int
  | [], _, x => x
  | r :: rs, j, x => upEnd W rs (j + 1) (sumD (stepT W r j x))
theorem up_snoc (W : List (List Int)) (r : Bool) : ∀ (rs : List Bool) (j : Nat) (x : List Int), upTx W (rs ++ [r]) j x = upTx W rs j x ++ [stepT W r (j + rs.length) (upEnd W rs j x)] ∧ upEnd W (rs ++ [r]) j x = sumD (stepT W r (j + rs.length) (upEnd W rs j x))
  | [], j, x => ⟨rfl, rfl⟩
  | q :: rs, j, x => by
    obtain ⟨h1, h2⟩ := up_snoc W r rs (j + 1) (sumD (stepT W q j x))
    have e : j + 1 + rs.length = j + (q :: rs).length := by simp only [List.length_cons]; omega
    rw [e] at h1 h2
    exact ⟨by rw [List.cons_append, upTx, h1]; rfl, by rw [List.cons_append, upEnd, h2]; rfl⟩
theorem upTx_len (W : List (List Int)) : ∀ (rs : List Bool) (j : Nat) (x : List Int), (upTx W rs j x).length = rs.length
  | [], _, _ => rfl
  | r :: rs, j, x => by rw [upTx, List.length_cons, upTx_len W rs, List.length_cons]
def toB : Nat → Nat → Nat → List Bool
  | 0, _, _ => []
  | f + 1, m, n => if m = n then [] else if m ≤ halfN n then false :: toB f m (halfN n) else true :: toB f (m - halfN n) (n - halfN n)
def cutF : Nat → Nat → Nat → Bool → Bool
  | 0, _, _, cut => cut
  | f + 1, m, n, cut => if m = n then cut else if m ≤ halfN n then cutF f m (halfN n) cut else cutF f (m - halfN n) (n - halfN n) true
theorem toB_len : ∀ (f m n : Nat) (cut : Bool), n ≤ f → 1 ≤ m → m ≤ n → (toB f m n).length + (if cutF f m n cut = true then 1 else 0) = depG f m n cut
  | 0, m, n, cut, h1, h2, h3 => by omega
  | f + 1, m, n, cut, h1, h2, h3 => by
    by_cases c1 : m = n
    · subst c1
      rw [toB, cutF, if_pos rfl, if_pos rfl, depG_eq, List.length_nil, Nat.zero_add]
    have hk := halfN_lt (show 2 ≤ n by omega)
    rw [toB, cutF, if_neg c1, if_neg c1]
    by_cases c2 : m ≤ halfN n
    · rw [if_pos c2, if_pos c2, depG_lo f cut c1 c2, ← toB_len f m (halfN n) cut (by omega) h2 c2, List.length_cons]; omega
    · rw [if_neg c2, if_neg c2, depG_hi f cut c1 c2, ← toB_len f (m - halfN n) (n - halfN n) true (by omega) (by omega) (by omega), List.length_cons]; omega
def gro0 (a : List Int) (W : List (List Int)) (c : Bool) : List Int := if c = true then W.getD 0 [] else a
def groW (W : List (List Int)) (c : Bool) : List (List Int) := if c = true then W.drop 1 else W
theorem groW_getD (W : List (List Int)) (c : Bool) (j : Nat) : (groW W c).getD j [] = W.getD (j + if c = true then 1 else 0) [] := by
  unfold groW
  cases c
  · rw [if_neg (by decide), if_neg (by decide), Nat.add_zero]
  · rw [if_pos rfl, if_pos rfl, drop_getD']; congr 1; omega
theorem grow_up (a : List Int) (W : List (List Int)) : ∀ (f m n : Nat) (cut : Bool), n ≤ f → 1 ≤ m → m ≤ n → upEnd (groW W (cutF f m n cut)) (toB f m n).reverse 0 (gro0 a W (cutF f m n cut)) = (groV a W f m n cut).2 ∧
    (upTx (groW W (cutF f m n cut)) (toB f m n).reverse 0 (gro0 a W (cutF f m n cut))).reverse = growT a W f m n cut
  | 0, m, n, cut, h1, h2, h3 => by omega
  | f + 1, m, n, cut, h1, h2, h3 => by
    by_cases c1 : m = n
    · subst c1
      rw [toB, cutF, growT, if_pos rfl, if_pos rfl, if_pos rfl, groV_eq]
      refine ⟨?_, rfl⟩
      show gro0 a W cut = _
      unfold gro0
      cases cut <;> rfl
    have hk := halfN_lt (show 2 ≤ n by omega)
    rw [toB, cutF, growT, if_neg c1, if_neg c1, if_neg c1]
    by_cases c2 : m ≤ halfN n
    · obtain ⟨i1, i2⟩ := grow_up a W f m (halfN n) cut (by omega) h2 c2
      have hl := toB_len f m (halfN n) cut (by omega) h2 c2
      rw [if_pos c2, if_pos c2, if_pos c2, groV_lo a W f cut c1 c2, List.reverse_cons, (up_snoc _ _ _ _ _).1, (up_snoc _ _ _ _ _).2, i1, List.reverse_append, i2]
      unfold stepT
      rw [groW_getD, List.length_reverse, Nat.zero_add, hl]
      exact ⟨rfl, rfl⟩
    · obtain ⟨i1, i2⟩ := grow_up a W f (m - halfN n) (n - halfN n) true (by omega) (by omega) (by omega)
      have hl := toB_len f (m - halfN n) (n - halfN n) true (by omega) (by omega) (by omega)
      rw [if_neg c2, if_neg c2, if_neg c2, groV_hi a W f cut c1 c2, List.reverse_cons, (up_snoc _ _ _ _ _).1, (up_snoc _ _ _ _ _).2, i1, List.reverse_append, i2]
      unfold stepT
      rw [groW_getD, List.length_reverse, Nat.zero_add, hl]
      exact ⟨rfl, rfl⟩
theorem bytes_inj : ∀ {a b : List Int}, (∀ x ∈ a, 0 ≤ x ∧ x < 256) → (∀ x ∈ b, 0 ≤ x ∧ x < 256) → ((a.map fun x => UInt8.ofNat x.toNat) = (b.map fun x => UInt8.ofNat x.toNat) ↔ a = b)
  | [], [], _, _ => by simp
  | [], y :: b, _, _ => by simp
  | x :: a, [], _, _ => by simp
  | x :: a, y :: b, ha, hb => by
    have ih := bytes_inj (a := a) (b := b) (fun z hz => ha z (by simp [hz])) (fun z hz => hb z (by simp [hz]))
    have hx := ha x (by simp)
    have hy := hb y (by simp)
    have e : UInt8.ofNat x.toNat = UInt8.ofNat y.toNat ↔ x = y := by
      constructor
      · intro h
        have := congrArg UInt8.toNat h
        rw [UInt8.toNat_ofNat', UInt8.toNat_ofNat'] at this
        omega
      · intro h; rw [h]
    simp only [List.map_cons, List.cons.injEq, e, ih]
end Go.Proofs.YtololahjocfbeaaGreat
