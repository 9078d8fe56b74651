/- Texts, joined. -/
import Derived.Test.YtololahjocfbeaaGreatC35
import Derived.Test.YtololahjocfbeaaGreatC37
import Derived.Test.YtololahjocfbeaaGreatC38
import Derived.Test.YtololahjocfbeaaGreatC20
import Derived.Test.YtololahjocfbeaaGreatC26
import Derived.Test.YtololahjocfbeaaGreatC31
namespace Go.Proofs.YtololahjocfbeaaGreat
open Go Go.Sy Go.Proofs.Tryz
set_option maxRecDepth 100000
set_option maxHeartbeats 8000000
set_option linter.unusedSimpArgs false
set_option linter.unusedVariables false
theorem rec_len1 (k i : Int) (name : List UInt8) (v : Int) (hn : name.length = 1) : (recF k i [⟨name, v, [1]⟩]).length = 46 := by
  simp [recF, bodF, rowb, rowsF, rowP, be_len, bkU_len, hn]
theorem rec_len0 (k i : Int) : (recF k i []).length = 26 := by
  simp [recF, bodF, rowb, rowsF, be_len]
abbrev pA : Pt := newP [97] []
theorem pA_small : smallPt pA := ⟨⟨by decide, by decide, by decide⟩, by decide, by decide⟩
theorem xN_key : xN.key = 0 := by decide
theorem xN_msg : xN.msg = [] := rfl
theorem toU_ne {x y : List Int} (hx : ∀ z ∈ x, 0 ≤ z ∧ z < 256) (hy : ∀ z ∈ y, 0 ≤ z ∧ z < 256) (h : x ≠ y) : toU x ≠ toU y := fun e => h (by rw [← bk_toU hx, ← bk_toU hy, e])
def y1N : Dy := { yN 6 with ps := [pA] }
section
variable (a n : Nat) (ha : 1 ≤ a ∧ a ≤ 4) (hn : 1 ≤ n ∧ n ≤ 4) (hmy : manyD a n = 2) (na ma : List Int) (hna : goodD na) (hma : goodD ma)
include ha hn hmy hna hma in
theorem two_acts : ∃ (y1 y2 y3 : Dy) (s : Sn) (e : Ep),
    FnC Tryz.prog 17 [.ref 6 [], actC (.sl (.ints .u8 1 [97]))] (wO na ma a n 1 (yN 6) [] 7 8 9 10 11 12 13 14) (.int .i64 0) (wO na ma a n 1 y1 [] 15 16 17 18 19 20 21 22) ∧
    FnC Tryz.prog 17 [.ref 6 [], actP] (wO na ma a n 1 y1 [] 7 8 9 10 11 12 13 14) (.int .i64 0) (wO na ma a n 1 y2 [s] 15 16 17 18 19 20 21 22) ∧
    FnC Tryz.prog 17 [.ref 6 [], actP] (wO na ma a n 1 y2 [s] 7 8 9 10 11 12 13 14) (.int .i64 6) (wO na ma a n 1 y3 [s] 15 16 17 18 19 20 21 22) ∧
    y3.es = [e] ∧ goodD e.tree ∧ e.ix = (0 : Nat) ∧ e.key = 0 := by
  have h97 : ∀ x ∈ ([97] : List Int), 0 ≤ x ∧ x < 256 := by decide
  -- a change
  have c0 := change_new na ma hna a n 1 (yN 6) [97] 1 rfl h97 (by decide) (by decide) rfl rfl (fun p hp => by cases hp) (fun p hp => by cases hp) (by decide) (by decide) (fun h => by cases h)
  have w0 := wdo_change na ma a n 1 (yN 6) y1N [] [97] 1 1 0 (wchange_spec na ma a n 1 (yN 6) y1N [] [97] 1 1 0 c0)
  have hns : 5 ≤ 6 ∧ 6 ≤ 64 := by decide
  have cM := dM_calm (ns := 6) hns
  -- what is published
  have hg : ∀ e ∈ ([] : List En) ++ [pA].map (entF na), goodE e := fun e he => by
    rw [List.nil_append, List.map_cons, List.map_nil, List.mem_singleton] at he
    rw [he]
    exact entF_good na pA
  have hd : ((([] : List En) ++ [pA].map (entF na)).map (·.1)).Nodup := by simp
  have hXg := nodeP_good 256 (srtE _ hg)
  obtain ⟨X, hX⟩ : ∃ X, nodeP 256 (srtE _ hg) = X := ⟨_, rfl⟩
  rw [hX] at hXg
  have hR := hdF_good [] 0 X
  have hT1 := headT_len' xN.key ((([] : List Ep).length : Int) + 1) hXg.1 hR.1
  have hT1m := headT_mem xN.key ((([] : List Ep).length : Int) + 1) hXg.2 hR.2
  -- the signer deals
  obtain ⟨D', e1, c1⟩ := cM.repl hns.2 ⟨1, tx xN, false⟩ rfl (tx (dealY xN 2 1 0 (toU (headT xN.key ((([] : List Ep).length : Int) + 1) X (hdF [] 0 X))))) (by rw [tx_len]; show 54 + (toU _).length + 18 ≤ 400; rw [toU_len, hT1]; decide) (by decide)
  have kd := deal_new (dM 6) (cM.ok hns.2) (by rw [cM.wt]; exact Nat.zero_le _) ⟨1, tx xN, false⟩ rfl (by decide) (by rw [cM.sz]; decide) fN xN 2 1 0 (headT xN.key ((([] : List Ep).length : Int) + 1) X (hdF [] 0 X)) 81 hT1 (by decide) (fun e => by have := congrArg List.length e; rw [toU_len, hT1, xN_msg] at this; cases this) (by decide) (by decide) (by decide) (by decide)
  rw [e1] at kd
  dsimp only at kd
  rw [if_pos rfl, if_pos rfl, if_pos rfl, decide_eq_false (fun h => h rfl)] at kd
  obtain ⟨T, hT⟩ : ∃ T, headT xN.key ((([] : List Ep).length : Int) + 1) X (hdF [] 0 X) = T := ⟨_, rfl⟩
  rw [hT] at e1 kd hT1 hT1m
  have hxk : (dealY xN 2 1 0 (toU T)).key = xN.key := rfl
  have hxm : (dealY xN 2 1 0 (toU T)).msg = toU T := rfl
  generalize dealY xN 2 1 0 (toU T) = x1 at *
  generalize dealF fN xN 2 1 0 = F1 at *
  -- the record is written
  have hL := rec_len1 xN.key ((0 : Nat) : Int) pA.name pA.ver rfl
  have hpA : (⟨pA.name, pA.ver, [1]⟩ : Pt) = pA := rfl
  rw [hpA] at hL
  have hA : (allF D' 0 (recF xN.key ((0 : Nat) : Int) [pA])).length = 800 := by
    unfold allF areaF
    simp only [List.length_append, List.length_take, List.length_drop, c1.bl, c1.sz, hL]
    decide
  obtain ⟨D1, e2, o1, D2, e3, c2⟩ := c1.write (i := 4 + 0) hns.2 (by decide) (t := ((allF D' 0 (recF xN.key ((0 : Nat) : Int) [pA])).drop (0 * D'.sz)).take D'.sz) (by rw [List.length_take, List.length_drop, hA, c1.sz]; decide)
  obtain ⟨D3, e4, c3⟩ := c2.replA hns.2 2 (by decide) ⟨0, [], false⟩ rfl (be ((0 + 46 : Nat) : Int) 8) (by rw [be_len]; decide)
  dsimp only at e4
  generalize (⟨0 + 1, be ((0 + 46 : Nat) : Int) 8, false⟩ : SS) = S3 at *
  generalize hS1 : (⟨1 + 1, tx x1, false⟩ : SS) = S1 at *
  have kw := write_one na ma a n 1 ⟨D', F1, S1, x1, 0 + 1, false, ⟨0, [], false⟩, [], [], 0, [pA], false, [], []⟩
    (recF xN.key ((0 : Nat) : Int) [pA]) 46 hL (by decide) (c1.ok hns.2) (by dsimp only; rw [c1.sz, c1.bl]; decide) 0 (by dsimp only; rw [c1.sz]) (by dsimp only; rw [c1.sz]) (by dsimp only; rw [c1.sz, c1.bl]; decide) (by dsimp only; rw [c1.wt]; exact Nat.zero_le _)
    D1 D2 D3 S3 e2 o1 e3 (c2.ok hns.2) (by rw [c2.wt]; exact Nat.zero_le _) (by dsimp only; rw [c2.sz, c1.sz]) (by dsimp only; rw [c1.sz]; decide) rfl (Nat.zero_le _) e4
  dsimp only at kw
  have p1 := publish_ok na ma hna a n 1 y1N hma ha hn rfl rfl (cM.ok hns.2) (by show 4 * (dM 6).sz ≤ (dM 6).b.length; rw [cM.sz, cM.bl]; decide) (by decide) (fun e he => by cases he) (fun p hp => by rw [List.mem_singleton.1 hp]; exact pA_small) (by decide)
    (by show (recF xN.key 0 [pA]).length + 0 ≤ (dM 6).b.length - 4 * (dM 6).sz; rw [cM.sz, cM.bl, ← hpA, rec_len1 _ _ _ _ rfl]; decide) (by decide) hg hd X hX hXg (fun p hp h => by cases h) (fun p hp h => by cases h) (by simp [y1N])
    xN.key 0 (by rw [hmy]; decide) D' S1 F1 x1 (0 + 1) hxk (by rw [hmy]; show FnC Tryz.prog _ [_, .sl (.ints .u8 81 (headT xN.key ((([] : List Ep).length : Int) + 1) X (hdF [] 0 X)))] _ _ _; rw [hT]; exact kd) 46 hL (by decide) D3 S3 kw
  have w1 := wdo_publish na ma a n 1 y1N _ [] _ 0 (wpublish_ok na ma a n 1 y1N _ [] _ _ X _ _ _ _ a (by unfold sgP; exact partsK_len _ _ _ _ _ _) (Nat.zero_le _) hXg.1 hR.1 p1)
  -- none more
  have hg2 : ∀ e ∈ (([] : List En) ++ [pA].map (entF na)) ++ ([] : List Pt).map (entF na), goodE e := fun e he => by
    rw [List.map_nil, List.append_nil] at he
    exact hg e he
  have hd2 : (((([] : List En) ++ [pA].map (entF na)) ++ ([] : List Pt).map (entF na)).map (·.1)).Nodup := by simp
  have hXg2 := nodeP_good 256 (srtE _ hg2)
  obtain ⟨X2, hX2⟩ : ∃ X, nodeP 256 (srtE _ hg2) = X := ⟨_, rfl⟩
  rw [hX2] at hXg2
  obtain ⟨es2, hes2⟩ : ∃ es : List Ep, [] ++ [⟨xN.key, ((0 : Nat) : Int), [pA], X⟩] = es := ⟨_, rfl⟩
  have hel : es2.length = 1 := by rw [← hes2]; rfl
  have hR2 := hdF_good es2 es2.length X2
  have hT2 := headT_len' x1.key ((es2.length : Int) + 1) hXg2.1 hR2.1
  have hT2m := headT_mem x1.key ((es2.length : Int) + 1) hXg2.2 hR2.2
  have hne : toU (headT x1.key ((es2.length : Int) + 1) X2 (hdF es2 es2.length X2)) ≠ x1.msg := by
    rw [hxm]
    refine toU_ne hT2m hT1m (fun e => ?_)
    rw [← hT, hel] at e
    have := ((headT_inj (by rw [hxk, xN_key]; exact ⟨by decide, by decide⟩) ⟨by decide, by decide⟩ (by rw [xN_key]; exact ⟨by decide, by decide⟩) ⟨by decide, by decide⟩ hXg2.1 hXg.1).1 e).2.1
    exact absurd this (by decide)
  have ks := deal_spent D3 S1 F1 x1 2 1 1 _ 81 hT2 (by decide) hne (by decide) (by decide)
  have p2 := publish_not na ma hna a n 1 ⟨D3, F1, S1, x1, 0 + 1, false, S3, es2, [] ++ [pA].map (entF na), 0 + 46, [], false, [] ++ [pA], [] ++ [pA].map oneV⟩ rfl rfl (c3.ok hns.2) (by dsimp only; rw [c3.sz, c3.bl]; decide) (by dsimp only; rw [hel]; decide)
    (fun e he => by dsimp only at he; rw [← hes2, List.nil_append, List.mem_singleton] at he; rw [he]; exact hXg) (fun p hp => by cases hp) (Nat.zero_le _)
    (by dsimp only; rw [rec_len0, c3.sz, c3.bl]; decide) (by simp) hg2 hd2 X2 hX2 hXg2 6 (by decide) (by decide) 0 0 D3 S1 F1 x1 (0 + 1) false (by rw [hmy]; exact ks)
  have w2 := wdo_publish na ma a n 1 _ _ [⟨xN.key, headT xN.key ((([] : List Ep).length : Int) + 1) X (hdF [] 0 X), ((0 : Nat) : Int), sgR ma xN.key 0, sgP a n ma xN.key 0 (headT xN.key ((([] : List Ep).length : Int) + 1) X (hdF [] 0 X))⟩] _ 6 (wpublish_not na ma a n 1 _ _ _ 6 (by decide) p2)
  subst hes2
  exact ⟨y1N, _, _, _, ⟨xN.key, ((0 : Nat) : Int), [pA], X⟩, w0, w1, w2, rfl, hXg, rfl, xN_key⟩
end
def plHd : List (Nat × Plan) := [(5, [(1, [], none), (2, [1], none), (3, [1], none), (4, [1, 2, 3], none), (5, [1, 2, 3], none), (6, [1, 2, 3, 4, 5], none), (7, [1, 2, 3, 4, 5], none), (8, [], some [36, 38, 40, 42]), (0, [1, 2, 3, 4, 5, 6, 7, 8], none), (9, [], some [4]), (10, [], some [5]), (11, [], none)])]
attribute [go_sem] plHd
section
variable (na ma : List Int) (a n : Nat) (b : Int) (y : Dy) (hm : goodD ma) (ha : 1 ≤ a ∧ a ≤ 4) (hn : 1 ≤ n ∧ n ≤ 4)
include hm ha hn in
theorem head_own (k : Nat) (e : Ep) (he : y.es[k]? = some e) (hb : y.es.length ≤ 200) (het : ∀ e ∈ y.es, goodD e.tree) (ix : Nat) (hix : e.ix = ix) (hi : ix < manyD a n) :
    FnC Tryz.prog 50 [.ref 5 [], .int .i64 ((k : Int) + 1)] (dirOW na ma a n b y 6 7 8 9 10 11 12)
      (.tup [.agg [.int .i64 e.key, .int .i64 ((k : Int) + 1), .ints .u8 32 e.tree, .ints .u8 32 (hdF y.es k e.tree)], .agg [.int .i64 ix, .ints .u8 32 (sgR ma e.key ix), .osl 20 [] 2 0 a], .int .i64 0])
      (dirOW na ma a n b y 13 14 15 16 17 18 19 ++ [(20, .row (.lst 2 a ((sgP a n ma e.key ix (headT e.key ((k : Int) + 1) e.tree (hdF y.es k e.tree))).map pt)))]) := by
  have hk : k < y.es.length := (List.getElem?_eq_some_iff.1 he).1
  have heg : goodD e.tree := het e (List.mem_of_getElem? he)
  have k1 := epoch_pp na ma a n b y
  have k2 := head_spec na y.es y.es.length rfl (.sl (.lst 64 y.l.length (y.l.map enV))) (restP na ma a n b y) e.key k (by omega) (by omega) (by omega) het e.tree heg
  have k3 := headText_spec e.key ((k : Int) + 1) e.tree (hdF y.es k e.tree)
  have hR : goodD (hdF y.es k e.tree) := hdF_good _ _ _
  have k4 := sign_ownW na ma a n b y hm ha hn e.key ix hi (headT e.key ((k : Int) + 1) e.tree (hdF y.es k e.tree)) 81 (headT_len' _ _ heg.1 hR.1) (headT_mem _ _ heg.2 hR.2) (by decide)
  have g1 : ∀ K, getP (y.es.map epV) k K = K (.agg [.int .i64 e.key, .int .i64 e.ix, .sl (.lst 3 e.puts.length (e.puts.map ptV')), .ints .u8 32 e.tree]) := fun K => getP_map (f := epV) he K
  have e1 : (k : Int) + 1 - 1 = k := by omega
  have d1 : decide ((k : Int) + 1 < 1) = false := decide_eq_false (by omega)
  have d2 : decide ((y.es.length : Int) < (k : Int) + 1) = false := decide_eq_false (by omega)
  have hle : (y.es.map epV).length = y.es.length := List.length_map _
  generalize sgP a n ma e.key ix (headT e.key ((k : Int) + 1) e.tree (hdF y.es k e.tree)) = Z at *
  generalize headT e.key ((k : Int) + 1) e.tree (hdF y.es k e.tree) = T at *
  generalize hdF y.es k e.tree = R at *
  rw [hix] at g1
  dsimp only [dirOW, dirOg, List.cons_append, List.nil_append] at k4
  refine fnV mix plHd 6 13 2 [.cell 4 72, .cell 5 41, .tmp 6] Tryz.func50 rfl (by kernel_rfl) (by kernel_rfl) rfl (by kernel_rfl) (by kernel_rfl) (by simp) rfl rfl ?_
  simp -implicitDefEqProofs (disch := omega) only [go_sem, ↓reduceIte, d1, e1]
  refine callB k1 ?_ ?_
  · simp -implicitDefEqProofs (disch := omega) only [go_sem, ↓reduceIte]
  simp -implicitDefEqProofs (disch := omega) only [go_sem, ↓reduceIte, d2, ↓g1, hle, e1]
  refine callB k2 ?_ ?_
  · simp -implicitDefEqProofs (disch := omega) only [go_sem, ↓reduceIte]
  simp -implicitDefEqProofs (disch := omega) only [go_sem, ↓reduceIte]
  refine callF 1 k3 ?_
  simp -implicitDefEqProofs (disch := omega) only [go_sem, ↓reduceIte]
  refine callG false [(13, 17), (0, 0), (1, 1), (2, 2), (3, 3), (4, 4), (5, 5), (6, 6), (7, 7), (8, 8), (9, 9), (10, 10), (11, 11), (12, 12)] [(0, 0), (1, 1), (2, 2), (3, 3), (4, 4), (5, 5), (14, 18), (15, 19), (16, 20), (17, 21), (18, 22), (19, 23), (20, 24), (21, 25)] 26 k4 ?_ ?_
  · simp [keys]
  simp -implicitDefEqProofs (disch := omega) only [go_sem, ↓reduceIte]
  refine ⟨[(0, 0), (1, 1), (2, 2), (3, 3), (4, 4), (5, 5), (13, 18), (14, 19), (15, 20), (16, 21), (17, 22), (18, 23), (19, 24), (20, 25)], [], [], rfl, ?_, ?_, ?_⟩ <;> simp -implicitDefEqProofs (disch := omega) only [go_sem, ↓reduceIte]
end
theorem drop_cons' {W : List (List Int)} {d : Nat} (h : d < W.length) : W.drop d = W.getD d [] :: W.drop (d + 1) := by
  rw [List.drop_eq_getElem_cons h]
  simp only [List.getD, List.getElem?_eq_getElem h, Option.getD_some]
attribute [go_sem] pl146
def depG : Nat → Nat → Nat → Bool → Nat
  | 0, _, _, _ => 0
  | f + 1, m, n, cut => if m = n then (if cut = true then 1 else 0) else if m ≤ halfN n then depG f m (halfN n) cut + 1 else depG f (m - halfN n) (n - halfN n) true + 1
def groV (a : List Int) (W : List (List Int)) : Nat → Nat → Nat → Bool → List Int × List Int
  | 0, _, _, _ => (a, a)
  | f + 1, m, n, cut => if m = n then (if cut = true then (W.getD 0 [], W.getD 0 []) else (a, a)) else if m ≤ halfN n then ((groV a W f m (halfN n) cut).1, nodeL (groV a W f m (halfN n) cut).2 (W.getD (depG f m (halfN n) cut) []))
    else (nodeL (W.getD (depG f (m - halfN n) (n - halfN n) true) []) (groV a W f (m - halfN n) (n - halfN n) true).1, nodeL (W.getD (depG f (m - halfN n) (n - halfN n) true) []) (groV a W f (m - halfN n) (n - halfN n) true).2)
theorem depG_eq (f n : Nat) (cut : Bool) : depG (f + 1) n n cut = if cut = true then 1 else 0 := by rw [depG, if_pos rfl]
theorem depG_lo (f : Nat) {m n : Nat} (cut : Bool) (h : m ≠ n) (hi : m ≤ halfN n) : depG (f + 1) m n cut = depG f m (halfN n) cut + 1 := by rw [depG, if_neg h, if_pos hi]
theorem depG_hi (f : Nat) {m n : Nat} (cut : Bool) (h : m ≠ n) (hi : ¬ m ≤ halfN n) : depG (f + 1) m n cut = depG f (m - halfN n) (n - halfN n) true + 1 := by rw [depG, if_neg h, if_neg hi]
theorem groV_eq (a : List Int) (W : List (List Int)) (f n : Nat) (cut : Bool) : groV a W (f + 1) n n cut = if cut = true then (W.getD 0 [], W.getD 0 []) else (a, a) := by rw [groV, if_pos rfl]
theorem groV_lo (a : List Int) (W : List (List Int)) (f : Nat) {m n : Nat} (cut : Bool) (h : m ≠ n) (hi : m ≤ halfN n) : groV a W (f + 1) m n cut = ((groV a W f m (halfN n) cut).1, nodeL (groV a W f m (halfN n) cut).2 (W.getD (depG f m (halfN n) cut) [])) := by rw [groV, if_neg h, if_pos hi]
theorem groV_hi (a : List Int) (W : List (List Int)) (f : Nat) {m n : Nat} (cut : Bool) (h : m ≠ n) (hi : ¬ m ≤ halfN n) : groV a W (f + 1) m n cut = (nodeL (W.getD (depG f (m - halfN n) (n - halfN n) true) []) (groV a W f (m - halfN n) (n - halfN n) true).1, nodeL (W.getD (depG f (m - halfN n) (n - halfN n) true) []) (groV a W f (m - halfN n) (n - halfN n) true).2) := by rw [groV, if_neg h, if_neg hi]
theorem take_nil_spec19 : FnC Tryz.prog 145 [.ref 0 []] [(0, .var (.sl (.lst 32 0 [])))] (.tup [.ints .u8 32 (List.replicate 32 0), .bool false]) [(0, .var (.sl (.lst 32 0 [])))] := by
  refine fnN mix [] 1 1 [.cell 1 25, .tmp 2] Tryz.func145 rfl (by kernel_rfl) (by kernel_rfl) rfl (by kernel_rfl) (by kernel_rfl) (by simp) ?_
  simp -implicitDefEqProofs (disch := omega) only [go_sem, ↓reduceIte]
  refine ⟨[(0, 0)], [], [], rfl, ?_, ?_, ?_⟩ <;> simp -implicitDefEqProofs (disch := omega) only [go_sem, ↓reduceIte]
theorem take_cons_spec19 (x : List Int) (R : List (List Int)) (c : Nat) (hc : R.length = c) (hm : c ≤ 1000000) : FnC Tryz.prog 145 [.ref 0 []] [(0, .var (.sl (.lst 32 (c + 1) (.ints .u8 32 x :: R.map dg))))] (.tup [.ints .u8 32 x, .bool true]) [(0, .var (.sl (.lst 32 c (R.map dg))))] := by
  have hlm : (R.map dg).length = c := by rw [List.length_map, hc]
  have etk : (R.map dg).take c = R.map dg := List.take_of_length_le (by omega)
  have ee : decide ((c : Int) + 1 = 0) = false := decide_eq_false (by omega)
  refine fnN mix [] 1 1 [.cell 1 25, .tmp 2] Tryz.func145 rfl (by kernel_rfl) (by kernel_rfl) rfl (by kernel_rfl) (by kernel_rfl) (by simp) ?_
  simp -implicitDefEqProofs (disch := omega) only [go_sem, ↓reduceIte, hlm, etk, ee]
  refine ⟨[(0, 0)], [], [], rfl, ?_, ?_, ?_⟩ <;> simp -implicitDefEqProofs (disch := omega) only [go_sem, ↓reduceIte, Nat.add_sub_cancel, etk]
theorem gup_spec (a : List Int) (ha : goodD a) (W : List (List Int)) (L : Nat) (hW : W.length = L) (hL : L ≤ 1000000) (hg : ∀ d ∈ W, goodD d) : ∀ (f m n : Nat) (cut : Bool), n ≤ f → 1 ≤ m → m ≤ n → n ≤ 1000 →
    ∃ o w, goodD o ∧ goodD w ∧ (depG f m n cut ≤ L → (o, w) = groV a W f m n cut) ∧
    FnC Tryz.prog 146 [.int .i64 m, .int .i64 n, .bool cut, .ref 0 [], .ref 1 [], .ref 2 []]
      [(0, .var (.ints .u8 32 a)), (1, .var (.fn (.func 145) [.ref 3 []])), (2, .var (.fn (.func 146) [.ref 0 [], .ref 1 [], .ref 2 []])), (3, .var (.sl (.lst 32 L (W.map dg))))]
      (.tup [.ints .u8 32 o, .ints .u8 32 w, .bool (decide (depG f m n cut ≤ L))])
      [(0, .var (.ints .u8 32 a)), (1, .var (.fn (.func 145) [.ref 3 []])), (2, .var (.fn (.func 146) [.ref 0 [], .ref 1 [], .ref 2 []])), (3, .var (.sl (.lst 32 (L - depG f m n cut) ((W.drop (depG f m n cut)).map dg))))] := by
  intro f
  induction f with
  | zero => intro m n cut h1 h2 h3; omega
  | succ f ih =>
    intro m n cut h1 h2 h3 h4
    by_cases c1 : m = n
    · subst c1
      rw [depG_eq, groV_eq]
      cases cut
      · refine ⟨a, a, ha, ha, fun _ => rfl, ?_⟩
        rw [if_neg (by decide), decide_eq_true (Nat.zero_le _), Nat.sub_zero, List.drop_zero]
        refine fnN mix pl146 4 6 [.cell 9 25, .cell 10 25, .tmp 11] Tryz.func146 rfl (by kernel_rfl) (by kernel_rfl) rfl (by kernel_rfl) (by kernel_rfl) (by simp) ?_
        simp -implicitDefEqProofs (disch := omega) only [go_sem, ↓reduceIte]
        refine ⟨[(0, 0), (1, 1), (2, 2), (3, 3)], [], [], rfl, ?_, ?_, ?_⟩ <;> simp -implicitDefEqProofs (disch := omega) only [go_sem, ↓reduceIte]
      · rw [if_pos rfl, if_pos rfl]
        obtain _ | L := L
        · have hW0 : W = [] := List.length_eq_zero_iff.1 hW
          subst hW0
          refine ⟨List.replicate 32 0, List.replicate 32 0, zero_good, zero_good, fun h => by omega, ?_⟩
          refine fnN mix pl146 4 6 [.cell 9 25, .cell 10 25, .tmp 11] Tryz.func146 rfl (by kernel_rfl) (by kernel_rfl) rfl (by kernel_rfl) (by kernel_rfl) (by simp) ?_
          simp -implicitDefEqProofs (disch := omega) only [go_sem, ↓reduceIte, List.map_nil]
          refine callG false [(0, 3)] [(0, 3)] 6 take_nil_spec19 ?_ ?_
          · simp [keys]
          simp -implicitDefEqProofs (disch := omega) only [go_sem, ↓reduceIte]
          refine ⟨[(0, 0), (1, 1), (2, 2), (3, 3)], [], [], rfl, ?_, ?_, ?_⟩ <;> simp -implicitDefEqProofs (disch := omega) only [go_sem, ↓reduceIte, List.drop_nil, List.map_nil]
        · obtain ⟨x, R, rfl⟩ : ∃ x R, W = x :: R := by
            cases W with
            | nil => simp at hW
            | cons x R => exact ⟨x, R, rfl⟩
          rw [List.length_cons] at hW
          have hxg := hg x (List.mem_cons_self ..)
          have htk := take_cons_spec19 x R L (by omega) (by omega)
          have e1 : decide (1 ≤ L + 1) = true := decide_eq_true (by omega)
          refine ⟨x, x, hxg, hxg, fun _ => rfl, ?_⟩
          rw [e1, List.map_cons, List.drop_succ_cons, List.drop_zero, Nat.add_sub_cancel]
          refine fnN mix pl146 4 6 [.cell 9 25, .cell 10 25, .tmp 11] Tryz.func146 rfl (by kernel_rfl) (by kernel_rfl) rfl (by kernel_rfl) (by kernel_rfl) (by simp) ?_
          simp -implicitDefEqProofs (disch := omega) only [go_sem, ↓reduceIte, dg]
          refine callG false [(0, 3)] [(0, 3)] 6 htk ?_ ?_
          · simp [keys]
          simp -implicitDefEqProofs (disch := omega) only [go_sem, ↓reduceIte]
          refine ⟨[(0, 0), (1, 1), (2, 2), (3, 3)], [], [], rfl, ?_, ?_, ?_⟩ <;> simp -implicitDefEqProofs (disch := omega) only [go_sem, ↓reduceIte]
    have hk := halfN_lt (show 2 ≤ n by omega)
    have d1 : decide ((m : Int) = (n : Int)) = false := decide_eq_false (by omega)
    by_cases c2 : m ≤ halfN n
    · have d2 : decide ((m : Int) ≤ (halfN n : Int)) = true := decide_eq_true (by omega)
      have i3 : True := trivial
      have i4 : True := trivial
      obtain ⟨o, w, ho, hw, hv, hc⟩ := ih m (halfN n) cut (by omega) (by omega) (by omega) (by omega)
      rw [depG_lo f cut c1 c2, groV_lo _ _ f cut c1 c2]
      generalize depG f m (halfN n) cut = D at *
      generalize groV a W f m (halfN n) cut = V at *
      by_cases cd : D < L
      · have hdr := drop_cons' (W := W) (d := D) (by omega)
        have hxg := getD_good hg (show D < W.length by omega)
        have e1 : decide (D ≤ L) = true := decide_eq_true (by omega)
        have e2 : decide (D + 1 ≤ L) = true := decide_eq_true (by omega)
        have hmm : L - D = (L - (D + 1)) + 1 := by omega
        have hlr : (W.drop (D + 1)).length = L - (D + 1) := by rw [List.length_drop, hW]
        rw [e2]
        rw [hdr, hmm, e1, List.map_cons] at hc
        have hv := hv (by omega)
        generalize W.drop (D + 1) = R at *
        generalize W.getD D [] = x at *
        have hcl : L - (D + 1) ≤ 1000000 := by omega
        generalize L - (D + 1) = c at *
        have htk := take_cons_spec19 x R c hlr hcl
        refine ⟨o, nodeL w x, ho, nodeL_good _ _, fun _ => by rw [← hv], ?_⟩
        refine fnN mix pl146 4 6 [.cell 9 25, .cell 10 25, .tmp 11] Tryz.func146 rfl (by kernel_rfl) (by kernel_rfl) rfl (by kernel_rfl) (by kernel_rfl) (by simp) ?_
        simp -implicitDefEqProofs (disch := omega) only [go_sem, ↓reduceIte, d1]
        refine call0 (half_spec n (by omega) h4) ?_
        simp -implicitDefEqProofs (disch := omega) only [go_sem, ↓reduceIte, d2, i3, i4]
        refine callG false [(0, 0), (1, 1), (2, 2), (3, 3)] [(0, 0), (1, 1), (2, 2), (3, 3)] 6 hc ?_ ?_
        · simp [keys]
        simp -implicitDefEqProofs (disch := omega) only [go_sem, ↓reduceIte, dg]
        refine callG false [(0, 3)] [(0, 3)] 8 htk ?_ ?_
        · simp [keys]
        simp -implicitDefEqProofs (disch := omega) only [go_sem, ↓reduceIte]
        refine call0 (node_spec17 _ _ hw hxg) ?_
        simp -implicitDefEqProofs (disch := omega) only [go_sem, ↓reduceIte]
        skip
        try simp -implicitDefEqProofs (disch := omega) only [go_sem, ↓reduceIte]
        refine ⟨[(0, 0), (1, 1), (2, 2), (3, 3)], [], [], rfl, ?_, ?_, ?_⟩ <;> simp -implicitDefEqProofs (disch := omega) only [go_sem, ↓reduceIte]
      · have hd0 : W.drop D = [] := List.drop_eq_nil_of_le (by omega)
        have hd1 : W.drop (D + 1) = [] := List.drop_eq_nil_of_le (by omega)
        have hm0 : L - D = 0 := by omega
        have hm1 : L - (D + 1) = 0 := by omega
        have e2 : decide (D + 1 ≤ L) = false := decide_eq_false (by omega)
        rw [hm0, hd0, List.map_nil] at hc
        rw [hm1, hd1, e2, List.map_nil]
        refine ⟨o, nodeL w (List.replicate 32 0), ho, nodeL_good _ _, fun h => absurd h (by omega), ?_⟩
        refine fnN mix pl146 4 6 [.cell 9 25, .cell 10 25, .tmp 11] Tryz.func146 rfl (by kernel_rfl) (by kernel_rfl) rfl (by kernel_rfl) (by kernel_rfl) (by simp) ?_
        simp -implicitDefEqProofs (disch := omega) only [go_sem, ↓reduceIte, d1]
        refine call0 (half_spec n (by omega) h4) ?_
        simp -implicitDefEqProofs (disch := omega) only [go_sem, ↓reduceIte, d2, i3, i4]
        refine callG false [(0, 0), (1, 1), (2, 2), (3, 3)] [(0, 0), (1, 1), (2, 2), (3, 3)] 6 hc ?_ ?_
        · simp [keys]
        generalize decide (D ≤ L) = B at *
        simp -implicitDefEqProofs (disch := omega) only [go_sem, ↓reduceIte]
        refine callG false [(0, 3)] [(0, 3)] 8 take_nil_spec19 ?_ ?_
        · simp [keys]
        simp -implicitDefEqProofs (disch := omega) only [go_sem, ↓reduceIte, List.map_nil]
        skip
        try simp -implicitDefEqProofs (disch := omega) only [go_sem, ↓reduceIte]
        refine call0 (node_spec17 _ _ hw zero_good) ?_
        cases B
        · simp -implicitDefEqProofs (disch := omega) only [go_sem, ↓reduceIte]
          refine ⟨[(0, 0), (1, 1), (2, 2), (3, 3)], [], [], rfl, ?_, ?_, ?_⟩ <;> simp -implicitDefEqProofs (disch := omega) only [go_sem, ↓reduceIte]
        · simp -implicitDefEqProofs (disch := omega) only [go_sem, ↓reduceIte]
          refine ⟨[(0, 0), (1, 1), (2, 2), (3, 3)], [], [], rfl, ?_, ?_, ?_⟩ <;> simp -implicitDefEqProofs (disch := omega) only [go_sem, ↓reduceIte]
    · have d2 : decide ((m : Int) ≤ (halfN n : Int)) = false := decide_eq_false (by omega)
      have i3 : (n : Int) - (halfN n : Int) = ((n - halfN n : Nat) : Int) := by omega
      have i4 : (m : Int) - (halfN n : Int) = ((m - halfN n : Nat) : Int) := by omega
      obtain ⟨o, w, ho, hw, hv, hc⟩ := ih (m - halfN n) (n - halfN n) true (by omega) (by omega) (by omega) (by omega)
      rw [depG_hi f cut c1 c2, groV_hi _ _ f cut c1 c2]
      generalize depG f (m - halfN n) (n - halfN n) true = D at *
      generalize groV a W f (m - halfN n) (n - halfN n) true = V at *
      by_cases cd : D < L
      · have hdr := drop_cons' (W := W) (d := D) (by omega)
        have hxg := getD_good hg (show D < W.length by omega)
        have e1 : decide (D ≤ L) = true := decide_eq_true (by omega)
        have e2 : decide (D + 1 ≤ L) = true := decide_eq_true (by omega)
        have hmm : L - D = (L - (D + 1)) + 1 := by omega
        have hlr : (W.drop (D + 1)).length = L - (D + 1) := by rw [List.length_drop, hW]
        rw [e2]
        rw [hdr, hmm, e1, List.map_cons] at hc
        have hv := hv (by omega)
        generalize W.drop (D + 1) = R at *
        generalize W.getD D [] = x at *
        have hcl : L - (D + 1) ≤ 1000000 := by omega
        generalize L - (D + 1) = c at *
        have htk := take_cons_spec19 x R c hlr hcl
        refine ⟨nodeL x o, nodeL x w, nodeL_good _ _, nodeL_good _ _, fun _ => by rw [← hv], ?_⟩
        refine fnN mix pl146 4 6 [.cell 9 25, .cell 10 25, .tmp 11] Tryz.func146 rfl (by kernel_rfl) (by kernel_rfl) rfl (by kernel_rfl) (by kernel_rfl) (by simp) ?_
        simp -implicitDefEqProofs (disch := omega) only [go_sem, ↓reduceIte, d1]
        refine call0 (half_spec n (by omega) h4) ?_
        simp -implicitDefEqProofs (disch := omega) only [go_sem, ↓reduceIte, d2, i3, i4]
        refine callG false [(0, 0), (1, 1), (2, 2), (3, 3)] [(0, 0), (1, 1), (2, 2), (3, 3)] 6 hc ?_ ?_
        · simp [keys]
        simp -implicitDefEqProofs (disch := omega) only [go_sem, ↓reduceIte, dg]
        refine callG false [(0, 3)] [(0, 3)] 8 htk ?_ ?_
        · simp [keys]
        simp -implicitDefEqProofs (disch := omega) only [go_sem, ↓reduceIte]
        refine call0 (node_spec17 _ _ hxg ho) ?_
        simp -implicitDefEqProofs (disch := omega) only [go_sem, ↓reduceIte]
        refine call0 (node_spec17 _ _ hxg hw) ?_
        try simp -implicitDefEqProofs (disch := omega) only [go_sem, ↓reduceIte]
        refine ⟨[(0, 0), (1, 1), (2, 2), (3, 3)], [], [], rfl, ?_, ?_, ?_⟩ <;> simp -implicitDefEqProofs (disch := omega) only [go_sem, ↓reduceIte]
      · have hd0 : W.drop D = [] := List.drop_eq_nil_of_le (by omega)
        have hd1 : W.drop (D + 1) = [] := List.drop_eq_nil_of_le (by omega)
        have hm0 : L - D = 0 := by omega
        have hm1 : L - (D + 1) = 0 := by omega
        have e2 : decide (D + 1 ≤ L) = false := decide_eq_false (by omega)
        rw [hm0, hd0, List.map_nil] at hc
        rw [hm1, hd1, e2, List.map_nil]
        refine ⟨nodeL (List.replicate 32 0) o, nodeL (List.replicate 32 0) w, nodeL_good _ _, nodeL_good _ _, fun h => absurd h (by omega), ?_⟩
        refine fnN mix pl146 4 6 [.cell 9 25, .cell 10 25, .tmp 11] Tryz.func146 rfl (by kernel_rfl) (by kernel_rfl) rfl (by kernel_rfl) (by kernel_rfl) (by simp) ?_
        simp -implicitDefEqProofs (disch := omega) only [go_sem, ↓reduceIte, d1]
        refine call0 (half_spec n (by omega) h4) ?_
        simp -implicitDefEqProofs (disch := omega) only [go_sem, ↓reduceIte, d2, i3, i4]
        refine callG false [(0, 0), (1, 1), (2, 2), (3, 3)] [(0, 0), (1, 1), (2, 2), (3, 3)] 6 hc ?_ ?_
        · simp [keys]
        generalize decide (D ≤ L) = B at *
        simp -implicitDefEqProofs (disch := omega) only [go_sem, ↓reduceIte]
        refine callG false [(0, 3)] [(0, 3)] 8 take_nil_spec19 ?_ ?_
        · simp [keys]
        simp -implicitDefEqProofs (disch := omega) only [go_sem, ↓reduceIte, List.map_nil]
        refine call0 (node_spec17 _ _ zero_good ho) ?_
        try simp -implicitDefEqProofs (disch := omega) only [go_sem, ↓reduceIte]
        refine call0 (node_spec17 _ _ zero_good hw) ?_
        cases B
        · simp -implicitDefEqProofs (disch := omega) only [go_sem, ↓reduceIte]
          refine ⟨[(0, 0), (1, 1), (2, 2), (3, 3)], [], [], rfl, ?_, ?_, ?_⟩ <;> simp -implicitDefEqProofs (disch := omega) only [go_sem, ↓reduceIte]
        · simp -implicitDefEqProofs (disch := omega) only [go_sem, ↓reduceIte]
          refine ⟨[(0, 0), (1, 1), (2, 2), (3, 3)], [], [], rfl, ?_, ?_, ?_⟩ <;> simp -implicitDefEqProofs (disch := omega) only [go_sem, ↓reduceIte]
end Go.Proofs.YtololahjocfbeaaGreat
