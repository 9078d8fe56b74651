/- Texts, joined. -/
import Derived.Test.YtololahjocfbeaaGreatC26
import Derived.Test.YtololahjocfbeaaGreatC28
import Derived.Test.YtololahjocfbeaaGreatC30
import Derived.Test.YtololahjocfbeaaGreatC12
import Derived.Test.YtololahjocfbeaaGreatC27
namespace Go.Proofs.YtololahjocfbeaaGreat
open Go Go.Sy Go.Proofs.Tryz
set_option maxRecDepth 100000
set_option maxHeartbeats 8000000
set_option linter.unusedSimpArgs false
set_option linter.unusedVariables false
theorem logroot_spec (l : List (List Int)) (n : Nat) (hn : l.length = n) (h2 : n ≤ 200) (ht : textsP l) : FnC Tryz.prog 131 [.sl (.lst 1 n (l.map bsl))] [] (.tup [.ints .u8 32 (rg l 0 n), .int .i64 0]) [] := by
  refine fn0 mix [] 0 1 [.cell 2 25, .tmp 3] Tryz.func131 rfl (by kernel_rfl) (by kernel_rfl) rfl (by kernel_rfl) (by kernel_rfl) (by simp) ?_
  simp -implicitDefEqProofs (disch := omega) only [go_sem, ↓reduceIte]
  refine brd (fun h => by omega) (fun h => ?_)
  simp -implicitDefEqProofs (disch := omega) only [go_sem, ↓reduceIte]
  refine call0 (root_spec19 l n hn (by omega) ht) ?_
  simp -implicitDefEqProofs (disch := omega) only [go_sem, ↓reduceIte]
attribute [go_sem] pl33 pl77
structure Ep where
  key : Int
  ix : Int
  puts : List Pt
  tree : List Int
def epV (e : Ep) : AV := .agg [.int .i64 e.key, .int .i64 e.ix, .sl (.lst 3 e.puts.length (e.puts.map ptV')), .ints .u8 32 e.tree]
instance : Inhabited Ep := ⟨⟨0, 0, [], []⟩⟩
def txF (es : List Ep) : Nat → List (List Int)
  | 0 => []
  | i + 1 => txF es i ++ [epochT ((i : Int) + 1) (es.getD i default).tree]
theorem txF_len (es : List Ep) : ∀ k, (txF es k).length = k
  | 0 => rfl
  | k + 1 => by rw [txF, List.length_append, txF_len es k, List.length_singleton]
theorem epochT_len {n : Int} {t : List Int} (h : t.length = 32) : (epochT n t).length = 40 := by
  unfold epochT
  rw [List.length_append, dcat_len (fun d hd => by rw [List.mem_singleton] at hd; rw [hd]; exact h)]
  simp [nums, be_len]
theorem epochT_mem {n : Int} {t : List Int} (h : goodD t) : ∀ x ∈ epochT n t, 0 ≤ x ∧ x < 256 := fun x hx => by
  unfold epochT at hx
  rcases List.mem_append.1 hx with hx | hx
  · simp only [nums, List.flatMap_cons, List.flatMap_nil, List.append_nil] at hx
    exact be_mem _ _ x hx
  · simp only [dcat, List.flatMap_cons, List.flatMap_nil, List.append_nil, id] at hx
    exact h.2 x hx
theorem txF_ok {es : List Ep} (h : ∀ e ∈ es, goodD e.tree) : ∀ k, k ≤ es.length → ∀ b ∈ txF es k, (∀ x ∈ b, 0 ≤ x ∧ x < 256) ∧ b.length ≤ 100000
  | 0, _, b, hb => by cases hb
  | k + 1, hk, b, hb => by
    rw [txF] at hb
    rcases List.mem_append.1 hb with hb | hb
    · exact txF_ok h k (by omega) b hb
    · rw [List.mem_singleton] at hb
      subst hb
      have hg : goodD (es.getD k default).tree := by
        rw [List.getD, List.getElem?_eq_getElem (by omega), Option.getD_some]
        exact h _ (List.getElem_mem _)
      exact ⟨epochT_mem hg, by rw [epochT_len hg.1]; decide⟩
section
variable (na : List Int)
theorem public_pp (bk : AV) (hbk : bk.csz = 36) (rest : List AV) (a n b : Int) (ma : List Int) (hm : goodD ma) (hr : rightP a n) (k : Int) : FnC Tryz.prog 33 [.pp (.agg (bk :: cfgV a n b ma na :: rest)) [], .int .i64 k] [] (.agg [.agg [.int .i64 a, .int .i64 n], .ints .u8 32 (keyR (secK ma k 1) (secK ma k 3) a n), .ints .u8 32 (secK ma k 3)]) [] := by
  have k1 := secret_spec ma hm k
  have k2 := key_spec (secK ma k 1) (secK ma k 2) (secK ma k 3) a n (secK_good _ _ _) (secK_good _ _ _) hr
  generalize keyR (secK ma k 1) (secK ma k 3) a n = X at *
  refine fn0 mix pl33 0 2 [.cell 4 80] Tryz.func33 rfl (by kernel_rfl) (by kernel_rfl) rfl (by kernel_rfl) (by kernel_rfl) (by simp) ?_
  simp -implicitDefEqProofs (disch := omega) only [go_sem, ↓reduceIte, hbk]
  refine call0 k1 ?_
  simp -implicitDefEqProofs (disch := omega) only [go_sem, ↓reduceIte, hbk]
  refine call0 k2 ?_
  simp -implicitDefEqProofs (disch := omega) only [go_sem, ↓reduceIte]
theorem texts_spec (es : List Ep) (ne : Nat) (hn : es.length = ne) (L : AV) (rest : List AV) (k : Nat) (hk : k ≤ ne) (hb : ne ≤ 100000) (ht : ∀ e ∈ es, e.tree.length = 32) :
    FnC Tryz.prog 113 [bkP na (.sl (.lst 35 ne (es.map epV))) L rest, .int .i64 k] [] (.osl 0 [] 1 0 k) [(0, .row (.lst 1 k ((txF es k).map bsl)))] := by
  have hle : (es.map epV).length = ne := by rw [List.length_map, hn]
  have hsub : ∀ lo len κ, subC (.lst 35 ne (es.map epV)) lo len κ = (lo + len ≤ ne ∧ κ (.lst 35 len (((es.map epV).drop lo).take len))) := fun lo len κ => subC_lstlen 35 ne _ lo len κ hle
  have hl2 : ((es.map epV).take k).length = k := by rw [List.length_take, hle]; omega
  refine fnN mix [] 0 2 [.tmp 4] Tryz.func113 rfl (by kernel_rfl) (by kernel_rfl) rfl (by kernel_rfl) (by kernel_rfl) (by simp) ?_
  simp -implicitDefEqProofs (disch := omega) only [go_sem, ↓reduceIte, ↓hsub, List.drop_zero]
  refine loop (ι := Nat) 1 (fun i => i ≤ k) (fun i => [(5, .osl 0 [] 1 0 i), (13, .sl (.lst 35 k ((es.map epV).take k))), (14, .int .i64 k), (15, .int .i64 i)]) (fun i => [(0, .row (.lst 1 i ((txF es i).map bsl)))]) (fun i => k - i) 0 [] [0] (Nat.zero_le _) rfl ?_ ?_ ?_ (fun i hi => ?_)
  · simp -implicitDefEqProofs (disch := omega) only [go_sem, ↓reduceIte]
  · simp -implicitDefEqProofs (disch := omega) only [go_sem, ↓reduceIte]
  · simp -implicitDefEqProofs (disch := omega) only [go_sem, ↓reduceIte, txF, List.map_nil]
  simp -implicitDefEqProofs (disch := omega) only [go_sem, ↓reduceIte]
  refine brd (fun h1 => ?_) (fun h1 => ?_)
  · obtain ⟨e, he⟩ : ∃ e, es[i]? = some e := ⟨_, List.getElem?_eq_getElem (by omega)⟩
    have hed : es.getD i default = e := by rw [List.getD, he, Option.getD_some]
    have g1 : ∀ K, getP ((es.map epV).take k) i K = K (.agg [.int .i64 e.key, .int .i64 e.ix, .sl (.lst 3 e.puts.length (e.puts.map ptV')), .ints .u8 32 e.tree]) := fun K => by
      have := getP_map (f := epV) (l := es.take k) (i := i) (a := e) (by rw [List.getElem?_take_of_lt (by omega), he]) K
      rw [List.map_take] at this
      exact this
    have kt := epochText_spec ((i : Int) + 1) e.tree
    have eR : (txF es (i + 1)).map bsl = (txF es i).map bsl ++ [.sl (.ints .u8 40 (epochT ((i : Int) + 1) e.tree))] := by
      rw [txF, hed, List.map_append, List.map_cons, List.map_nil, bsl, epochT_len (ht e (List.mem_of_getElem? he))]
    simp -implicitDefEqProofs (disch := omega) only [go_sem, ↓reduceIte, ↓g1, hl2]
    refine callF 1 kt ?_
    simp -implicitDefEqProofs (disch := omega) only [go_sem, ↓reduceIte]
    refine ⟨i + 1, [(0, 4)], [], [], by dsimp only; omega, by dsimp only; omega, rfl, ?_, ?_, ?_⟩ <;> simp -implicitDefEqProofs (disch := omega) only [go_sem, ↓reduceIte, eR]
  · obtain rfl : i = k := by omega
    simp -implicitDefEqProofs (disch := omega) only [go_sem, ↓reduceIte]
    refine ⟨[(0, 0)], [], [], rfl, ?_, ?_, ?_⟩ <;> simp -implicitDefEqProofs (disch := omega) only [go_sem, ↓reduceIte]
def hdF (es : List Ep) (k : Nat) (tree : List Int) : List Int := rg (txF es k ++ [epochT ((k : Int) + 1) tree]) 0 (k + 1)
theorem head_spec (es : List Ep) (ne : Nat) (hn : es.length = ne) (L : AV) (rest : List AV) (key : Int) (k : Nat) (hk : k ≤ ne) (hk2 : k < 200) (hb : ne ≤ 100000) (ht : ∀ e ∈ es, goodD e.tree) (tree : List Int) (htr : goodD tree) :
    FnC Tryz.prog 77 [.pp (.agg (.agg [.ints .u8 32 na, .sl (.lst 35 ne (es.map epV)), L, .opq, .opq] :: rest)) [], .int .i64 key, .int .i64 ((k : Int) + 1), .ints .u8 32 tree] []
      (.agg [.int .i64 key, .int .i64 ((k : Int) + 1), .ints .u8 32 tree, .ints .u8 32 (hdF es k tree)]) [] := by
  have e1 : (k : Int) + 1 - 1 = k := by omega
  have k1 := texts_spec na es ne hn L rest k hk hb (fun e h => (ht e h).1)
  have k2 := epochText_spec ((k : Int) + 1) tree
  have k3 := logroot_spec (txF es k ++ [epochT ((k : Int) + 1) tree]) (k + 1) (by rw [List.length_append, txF_len, List.length_singleton]) (by omega) (fun b h => by
    rcases List.mem_append.1 h with h | h
    · exact txF_ok ht k (by omega) b h
    · rw [List.mem_singleton] at h
      subst h
      exact ⟨epochT_mem htr, by rw [epochT_len htr.1]; decide⟩)
  have eR : (txF es k ++ [epochT ((k : Int) + 1) tree]).map bsl = (txF es k).map bsl ++ [.sl (.ints .u8 40 (epochT ((k : Int) + 1) tree))] := by
    rw [List.map_append, List.map_cons, List.map_nil, bsl, epochT_len htr.1]
  rw [eR] at k3
  rw [show rg (txF es k ++ [epochT ((k : Int) + 1) tree]) 0 (k + 1) = hdF es k tree from rfl] at k3
  generalize hdF es k tree = R at *
  refine fn0 mix pl77 0 4 [.cell 8 72] Tryz.func77 rfl (by kernel_rfl) (by kernel_rfl) rfl (by kernel_rfl) (by kernel_rfl) (by simp) ?_
  simp -implicitDefEqProofs (disch := omega) only [go_sem, ↓reduceIte, e1]
  refine callF 1 k1 ?_
  simp -implicitDefEqProofs (disch := omega) only [go_sem, ↓reduceIte]
  refine callF 1 k2 ?_
  simp -implicitDefEqProofs (disch := omega) only [go_sem, ↓reduceIte]
  refine callB k3 ?_ ?_
  · simp -implicitDefEqProofs (disch := omega) only [go_sem, ↓reduceIte]
  simp -implicitDefEqProofs (disch := omega) only [go_sem, ↓reduceIte]
end
attribute [go_sem] pl73
def rowP (p : Pt) : List Int := rowb 3 [bkU p.name, be (IntKind.u64.wrap p.ver) 8, p.val]
def rowsF (key ix : Int) (ps : List Pt) : List (List Int) := [be (IntKind.u64.wrap key) 8, be (IntKind.u64.wrap ix) 8] ++ ps.map rowP
def bodF (key ix : Int) (ps : List Pt) : List Int := rowb (2 + ps.length) (rowsF key ix ps)
def recF (key ix : Int) (ps : List Pt) : List Int := be (bodF key ix ps).length 4 ++ bodF key ix ps
structure smallPt (p : Pt) : Prop where
  g : goodP p
  n : p.name.length ≤ 64
  v : p.val.length ≤ 64
theorem rowP_len {p : Pt} (h : smallPt p) : (rowP p).length ≤ 200 := by
  have h1 := h.n
  have h2 := h.v
  unfold rowP rowb
  simp only [List.flatMap_cons, List.flatMap_nil, List.append_nil, List.length_append, be_len, bkU_len]
  omega
theorem record_spec (key ix : Int) (ps : List Pt) (m : Nat) (hm : ps.length = m) (hb : m ≤ 16) (hp : ∀ p ∈ ps, smallPt p) (tree : List Int) :
    FnC Tryz.prog 73 [.agg [.int .i64 key, .int .i64 ix, .sl (.lst 3 m (ps.map ptV')), .ints .u8 32 tree]] [] (.osl 0 [] 1 0 (recF key ix ps).length) [(0, .row (.ints .u8 (recF key ix ps).length (recF key ix ps)))] := by
  have hpe : (ps.map ptV').length = m := by rw [List.length_map, hm]
  have n1 := number_spec (IntKind.u64.wrap key) 8 8 rfl
  have n2 := number_spec (IntKind.u64.wrap ix) 8 8 rfl
  refine fnN mix ((100002, []) :: pl73) 0 1 [.tmp 2] Tryz.func73 rfl (by kernel_rfl) (by kernel_rfl) rfl (by kernel_rfl) (by kernel_rfl) (by simp) ?_
  simp -implicitDefEqProofs (disch := omega) only [go_sem, ↓reduceIte]
  refine callF 1 n1 ?_
  simp -implicitDefEqProofs (disch := omega) only [go_sem, ↓reduceIte]
  refine callF 1 n2 ?_
  simp -implicitDefEqProofs (disch := omega) only [go_sem, ↓reduceIte]
  refine Sy.cut 2 [(1, .ref 0 []), (3, .osl 1 [] 1 0 2)] [(0, .var (.agg [.int .i64 key, .int .i64 ix, .sl (.lst 3 m (ps.map ptV')), .ints .u8 32 tree])), (1, .row (.lst 1 2 [.sl (.ints .u8 8 (be (IntKind.u64.wrap key) 8)), .sl (.ints .u8 8 (be (IntKind.u64.wrap ix) 8))]))] [(0, 0), (1, 3)] [] [1, 2] rfl ?_ ?_ ?_ ?_
  · simp -implicitDefEqProofs (disch := omega) only [go_sem, ↓reduceIte]
  · simp -implicitDefEqProofs (disch := omega) only [go_sem, ↓reduceIte]
  · simp -implicitDefEqProofs (disch := omega) only [go_sem, ↓reduceIte]
  simp -implicitDefEqProofs (disch := omega) only [go_sem, ↓reduceIte]
  refine loop (ι := Nat) 2 (fun i => i ≤ m) (fun i => [(1, .ref 0 []), (3, .osl 1 [] 1 0 (2 + i)), (20, .sl (.lst 3 m (ps.map ptV'))), (21, .int .i64 m), (22, .int .i64 i)])
    (fun i => [(0, .var (.agg [.int .i64 key, .int .i64 ix, .sl (.lst 3 m (ps.map ptV')), .ints .u8 32 tree])), (1, .row (.lst 1 (2 + i) ((rowsF key ix (ps.take i)).map bsl)))]) (fun i => m - i) 0 [(0, 0), (1, 1)] [] (Nat.zero_le _) rfl ?_ ?_ ?_ (fun i hi => ?_)
  · simp -implicitDefEqProofs (disch := omega) only [go_sem, ↓reduceIte]
  · simp -implicitDefEqProofs (disch := omega) only [go_sem, ↓reduceIte]
  · simp -implicitDefEqProofs (disch := omega) only [go_sem, ↓reduceIte, List.take_zero, rowsF, List.map_nil, List.append_nil, List.map_cons, bsl, be_len]
  simp -implicitDefEqProofs (disch := omega) only [go_sem, ↓reduceIte]
  refine brd (fun h1 => ?_) (fun h1 => ?_)
  · obtain ⟨p, hx⟩ : ∃ p, ps[i]? = some p := ⟨_, List.getElem?_eq_getElem (by omega)⟩
    have hps := hp p (List.mem_of_getElem? hx)
    have l1 := hps.n
    have l2 := hps.v
    have g1 : ∀ K, getP (ps.map ptV') i K = K (.agg [.str p.name, .int .i64 p.ver, .sl (.ints .u8 p.val.length p.val)]) := fun K => getP_map (f := ptV') hx K
    have n3 := number_spec (IntKind.u64.wrap p.ver) 8 8 rfl
    have kr := prow_spec [bkU p.name, be (IntKind.u64.wrap p.ver) 8, p.val] (by simp) (fun b hb => by
      simp only [List.mem_cons, List.not_mem_nil, or_false] at hb
      rcases hb with rfl | rfl | rfl
      · rw [bkU_len]; omega
      · rw [be_len]; decide
      · omega)
    have eb : [bkU p.name, be (IntKind.u64.wrap p.ver) 8, p.val].map bsl = [.sl (.ints .u8 p.name.length (bkU p.name)), .sl (.ints .u8 8 (be (IntKind.u64.wrap p.ver) 8)), .sl (.ints .u8 p.val.length p.val)] := by
      simp only [List.map_cons, List.map_nil, bsl, be_len, bkU_len]
    rw [eb, show [bkU p.name, be (IntKind.u64.wrap p.ver) 8, p.val].length = 3 from rfl, show rowb 3 [bkU p.name, be (IntKind.u64.wrap p.ver) 8, p.val] = rowP p from rfl] at kr
    have eR : (rowsF key ix (ps.take (i + 1))).map bsl = (rowsF key ix (ps.take i)).map bsl ++ [.sl (.ints .u8 (rowP p).length (rowP p))] := by
      unfold rowsF
      rw [List.take_add_one, hx]
      simp only [List.map_append, List.append_assoc, Option.toList_some, List.map_cons, List.map_nil]
      rfl
    have hrl := rowP_len hps
    generalize rowP p = X at *
    obtain ⟨w, hw⟩ : ∃ w, X.length = w := ⟨_, rfl⟩
    rw [hw] at kr eR hrl
    simp -implicitDefEqProofs (disch := omega) only [go_sem, ↓reduceIte, ↓g1, hpe]
    refine callF 1 n3 ?_
    simp -implicitDefEqProofs (disch := omega) only [go_sem, ↓reduceIte]
    refine callBF 1 kr ?_ ?_
    · simp -implicitDefEqProofs (disch := omega) only [go_sem, ↓reduceIte]
      rfl
    simp -implicitDefEqProofs (disch := omega) only [go_sem, ↓reduceIte]
    refine ⟨i + 1, [(0, 0), (1, 8)], [], [], by dsimp only; omega, by dsimp only; omega, rfl, ?_, ?_, ?_⟩ <;> simp -implicitDefEqProofs (disch := omega) only [go_sem, ↓reduceIte, eR, ← Nat.add_assoc]
  · obtain rfl : i = m := by omega
    rw [List.take_of_length_le (by omega)]
    have hrows : ∀ b ∈ rowsF key ix ps, b.length ≤ 65535 := fun b hb => by
      unfold rowsF at hb
      rcases List.mem_append.1 hb with hb | hb
      · simp only [List.mem_cons, List.not_mem_nil, or_false] at hb
        rcases hb with rfl | rfl <;> rw [be_len] <;> decide
      · rw [List.mem_map] at hb
        obtain ⟨p, hp1, rfl⟩ := hb
        have := rowP_len (hp p hp1)
        omega
    have kr := prow_spec (rowsF key ix ps) (by unfold rowsF; rw [List.length_append, List.length_map]; simp; omega) hrows
    have el : (rowsF key ix ps).length = 2 + i := by unfold rowsF; rw [List.length_append, List.length_map, hm]; rfl
    rw [el, show rowb (2 + i) (rowsF key ix ps) = bodF key ix ps by unfold bodF; rw [hm]] at kr
    unfold recF
    have hbl : (bodF key ix ps).length ≤ 2 + 18 * 65537 := by
      have h := rowb_len (2 + i) hrows (2 + i) (by rw [el]; exact Nat.le_refl _)
      rw [List.take_of_length_le (by rw [el]; exact Nat.le_refl _)] at h
      have e : bodF key ix ps = rowb (2 + i) (rowsF key ix ps) := by unfold bodF; rw [hm]
      rw [e]
      have : (2 + i) * 65537 ≤ 18 * 65537 := Nat.mul_le_mul_right _ (by omega)
      exact Nat.le_trans h (Nat.add_le_add_left this 2)
    generalize bodF key ix ps = B at *
    obtain ⟨w, hw⟩ : ∃ w, B.length = w := ⟨_, rfl⟩
    rw [hw] at kr hbl
    rw [List.length_append, be_len, hw]
    have n4 := number_spec (w : Nat) 4 4 rfl
    have ww : IntKind.u64.wrap (w : Int) = w := by
      have e : IntKind.u64.wrap (w : Int) = (w : Int) % 18446744073709551616 := rfl
      rw [e]
      omega
    simp -implicitDefEqProofs (disch := omega) only [go_sem, ↓reduceIte]
    refine callBF 1 kr ?_ ?_
    · simp -implicitDefEqProofs (disch := omega) only [go_sem, ↓reduceIte]
    simp -implicitDefEqProofs (disch := omega) only [go_sem, ↓reduceIte, ww]
    refine callF 1 n4 ?_
    simp -implicitDefEqProofs (disch := omega) only [go_sem, ↓reduceIte]
    refine ⟨[(0, 4)], [], [], rfl, ?_, ?_, ?_⟩ <;> simp -implicitDefEqProofs (disch := omega) only [go_sem, ↓reduceIte]
attribute [go_sem] pl139 pl171
def atN (n idx : Nat) : Nat → Nat
  | 0 => idx
  | k + 1 => atN n idx k / pw n
theorem atN_le (n idx : Nat) : ∀ k, atN n idx k ≤ idx
  | 0 => Nat.le_refl _
  | k + 1 => Nat.le_trans (Nat.div_le_self _ _) (atN_le n idx k)
theorem and_pw {n x : Nat} (h : n ≤ 4) (hx : x ≤ 65536) : iand .i64 (x : Int) ((pw n : Int) - 1) = ((x % pw n : Nat) : Int) := by
  have hp : (pw n : Int) = (2 : Int) ^ n := by simp [pw]
  rw [iand_mask (k := .i64) n (by rw [hp]) (by show n < 64; omega) (by omega) (by show (x : Int) < 2 ^ 64; omega), ← hp, Int.natCast_emod]
theorem to_spec (lay x y z a : Int) (n v : Nat) (hn : 1 ≤ n) (h4 : n ≤ 4) (hv : v ≤ 65536) : FnC Tryz.prog 171 [.ref 0 [], .int .u32 lay, .int .i64 v]
    [(0, .var (.agg [.agg [.int .u32 x, .int .u64 y, .int .i64 z], .agg [.int .i64 a, .int .i64 n]]))] (.tup [])
    [(0, .var (.agg [.agg [.int .u32 lay, .int .u64 ((v / pw n : Nat) : Int), .int .i64 ((v % pw n : Nat) : Int)], .agg [.int .i64 a, .int .i64 n]]))] := by
  have hsh : ishl .i64 1 n = (pw n : Int) := by
    obtain rfl | rfl | rfl | rfl : n = 1 ∨ n = 2 ∨ n = 3 ∨ n = 4 := by omega
    all_goals decide
  have hsr : ishr .i64 (v : Int) n = ((v / pw n : Nat) : Int) := shr_nat v n (by omega)
  have hand := and_pw (n := n) (x := v) h4 hv
  have hp4 : pw n ≤ pw 4 := pw_le h4
  have hp5 : pw 4 = 16 := rfl
  have hpp := pw_pos n
  have hd : v / pw n ≤ v := Nat.div_le_self _ _
  generalize v / pw n = q at *
  generalize v % pw n = r at *
  refine fnN mix pl171 1 3 [] Tryz.func171 rfl (by kernel_rfl) (by kernel_rfl) rfl (by kernel_rfl) (by kernel_rfl) (by simp) ?_
  simp -implicitDefEqProofs (disch := omega) only [go_sem, ↓reduceIte, hsh, hsr, hand]
  refine ⟨[(0, 0)], [], [], rfl, ?_, ?_, ?_⟩ <;> simp -implicitDefEqProofs (disch := omega) only [go_sem, ↓reduceIte]
theorem begin_spec (a : Int) (n v : Nat) (hn : 1 ≤ n) (h4 : n ≤ 4) (hv : v ≤ 65536) : FnC Tryz.prog 107 [.agg [.int .i64 a, .int .i64 n], .int .i64 v] [] (.ref 0 [])
    [(0, .var (.agg [.agg [.int .u32 0, .int .u64 ((v / pw n : Nat) : Int), .int .i64 ((v % pw n : Nat) : Int)], .agg [.int .i64 a, .int .i64 n]]))] := by
  refine fnN mix [] 0 2 [.tmp 4] Tryz.func107 rfl (by kernel_rfl) (by kernel_rfl) rfl (by kernel_rfl) (by kernel_rfl) (by simp) ?_
  simp -implicitDefEqProofs (disch := omega) only [go_sem, ↓reduceIte]
  refine callG false [(0, 1)] [(0, 1)] 2 (to_spec 0 0 0 0 a n v hn h4 hv) ?_ ?_
  · simp [keys]
  simp -implicitDefEqProofs (disch := omega) only [go_sem, ↓reduceIte]
  refine ⟨[(0, 1)], [], [], rfl, ?_, ?_, ?_⟩ <;> simp -implicitDefEqProofs (disch := omega) only [go_sem, ↓reduceIte]
def plUp : List (Nat × Plan) := [(0, [(0, [], none), (1, [0], none), (2, [0], none), (3, [0], none), (4, [0], none), (5, [0], none), (6, [0], none), (7, [0, 1, 2, 3, 4, 5, 6], none), (8, [0, 1, 2, 3, 4, 5, 6], none), (9, [0, 1, 2, 3, 4, 5, 6], none), (10, [0, 1, 2, 3, 4, 5, 6], none), (11, [0, 1, 2, 3, 4, 5, 6], none), (12, [0, 1, 2, 3, 4, 5, 6], none), (13, [], some [2, 8, 14])])]
attribute [go_sem] plUp
theorem up_spec11 (k a z : Int) (n t : Nat) (hn : 1 ≤ n) (h4 : n ≤ 4) (hv : t ≤ 65536) (hk : 0 ≤ k ∧ k < 100) : FnC Tryz.prog 109 [.ref 0 []]
    [(0, .var (.agg [.agg [.int .u32 k, .int .u64 t, .int .i64 z], .agg [.int .i64 a, .int .i64 n]]))] (.tup [])
    [(0, .var (.agg [.agg [.int .u32 (k + 1), .int .u64 ((t / pw n : Nat) : Int), .int .i64 ((t % pw n : Nat) : Int)], .agg [.int .i64 a, .int .i64 n]]))] := by
  refine fnN mix plUp 1 1 [] Tryz.func109 rfl (by kernel_rfl) (by kernel_rfl) rfl (by kernel_rfl) (by kernel_rfl) (by simp) ?_
  simp -implicitDefEqProofs (disch := omega) only [go_sem, ↓reduceIte]
  refine callG false [(0, 0)] [(0, 0)] 1 (to_spec (k + 1) k t z a n t hn h4 hv) ?_ ?_
  · simp [keys]
  simp -implicitDefEqProofs (disch := omega) only [go_sem, ↓reduceIte]
  refine ⟨[(0, 0)], [], [], rfl, ?_, ?_, ?_⟩ <;> simp -implicitDefEqProofs (disch := omega) only [go_sem, ↓reduceIte]
theorem spot_spec (k t : Int) (f : Int) (hf : 0 ≤ f ∧ f < 4294967296) : FnC Tryz.prog 173 [.agg [.int .u32 k, .int .u64 t, .int .i64 f]] [] (.ints .u32 8 (base k t 0 f)) [] := by
  refine fn0 mix [] 0 1 [.cell 2 282] Tryz.func173 rfl (by kernel_rfl) (by kernel_rfl) rfl (by kernel_rfl) (by kernel_rfl) (by simp) ?_
  simp -implicitDefEqProofs (disch := omega) only [go_sem, ↓reduceIte]
  refine call0 (ots_spec k t f) ?_
  simp -implicitDefEqProofs (disch := omega) only [go_sem, ↓reduceIte]
theorem told_spec (shape : AV) (a b : Int) (r root pub : List Int) (index : Int) (ps : List (List Int)) (hr : goodD r) (ht : goodD root) (hp : ∀ p ∈ ps, ∀ x ∈ p, 0 ≤ x ∧ x < 256) (hc : (cat ps).length ≤ 100000) (hps : ps.length ≤ 100000) (hi : 0 ≤ index ∧ index < 1000000) :
    FnC Tryz.prog 106 [.agg [.agg [.int .i64 a, .int .i64 b], .ints .u8 32 root, .ints .u8 32 pub], .ints .u8 32 r, .int .i64 index, .sl (.lst 1 ps.length (ps.map bsl))] [] (.ints .u8 32 (msgD r root index (cat ps))) [] := by
  refine fn0 mix [] 0 4 [.cell 8 25] Tryz.func106 rfl (by kernel_rfl) (by kernel_rfl) rfl (by kernel_rfl) (by kernel_rfl) (by simp) ?_
  simp -implicitDefEqProofs (disch := omega) only [go_sem, ↓reduceIte]
  refine call0 (message_spec r root index ps hr.1 hr.2 ht.1 ht.2 hp hc hps) ?_
  simp -implicitDefEqProofs (disch := omega) only [go_sem, ↓reduceIte]
def rootK (seed pub : List Int) (n idx : Nat) (k : Nat) : List Int := treeD (leafD pub seed k (atN n idx (k + 1))) pub k (atN n idx (k + 1)) n 0
def mK (seed pub m : List Int) (n idx : Nat) : Nat → List Int
  | 0 => m
  | k + 1 => rootK seed pub n idx k
def partK (seed pub m : List Int) (n idx k : Nat) : Part :=
  (rowN (signD (mK seed pub m n idx k) seed pub (base k (atN n idx (k + 1)) 0 (atN n idx k % pw n : Nat))) 67, wayD (leafD pub seed k (atN n idx (k + 1))) pub k (atN n idx (k + 1)) (atN n idx k % pw n) n)
def partsK (seed pub m : List Int) (n idx : Nat) : Nat → List Part
  | 0 => []
  | k + 1 => partsK seed pub m n idx k ++ [partK seed pub m n idx k]
theorem partsK_len (seed pub m : List Int) (n idx : Nat) : ∀ k, (partsK seed pub m n idx k).length = k
  | 0 => rfl
  | k + 1 => by simp [partsK, partsK_len seed pub m n idx k]
theorem rootK_good (seed pub : List Int) (n idx k : Nat) : goodD (rootK seed pub n idx k) := treeD_good (leafD_good pub _ _ seed) _ _ _ _ _
theorem mK_good (seed pub : List Int) {m : List Int} (hm : goodD m) (n idx : Nat) : ∀ k, goodD (mK seed pub m n idx k)
  | 0 => hm
  | k + 1 => rootK_good _ _ _ _ _
def rD (key : List Int) (idx : Int) : List Int := ofD 3 key (be idx 32)
theorem rD_good (key : List Int) (idx : Int) : goodD (rD key idx) := ofD_good _ _ _
def outA : Nat → AV
  | 0 => .nils
  | k + 1 => .osl 6 [] 2 0 (k + 1)
def outO (seed pub m : List Int) (n idx : Nat) : Nat → OO
  | 0 => []
  | k + 1 => [(6, .row (.lst 2 (k + 1) ((partsK seed pub m n idx (k + 1)).map pt)))]
end Go.Proofs.YtololahjocfbeaaGreat
