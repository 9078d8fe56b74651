/- Texts, joined. -/
import Derived.Test.YtololahjocfbeaaGreatC33
import Derived.Shelf.SlSortCmp.WholeK
import Derived.Lib.BytesEntry
import Derived.Test.YtololahjocfbeaaGreatProg
import Derived.Test.YtololahjocfbeaaGreatC29
import Derived.Ground.SlsfProg
namespace Go.Proofs.YtololahjocfbeaaGreat
open Go Go.Sy Go.Proofs.Tryz
set_option maxRecDepth 100000
set_option maxHeartbeats 8000000
set_option linter.unusedSimpArgs false
set_option linter.unusedVariables false
attribute [go_sem] pl28 pl71
theorem pf_ens : ∀ l : List En, AV.pf.pfs (l.map enV) = true
  | [] => rfl
  | e :: l => by
    rw [List.map_cons, AV.pf.pfs, pf_ens l]
    rfl
theorem pf_rowE (n : Nat) (l : List En) : ([((0 : Nat), OB.row (.lst 64 n (l.map enV)))].all fun p => p.2.pf) = true := by
  show (AV.pf.pfs (l.map enV) && true) = true
  rw [pf_ens]
  rfl
theorem bindex_dir (na ma : List Int) (hna : goodD na) (a n b : Int) (y : Dy) (name : List Int) (m : Nat) (hn : name.length = m) (hm : ∀ x ∈ name, 0 ≤ x ∧ x < 256) (v : Int) :
    FnC Tryz.prog 123 [.pp (dirP na ma a n b y) [.fld 0 0], .sl (.ints .u8 m name), .int .i64 v] [] (.ints .u8 32 (idxF na name v)) [] :=
  bindex_spec na hna (.sl (.lst 35 y.es.length (y.es.map epV))) (.sl (.lst 64 y.l.length (y.l.map enV))) (restP na ma a n b y) name m hn hm v
theorem bwith_dir (na ma : List Int) (hna : goodD na) (a n b : Int) (y : Dy) (ps : List Pt) (hp : ∀ p ∈ ps, goodP p) (hb : y.l.length ≤ 100000) (hb2 : ps.length ≤ 100000) :
    FnC Tryz.prog 76 [.pp (dirP na ma a n b y) [.fld 0 0], wtP ps] [] (.osl 0 [] 64 0 (y.l.length + ps.length)) [(0, .row (.lst 64 (y.l.length + ps.length) ((y.l ++ ps.map (entF na)).map enV)))] :=
  bwith_spec na hna (.sl (.lst 35 y.es.length (y.es.map epV))) rfl (restP na ma a n b y) y.l y.l.length rfl ps ps.length rfl hp hb hb2
def newP (name val : List Int) : Pt := ⟨toU name, 1, 1 :: val⟩
section
variable (na ma : List Int) (hna : goodD na) (a n b : Int) (y : Dy)
include hna in
theorem changed_new (name : List Int) (m : Nat) (hm : name.length = m) (hg : ∀ x ∈ name, 0 ≤ x ∧ x < 256) (hml : m ≤ 64) (val : List Int) (vl : Nat) (hvl : val.length = vl) (hv : vl ≤ 64)
    (hgn : getM (y.la.map fun p => MK.str p.name) (y.la.map ptV') (MK.str (toU name)) = none) (hw : ∀ p ∈ y.ps, p.name ≠ toU name) (hp : ∀ p ∈ y.ps, goodP p) (hps : y.ps.length < 16) (hl : y.l.length + y.ps.length < 256)
    (hix : idxF na name 1 ∉ (y.l ++ y.ps.map (entF na)).map (·.1)) :
    FnC Tryz.prog 71 [.ref 5 [], .int .i64 1, .sl (.ints .u8 m name), .sl (.ints .u8 vl val)] (dirOW na ma a n b y 6 7 8 9 10 11 12)
      (.tup [.agg [.str (toU name), .int .i64 1, .osl 20 [] 1 0 (1 + vl)], .int .i64 0]) (dirOW na ma a n b y 13 14 15 16 17 18 19 ++ [(20, .row (.ints .u8 (1 + vl) (1 :: val)))]) := by
  have k1 := bwith_dir na ma hna a n b y y.ps hp (by omega) (by omega)
  have k2 := bindex_dir na ma hna a n b y name m hm hg 1
  have k3 := has_spec (y.l ++ y.ps.map (entF na)) (y.l.length + y.ps.length) (by rw [List.length_append, List.length_map]) (by omega) (idxF na name 1)
  rw [decide_eq_false hix] at k3
  generalize idxF na name 1 = X at *
  obtain ⟨D, F, S, x, nxt, sg, S2, es, l, size, ps, gone, la, va⟩ := y
  dsimp only at *
  have hle : (ps.map ptV').length = ps.length := List.length_map _
  refine fnV mix pl71 6 13 4 [.cell 8 149, .tmp 9] Tryz.func71 rfl (by kernel_rfl) (by kernel_rfl) rfl (by kernel_rfl) (by kernel_rfl) (by simp) rfl rfl ?_
  simp -implicitDefEqProofs (disch := omega) only [go_sem, ↓reduceIte]
  refine loop (ι := Nat) 14 (fun i => i ≤ ps.length) (fun i => [(0, .ref 5 []), (1, .int .i64 1), (2, .sl (.ints .u8 m name)), (3, .sl (.ints .u8 vl val)), (8, .ref 13 []), (16, .osl 12 [] 3 0 ps.length), (17, .int .i64 ps.length), (18, .int .i64 i)])
    (fun i => dirOW na ma a n b ⟨D, F, S, x, nxt, sg, S2, es, l, size, ps, gone, la, va⟩ 6 7 8 9 10 11 12 ++ [(13, .var (.agg [.str [], .int .i64 0, .nils]))]) (fun i => ps.length - i) 0 [(0, 0), (1, 1), (2, 2), (3, 3), (4, 4), (5, 5), (6, 6), (7, 7), (8, 8), (9, 9), (10, 10), (11, 11), (12, 12), (13, 13)] [] (Nat.zero_le _) rfl ?_ ?_ ?_ (fun i hi => ?_)
  · simp -implicitDefEqProofs (disch := omega) only [go_sem, ↓reduceIte]
  · simp -implicitDefEqProofs (disch := omega) only [go_sem, ↓reduceIte]
  · simp -implicitDefEqProofs (disch := omega) only [go_sem, ↓reduceIte, List.cons_append, List.nil_append]
  simp -implicitDefEqProofs (disch := omega) only [go_sem, ↓reduceIte, List.cons_append, List.nil_append]
  refine brd (fun h1 => ?_) (fun h1 => ?_)
  · obtain ⟨p, hx⟩ : ∃ p, ps[i]? = some p := ⟨_, List.getElem?_eq_getElem (by omega)⟩
    have g1 : ∀ K, getP (ps.map ptV') i K = K (.agg [.str p.name, .int .i64 p.ver, .sl (.ints .u8 p.val.length p.val)]) := fun K => getP_map (f := ptV') hx K
    have hne : decide (p.name = name.map fun x => UInt8.ofNat x.toNat) = false := decide_eq_false (hw p (List.mem_of_getElem? hx))
    simp -implicitDefEqProofs (disch := omega) only [go_sem, ↓reduceIte, ↓g1, hle, hne]
    refine ⟨i + 1, [(0, 0), (1, 1), (2, 2), (3, 3), (4, 4), (5, 5), (6, 6), (7, 7), (8, 8), (9, 9), (10, 10), (11, 11), (12, 12), (13, 13)], [], [], by dsimp only; omega, by dsimp only; omega, rfl, ?_, ?_, ?_⟩ <;> simp -implicitDefEqProofs (disch := omega) only [go_sem, ↓reduceIte]
  · obtain rfl : i = ps.length := by omega
    have hgn' : getM (la.map fun p => MK.str p.name) (la.map ptV') (MK.str (name.map fun x => UInt8.ofNat x.toNat)) = none := hgn
    have hF := fndC_no hgn'
    simp -implicitDefEqProofs (disch := omega) only [go_sem, ↓reduceIte, ↓hF]
    refine callBF 1 k1 ?_ ?_ rfl rfl (pf_rowE _ _)
    · simp -implicitDefEqProofs (disch := omega) only [go_sem, ↓reduceIte]
    simp -implicitDefEqProofs (disch := omega) only [go_sem, ↓reduceIte]
    refine callB k2 ?_ ?_
    · simp -implicitDefEqProofs (disch := omega) only [go_sem, ↓reduceIte]
    simp -implicitDefEqProofs (disch := omega) only [go_sem, ↓reduceIte]
    refine callB k3 ?_ ?_
    · simp -implicitDefEqProofs (disch := omega) only [go_sem, ↓reduceIte]
    simp -implicitDefEqProofs (disch := omega) only [go_sem, ↓reduceIte]
    refine brd (fun h => by omega) (fun h => ?_)
    simp -implicitDefEqProofs (disch := omega) only [go_sem, ↓reduceIte]
    refine brd (fun h => by omega) (fun h => ?_)
    simp -implicitDefEqProofs (disch := omega) only [go_sem, ↓reduceIte]
    refine ⟨[(0, 0), (1, 1), (2, 2), (3, 3), (4, 4), (5, 5), (13, 6), (14, 7), (15, 8), (16, 9), (17, 10), (18, 11), (19, 12), (20, 17)], [], [], rfl, ?_, ?_, ?_⟩ <;> simp -implicitDefEqProofs (disch := omega) only [go_sem, ↓reduceIte, toU]
include hna in
theorem changed_nil (name : List Int) (m : Nat) (hm : name.length = m) (hg : ∀ x ∈ name, 0 ≤ x ∧ x < 256) (hml : m ≤ 64)
    (hgn : getM (y.la.map fun p => MK.str p.name) (y.la.map ptV') (MK.str (toU name)) = none) (hw : ∀ p ∈ y.ps, p.name ≠ toU name) (hp : ∀ p ∈ y.ps, goodP p) (hps : y.ps.length < 16) (hl : y.l.length + y.ps.length < 256)
    (hix : idxF na name 1 ∉ (y.l ++ y.ps.map (entF na)).map (·.1)) :
    FnC Tryz.prog 71 [.ref 5 [], .int .i64 1, .sl (.ints .u8 m name), .nils] (dirOW na ma a n b y 6 7 8 9 10 11 12)
      (.tup [.agg [.str (toU name), .int .i64 1, .osl 20 [] 1 0 1], .int .i64 0]) (dirOW na ma a n b y 13 14 15 16 17 18 19 ++ [(20, .row (.ints .u8 1 [1]))]) := by
  refine (changed_new na ma hna a n b y name m hm hg hml [] 0 rfl (by decide) hgn hw hp hps hl hix).sub [(0, 0), (1, 1), (2, 2), (3, 3), (4, 4), (5, 5), (6, 6), (7, 7), (8, 8), (9, 9), (10, 10), (11, 11), (12, 12)] [] [] rfl ?_ ?_
  · simp -implicitDefEqProofs (disch := omega) only [go_sem, ↓reduceIte]
  · simp -implicitDefEqProofs (disch := omega) only [go_sem, ↓reduceIte]
include hna in
theorem change_new (name : List Int) (m : Nat) (hm : name.length = m) (hg : ∀ x ∈ name, 0 ≤ x ∧ x < 256) (hm1 : 1 ≤ m) (hml : m ≤ 64) (hgo : y.gone = false)
    (hgn : getM (y.la.map fun p => MK.str p.name) (y.la.map ptV') (MK.str (toU name)) = none) (hw : ∀ p ∈ y.ps, p.name ≠ toU name) (hp : ∀ p ∈ y.ps, goodP p) (hps : y.ps.length < 16) (hl : y.l.length + y.ps.length < 256)
    (hix : idxF na name 1 ∉ (y.l ++ y.ps.map (entF na)).map (·.1)) :
    FnC Tryz.prog 28 [.ref 5 [], .int .i64 1, .sl (.ints .u8 m name), .nils] (dirOW na ma a n b y 6 7 8 9 10 11 12)
      (.int .i64 0) (dirOW na ma a n b { y with ps := y.ps ++ [newP name []] } 13 14 15 16 17 18 19) := by
  have k1 := stopped_pp na ma a n b y
  rw [hgo] at k1
  have k2 := changed_nil na ma hna a n b y name m hm hg hml hgn hw hp hps hl hix
  have d1 : decide ((m : Int) < 1) = false := decide_eq_false (by omega)
  have d2 : decide ((64 : Int) < (m : Int)) = false := decide_eq_false (by omega)
  have eR : (y.ps ++ [newP name []]).map ptV' = y.ps.map ptV' ++ [.agg [.str (toU name), .int .i64 1, .sl (.ints .u8 1 [1])]] := by rw [List.map_append]; rfl
  have eL : (y.ps ++ [newP name []]).length = y.ps.length + 1 := by rw [List.length_append]; rfl
  obtain ⟨D, F, S, x, nxt, sg, S2, es, l, size, ps, gone, la, va⟩ := y
  dsimp only at *
  generalize ps ++ [newP name []] = ps' at *
  generalize toU name = N at *
  refine fnV mix ((100007, []) :: pl28) 6 13 4 [.tmp 8] Tryz.func28 rfl (by kernel_rfl) (by kernel_rfl) rfl (by kernel_rfl) (by kernel_rfl) (by simp) rfl rfl ?_
  simp -implicitDefEqProofs (disch := omega) only [go_sem, ↓reduceIte]
  refine brd (fun h => by omega) (fun h => ?_)
  simp -implicitDefEqProofs (disch := omega) only [go_sem, ↓reduceIte]
  refine brd (fun h => by omega) (fun h => ?_)
  simp -implicitDefEqProofs (disch := omega) only [go_sem, ↓reduceIte]
  refine callB k1 ?_ ?_
  · simp -implicitDefEqProofs (disch := omega) only [go_sem, ↓reduceIte]
  simp -implicitDefEqProofs (disch := omega) only [go_sem, ↓reduceIte]
  refine callG false [(0, 0), (1, 1), (2, 2), (3, 3), (4, 4), (5, 5), (6, 6), (7, 7), (8, 8), (9, 9), (10, 10), (11, 11), (12, 12)] [(0, 0), (1, 1), (2, 2), (3, 3), (4, 4), (5, 5), (13, 13), (14, 14), (15, 15), (16, 16), (17, 17), (18, 18), (19, 19), (20, 20)] 21 k2 ?_ ?_
  · simp [keys]
  simp -implicitDefEqProofs (disch := omega) only [go_sem, ↓reduceIte]
  refine Sy.cut 14 [(0, .ref 5 []), (9, .ref 13 []), (10, .int .i64 0)] (dirOW na ma a n b ⟨D, F, S, x, nxt, sg, S2, es, l, size, ps, gone, la, va⟩ 6 7 8 9 10 11 12 ++ [(13, .var (.agg [.str N, .int .i64 1, .sl (.ints .u8 1 [1])]))])
    [(0, 0), (1, 1), (2, 2), (3, 3), (4, 4), (5, 5), (6, 13), (7, 14), (8, 15), (9, 16), (10, 17), (11, 18), (12, 19), (13, 21)] [] [20] rfl ?_ ?_ ?_ ?_
  · simp -implicitDefEqProofs (disch := omega) only [go_sem, ↓reduceIte]
  · simp -implicitDefEqProofs (disch := omega) only [go_sem, ↓reduceIte]
  · simp -implicitDefEqProofs (disch := omega) only [go_sem, ↓reduceIte, List.cons_append, List.nil_append]
  dsimp only [dirOW, dirOg, List.cons_append, List.nil_append]
  simp -implicitDefEqProofs (disch := omega) only [go_sem, ↓reduceIte]
  refine ⟨[(0, 0), (1, 1), (2, 2), (3, 3), (4, 4), (5, 5), (13, 6), (14, 7), (15, 8), (16, 9), (17, 10), (18, 11), (19, 15)], [], [], rfl, ?_, ?_, ?_⟩ <;> simp -implicitDefEqProofs (disch := omega) only [go_sem, ↓reduceIte, eR, eL]
end
end Go.Proofs.YtololahjocfbeaaGreat
namespace Go.Proofs.YtololahjocfbeaaGreat
open Go Go.Shelf Go.RowKit Go.Lib Go.Sort Go.Proofs
set_option maxRecDepth 100000
set_option maxHeartbeats 2000000
theorem run_load32 {P : Program} (w : World) (b off n c : Nat) (xs : List Int) (hx : xs.length = n) (hc : ∀ i, i < n → w.cell? ⟨b, off + i, none⟩ = some (.int .u8 (xs.getD i 0))) :
    (Extern.Bytes.bytesOf (.slice (some ⟨b, off, none⟩) n c)).run P w = .ok ⟨(Lib.bytesOf xs).toArray⟩ w := by
  have hl := run_loadBytesX (P := P) w xs ⟨b, off, none⟩ .empty (fun j x hj => by
    have hjl : j < xs.length := (List.getElem?_eq_some_iff.1 hj).1
    have e : (⟨b, off, none⟩ : Addr).add j = ⟨b, off + j, none⟩ := by unfold Addr.add; split <;> simp_all
    rw [e, hc j (by omega), List.getD_eq_getElem?_getD, hj]
    rfl)
  rw [hx] at hl
  have e2 : (ByteArray.empty.data ++ (Lib.bytesOf xs).toArray) = (Lib.bytesOf xs).toArray := by
    show (#[] : Array UInt8) ++ (Lib.bytesOf xs).toArray = _
    rw [Array.empty_append]
  rw [e2] at hl
  exact hl
theorem run_cmp {P : Program} (w : World) (b1 o1 n1 c1 b2 o2 n2 c2 : Nat) (xs ys : List Int) (hx : xs.length = n1) (hy : ys.length = n2)
    (h1 : ∀ i, i < n1 → w.cell? ⟨b1, o1 + i, none⟩ = some (.int .u8 (xs.getD i 0))) (h2 : ∀ i, i < n2 → w.cell? ⟨b2, o2 + i, none⟩ = some (.int .u8 (ys.getD i 0))) :
    (Extern.BytealgCompare.compare #[.slice (some ⟨b1, o1, none⟩) n1 c1, .slice (some ⟨b2, o2, none⟩) n2 c2]).run P w = .ok (.int .i64 (compareBytes (Lib.bytesOf xs) (Lib.bytesOf ys))) w := by
  change Sem.run P (do pure (goInt (Extern.BytealgCompare.cmp (← Extern.Bytes.bytesOf (.slice (some ⟨b1, o1, none⟩) n1 c1)) (← Extern.Bytes.bytesOf (.slice (some ⟨b2, o2, none⟩) n2 c2))))) w = _
  simp only [Sem.run_bind, run_load32 w b1 o1 n1 c1 xs hx h1, run_load32 w b2 o2 n2 c2 ys hy h2, Sem.run_pure, Result.andThen]
  rw [cmp_eq]
  rfl
theorem cmp_walk (w : World) (b1 o1 c1 b2 o2 c2 : Nat) (xs ys : List Int) (hx : xs.length = 32) (hy : ys.length = 32)
    (h1 : ∀ i, i < 32 → w.cell? ⟨b1, o1 + i, none⟩ = some (.int .u8 (xs.getD i 0))) (h2 : ∀ i, i < 32 → w.cell? ⟨b2, o2 + i, none⟩ = some (.int .u8 (ys.getD i 0))) :
    Calls Tryz.prog 194 #[.slice (some ⟨b1, o1, none⟩) 32 c1, .slice (some ⟨b2, o2, none⟩) 32 c2] w fun e w' => e = .returned (.int .i64 (compareBytes (Lib.bytesOf xs) (Lib.bytesOf ys))) ∧ w' = w := by
  have hr := run_cmp (P := Tryz.prog) w b1 o1 32 c1 b2 o2 32 c2 xs ys hx hy h1 h2
  clear h1 h2
  generalize compareBytes (Lib.bytesOf xs) (Lib.bytesOf ys) = r at hr ⊢
  go_enter Tryz.func194, Tryz.ntmps194
  go_wp2
  rw [run_callFunc_extern Tryz.func232 (by kernel_rfl) (by kernel_rfl) (by kernel_rfl) (e := Extern.BytealgCompare.compare) (by kernel_rfl), hr]
  simp only [Result.andThen]
  rw [Oper.upon_value]
  go_wp2
  go_ret
  exact ⟨rfl, rfl⟩
abbrev GE := {e : En // goodE e}
instance : Inhabited GE := ⟨⟨(List.replicate 32 0, List.replicate 32 0), ⟨rfl, by decide⟩, ⟨rfl, by decide⟩⟩⟩
def encE (x : GE) : List Value := (x.1.1 ++ x.1.2).map (Value.int .u8)
def cfE (x y : GE) : Int := compareBytes (Lib.bytesOf x.1.1) (Lib.bytesOf y.1.1)
theorem encE_len (x : GE) : (encE x).length = 64 := by
  rw [encE, List.length_map, List.length_append, x.2.1.1, x.2.2.1]
theorem encE_get (x : GE) (i : Nat) (hi : i < 32) : (encE x)[i]? = some (.int .u8 (x.1.1.getD i 0)) := by
  rw [encE, List.getElem?_map, List.getElem?_append_left (by rw [x.2.1.1]; exact hi), List.getElem?_eq_getElem (by rw [x.2.1.1]; exact hi), Option.map_some, List.getD, List.getElem?_eq_getElem (by rw [x.2.1.1]; exact hi), Option.getD_some]
theorem closure_walk (x y : GE) (W : World) : Calls Tryz.prog 193 #[.agg (encE x).toArray, .agg (encE y).toArray] W fun e w' => e = .returned (.int .i64 (cfE x y)) ∧ ∃ q os', w' = grow (W.drewN q) os' := by
  have hcon := fun W' b1 o1 c1 b2 o2 c2 h1 h2 => cmp_walk W' b1 o1 c1 b2 o2 c2 x.1.1 y.1.1 x.2.1.1 y.2.1.1 h1 h2
  change ∀ W' b1 o1 c1 b2 o2 c2 h1 h2, Calls Tryz.prog 194 _ _ (fun e w' => e = .returned (.int .i64 (cfE x y)) ∧ w' = W') at hcon
  have hx := encE_get x
  have hy := encE_get y
  have sx := encE_len x
  have sy := encE_len y
  generalize cfE x y = r at hcon ⊢
  generalize encE x = A at *
  generalize encE y = B at *
  go_enter Tryz.func193, Tryz.ntmps193
  go_wp2_with fail
  have hb1 : W.heap.size < ((W.alloc (Obj.cells A.toArray 229)).alloc (Obj.cells B.toArray 229)).heap.size := by
    rw [alloc_eq_grow, alloc_eq_grow, size_grow, size_grow]; show W.heap.size < W.heap.size + 1 + 1; omega
  have hb2 : W.heap.size + 1 < ((W.alloc (Obj.cells A.toArray 229)).alloc (Obj.cells B.toArray 229)).heap.size := by
    rw [alloc_eq_grow, alloc_eq_grow, size_grow, size_grow]; show W.heap.size + 1 < W.heap.size + 1 + 1; omega
  have hg : (W.alloc (Obj.cells A.toArray 229)).alloc (Obj.cells B.toArray 229) = grow W #[Obj.cells A.toArray 229, Obj.cells B.toArray 229] := by
    rw [alloc_eq_grow, alloc_eq_grow, grow_grow]; rfl
  have hc1 : ∀ i, i < 32 → ((W.alloc (Obj.cells A.toArray 229)).alloc (Obj.cells B.toArray 229)).cell? ⟨W.heap.size, 0 + i, none⟩ = some (.int .u8 (x.1.1.getD i 0)) := fun i hi => by
    have e1 : (W.heap ++ #[Obj.cells A.toArray 229, Obj.cells B.toArray 229])[W.heap.size]? = some (Obj.cells A.toArray 229) := by
      rw [Array.getElem?_append_right (Nat.le_refl _), Nat.sub_self]; rfl
    rw [hg, World.cell?]
    show (match (W.heap ++ #[Obj.cells A.toArray 229, Obj.cells B.toArray 229])[W.heap.size]? with | some (.cells c _ _) => if Option.isSome (none : Option Nat) then none else c[0 + i]? | _ => none) = _
    rw [e1, Nat.zero_add]
    show A.toArray[i]? = _
    rw [List.getElem?_toArray, hx i hi]
  have hc2 : ∀ i, i < 32 → ((W.alloc (Obj.cells A.toArray 229)).alloc (Obj.cells B.toArray 229)).cell? ⟨W.heap.size + 1, 0 + i, none⟩ = some (.int .u8 (y.1.1.getD i 0)) := fun i hi => by
    have e1 : (W.heap ++ #[Obj.cells A.toArray 229, Obj.cells B.toArray 229])[W.heap.size + 1]? = some (Obj.cells B.toArray 229) := by
      rw [Array.getElem?_append_right (Nat.le_succ _), show W.heap.size.succ - W.heap.size = 1 by omega]; rfl
    rw [hg, World.cell?]
    show (match (W.heap ++ #[Obj.cells A.toArray 229, Obj.cells B.toArray 229])[W.heap.size + 1]? with | some (.cells c _ _) => if Option.isSome (none : Option Nat) then none else c[0 + i]? | _ => none) = _
    rw [e1, Nat.zero_add]
    show B.toArray[i]? = _
    rw [List.getElem?_toArray, hy i hi]
  have hcg : ∀ n os, Calls Tryz.prog 194 #[.slice (some ⟨W.heap.size, 0, none⟩) 32 32, .slice (some ⟨W.heap.size + 1, 0, none⟩) 32 32] (grow (((W.alloc (Obj.cells A.toArray 229)).alloc (Obj.cells B.toArray 229)).drewN n) os) fun e w' => e = .returned (.int .i64 r) ∧ ∃ q os', w' = grow ((grow (((W.alloc (Obj.cells A.toArray 229)).alloc (Obj.cells B.toArray 229)).drewN n) os).drewN q) os' := fun n os =>
    (hcon _ _ _ _ _ _ _ (fun i hi => cell_grown hb1 (hc1 i hi) n os) (fun i hi => cell_grown hb2 (hc2 i hi) n os)).mono fun e w' h => ⟨h.1, 0, #[], by rw [h.2, grow_empty]; rfl⟩
  clear hcon hc1 hc2 hb1 hb2
  generalize hwq : (W.alloc (Obj.cells A.toArray 229)).alloc (Obj.cells B.toArray 229) = wq at hcg hg ⊢
  have HG : Hid (wq = grow W #[Obj.cells A.toArray 229, Obj.cells B.toArray 229]) := hg
  clear hg hwq hx hy sx sy
  have mixed : Tryz.prog.follows .mixedOrders = true := by kernel_rfl
  go_quiet_grown (first | (go_at_call 194; refine Calls.grown_of (hcg _ _)))
  go_wp2
  go_ret
  exact ⟨rfl, nq, _, by rw [HG.out]; rw [show (grow W #[Obj.cells A.toArray 229, Obj.cells B.toArray 229]).drewN nq = grow (W.drewN nq) #[Obj.cells A.toArray 229, Obj.cells B.toArray 229] from rfl, grow_grow]⟩
end Go.Proofs.YtololahjocfbeaaGreat
namespace Go.Proofs
open Go.Shelf
def Tryz.sortEn_ren : Go.Shelf.Ren := ⟨fun | 6 => 192 | 15 => 231 | 14 => 230 | 28 => 258 | 29 => 259 | 20 => 250 | 21 => 251 | 22 => 252 | 23 => 253 | 24 => 254 | 25 => 255 | 26 => 256 | 27 => 257 | 46 => 267 | 47 => 268 | 48 => 269 | 49 => 270 | 50 => 271 | 57 => 273 | n => n, fun | 22 => 126 | 24 => 229 | 25 => 310 | 3 => 3 | 39 => 305 | 0 => 0 | 53 => 241 | 55 => 218 | 4 => 4 | 46 => 383 | 45 => 382 | 50 => 387 | 5 => 5 | 9 => 9 | 66 => 397 | 70 => 401 | 76 => 403 | 77 => 404 | n => n, fun | n => n⟩
theorem Tryz.sortEn : Go.Proofs.SlLaysF0.n6 Tryz.prog Tryz.sortEn_ren := {
  mixed := by kernel_rfl
  f6 := ⟨Tryz.f192.name, by decide, Tryz.func192.trans (congrArg some (by kernel_rfl))⟩
  f14 := ⟨Tryz.f230.name, by decide, Tryz.func230.trans (congrArg some (by kernel_rfl))⟩
  f15 := Tryz.func231.trans (congrArg some (by kernel_rfl))
  f20 := ⟨Tryz.f250.name, by decide, Tryz.func250.trans (congrArg some (by kernel_rfl))⟩
  f21 := ⟨Tryz.f251.name, by decide, Tryz.func251.trans (congrArg some (by kernel_rfl))⟩
  f22 := ⟨Tryz.f252.name, by decide, Tryz.func252.trans (congrArg some (by kernel_rfl))⟩
  f23 := ⟨Tryz.f253.name, by decide, Tryz.func253.trans (congrArg some (by kernel_rfl))⟩
  f24 := ⟨Tryz.f254.name, by decide, Tryz.func254.trans (congrArg some (by kernel_rfl))⟩
  f25 := ⟨Tryz.f255.name, by decide, Tryz.func255.trans (congrArg some (by kernel_rfl))⟩
  f26 := ⟨Tryz.f256.name, by decide, Tryz.func256.trans (congrArg some (by kernel_rfl))⟩
  f27 := ⟨Tryz.f257.name, by decide, Tryz.func257.trans (congrArg some (by kernel_rfl))⟩
  f28 := Tryz.func258.trans (congrArg some (by kernel_rfl))
  f29 := Tryz.func259.trans (congrArg some (by kernel_rfl))
  f46 := ⟨Tryz.f267.name, by decide, Tryz.func267.trans (congrArg some (by kernel_rfl))⟩
  f47 := Tryz.func268.trans (congrArg some (by kernel_rfl))
  f48 := Tryz.func269.trans (congrArg some (by kernel_rfl))
  f49 := ⟨Tryz.f270.name, by decide, Tryz.func270.trans (congrArg some (by kernel_rfl))⟩
  f50 := ⟨Tryz.f271.name, by decide, Tryz.func271.trans (congrArg some (by kernel_rfl))⟩
  f57 := ⟨Tryz.f273.name, by decide, Tryz.func273.trans (congrArg some (by kernel_rfl))⟩
  t0 := Tryz.underlying0
  a0 := Tryz.isAgg0
  z0 := Tryz.sizeOf0
  v0 := Tryz.zeroValue0
  t3 := Tryz.underlying3
  a3 := Tryz.isAgg3
  z3 := Tryz.sizeOf3
  v3 := Tryz.zeroValue3
  t4 := Tryz.underlying4
  a4 := Tryz.isAgg4
  z4 := Tryz.sizeOf4
  v4 := Tryz.zeroValue4
  t5 := Tryz.underlying5
  a5 := Tryz.isAgg5
  z5 := Tryz.sizeOf5
  v5 := Tryz.zeroValue5
  t9 := Tryz.underlying9
  a9 := Tryz.isAgg9
  z9 := Tryz.sizeOf9
  v9 := Tryz.zeroValue9
  t22 := Tryz.underlying126
  a22 := Tryz.isAgg126
  z22 := Tryz.sizeOf126
  v22 := Tryz.zeroValue126
  t25 := Tryz.underlying310
  a25 := Tryz.isAgg310
  z25 := Tryz.sizeOf310
  v25 := Tryz.zeroValue310
  t39 := Tryz.underlying305
  a39 := Tryz.isAgg305
  z39 := Tryz.sizeOf305
  v39 := Tryz.zeroValue305
  t45 := Tryz.underlying382
  a45 := Tryz.isAgg382
  z45 := Tryz.sizeOf382
  v45 := Tryz.zeroValue382
  t46 := Tryz.underlying383
  a46 := Tryz.isAgg383
  z46 := Tryz.sizeOf383
  v46 := Tryz.zeroValue383
  t50 := Tryz.underlying387
  a50 := Tryz.isAgg387
  z50 := Tryz.sizeOf387
  v50 := Tryz.zeroValue387
  t53 := Tryz.underlying241
  a53 := Tryz.isAgg241
  z53 := Tryz.sizeOf241
  v53 := Tryz.zeroValue241
  t55 := Tryz.underlying218
  a55 := Tryz.isAgg218
  z55 := Tryz.sizeOf218
  v55 := Tryz.zeroValue218
  t66 := Tryz.underlying397
  a66 := Tryz.isAgg397
  z66 := Tryz.sizeOf397
  v66 := Tryz.zeroValue397
  t70 := Tryz.underlying401
  a70 := Tryz.isAgg401
  z70 := Tryz.sizeOf401
  v70 := Tryz.zeroValue401
  t76 := Tryz.underlying403
  a76 := Tryz.isAgg403
  z76 := Tryz.sizeOf403
  v76 := Tryz.zeroValue403
  t77 := Tryz.underlying404
  a77 := Tryz.isAgg404
  z77 := Tryz.sizeOf404
  v77 := Tryz.zeroValue404 }
end Go.Proofs
namespace Go.Proofs.YtololahjocfbeaaGreat
open Go Go.Sy Go.Proofs.Tryz Go.Shelf Go.RowKit Go.Sort
set_option maxRecDepth 100000
set_option maxHeartbeats 2000000
set_option linter.unusedSimpArgs false
set_option linter.unusedVariables false
theorem fold_lt : ∀ (a b : List Int), a.length = b.length → (∀ x ∈ a, 0 ≤ x ∧ x < 256) → (∀ x ∈ b, 0 ≤ x ∧ x < 256) → ∀ c d : Int, c < d → a.foldl (fun n x => n * 256 + x) c < b.foldl (fun n x => n * 256 + x) d
  | [], [], _, _, _, c, d, h => h
  | [], y :: b, h, _, _, _, _, _ => by cases h
  | x :: a, [], h, _, _, _, _, _ => by cases h
  | x :: a, y :: b, h, ha, hb, c, d, hc => by
    have hx := ha x (List.mem_cons_self ..)
    have hy := hb y (List.mem_cons_self ..)
    rw [List.foldl_cons, List.foldl_cons]
    exact fold_lt a b (by simpa using h) (fun z hz => ha z (List.mem_cons_of_mem _ hz)) (fun z hz => hb z (List.mem_cons_of_mem _ hz)) _ _ (by omega)
theorem cmp_num : ∀ (a b : List Int), a.length = b.length → (∀ x ∈ a, 0 ≤ x ∧ x < 256) → (∀ x ∈ b, 0 ≤ x ∧ x < 256) → ∀ c : Int,
    (Lib.compareBytes (Lib.bytesOf a) (Lib.bytesOf b) < 0 ↔ a.foldl (fun n x => n * 256 + x) c < b.foldl (fun n x => n * 256 + x) c)
  | [], [], _, _, _, c => by simp [Lib.bytesOf, Lib.compareBytes]
  | [], y :: b, h, _, _, _ => by cases h
  | x :: a, [], h, _, _, _ => by cases h
  | x :: a, y :: b, h, ha, hb, c => by
    have hx := ha x (List.mem_cons_self ..)
    have hy := hb y (List.mem_cons_self ..)
    have hl : a.length = b.length := by simpa using h
    have hga := fun z hz => ha z (List.mem_cons_of_mem x hz)
    have hgb := fun z hz => hb z (List.mem_cons_of_mem y hz)
    have ih := fun c => cmp_num a b hl hga hgb c
    have ux : (UInt8.ofNat x.toNat).toNat = x.toNat := by rw [UInt8.toNat_ofNat']; omega
    have uy : (UInt8.ofNat y.toNat).toNat = y.toNat := by rw [UInt8.toNat_ofNat']; omega
    rw [List.foldl_cons, List.foldl_cons]
    show Lib.compareBytes (UInt8.ofNat x.toNat :: Lib.bytesOf a) (UInt8.ofNat y.toNat :: Lib.bytesOf b) < 0 ↔ _
    rw [Lib.compareBytes]
    by_cases h1 : x < y
    · rw [if_pos (by rw [UInt8.lt_iff_toNat_lt, ux, uy]; omega)]
      exact ⟨fun _ => fold_lt a b hl hga hgb _ _ (by omega), fun _ => by decide⟩
    · rw [if_neg (by rw [UInt8.lt_iff_toNat_lt, ux, uy]; omega)]
      by_cases h2 : y < x
      · rw [if_pos (by rw [UInt8.lt_iff_toNat_lt, ux, uy]; omega)]
        refine ⟨fun hh => absurd hh (by decide), fun hh => ?_⟩
        have := fold_lt b a hl.symm hgb hga (c * 256 + y) (c * 256 + x) (by omega)
        omega
      · rw [if_neg (by rw [UInt8.lt_iff_toNat_lt, ux, uy]; omega)]
        obtain rfl : x = y := by omega
        exact ih _
theorem lt_num (x y : GE) : ltOf cfE x y = decide (ofb x.1.1 < ofb y.1.1) := by
  unfold ltOf cfE
  have h := (cmp_num x.1.1 y.1.1 (x.2.1.1.trans y.2.1.1.symm) x.2.1.2 y.2.1.2 0)
  exact decide_eq_decide.2 h
theorem swoE : SWO (ltOf cfE) where
  irrefl x := by rw [lt_num]; simp
  trans x y z h1 h2 := by rw [lt_num] at *; simp at *; omega
  ntrans x y z h1 h2 := by rw [lt_num] at *; simp at *; omega
def srtG (l : List GE) : List GE := (pdq (ltOf cfE) l.toArray 0 l.toArray.size (Lib.bitLen l.toArray.size) true true).toList
theorem srtG_both (l : List GE) : (srtG l).Perm l ∧ (srtG l).Pairwise (fun a b => ofb a.1.1 ≤ ofb b.1.1) := by
  have h := pdq_sorts (ltOf cfE) swoE l.toArray 0 l.toArray.size (Lib.bitLen l.toArray.size) true true (Nat.zero_le _) (Nat.le_refl _) (Or.inl rfl)
  obtain ⟨⟨h1, h2, h3⟩, h4⟩ := h
  unfold srtG
  generalize pdq (ltOf cfE) l.toArray 0 l.toArray.size (Lib.bitLen l.toArray.size) true true = d at *
  have hd : d.toList.length = l.length := by simpa using h1
  refine ⟨?_, ?_⟩
  · have e1 : d.extract 0 l.toArray.size = d := by rw [← h1, Array.extract_size]
    rw [e1, Array.extract_size] at h3
    exact h3
  · rw [List.pairwise_iff_getElem]
    intro i j hi hj hij
    have := h4 i j (Nat.zero_le _) hij (by rw [← h1]; simpa using hj)
    rw [lt_num, decide_eq_false_iff_not] at this
    rw [getElem!_pos d i (by simpa using hi), getElem!_pos d j (by simpa using hj)] at this
    simp only [Array.getElem_toList]
    omega
theorem srtG_len (l : List GE) : (srtG l).length = l.length := (srtG_both l).1.length_eq
def cellsE (e : En) : List Value := (e.1 ++ e.2).map (Value.int .u8)
theorem rv_enV {M : Pool} {β : Bmap} {e : En} (he : goodE e) : RV M β (enV e) (cellsE e) := by
  have h := RV.agg (RVs.cons (RV.ints (M := M) (β := β) .u8 he.1.1) (RVs.cons (RV.ints (M := M) (β := β) .u8 he.2.1) RVs.nil))
  rw [List.append_nil, ← List.map_append] at h
  exact h
theorem rv_enV_inv {M : Pool} {β : Bmap} {e : En} {c : List Value} (h : RV M β (enV e) c) : c = cellsE e := by
  unfold enV at h
  cases h with
  | agg h =>
    cases h with
    | cons h1 h2 =>
      cases h1
      cases h2 with
      | cons h3 h4 =>
        cases h3
        cases h4
        rw [List.append_nil, ← List.map_append]
        rfl
theorem rvs_enV {M : Pool} {β : Bmap} : ∀ {l : List En}, (∀ e ∈ l, goodE e) → RVs M β (l.map enV) ((l.map cellsE).flatten)
  | [], _ => .nil
  | e :: l, h => .cons (rv_enV (h e (List.mem_cons_self ..))) (rvs_enV fun x hx => h x (List.mem_cons_of_mem _ hx))
theorem rvs_enV_inv {M : Pool} {β : Bmap} : ∀ {l : List En} {c : List Value}, RVs M β (l.map enV) c → c = (l.map cellsE).flatten
  | [], c, h => by cases h; rfl
  | e :: l, c, h => by
    cases h with
    | cons h1 h2 =>
      rw [rv_enV_inv h1, rvs_enV_inv h2]
      rfl
theorem rv_lst {M : Pool} {β : Bmap} {l : List En} {n : Nat} (hg : ∀ e ∈ l, goodE e) (hn : l.length = n) : RV M β (.lst 64 n (l.map enV)) ((l.map cellsE).flatten) := by
  refine RV.lst (rvs_enV hg) (fun p hp => ?_) (by rw [List.length_map, hn])
  rw [List.mem_map] at hp
  obtain ⟨e, he, rfl⟩ := hp
  rfl
theorem rv_lst_inv {M : Pool} {β : Bmap} {l : List En} {n : Nat} {c : List Value} (h : RV M β (.lst 64 n (l.map enV)) c) : c = (l.map cellsE).flatten := by
  cases h with
  | lst h1 h2 h3 => exact rvs_enV_inv h1
theorem flat_len : ∀ (L : List GE), ((L.map encE).flatten).length = L.length * 64
  | [] => rfl
  | x :: L => by rw [List.map_cons, List.flatten_cons, List.length_append, encE_len, flat_len L, List.length_cons]; omega
theorem flat_get : ∀ (L : List GE) (t : Nat), t < L.length * 64 → ((L.map encE).flatten)[t]! = (encE L[t / 64]!)[t % 64]!
  | [], t, h => absurd h (by simp)
  | x :: L, t, h => by
    rw [List.map_cons, List.flatten_cons]
    by_cases c : t < 64
    · rw [show t / 64 = 0 by omega, show t % 64 = t by omega]
      show _ = (encE x)[t]!
      rw [List.getElem!_eq_getElem?_getD, List.getElem!_eq_getElem?_getD, List.getElem?_append_left (by rw [encE_len]; exact c)]
    · obtain ⟨u, rfl⟩ : ∃ u, t = u + 64 := ⟨t - 64, by omega⟩
      rw [show (u + 64) / 64 = u / 64 + 1 by omega, show (u + 64) % 64 = u % 64 by omega, List.getElem!_eq_getElem?_getD, List.getElem?_append_right (by rw [encE_len]; omega), encE_len, Nat.add_sub_cancel, ← List.getElem!_eq_getElem?_getD, flat_get L u (by rw [List.length_cons] at h; omega)]
      rfl
theorem flatK_list (L : List GE) : flatK encE 64 L.toArray = ((L.map encE).flatten).toArray := by
  refine ext_get! (by rw [size_flatK]; show _ = ((L.map encE).flatten).length; rw [flat_len]; rfl) fun t ht => ?_
  rw [size_flatK] at ht
  have ht' : t < L.length * 64 := by simpa using ht
  rw [get_flatK _ _ _ _ ht]
  have h := flat_get L t ht'
  rw [show ((L.map encE).flatten).toArray[t]! = ((L.map encE).flatten)[t]! by simp, h]
  simp
theorem val_pmap : ∀ (l : List En) (hg : ∀ e ∈ l, goodE e), (l.pmap (fun e h => (⟨e, h⟩ : GE)) hg).map (·.1) = l
  | [], _ => rfl
  | e :: l, h => by
    rw [List.pmap_cons, List.map_cons, val_pmap l (fun x hx => h x (List.mem_cons_of_mem _ hx))]
end Go.Proofs.YtololahjocfbeaaGreat
