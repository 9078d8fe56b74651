/- Texts, joined. -/
import Derived.Test.YtololahjocfbeaaGreatC27
import Derived.Test.YtololahjocfbeaaGreatC29
import Derived.Test.YtololahjocfbeaaGreatC12
namespace Go.Proofs.YtololahjocfbeaaGreat
open Go Go.Sy Go.Proofs.Tryz
set_option maxRecDepth 100000
set_option maxHeartbeats 8000000
set_option linter.unusedSimpArgs false
set_option linter.unusedVariables false
attribute [go_sem] pl130
structure Pt where
  name : List UInt8
  ver : Int
  val : List Int
def ptV' (p : Pt) : AV := .agg [.str p.name, .int .i64 p.ver, .sl (.ints .u8 p.val.length p.val)]
structure goodP (p : Pt) : Prop where
  nl : p.name.length ≤ 1000000
  vl : p.val.length ≤ 1000000
  vm : ∀ x ∈ p.val, 0 ≤ x ∧ x < 256
def idxF (na name : List Int) (v : Int) : List Int := if namedP name v then fromD (nonceD na name v) name v else zs
def nonF (na name : List Int) (v : Int) : List Int := if namedP name v then nonceD na name v else zs
def comF (na index val : List Int) : List Int := if val.length ≤ 64 then madeD (saltD na index val) val else zs
def salF (na index val : List Int) : List Int := if val.length ≤ 64 then saltD na index val else zs
theorem idxF_good (na name : List Int) (v : Int) : goodD (idxF na name v) := by unfold idxF; split; exact ⟨sumD_len _, sumD_mem _⟩; exact zs_good
theorem comF_good (na index val : List Int) : goodD (comF na index val) := by unfold comF; split; exact ⟨sumD_len _, sumD_mem _⟩; exact zs_good
def entF (na : List Int) (p : Pt) : En := (idxF na (bkU p.name) p.ver, comF na (idxF na (bkU p.name) p.ver) p.val)
theorem entF_good (na : List Int) (p : Pt) : goodE (entF na p) := ⟨idxF_good _ _ _, comF_good _ _ _⟩
section
variable (na : List Int) (hna : goodD na)
include hna in
theorem indexF_spec (name : List Int) (n : Nat) (hn : name.length = n) (hm : ∀ x ∈ name, 0 ≤ x ∧ x < 256) (v : Int) : ∃ e : Int, FnC Tryz.prog 144 [.ints .u8 32 na, .sl (.ints .u8 n name), .int .i64 v] [] (.tup [.ints .u8 32 (idxF na name v), .ints .u8 32 (nonF na name v), .int .i64 e]) [] := by
  unfold idxF nonF
  by_cases h : namedP name v
  · rw [if_pos h, if_pos h]
    exact ⟨0, index16_ok (key := na) (name := name) (v := v) (n := n) hn h hna.1 hna.2 hm⟩
  · rw [if_neg h, if_neg h]
    exact ⟨1, index16_bad (key := na) (name := name) (v := v) (n := n) hn h⟩
include hna in
theorem valueF_spec (index : List Int) (hi : goodD index) (val : List Int) (n : Nat) (hn : val.length = n) (hm : ∀ x ∈ val, 0 ≤ x ∧ x < 256) : ∃ e : Int, FnC Tryz.prog 196 [.ints .u8 32 na, .ints .u8 32 index, .sl (.ints .u8 n val)] [] (.tup [.ints .u8 32 (comF na index val), .ints .u8 32 (salF na index val), .int .i64 e]) [] := by
  unfold comF salF
  by_cases h : val.length ≤ 64
  · rw [if_pos h, if_pos h]
    exact ⟨0, value16_ok (key := na) (index := index) (value := val) (n := n) hn (by omega) hna.1 hna.2 hi.1 hi.2 hm⟩
  · rw [if_neg h, if_neg h]
    exact ⟨1, value16_bad (key := na) (index := index) (value := val) (n := n) hn (by omega)⟩
abbrev bkP (E L : AV) (rest : List AV) : AV := .pp (.agg (.agg [.ints .u8 32 na, E, L, .opq, .opq] :: rest)) [.fld 0 0]
include hna in
theorem bindex_spec (E L : AV) (rest : List AV) (name : List Int) (n : Nat) (hn : name.length = n) (hm : ∀ x ∈ name, 0 ≤ x ∧ x < 256) (v : Int) : FnC Tryz.prog 123 [bkP na E L rest, .sl (.ints .u8 n name), .int .i64 v] [] (.ints .u8 32 (idxF na name v)) [] := by
  obtain ⟨e, k⟩ := indexF_spec na hna name n hn hm v
  generalize idxF na name v = X at *
  generalize nonF na name v = Y at *
  refine fn0 mix [] 0 3 [.cell 6 25] Tryz.func123 rfl (by kernel_rfl) (by kernel_rfl) rfl (by kernel_rfl) (by kernel_rfl) (by simp) ?_
  simp -implicitDefEqProofs (disch := omega) only [go_sem, ↓reduceIte]
  refine call0 k ?_
  simp -implicitDefEqProofs (disch := omega) only [go_sem, ↓reduceIte]
include hna in
theorem bentry_spec (E L : AV) (rest : List AV) (p : Pt) (hp : goodP p) : FnC Tryz.prog 130 [bkP na E L rest, ptV' p] [] (.tup [.agg [.ints .u8 32 (entF na p).1, .ints .u8 32 (entF na p).2], .ints .u8 32 (nonF na (bkU p.name) p.ver), .ints .u8 32 (salF na (entF na p).1 p.val)]) [] := by
  obtain ⟨e1, k1⟩ := indexF_spec na hna (bkU p.name) p.name.length (bkU_len _) (bkU_mem _) p.ver
  obtain ⟨e2, k2⟩ := valueF_spec na hna (entF na p).1 (entF_good na p).1 p.val p.val.length rfl hp.vm
  rw [show comF na (entF na p).1 p.val = (entF na p).2 from rfl] at k2
  rw [show idxF na (bkU p.name) p.ver = (entF na p).1 from rfl] at k1
  have h1 := hp.nl
  have h2 := hp.vl
  unfold ptV'
  generalize entF na p = X at *
  obtain ⟨x, y⟩ := X
  dsimp only at k1 k2 ⊢
  generalize nonF na (bkU p.name) p.ver = u at *
  generalize salF na x p.val = v at *
  refine fn0 mix pl130 0 2 [.cell 4 229, .cell 5 25, .cell 6 25] Tryz.func130 rfl (by kernel_rfl) (by kernel_rfl) rfl (by kernel_rfl) (by kernel_rfl) (by simp) ?_
  simp -implicitDefEqProofs (disch := omega) only [go_sem, ↓reduceIte]
  refine callB k1 ?_ ?_
  · simp -implicitDefEqProofs (disch := omega) only [go_sem, ↓reduceIte]
    rfl
  simp -implicitDefEqProofs (disch := omega) only [go_sem, ↓reduceIte]
  refine call0 k2 ?_
  simp -implicitDefEqProofs (disch := omega) only [go_sem, ↓reduceIte]
include hna in
theorem bwith_spec (E : AV) (hE : E.csz = 1) (rest : List AV) (l : List En) (n : Nat) (hl : l.length = n) (ps : List Pt) (m : Nat) (hm : ps.length = m) (hp : ∀ p ∈ ps, goodP p) (hb : n ≤ 100000) (hb2 : m ≤ 100000) :
    FnC Tryz.prog 76 [bkP na E (.sl (.lst 64 n (l.map enV))) rest, .sl (.lst 3 m (ps.map ptV'))] [] (.osl 0 [] 64 0 (n + m)) [(0, .row (.lst 64 (n + m) ((l ++ ps.map (entF na)).map enV)))] := by
  have hle : (l.map enV).length = n := by rw [List.length_map, hl]
  have hpe : (ps.map ptV').length = m := by rw [List.length_map, hm]
  refine fnN mix [] 0 2 [.tmp 4] Tryz.func76 rfl (by kernel_rfl) (by kernel_rfl) rfl (by kernel_rfl) (by kernel_rfl) (by simp) ?_
  simp -implicitDefEqProofs (disch := omega) only [go_sem, ↓reduceIte, hle, hE, List.nil_append]
  refine loop (ι := Nat) 1 (fun i => i ≤ m) (fun i => [(0, bkP na E (.sl (.lst 64 n (l.map enV))) rest), (5, .osl 0 [] 64 0 (n + i)), (17, .sl (.lst 3 m (ps.map ptV'))), (18, .int .i64 m), (19, .int .i64 i)])
    (fun i => [(0, .row (.lst 64 (n + i) ((l ++ (ps.take i).map (entF na)).map enV)))]) (fun i => m - i) 0 [(0, 1)] [] (Nat.zero_le _) rfl ?_ ?_ ?_ (fun i hi => ?_)
  · simp -implicitDefEqProofs (disch := omega) only [go_sem, ↓reduceIte]
  · simp -implicitDefEqProofs (disch := omega) only [go_sem, ↓reduceIte]
  · simp -implicitDefEqProofs (disch := omega) only [go_sem, ↓reduceIte, List.take_zero, List.map_nil, List.append_nil]
  simp -implicitDefEqProofs (disch := omega) only [go_sem, ↓reduceIte]
  refine brd (fun h1 => ?_) (fun h1 => ?_)
  · obtain ⟨p, hx⟩ : ∃ p, ps[i]? = some p := ⟨_, List.getElem?_eq_getElem (by omega)⟩
    have hpg := hp p (List.mem_of_getElem? hx)
    have g1 : ∀ K, getP (ps.map ptV') i K = K (.agg [.str p.name, .int .i64 p.ver, .sl (.ints .u8 p.val.length p.val)]) := fun K => getP_map (f := ptV') hx K
    have k := bentry_spec na hna E (.sl (.lst 64 n (l.map enV))) rest p hpg
    unfold ptV' at k
    have eR : (l ++ (ps.take (i + 1)).map (entF na)).map enV = (l ++ (ps.take i).map (entF na)).map enV ++ [.agg [.ints .u8 32 (entF na p).1, .ints .u8 32 (entF na p).2]] := by
      rw [List.take_add_one, hx]
      simp only [List.map_append, List.append_assoc, Option.toList_some, List.map_cons, List.map_nil]
      rfl
    generalize entF na p = X at *
    obtain ⟨x, y⟩ := X
    dsimp only at k eR
    generalize nonF na (bkU p.name) p.ver = u at *
    generalize salF na x p.val = v at *
    simp -implicitDefEqProofs (disch := omega) only [go_sem, ↓reduceIte, ↓g1, hpe]
    refine call0 k ?_
    simp -implicitDefEqProofs (disch := omega) only [go_sem, ↓reduceIte]
    refine ⟨i + 1, [(0, 6)], [], [], by dsimp only; omega, by dsimp only; omega, rfl, ?_, ?_, ?_⟩ <;> simp -implicitDefEqProofs (disch := omega) only [go_sem, ↓reduceIte, eR, ← Nat.add_assoc]
  · obtain rfl : i = m := by omega
    rw [List.take_of_length_le (by omega)] at *
    simp -implicitDefEqProofs (disch := omega) only [go_sem, ↓reduceIte]
    refine ⟨[(0, 0)], [], [], rfl, ?_, ?_, ?_⟩ <;> simp -implicitDefEqProofs (disch := omega) only [go_sem, ↓reduceIte]
end
theorem hasf_spec (e : En) (index : List Int) : FnC Tryz.prog 190 [.agg [.ints .u8 32 e.1, .ints .u8 32 e.2], .ref 0 []] [(0, .var (.ints .u8 32 index))] (.bool (decide (e.1 = index))) [(0, .var (.ints .u8 32 index))] := by
  refine fnN mix [] 1 2 [.tmp 3] Tryz.func190 rfl (by kernel_rfl) (by kernel_rfl) rfl (by kernel_rfl) (by kernel_rfl) (by simp) ?_
  simp -implicitDefEqProofs (disch := omega) only [go_sem, ↓reduceIte]
  refine ⟨[(0, 0)], [], [], rfl, ?_, ?_, ?_⟩ <;> simp -implicitDefEqProofs (disch := omega) only [go_sem, ↓reduceIte]
theorem first_in {index : List Int} : ∀ (l : List En), index ∈ l.map (·.1) → ∃ m e, l[m]? = some e ∧ e.1 = index ∧ m < l.length ∧ ∀ i e', i < m → l[i]? = some e' → e'.1 ≠ index
  | [], h => by cases h
  | x :: l, h => by
    by_cases c : x.1 = index
    · exact ⟨0, x, rfl, c, by simp, fun i e' hi => by omega⟩
    · obtain ⟨m, e, h1, h2, h3, h4⟩ := first_in l ((List.mem_cons.1 h).resolve_left fun h => c h.symm)
      refine ⟨m + 1, e, h1, h2, by simp; omega, fun i e' hi he => ?_⟩
      cases i with
      | zero => cases he; exact c
      | succ i => exact h4 i e' (by omega) he
theorem hasidx_spec (l : List En) (n : Nat) (hn : l.length = n) (hl : n ≤ 100000) (index : List Int) : ∃ r : Int, (0 ≤ r ↔ index ∈ l.map (·.1)) ∧
    FnC Tryz.prog 229 [.sl (.lst 64 n (l.map enV)), .fn (.func 190) [.ref 0 []]] [(0, .var (.ints .u8 32 index))] (.int .i64 r) [(0, .var (.ints .u8 32 index))] := by
  have hle : (l.map enV).length = n := by rw [List.length_map, hn]
  by_cases hin : index ∈ l.map (·.1)
  · obtain ⟨m, e, h1, h2, h3, h4⟩ := first_in l hin
    refine ⟨m, ⟨fun _ => hin, fun _ => by omega⟩, ?_⟩
    refine fnN mix [] 1 2 [.tmp 4] Tryz.func229 rfl (by kernel_rfl) (by kernel_rfl) rfl (by kernel_rfl) (by kernel_rfl) (by simp) ?_
    simp -implicitDefEqProofs (disch := omega) only [go_sem, ↓reduceIte]
    refine loop (ι := Nat) 1 (fun i => i ≤ m) (fun i => [(0, .sl (.lst 64 n (l.map enV))), (1, .fn (.func 190) [.ref 0 []]), (7, .int .i64 n), (8, .int .i64 i)]) (fun i => [(0, .var (.ints .u8 32 index))]) (fun i => m - i) 0 [(0, 0)] [] (Nat.zero_le _) rfl ?_ ?_ ?_ (fun i hi => ?_)
    · simp -implicitDefEqProofs (disch := omega) only [go_sem, ↓reduceIte]
    · simp -implicitDefEqProofs (disch := omega) only [go_sem, ↓reduceIte]
    · simp -implicitDefEqProofs (disch := omega) only [go_sem, ↓reduceIte]
    simp -implicitDefEqProofs (disch := omega) only [go_sem, ↓reduceIte]
    refine brd (fun h => ?_) (fun h => by omega)
    obtain ⟨x, hx⟩ : ∃ x, l[i]? = some x := ⟨_, List.getElem?_eq_getElem (by omega)⟩
    have g1 := fun K => getEn hx K
    have hb := hasf_spec x index
    by_cases hm : i = m
    · subst hm
      obtain rfl : x = e := by rw [hx] at h1; exact Option.some.inj h1
      rw [decide_eq_true h2] at hb
      simp -implicitDefEqProofs (disch := omega) only [go_sem, ↓reduceIte, ↓g1, hle]
      refine callG false [(0, 0)] [(0, 0)] 1 hb ?_ ?_
      · simp [keys]
      simp -implicitDefEqProofs (disch := omega) only [go_sem, ↓reduceIte]
      refine ⟨[(0, 0)], [], [], rfl, ?_, ?_, ?_⟩ <;> simp -implicitDefEqProofs (disch := omega) only [go_sem, ↓reduceIte]
    · rw [decide_eq_false (h4 i x (by omega) hx)] at hb
      simp -implicitDefEqProofs (disch := omega) only [go_sem, ↓reduceIte, ↓g1, hle]
      refine callG false [(0, 0)] [(0, 0)] 1 hb ?_ ?_
      · simp [keys]
      simp -implicitDefEqProofs (disch := omega) only [go_sem, ↓reduceIte]
      refine ⟨i + 1, [(0, 0)], [], [], by dsimp only; omega, by dsimp only; omega, rfl, ?_, ?_, ?_⟩ <;> simp -implicitDefEqProofs (disch := omega) only [go_sem, ↓reduceIte]
  · refine ⟨-1, ⟨fun h => absurd h (by decide), fun h => absurd h hin⟩, ?_⟩
    refine fnN mix [] 1 2 [.tmp 4] Tryz.func229 rfl (by kernel_rfl) (by kernel_rfl) rfl (by kernel_rfl) (by kernel_rfl) (by simp) ?_
    simp -implicitDefEqProofs (disch := omega) only [go_sem, ↓reduceIte]
    refine loop (ι := Nat) 1 (fun i => i ≤ n) (fun i => [(0, .sl (.lst 64 n (l.map enV))), (1, .fn (.func 190) [.ref 0 []]), (7, .int .i64 n), (8, .int .i64 i)]) (fun i => [(0, .var (.ints .u8 32 index))]) (fun i => n - i) 0 [(0, 0)] [] (Nat.zero_le _) rfl ?_ ?_ ?_ (fun i hi => ?_)
    · simp -implicitDefEqProofs (disch := omega) only [go_sem, ↓reduceIte]
    · simp -implicitDefEqProofs (disch := omega) only [go_sem, ↓reduceIte]
    · simp -implicitDefEqProofs (disch := omega) only [go_sem, ↓reduceIte]
    simp -implicitDefEqProofs (disch := omega) only [go_sem, ↓reduceIte]
    refine brd (fun h => ?_) (fun h => ?_)
    · obtain ⟨x, hx⟩ : ∃ x, l[i]? = some x := ⟨_, List.getElem?_eq_getElem (by omega)⟩
      have g1 := fun K => getEn hx K
      have hb := hasf_spec x index
      rw [decide_eq_false (fun e => hin (by rw [← e]; exact List.mem_map_of_mem (f := (·.1)) (List.mem_of_getElem? hx)))] at hb
      simp -implicitDefEqProofs (disch := omega) only [go_sem, ↓reduceIte, ↓g1, hle]
      refine callG false [(0, 0)] [(0, 0)] 1 hb ?_ ?_
      · simp [keys]
      simp -implicitDefEqProofs (disch := omega) only [go_sem, ↓reduceIte]
      refine ⟨i + 1, [(0, 0)], [], [], by dsimp only; omega, by dsimp only; omega, rfl, ?_, ?_, ?_⟩ <;> simp -implicitDefEqProofs (disch := omega) only [go_sem, ↓reduceIte]
    · simp -implicitDefEqProofs (disch := omega) only [go_sem, ↓reduceIte]
      refine ⟨[(0, 0)], [], [], rfl, ?_, ?_, ?_⟩ <;> simp -implicitDefEqProofs (disch := omega) only [go_sem, ↓reduceIte]
theorem has_spec (l : List En) (n : Nat) (hn : l.length = n) (hl : n ≤ 100000) (index : List Int) : FnC Tryz.prog 122 [.sl (.lst 64 n (l.map enV)), .ints .u8 32 index] [] (.bool (decide (index ∈ l.map (·.1)))) [] := by
  obtain ⟨r, hr, k⟩ := hasidx_spec l n hn hl index
  have kc : FnC Tryz.prog 189 [.sl (.lst 64 n (l.map enV)), .fn (.func 190) [.ref 0 []]] [(0, .var (.ints .u8 32 index))] (.bool (decide (0 ≤ r))) [(0, .var (.ints .u8 32 index))] := by
    refine fnN mix [] 1 2 [.tmp 4] Tryz.func189 rfl (by kernel_rfl) (by kernel_rfl) rfl (by kernel_rfl) (by kernel_rfl) (by simp) ?_
    simp -implicitDefEqProofs (disch := omega) only [go_sem, ↓reduceIte]
    refine callG false [(0, 0)] [(0, 0)] 1 k ?_ ?_
    · simp [keys]
    simp -implicitDefEqProofs (disch := omega) only [go_sem, ↓reduceIte]
    refine ⟨[(0, 0)], [], [], rfl, ?_, ?_, ?_⟩ <;> simp -implicitDefEqProofs (disch := omega) only [go_sem, ↓reduceIte]
  rw [show decide (0 ≤ r) = decide (index ∈ l.map (·.1)) from decide_eq_decide.2 hr] at kc
  refine fn0 mix [] 0 2 [.tmp 4] Tryz.func122 rfl (by kernel_rfl) (by kernel_rfl) rfl (by kernel_rfl) (by kernel_rfl) (by simp) ?_
  simp -implicitDefEqProofs (disch := omega) only [go_sem, ↓reduceIte]
  refine callG false [(0, 0)] [(0, 0)] 1 kc ?_ ?_
  · simp [keys]
  simp -implicitDefEqProofs (disch := omega) only [go_sem, ↓reduceIte]
theorem subC_lstlen (sz m : Nat) (es : List AV) (lo len : Nat) (κ : AV → Prop) (h : es.length = m) : subC (.lst sz m es) lo len κ = (lo + len ≤ m ∧ κ (.lst sz len ((es.drop lo).take len))) := by
  rw [subC_lst]
  by_cases e : lo = 0 ∧ len = m
  · obtain ⟨rfl, rfl⟩ := e
    rw [show decide (0 = 0 ∧ len = len) = true from decide_eq_true ⟨rfl, rfl⟩, brC_true, List.drop_zero, List.take_of_length_le (by omega)]
  · rw [decide_eq_false e, brC_false]
def rightE (k : Nat) (e : En) : Bool := decide (bitD e.1 (k : Int) = 1)
def cutN (k : Nat) : List En → Nat
  | [] => 0
  | e :: l => if rightE k e = true then 0 else cutN k l + 1
theorem cutN_le (k : Nat) : ∀ l : List En, cutN k l ≤ l.length
  | [] => Nat.le_refl _
  | e :: l => by
    have := cutN_le k l
    rw [cutN, List.length_cons]
    split <;> omega
theorem cutN_before (k : Nat) : ∀ (l : List En) (i : Nat) (e : En), i < cutN k l → l[i]? = some e → rightE k e = false
  | [], i, e, h, _ => by rw [cutN] at h; omega
  | x :: l, i, e, h, hx => by
    rw [cutN] at h
    split at h
    · omega
    · rename_i c
      cases i with
      | zero => cases hx; simpa using c
      | succ i => exact cutN_before k l i e (by omega) hx
theorem cutN_at (k : Nat) : ∀ (l : List En) (e : En), l[cutN k l]? = some e → rightE k e = true
  | [], e, h => by cases h
  | x :: l, e, h => by
    rw [cutN] at h
    split at h
    · rename_i c; cases h; exact c
    · exact cutN_at k l e (by simpa using h)
section
variable (k : Nat) (hk : k < 256)
include hk in
theorem cutB_spec (a b : List Int) (ha : goodD a) : FnC Tryz.prog 233 [.agg [.ints .u8 32 a, .ints .u8 32 b], .ref 0 []] [(0, .var (.int .i64 ((k : Int) + 1)))] (.bool (rightE k (a, b))) [(0, .var (.int .i64 ((k : Int) + 1)))] := by
  have h := bit17_spec a k ha
  have e : (k : Int) + 1 - 1 = k := by omega
  have er : decide (bitD a k = 1) = rightE k (a, b) := rfl
  refine fnN mix [] 1 2 [.tmp 3] Tryz.func233 rfl (by kernel_rfl) (by kernel_rfl) rfl (by kernel_rfl) (by kernel_rfl) (by simp) ?_
  simp -implicitDefEqProofs (disch := omega) only [go_sem, ↓reduceIte, e]
  refine call0 h ?_
  simp -implicitDefEqProofs (disch := omega) only [go_sem, ↓reduceIte, er]
  refine ⟨[(0, 0)], [], [], rfl, ?_, ?_, ?_⟩ <;> simp -implicitDefEqProofs (disch := omega) only [go_sem, ↓reduceIte, er]
def idxN (k : Nat) (l : List En) : Int := if cutN k l < l.length then cutN k l else -1
include hk in
theorem index_spec (l : List En) (n : Nat) (hn : l.length = n) (hl : n ≤ 1000) (hg : ∀ e ∈ l, goodE e) :
    FnC Tryz.prog 229 [.sl (.lst 64 n (l.map enV)), .fn (.func 233) [.ref 0 []]] [(0, .var (.int .i64 ((k : Int) + 1)))] (.int .i64 (idxN k l)) [(0, .var (.int .i64 ((k : Int) + 1)))] := by
  have hle : (l.map enV).length = n := by rw [List.length_map, hn]
  have hc := cutN_le k l
  refine fnN mix [] 1 2 [.tmp 4] Tryz.func229 rfl (by kernel_rfl) (by kernel_rfl) rfl (by kernel_rfl) (by kernel_rfl) (by simp) ?_
  simp -implicitDefEqProofs (disch := omega) only [go_sem, ↓reduceIte]
  refine loop (ι := Nat) 1 (fun i => i ≤ cutN k l) (fun i => [(0, .sl (.lst 64 n (l.map enV))), (1, .fn (.func 233) [.ref 0 []]), (7, .int .i64 n), (8, .int .i64 i)]) (fun i => [(0, .var (.int .i64 ((k : Int) + 1)))]) (fun i => n - i) 0 [(0, 0)] [] (Nat.zero_le _) rfl ?_ ?_ ?_ (fun i hi => ?_)
  · simp -implicitDefEqProofs (disch := omega) only [go_sem, ↓reduceIte]
  · simp -implicitDefEqProofs (disch := omega) only [go_sem, ↓reduceIte]
  · simp -implicitDefEqProofs (disch := omega) only [go_sem, ↓reduceIte]
  simp -implicitDefEqProofs (disch := omega) only [go_sem, ↓reduceIte]
  refine brd (fun h => ?_) (fun h => ?_)
  · obtain ⟨x, hx⟩ : ∃ x, l[i]? = some x := ⟨_, List.getElem?_eq_getElem (by omega)⟩
    have g1 := fun K => getEn hx K
    have hgx := hg x (List.mem_of_getElem? hx)
    have hb := cutB_spec k hk x.1 x.2 hgx.1
    have ex : (x.1, x.2) = x := rfl
    rw [ex] at hb
    by_cases hm : i = cutN k l
    · subst hm
      rw [cutN_at k l x hx] at hb
      have hidx : idxN k l = (cutN k l : Int) := by unfold idxN; rw [if_pos (by omega)]
      rw [hidx]
      simp -implicitDefEqProofs (disch := omega) only [go_sem, ↓reduceIte, ↓g1, hle]
      refine callG false [(0, 0)] [(0, 0)] 1 hb ?_ ?_
      · simp [keys]
      simp -implicitDefEqProofs (disch := omega) only [go_sem, ↓reduceIte]
      refine ⟨[(0, 0)], [], [], rfl, ?_, ?_, ?_⟩ <;> simp -implicitDefEqProofs (disch := omega) only [go_sem, ↓reduceIte]
    · rw [cutN_before k l i x (by omega) hx] at hb
      simp -implicitDefEqProofs (disch := omega) only [go_sem, ↓reduceIte, ↓g1, hle]
      refine callG false [(0, 0)] [(0, 0)] 1 hb ?_ ?_
      · simp [keys]
      simp -implicitDefEqProofs (disch := omega) only [go_sem, ↓reduceIte]
      refine ⟨i + 1, [(0, 0)], [], [], by dsimp only; omega, by dsimp only; omega, rfl, ?_, ?_, ?_⟩ <;> simp -implicitDefEqProofs (disch := omega) only [go_sem, ↓reduceIte]
  · have hidx : idxN k l = -1 := by unfold idxN; rw [if_neg (by omega)]
    rw [hidx]
    simp -implicitDefEqProofs (disch := omega) only [go_sem, ↓reduceIte]
    refine ⟨[(0, 0)], [], [], rfl, ?_, ?_, ?_⟩ <;> simp -implicitDefEqProofs (disch := omega) only [go_sem, ↓reduceIte]
include hk in
theorem cut_spec (l : List En) (n : Nat) (hn : l.length = n) (hl : n ≤ 1000) (hg : ∀ e ∈ l, goodE e) : FnC Tryz.prog 195 [.sl (.lst 64 n (l.map enV)), .int .i64 ((k : Int) + 1)] [] (.int .i64 (cutN k l : Nat)) [] := by
  have h := index_spec k hk l n hn hl hg
  have hc := cutN_le k l
  refine fn0 mix [] 0 2 [.tmp 4] Tryz.func195 rfl (by kernel_rfl) (by kernel_rfl) rfl (by kernel_rfl) (by kernel_rfl) (by simp) ?_
  simp -implicitDefEqProofs (disch := omega) only [go_sem, ↓reduceIte]
  refine callG false [(0, 0)] [(0, 0)] 1 h ?_ ?_
  · simp [keys]
  by_cases c : cutN k l < l.length
  · have hidx : idxN k l = (cutN k l : Int) := by unfold idxN; rw [if_pos c]
    rw [hidx]
    simp -implicitDefEqProofs (disch := omega) only [go_sem, ↓reduceIte]
    refine brd (fun h => by omega) (fun h => ?_)
    simp -implicitDefEqProofs (disch := omega) only [go_sem, ↓reduceIte]
  · have hidx : idxN k l = -1 := by unfold idxN; rw [if_neg c]
    have e : cutN k l = n := by omega
    rw [hidx, e]
    simp -implicitDefEqProofs (disch := omega) only [go_sem, ↓reduceIte]
end
attribute [go_sem] pl30 pl83 pl84 pl132
def nums (l : List Int) : List Int := l.flatMap fun x => be (IntKind.u64.wrap x) 8
def dcat (ps : List (List Int)) : List Int := ps.flatMap id
theorem nums_succ {l : List Int} {i : Nat} (h : i < l.length) : nums (l.take (i + 1)) = nums (l.take i) ++ be (IntKind.u64.wrap (l.getD i 0)) 8 := by
  unfold nums
  rw [List.take_add_one, List.getElem?_eq_getElem h, List.flatMap_append]
  simp [List.getD, List.getElem?_eq_getElem h]
theorem dcat_succ {l : List (List Int)} {i : Nat} {d : List Int} (h : l[i]? = some d) : dcat (l.take (i + 1)) = dcat (l.take i) ++ d := by
  unfold dcat
  rw [List.take_add_one, h, List.flatMap_append]
  simp
theorem dcat_len {l : List (List Int)} (h : ∀ d ∈ l, d.length = 32) : (dcat l).length = 32 * l.length := by
  induction l with
  | nil => rfl
  | cons d l ih =>
    have := ih (fun x hx => h x (by simp [hx]))
    simp only [dcat, List.flatMap_cons, List.length_append, id, List.length_cons, h d (by simp)] at this ⊢
    omega
theorem numbers_spec (l xs : List Int) (k n : Nat) (hk : l.length = k) (hl : k ≤ 1000) (hn : n ≤ 1000000) :
    FnC Tryz.prog 83 [.ref 0 [], .sl (.ints .i64 k l)] [(0, .var (.agg [.osl 1 [] 1 0 n])), (1, .row (.ints .u8 n xs))] (.ref 0 [])
      [(0, .var (.agg [.osl 1 [] 1 0 (n + 8 * k)])), (1, .row (.ints .u8 (n + 8 * k) (xs ++ nums l)))] := by
  refine fnV mix pl83 1 2 2 [.tmp 4] Tryz.func83 rfl (by kernel_rfl) (by kernel_rfl) rfl (by kernel_rfl) (by kernel_rfl) (by simp) rfl rfl ?_
  simp -implicitDefEqProofs (disch := omega) only [go_sem, ↓reduceIte]
  refine loop (ι := Nat) 2 (fun i => i ≤ k) (fun i => [(0, .ref 0 []), (7, .sl (.ints .i64 k l)), (8, .int .i64 k), (9, .int .i64 i)]) (fun i => [(0, .var (.agg [.osl 1 [] 1 0 (n + 8 * i)])), (1, .row (.ints .u8 (n + 8 * i) (xs ++ nums (l.take i))))]) (fun i => k - i) 0 [(0, 0), (1, 1)] [] (Nat.zero_le _) rfl ?_ ?_ ?_ (fun i hi => ?_)
  · simp -implicitDefEqProofs (disch := omega) only [go_sem, ↓reduceIte]
  · simp -implicitDefEqProofs (disch := omega) only [go_sem, ↓reduceIte]
  · simp -implicitDefEqProofs (disch := omega) only [go_sem, ↓reduceIte, nums, List.take_zero, List.flatMap_nil, Nat.mul_zero, List.append_nil]
  simp -implicitDefEqProofs (disch := omega) only [go_sem, ↓reduceIte]
  refine brd (fun h => ?_) (fun h => ?_)
  · have hs := nums_succ (show i < l.length by omega)
    have e : n + 8 * i + 8 = n + 8 * (i + 1) := by omega
    simp -implicitDefEqProofs (disch := omega) only [go_sem, ↓reduceIte]
    refine callF 1 (number_spec (IntKind.u64.wrap (l.getD i 0)) 8 8 rfl) ?_
    simp -implicitDefEqProofs (disch := omega) only [go_sem, ↓reduceIte, e]
    refine ⟨i + 1, [(0, 0), (1, 3)], [], [], by dsimp only; omega, by dsimp only; omega, rfl, ?_, ?_, ?_⟩ <;> simp -implicitDefEqProofs (disch := omega) only [go_sem, ↓reduceIte, hs, List.append_assoc]
  obtain rfl : i = k := by omega
  rw [List.take_of_length_le (by omega)]
  simp -implicitDefEqProofs (disch := omega) only [go_sem, ↓reduceIte]
  refine ⟨[(0, 0), (1, 1)], [], [], rfl, ?_, ?_, ?_⟩ <;> simp -implicitDefEqProofs (disch := omega) only [go_sem, ↓reduceIte]
theorem numbers_nil_spec (x : Int) : FnC Tryz.prog 83 [.ref 0 [], .sl (.ints .i64 1 [x])] [(0, .var (.agg [.nils]))] (.ref 0 []) [(0, .var (.agg [.osl 1 [] 1 0 8])), (1, .row (.ints .u8 8 (nums [x])))] := by
  have e : nums [x] = be (IntKind.u64.wrap x) 8 := by simp [nums]
  refine fnN mix pl83 1 2 [.tmp 4] Tryz.func83 rfl (by kernel_rfl) (by kernel_rfl) rfl (by kernel_rfl) (by kernel_rfl) (by simp) ?_
  simp -implicitDefEqProofs (disch := omega) only [go_sem, ↓reduceIte]
  refine loop (ι := Nat) 2 (fun i => i ≤ 1) (fun i => [(0, .ref 0 []), (7, .sl (.ints .i64 1 [x])), (8, .int .i64 1), (9, .int .i64 i)]) (fun i => [(0, .var (.agg [.osl 1 [] 1 0 (8 * i)])), (1, .row (.ints .u8 (8 * i) (nums ([x].take i))))]) (fun i => 1 - i) 0 [(0, 0)] [1] (Nat.zero_le _) rfl ?_ ?_ ?_ (fun i hi => ?_)
  · simp -implicitDefEqProofs (disch := omega) only [go_sem, ↓reduceIte]
  · simp -implicitDefEqProofs (disch := omega) only [go_sem, ↓reduceIte]
  · simp -implicitDefEqProofs (disch := omega) only [go_sem, ↓reduceIte, nums, List.take_zero, List.flatMap_nil, Nat.mul_zero]
  simp -implicitDefEqProofs (disch := omega) only [go_sem, ↓reduceIte]
  refine brd (fun h => ?_) (fun h => ?_)
  · obtain rfl : i = 0 := by omega
    simp -implicitDefEqProofs (disch := omega) only [go_sem, ↓reduceIte]
    refine callF 1 (number_spec (IntKind.u64.wrap ([x].getD 0 0)) 8 8 rfl) ?_
    simp -implicitDefEqProofs (disch := omega) only [go_sem, ↓reduceIte]
    refine ⟨0 + 1, [(0, 0), (1, 3)], [], [], by dsimp only; omega, by dsimp only; omega, rfl, ?_, ?_, ?_⟩ <;> simp -implicitDefEqProofs (disch := omega) only [go_sem, ↓reduceIte, nums, List.flatMap_cons, List.flatMap_nil, Nat.mul_zero]
  obtain rfl : i = 1 := by omega
  simp -implicitDefEqProofs (disch := omega) only [go_sem, ↓reduceIte]
  refine ⟨[(0, 0), (1, 1)], [], [], rfl, ?_, ?_, ?_⟩ <;> simp -implicitDefEqProofs (disch := omega) only [go_sem, ↓reduceIte]
theorem digests_spec (ds : List (List Int)) (xs : List Int) (n k : Nat) (hk : ds.length = k) (hl : k ≤ 1000) (hn : n ≤ 1000000) :
    FnC Tryz.prog 84 [.ref 0 [], .sl (.lst 32 k (ds.map dg))] [(0, .var (.agg [.osl 1 [] 1 0 n])), (1, .row (.ints .u8 n xs))] (.ref 0 [])
      [(0, .var (.agg [.osl 1 [] 1 0 (n + 32 * k)])), (1, .row (.ints .u8 (n + 32 * k) (xs ++ dcat ds)))] := by
  refine fnV mix pl84 1 2 2 [.tmp 4] Tryz.func84 rfl (by kernel_rfl) (by kernel_rfl) rfl (by kernel_rfl) (by kernel_rfl) (by simp) rfl rfl ?_
  simp -implicitDefEqProofs (disch := omega) only [go_sem, ↓reduceIte]
  refine loop (ι := Nat) 2 (fun i => i ≤ k) (fun i => [(0, .ref 0 []), (7, .sl (.lst 32 k (ds.map dg))), (8, .int .i64 k), (9, .int .i64 i)]) (fun i => [(0, .var (.agg [.osl 1 [] 1 0 (n + 32 * i)])), (1, .row (.ints .u8 (n + 32 * i) (xs ++ dcat (ds.take i))))]) (fun i => k - i) 0 [(0, 0), (1, 1)] [] (Nat.zero_le _) rfl ?_ ?_ ?_ (fun i hi => ?_)
  · simp -implicitDefEqProofs (disch := omega) only [go_sem, ↓reduceIte]
  · simp -implicitDefEqProofs (disch := omega) only [go_sem, ↓reduceIte]
  · simp -implicitDefEqProofs (disch := omega) only [go_sem, ↓reduceIte, dcat, List.take_zero, List.flatMap_nil, Nat.mul_zero, List.append_nil]
  simp -implicitDefEqProofs (disch := omega) only [go_sem, ↓reduceIte]
  refine brd (fun h => ?_) (fun h => ?_)
  · have hd := List.getElem?_eq_getElem (show i < ds.length by omega)
    have hg := fun K => getP_map (f := dg) hd K
    have hs := dcat_succ hd
    generalize ds[i]'(show i < ds.length by omega) = d at *
    have e : n + 32 * i + 32 = n + 32 * (i + 1) := by omega
    simp -implicitDefEqProofs (disch := omega) only [go_sem, ↓reduceIte, hg, dg, e]
    refine ⟨i + 1, [(0, 0), (1, 3)], [], [], by dsimp only; omega, by dsimp only; omega, rfl, ?_, ?_, ?_⟩ <;> simp -implicitDefEqProofs (disch := omega) only [go_sem, ↓reduceIte, hs, List.append_assoc]
  obtain rfl : i = k := by omega
  rw [List.take_of_length_le (by omega)]
  simp -implicitDefEqProofs (disch := omega) only [go_sem, ↓reduceIte]
  refine ⟨[(0, 0), (1, 1)], [], [], rfl, ?_, ?_, ?_⟩ <;> simp -implicitDefEqProofs (disch := omega) only [go_sem, ↓reduceIte]
def headT (key epoch : Int) (tree log : List Int) : List Int := 1 :: (nums [key, epoch] ++ dcat [tree, log])
def epochT (epoch : Int) (tree : List Int) : List Int := nums [epoch] ++ dcat [tree]
theorem headText_spec (key epoch : Int) (tree log : List Int) : FnC Tryz.prog 30 [.agg [.int .i64 key, .int .i64 epoch, .ints .u8 32 tree, .ints .u8 32 log]] [] (.osl 0 [] 1 0 81) [(0, .row (.ints .u8 81 (headT key epoch tree log)))] := by
  refine fnN mix pl30 0 1 [.tmp 2] Tryz.func30 rfl (by kernel_rfl) (by kernel_rfl) rfl (by kernel_rfl) (by kernel_rfl) (by simp) ?_
  simp -implicitDefEqProofs (disch := omega) only [go_sem, ↓reduceIte]
  refine callGB [(0, 2), (1, 1)] [(0, 2), (1, 4)] 5 (numbers_spec [key, epoch] [1] 2 1 rfl (by decide) (by decide)) ?_ ?_
  · simp [keys]
  simp -implicitDefEqProofs (disch := omega) only [go_sem, ↓reduceIte]
  refine callGB [(0, 2), (1, 4)] [(0, 2), (1, 6)] 7 (digests_spec [tree, log] ([1] ++ nums [key, epoch]) 17 2 rfl (by decide) (by decide)) ?_ ?_
  · simp [keys]
  simp -implicitDefEqProofs (disch := omega) only [go_sem, ↓reduceIte, dg]
  refine ⟨[(0, 6)], [], [], rfl, ?_, ?_, ?_⟩ <;> simp -implicitDefEqProofs (disch := omega) only [go_sem, ↓reduceIte, headT]
theorem epochText_spec (epoch : Int) (tree : List Int) : FnC Tryz.prog 132 [.int .i64 epoch, .ints .u8 32 tree] [] (.osl 0 [] 1 0 40) [(0, .row (.ints .u8 40 (epochT epoch tree)))] := by
  refine fnN mix pl132 0 2 [.tmp 4] Tryz.func132 rfl (by kernel_rfl) (by kernel_rfl) rfl (by kernel_rfl) (by kernel_rfl) (by simp) ?_
  simp -implicitDefEqProofs (disch := omega) only [go_sem, ↓reduceIte]
  refine callGB [(0, 1)] [(0, 1), (1, 3)] 4 (numbers_nil_spec epoch) ?_ ?_
  · simp [keys]
  simp -implicitDefEqProofs (disch := omega) only [go_sem, ↓reduceIte]
  refine callGB [(0, 1), (1, 3)] [(0, 1), (1, 5)] 6 (digests_spec [tree] (nums [epoch]) 8 1 rfl (by decide) (by decide)) ?_ ?_
  · simp [keys]
  simp -implicitDefEqProofs (disch := omega) only [go_sem, ↓reduceIte, dg]
  refine ⟨[(0, 5)], [], [], rfl, ?_, ?_, ?_⟩ <;> simp -implicitDefEqProofs (disch := omega) only [go_sem, ↓reduceIte, epochT]
end Go.Proofs.YtololahjocfbeaaGreat
