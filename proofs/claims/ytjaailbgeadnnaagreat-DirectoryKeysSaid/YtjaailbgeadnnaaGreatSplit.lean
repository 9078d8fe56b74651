/- The contracts of pack: cutting and splitting; the walks of PackRows and PackSplits. -/
import Derived.Test.YtjaailbgeadnnaaGreatPack
namespace Go.Proofs.YtjaailbgeadnnaaGreat
open Go Go.Sy Go.Proofs.Tryz
set_option maxRecDepth 100000
set_option maxHeartbeats 4000000
set_option linter.unusedSimpArgs false
set_option linter.unusedVariables false
attribute [go_sem] pl133
theorem shl_orI {a x : Int} (ha : 0 ≤ a) (ha' : a < 256) (hx : 0 ≤ x) (hx' : x < 256) : ior .i64 (ishl .i64 a 8) x = a * 256 + x := by
  have e : ishl .i64 a 8 = a * 256 := by
    unfold ishl
    have h8 : (2 : Int) ^ (min 8 IntKind.i64.bits) = 256 := by decide
    rw [h8]
    exact wrap_i64 (by omega) (by omega)
  rw [e, ior_nat (by omega) (by show _ < (2 : Int) ^ 64; omega) hx (by show _ < (2 : Int) ^ 64; omega)]
  have h := Nat.shiftLeft_add_eq_or_of_lt (i := 8) (b := x.toNat) (by omega) a.toNat
  have e2 : (a * 256).toNat = a.toNat <<< 8 := by rw [Nat.shiftLeft_eq]; omega
  rw [e2, ← h, Nat.shiftLeft_eq]
  rw [wrap_i64 (by omega) (by omega)]
  omega
def num2 (b : List Int) : Nat := (b.getD 0 0 * 256 + b.getD 1 0).toNat
theorem num2_int {b : List Int} (hb : ∀ x ∈ b, 0 ≤ x ∧ x < 256) (hl : 2 ≤ b.length) : b.getD 0 0 * 256 + b.getD 1 0 = (num2 b : Int) ∧ num2 b ≤ 65535 := by
  have h0 := getD_all' hb (show 0 < b.length by omega)
  have h1 := getD_all' hb (show 1 < b.length by omega)
  unfold num2
  omega
theorem cut_ok_spec (b : List Int) (m n : Nat) (hm : b.length = m) (hn : n ≤ m) (hl : m ≤ 1000000) : FnC Tryz.prog 134 [.ref 0 [], .int .i64 n] [(0, .var (.sl (.ints .u8 m b)))] (.tup [.osl 1 [] 1 0 n, .bool true])
    [(0, .var (.sl (.ints .u8 (m - n) (b.drop n)))), (1, .row (.ints .u8 n (b.take n)))] := by
  have d1 : (b.drop n).take (m - n) = b.drop n := List.take_of_length_le (by rw [List.length_drop]; omega)
  refine fnN mix [] 1 2 [.tmp 4, .tmp 5] Tryz.func134 rfl (by kernel_rfl) (by kernel_rfl) rfl (by kernel_rfl) (by kernel_rfl) (by simp) ?_
  simp (implicitDefEqProofs := false) (disch := omega) only [go_sem, ↓reduceIte]
  refine brd (fun h => by omega) (fun h => ?_)
  simp (implicitDefEqProofs := false) (disch := omega) only [go_sem, ↓reduceIte, ↓subC_len, d1]
  refine ⟨[(0, 0), (1, 2)], [], [], rfl, ?_, ?_, ?_⟩ <;> simp (implicitDefEqProofs := false) (disch := omega) only [go_sem, ↓reduceIte]
theorem cut_bad_spec (b : List Int) (m n : Nat) (hm : b.length = m) (hn : m < n) (hn' : n ≤ 1000000) (hl : m ≤ 1000000) : FnC Tryz.prog 134 [.ref 0 [], .int .i64 n] [(0, .var (.sl (.ints .u8 m b)))] (.tup [.nils, .bool false]) [(0, .var (.sl (.ints .u8 m b)))] := by
  refine fnN mix [] 1 2 [.tmp 4, .tmp 5] Tryz.func134 rfl (by kernel_rfl) (by kernel_rfl) rfl (by kernel_rfl) (by kernel_rfl) (by simp) ?_
  simp (implicitDefEqProofs := false) (disch := omega) only [go_sem, ↓reduceIte]
  refine brd (fun h => ?_) (fun h => by omega)
  simp (implicitDefEqProofs := false) (disch := omega) only [go_sem, ↓reduceIte]
  refine ⟨[(0, 0)], [], [], rfl, ?_, ?_, ?_⟩ <;> simp (implicitDefEqProofs := false) (disch := omega) only [go_sem, ↓reduceIte]
theorem size_ok_spec (b : List Int) (m : Nat) (hm : b.length = m) (hb : ∀ x ∈ b, 0 ≤ x ∧ x < 256) (hn : 2 ≤ m) (hl : m ≤ 1000000) : FnC Tryz.prog 133 [.ref 0 []] [(0, .var (.sl (.ints .u8 m b)))] (.int .i64 (num2 b)) [(0, .var (.sl (.ints .u8 (m - 2) (b.drop 2))))] := by
  have h0 := getD_all' hb (show 0 < b.length by omega)
  have h1 := getD_all' hb (show 1 < b.length by omega)
  have e0 : (b.take 2).getD 0 0 = b.getD 0 0 := by simp [List.getD, List.getElem?_take]
  have e1 : (b.take 2).getD 1 0 = b.getD 1 0 := by simp [List.getD, List.getElem?_take]
  have e2 := shl_orI h0.1 h0.2 h1.1 h1.2
  have e3 := (num2_int hb (by omega)).1
  refine fnN mix pl133 1 1 [.tmp 2] Tryz.func133 rfl (by kernel_rfl) (by kernel_rfl) rfl (by kernel_rfl) (by kernel_rfl) (by simp) ?_
  simp (implicitDefEqProofs := false) (disch := omega) only [go_sem, ↓reduceIte]
  refine callG false [(0, 0)] [(0, 0), (1, 1)] 2 (cut_ok_spec b m 2 hm hn hl) ?_ ?_
  · simp [keys]
  simp (implicitDefEqProofs := false) (disch := omega) only [go_sem, ↓reduceIte, e0, e1]
  refine ⟨[(0, 0)], [], [], rfl, ?_, ?_, ?_⟩ <;> simp (implicitDefEqProofs := false) (disch := omega) only [go_sem, ↓reduceIte, e2, e3]
theorem size_bad_spec (b : List Int) (m : Nat) (hm : b.length = m) (hn : m < 2) : FnC Tryz.prog 133 [.ref 0 []] [(0, .var (.sl (.ints .u8 m b)))] (.int .i64 (-1)) [(0, .var (.sl (.ints .u8 m b)))] := by
  refine fnN mix pl133 1 1 [.tmp 2] Tryz.func133 rfl (by kernel_rfl) (by kernel_rfl) rfl (by kernel_rfl) (by kernel_rfl) (by simp) ?_
  simp (implicitDefEqProofs := false) (disch := omega) only [go_sem, ↓reduceIte]
  refine callG false [(0, 0)] [(0, 0)] 1 (cut_bad_spec b m 2 hm hn (by decide) (by omega)) ?_ ?_
  · simp [keys]
  simp (implicitDefEqProofs := false) (disch := omega) only [go_sem, ↓reduceIte]
  refine ⟨[(0, 0)], [], [], rfl, ?_, ?_, ?_⟩ <;> simp (implicitDefEqProofs := false) (disch := omega) only [go_sem, ↓reduceIte]
/-- So many texts off bytes, and what is left. -/
def splitL : Nat → List Int → Option (List (List Int) × List Int)
  | 0, b => some ([], b)
  | k + 1, b => if b.length < 2 then none else if b.length - 2 < num2 b then none else (splitL k (b.drop (2 + num2 b))).map fun r => ((b.drop 2).take (num2 b) :: r.1, r.2)
def splitR : Option (List (List Int) × List Int) → AV
  | none => .tup [.nils, .int .i64 2]
  | some (l, rest) => if rest = [] then .tup [.sl (.lst 1 l.length (l.map bsl)), .int .i64 0] else .tup [.nils, .int .i64 2]
/-- Behind some texts the others. -/
def go (done : List (List Int)) (k : Nat) (rest : List Int) : Option (List (List Int) × List Int) := (splitL k rest).map fun r => (done ++ r.1, r.2)
theorem go_short {done : List (List Int)} {k : Nat} {rest : List Int} (h : rest.length < 2) : go done (k + 1) rest = none := by simp [go, splitL, h]
theorem go_lack {done : List (List Int)} {k : Nat} {rest : List Int} (h : 2 ≤ rest.length) (h' : rest.length - 2 < num2 rest) : go done (k + 1) rest = none := by
  simp [go, splitL, show ¬ rest.length < 2 by omega, h']
theorem go_step {done : List (List Int)} {k : Nat} {rest : List Int} (h : 2 ≤ rest.length) (h' : num2 rest ≤ rest.length - 2) : go done (k + 1) rest = go (done ++ [(rest.drop 2).take (num2 rest)]) k (rest.drop (2 + num2 rest)) := by
  simp only [go, splitL, if_neg (show ¬ rest.length < 2 by omega), if_neg (show ¬ rest.length - 2 < num2 rest by omega)]
  cases splitL k (rest.drop (2 + num2 rest)) <;> simp
theorem go_end {done : List (List Int)} {rest : List Int} : go done 0 rest = some (done, rest) := by simp [go, splitL]
def split (b : List Int) : Option (List (List Int) × List Int) := if b.length < 2 then none else splitL (num2 b) (b.drop 2)
theorem bsl_of {x : List Int} {n : Nat} (h : x.length = n) : AV.sl (.ints .u8 n x) = bsl x := by rw [bsl, h]
theorem split_spec (b : List Int) (r : AV) (hr : splitR (split b) = r) (hb : ∀ x ∈ b, 0 ≤ x ∧ x < 256) (hl : b.length ≤ 1000000) : FnC Tryz.prog 90 [.sl (.ints .u8 b.length b)] [] r [] := by
  refine fnN mix [] 0 1 [.tmp 2, .tmp 3] Tryz.func90 rfl (by kernel_rfl) (by kernel_rfl) rfl (by kernel_rfl) (by kernel_rfl) (by simp) ?_
  simp (implicitDefEqProofs := false) (disch := omega) only [go_sem, ↓reduceIte]
  by_cases h2 : b.length < 2
  · have e : split b = none := by simp [split, h2]
    rw [e] at hr
    subst hr
    refine callG false [(0, 0)] [(0, 0)] 1 (size_bad_spec b _ rfl h2) ?_ ?_
    · simp [keys]
    simp (implicitDefEqProofs := false) (disch := omega) only [go_sem, ↓reduceIte]
    refine ⟨[], [], [], rfl, ?_, ?_, ?_⟩ <;> simp (implicitDefEqProofs := false) (disch := omega) only [go_sem, ↓reduceIte, splitR]
  have hn := num2_int hb (by omega)
  have e : split b = go [] (num2 b) (b.drop 2) := by simp [split, h2, go]
  rw [e] at hr
  have hb2 : ∀ x ∈ b.drop 2, 0 ≤ x ∧ x < 256 := fun x hx => hb x (List.mem_of_mem_drop hx)
  have hl2 : (b.drop 2).length = b.length - 2 := List.length_drop
  refine callG false [(0, 0)] [(0, 0)] 1 (size_ok_spec b _ rfl hb (by omega) hl) ?_ ?_
  · simp [keys]
  simp (implicitDefEqProofs := false) (disch := omega) only [go_sem, ↓reduceIte]
  refine brd (fun h => by omega) (fun h => ?_)
  simp (implicitDefEqProofs := false) (disch := omega) only [go_sem, ↓reduceIte]
  generalize b.drop 2 = b2 at *
  rw [← hl2]
  have hl3 : b2.length ≤ 1000000 := by omega
  clear e
  refine loop (ι := Nat × List (List Int) × List Int) 2 (fun s => s.1 ≤ num2 b ∧ s.2.1.length = s.1 ∧ s.2.2.length ≤ 1000000 ∧ (∀ x ∈ s.2.2, 0 ≤ x ∧ x < 256) ∧ splitR (go s.2.1 (num2 b - s.1) s.2.2) = r)
    (fun s => [(1, .ref 0 []), (5, .osl 1 [] 1 0 s.1), (12, .int .i64 (num2 b)), (13, .int .i64 s.1)])
    (fun s => [(0, .var (.sl (.ints .u8 s.2.2.length s.2.2))), (1, .row (.lst 1 s.1 (s.2.1.map bsl)))]) (fun s => num2 b - s.1) (0, [], b2) [(0, 0)] [1] ⟨Nat.zero_le _, rfl, hl3, hb2, hr⟩ rfl ?_ ?_ ?_ (fun s hs => ?_)
  · simp (implicitDefEqProofs := false) (disch := omega) only [go_sem, ↓reduceIte]
  · simp (implicitDefEqProofs := false) (disch := omega) only [go_sem, ↓reduceIte]
  · simp (implicitDefEqProofs := false) (disch := omega) only [go_sem, ↓reduceIte]
  obtain ⟨i, ds, rest⟩ := s
  obtain ⟨h1, h3, h4, h5, h6⟩ := hs
  dsimp only at h1 h3 h4 h5 h6 ⊢
  simp (implicitDefEqProofs := false) (disch := omega) only [go_sem, ↓reduceIte]
  refine brd (fun h => ?_) (fun h => ?_)
  · have hk : num2 b - i = (num2 b - i - 1) + 1 := by omega
    rw [hk] at h6
    simp (implicitDefEqProofs := false) (disch := omega) only [go_sem, ↓reduceIte]
    by_cases h7 : rest.length < 2
    · rw [go_short h7] at h6
      subst h6
      refine callG false [(0, 0)] [(0, 0)] 2 (size_bad_spec rest _ rfl h7) ?_ ?_
      · simp [keys]
      simp (implicitDefEqProofs := false) (disch := omega) only [go_sem, ↓reduceIte]
      refine ⟨[], [], [], rfl, ?_, ?_, ?_⟩ <;> simp (implicitDefEqProofs := false) (disch := omega) only [go_sem, ↓reduceIte, splitR]
    have hn2 := num2_int h5 (by omega)
    refine callG false [(0, 0)] [(0, 0)] 2 (size_ok_spec rest _ rfl h5 (by omega) h4) ?_ ?_
    · simp [keys]
    simp (implicitDefEqProofs := false) (disch := omega) only [go_sem, ↓reduceIte]
    refine brd (fun h => by omega) (fun h => ?_)
    simp (implicitDefEqProofs := false) (disch := omega) only [go_sem, ↓reduceIte]
    have hd2 : (rest.drop 2).length = rest.length - 2 := List.length_drop
    by_cases h8 : rest.length - 2 < num2 rest
    · rw [go_lack (by omega) h8] at h6
      subst h6
      refine callG false [(0, 0)] [(0, 0)] 2 (cut_bad_spec (rest.drop 2) _ (num2 rest) hd2 h8 (by omega) (by omega)) ?_ ?_
      · simp [keys]
      simp (implicitDefEqProofs := false) (disch := omega) only [go_sem, ↓reduceIte]
      refine ⟨[], [], [], rfl, ?_, ?_, ?_⟩ <;> simp (implicitDefEqProofs := false) (disch := omega) only [go_sem, ↓reduceIte, splitR]
    rw [go_step (by omega) (by omega)] at h6
    refine callG false [(0, 0)] [(0, 0), (1, 2)] 3 (cut_ok_spec (rest.drop 2) _ (num2 rest) hd2 (by omega) (by omega)) ?_ ?_
    · simp [keys]
    have ht : ((rest.drop 2).take (num2 rest)).length = num2 rest := by rw [List.length_take]; omega
    have hdd : (rest.drop 2).drop (num2 rest) = rest.drop (2 + num2 rest) := List.drop_drop
    have hdl : (rest.drop (2 + num2 rest)).length = rest.length - 2 - num2 rest := by rw [List.length_drop]; omega
    have hbs := bsl_of ht
    simp (implicitDefEqProofs := false) (disch := omega) only [go_sem, ↓reduceIte, hdd, ↓subC_len, List.take_of_length_le, Nat.le_refl]
    refine ⟨(i + 1, ds ++ [(rest.drop 2).take (num2 rest)], rest.drop (2 + num2 rest)), [(0, 0), (1, 4)], [], [], ?_, by dsimp only; omega, rfl, ?_, ?_, ?_⟩
    · refine ⟨by dsimp only; omega, by simp [h3], by dsimp only; omega, fun x hx => h5 x (List.mem_of_mem_drop hx), ?_⟩
      rw [← h6, show num2 b - (i + 1) = num2 b - i - 1 by omega]
    all_goals simp (implicitDefEqProofs := false) (disch := omega) only [go_sem, ↓reduceIte, hdl, List.map_append, hbs]
  obtain rfl : i = num2 b := by omega
  rw [Nat.sub_self, go_end] at h6
  simp (implicitDefEqProofs := false) (disch := omega) only [go_sem, ↓reduceIte]
  refine brd (fun h7 => ?_) (fun h7 => ?_)
  · have : rest ≠ [] := by intro e; subst e; simp at h7
    rw [splitR, if_neg this] at h6
    subst h6
    simp (implicitDefEqProofs := false) (disch := omega) only [go_sem, ↓reduceIte]
    refine ⟨[], [], [], rfl, ?_, ?_, ?_⟩ <;> simp (implicitDefEqProofs := false) (disch := omega) only [go_sem, ↓reduceIte]
  · have : rest = [] := List.eq_nil_of_length_eq_zero (by omega)
    rw [splitR, if_pos this, h3] at h6
    subst h6
    simp (implicitDefEqProofs := false) (disch := omega) only [go_sem, ↓reduceIte]
    refine ⟨[], [], [1], rfl, ?_, ?_, ?_⟩ <;> simp (implicitDefEqProofs := false) (disch := omega) only [go_sem, ↓reduceIte]
def rsplitR : Option (List (List Int) × List Int) → AV
  | none => .tup [.nils, .bool false]
  | some (l, rest) => .tup [.sl (.lst 1 l.length (l.map bsl)), .bool (decide (rest = []))]
theorem drop_getD (b : List Int) (i j : Nat) : (b.drop i).getD j 0 = b.getD (i + j) 0 := by simp [List.getD, List.getElem?_drop]
theorem prow_long_spec (b : List Int) (h : 65535 < b.length) (hl : b.length ≤ 1000000) : FnC Tryz.prog 76 [.sl (.lst 1 1 [bsl b])] [] (.tup [.nils, .int .i64 1]) [] := by
  refine fnN mix [] 0 1 [.tmp 2, .tmp 3] Tryz.func76 rfl (by kernel_rfl) (by kernel_rfl) rfl (by kernel_rfl) (by kernel_rfl) (by simp) ?_
  simp (implicitDefEqProofs := false) (disch := omega) only [go_sem, ↓reduceIte]
  refine callF 1 (number_spec _ 2 2 rfl) ?_
  simp (implicitDefEqProofs := false) (disch := omega) only [go_sem, ↓reduceIte]
  refine loop (ι := Unit) 1 (fun i => True) (fun i => [(14, .sl (.lst 1 1 [bsl b])), (15, .int .i64 1), (16, .int .i64 0), (4, .osl 0 [] 1 0 2)]) (fun i => [(0, .row (.ints .u8 2 (be 1 2)))]) (fun i => 0) () [(0, 0)] [] trivial rfl ?_ ?_ ?_ (fun i hi => ?_)
  · simp (implicitDefEqProofs := false) (disch := omega) only [go_sem, ↓reduceIte]
  · simp (implicitDefEqProofs := false) (disch := omega) only [go_sem, ↓reduceIte]
  · simp (implicitDefEqProofs := false) (disch := omega) only [go_sem, ↓reduceIte]
  simp (implicitDefEqProofs := false) (disch := omega) only [go_sem, ↓reduceIte, bsl]
  refine brd (fun h => ?_) (fun h => by omega)
  simp (implicitDefEqProofs := false) (disch := omega) only [go_sem, ↓reduceIte]
  refine ⟨[], [], [], rfl, ?_, ?_, ?_⟩ <;> simp (implicitDefEqProofs := false) (disch := omega) only [go_sem, ↓reduceIte]
/-! What was written is split as it was; what was split is written as those bytes. -/
theorem num2_be (k : Nat) (h : k ≤ 65535) (t : List Int) : num2 (be k 2 ++ t) = k := by
  simp only [num2, be, List.cons_append, List.getD_cons_zero, List.getD_cons_succ, List.nil_append]
  omega
theorem splitL_rows : ∀ (ps : List (List Int)), (∀ p ∈ ps, p.length ≤ 65535) → splitL ps.length (ps.flatMap fun b => be b.length 2 ++ b) = some (ps, [])
  | [], _ => rfl
  | p :: ps, h => by
    have hp := h p (by simp)
    have ih := splitL_rows ps (fun q hq => h q (by simp [hq]))
    have e : ((p :: ps).flatMap fun b => be b.length 2 ++ b) = be p.length 2 ++ (p ++ (ps.flatMap fun b => be b.length 2 ++ b)) := by simp [List.flatMap_cons, List.append_assoc]
    rw [e]
    have hl : (be (p.length : Int) 2 ++ (p ++ (ps.flatMap fun b => be b.length 2 ++ b))).length = 2 + (p.length + (ps.flatMap fun b => be (b.length : Int) 2 ++ b).length) := by simp [be_len]
    have hnum := num2_be p.length hp (p ++ (ps.flatMap fun b => be b.length 2 ++ b))
    have hd2 : (be (p.length : Int) 2 ++ (p ++ (ps.flatMap fun b => be b.length 2 ++ b))).drop 2 = p ++ (ps.flatMap fun b => be b.length 2 ++ b) := by
      rw [List.drop_append_of_le_length (by rw [be_len]; exact Nat.le_refl _), List.drop_of_length_le (by rw [be_len]; exact Nat.le_refl _), List.nil_append]
    have hd3 : (be (p.length : Int) 2 ++ (p ++ (ps.flatMap fun b => be b.length 2 ++ b))).drop (2 + p.length) = ps.flatMap fun b => be b.length 2 ++ b := by
      rw [← List.drop_drop, hd2, List.drop_append_of_le_length (Nat.le_refl _), List.drop_of_length_le (Nat.le_refl _), List.nil_append]
    rw [List.length_cons, splitL, hl, if_neg (by omega), hnum, if_neg (by omega), hd2, hd3, ih, Option.map_some, List.take_append_of_le_length (Nat.le_refl _), List.take_of_length_le (Nat.le_refl _)]
theorem split_rowb (ps : List (List Int)) (hn : ps.length ≤ 65535) (h : ∀ p ∈ ps, p.length ≤ 65535) : split (rowb ps.length ps) = some (ps, []) := by
  unfold split rowb
  rw [num2_be _ hn, if_neg (by simp [be_len]), List.drop_append_of_le_length (by rw [be_len]; exact Nat.le_refl _), List.drop_of_length_le (by rw [be_len]; exact Nat.le_refl _), List.nil_append]
  exact splitL_rows ps h
theorem be_num2 {b : List Int} (hb : ∀ x ∈ b, 0 ≤ x ∧ x < 256) (h : 2 ≤ b.length) : b = be (num2 b) 2 ++ b.drop 2 := by
  match b, h with
  | x :: y :: t, _ =>
    have hx := hb x (by simp)
    have hy := hb y (by simp)
    simp only [num2, be, List.getD_cons_zero, List.getD_cons_succ, List.drop_succ_cons, List.drop_zero, List.cons_append, List.nil_append]
    congr 1
    · omega
    · congr 1; omega
theorem splitL_back : ∀ (k : Nat) (b : List Int) (l : List (List Int)) (rest : List Int), (∀ x ∈ b, 0 ≤ x ∧ x < 256) → splitL k b = some (l, rest) → l.length = k ∧ (∀ p ∈ l, p.length ≤ 65535) ∧ b = (l.flatMap fun b => be b.length 2 ++ b) ++ rest
  | 0, b, l, rest, _, h => by
    simp only [splitL, Option.some.injEq, Prod.mk.injEq] at h
    obtain ⟨rfl, rfl⟩ := h
    simp
  | k + 1, b, l, rest, hb, h => by
    simp only [splitL] at h
    split at h
    · cases h
    split at h
    · cases h
    rename_i h1 h2
    simp only [Option.map_eq_some_iff] at h
    obtain ⟨⟨l', rest'⟩, h3, h4⟩ := h
    simp only [Prod.mk.injEq] at h4
    obtain ⟨rfl, rfl⟩ := h4
    obtain ⟨i1, i2, i3⟩ := splitL_back k _ l' rest' (fun x hx => hb x (List.mem_of_mem_drop hx)) h3
    have hn := (num2_int hb (by omega)).2
    have ht : ((b.drop 2).take (num2 b)).length = num2 b := by rw [List.length_take, List.length_drop]; omega
    refine ⟨by simp [i1], fun p hp => ?_, ?_⟩
    · rcases List.mem_cons.1 hp with rfl | hp
      · rw [ht]; exact hn
      · exact i2 p hp
    · rw [List.flatMap_cons, ht, List.append_assoc, ← i3, List.append_assoc, ← List.drop_drop, List.take_append_drop]
      exact be_num2 hb (by omega)
theorem rowb_split {b : List Int} {l : List (List Int)} (hb : ∀ x ∈ b, 0 ≤ x ∧ x < 256) (h : split b = some (l, [])) : rowb l.length l = b ∧ l.length ≤ 65535 ∧ ∀ p ∈ l, p.length ≤ 65535 := by
  unfold split at h
  split at h
  · cases h
  obtain ⟨h1, h2, h3⟩ := splitL_back _ _ _ _ (fun x hx => hb x (List.mem_of_mem_drop hx)) h
  rw [List.append_nil] at h3
  have hn := num2_int hb (by omega)
  refine ⟨?_, by omega, h2⟩
  unfold rowb
  rw [← h3, h1]
  exact (be_num2 hb (by omega)).symm
end Go.Proofs.YtjaailbgeadnnaaGreat
