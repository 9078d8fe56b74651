/- Texts, joined. -/
import Derived.Test.YtololahjocfbeaaGreatC15
import Derived.Test.YtololahjocfbeaaGreatC14
import Derived.Test.YtololahjocfbeaaGreatC12
import Derived.Test.YtololahjocfbeaaGreatC10
import Derived.Test.YtololahjocfbeaaGreatC11
namespace Go.Proofs.YtololahjocfbeaaGreat
open Go Go.Sy Go.Proofs.Tryz
set_option maxRecDepth 100000
set_option maxHeartbeats 8000000
set_option linter.unusedSimpArgs false
set_option linter.unusedVariables false
attribute [go_sem] pl138 pl183
theorem write_any_own (D : DS) (h : okD D) (hw : D.wait.length ≤ 90000) (i : Int) (t : List Int) (n : Nat) (hn : t.length = n) (hnl : n ≤ 9223372036854775807) :
    FnC Tryz.prog 136 [.ref 0 [], .int .i64 i, .osl 5 [] 1 0 n] ((5, .row (.ints .u8 n t)) :: dskO 1 2 D) (.int .i64 (writeD D i t).1) (dskO 3 4 (writeD D i t).2) := by
  refine (dwrite_spec D h hw i t n hn hnl).sub [(0, 0), (1, 1), (2, 2)] [] [5] rfl ?_ ?_
  · simp -implicitDefEqProofs (disch := omega) only [go_sem, ↓reduceIte]
  · simp -implicitDefEqProofs (disch := omega) only [go_sem, ↓reduceIte]
def replD (D : DS) (S : SS) (b : List Int) : Int × DS × SS :=
  if (writeD D ((S.turn + 1) % 2 : Nat) (sectorL D.sz (S.turn + 1) b)).1 = 0 then
    (if (syncD (writeD D ((S.turn + 1) % 2 : Nat) (sectorL D.sz (S.turn + 1) b)).2).1 = 0 then (0, (syncD (writeD D ((S.turn + 1) % 2 : Nat) (sectorL D.sz (S.turn + 1) b)).2).2, { S with turn := S.turn + 1, text := b })
    else ((syncD (writeD D ((S.turn + 1) % 2 : Nat) (sectorL D.sz (S.turn + 1) b)).2).1, (syncD (writeD D ((S.turn + 1) % 2 : Nat) (sectorL D.sz (S.turn + 1) b)).2).2, { S with gone := true }))
  else ((writeD D ((S.turn + 1) % 2 : Nat) (sectorL D.sz (S.turn + 1) b)).1, (writeD D ((S.turn + 1) % 2 : Nat) (sectorL D.sz (S.turn + 1) b)).2, { S with gone := true })
theorem writeD_okD {D : DS} (h : okD D) (hw : D.wait.length ≤ 90000) (i : Int) (t : List Int) : okD (writeD D i t).2 := by
  unfold writeD
  split
  · exact h
  split
  · rename_i c
    obtain ⟨I, rfl, hI⟩ := there_at h c.1
    rw [Int.toNat_natCast]
    have o1 := okD_wait h hw hI c.2
    dsimp only
    generalize { D with wait := D.wait ++ [(I, t)] } = D1 at *
    unfold failedD
    split
    · exact crashD_ok o1 _
    · exact ⟨o1.sz1, o1.sz2, o1.bl, o1.wl, o1.kl, o1.wt⟩
  · exact h
theorem replace_spec (D : DS) (h : okD D) (hw : D.wait.length ≤ 90000) (S : SS) (hg : S.gone = false) (hT : S.turn ≤ 4611686018427387000) (b : List Int) (n : Nat) (hn : b.length = n) (hl : n + 18 ≤ D.sz) :
    FnC Tryz.prog 138 [.ref 1 [], .sl (.ints .u8 n b)] (slO 2 3 D S) (.int .i64 (replD D S b).1) (slO 4 5 (replD D S b).2.1 (replD D S b).2.2) := by
  have h2 := h.sz2
  obtain ⟨T, t, g⟩ := S
  dsimp only at hg hT
  subst hg
  have e1 : decide ((D.sz : Int) - 18 < (n : Int)) = false := decide_eq_false (by omega)
  have k1 := room_spec D h ⟨T, t, false⟩
  have k2 := sector_pp D h ⟨T, t, false⟩ (T + 1) (by omega) b n hn hl
  have hsl := sectorL_len (z := D.sz) (T := T + 1) (t := b) (by omega)
  have k3 := write_any_own D h hw ((T + 1) % 2 : Nat) (sectorL D.sz (T + 1) b) D.sz hsl (by omega)
  have hok1 := writeD_okD h hw ((T + 1) % 2 : Nat) (sectorL D.sz (T + 1) b)
  have k4 := sync_spec _ hok1
  have tm : ((T : Int) + 1).tmod 2 = ((T + 1) % 2 : Nat) := by rw [Int.tmod_eq_emod_of_nonneg (by omega)]; omega
  unfold replD
  dsimp only
  generalize sectorL D.sz (T + 1) b = X at *
  have hj : (T + 1) % 2 ≤ 1 := by omega
  generalize (T + 1) % 2 = j at *
  generalize writeD D j X = R at *
  obtain ⟨w1, D1⟩ := R
  dsimp only at k3 k4 hok1 ⊢
  generalize syncD D1 = Y at *
  obtain ⟨y1, D2⟩ := Y
  dsimp only at k4 ⊢
  refine fnV mix pl138 2 4 2 [.tmp 4] Tryz.func138 rfl (by kernel_rfl) (by kernel_rfl) rfl (by kernel_rfl) (by kernel_rfl) (by simp) rfl rfl ?_
  simp -implicitDefEqProofs (disch := omega) only [go_sem, ↓reduceIte]
  refine callG false [(0, 0), (1, 1), (2, 2), (3, 3)] [(0, 0), (1, 1), (4, 4), (5, 5)] 6 k1 ?_ ?_
  · simp [keys]
  simp -implicitDefEqProofs (disch := omega) only [go_sem, ↓reduceIte, e1]
  refine callBF 1 k2 ?_ ?_
  · simp -implicitDefEqProofs (disch := omega) only [go_sem, ↓reduceIte]
  simp -implicitDefEqProofs (disch := omega) only [go_sem, ↓reduceIte, tm]
  refine callG false [(5, 6), (0, 0), (1, 4), (2, 5)] [(0, 0), (3, 9), (4, 10)] 11 k3 ?_ ?_
  · simp [keys]
  by_cases c1 : w1 = 0
  · rw [if_pos c1]
    have d1 : decide (w1 = 0) = true := decide_eq_true c1
    simp -implicitDefEqProofs (disch := omega) only [go_sem, ↓reduceIte, d1]
    refine callG false [(0, 0), (1, 9), (2, 10)] [(0, 0), (3, 11), (4, 12)] 13 k4 ?_ ?_
    · simp [keys]
    by_cases c2 : y1 = 0
    · rw [if_pos c2]
      have d2 : decide (y1 = 0) = true := decide_eq_true c2
      simp -implicitDefEqProofs (disch := omega) only [go_sem, ↓reduceIte, d2, List.nil_append]
      refine ⟨[(0, 0), (1, 1), (4, 11), (5, 12)], [], [14], rfl, ?_, ?_, ?_⟩ <;> simp -implicitDefEqProofs (disch := omega) only [go_sem, ↓reduceIte, hn]
    · rw [if_neg c2]
      have d2 : decide (y1 = 0) = false := decide_eq_false c2
      simp -implicitDefEqProofs (disch := omega) only [go_sem, ↓reduceIte, d2]
      refine ⟨[(0, 0), (1, 1), (4, 11), (5, 12)], [], [], rfl, ?_, ?_, ?_⟩ <;> simp -implicitDefEqProofs (disch := omega) only [go_sem, ↓reduceIte]
  · rw [if_neg c1]
    have d1 : decide (w1 = 0) = false := decide_eq_false c1
    simp -implicitDefEqProofs (disch := omega) only [go_sem, ↓reduceIte, d1]
    refine ⟨[(0, 0), (1, 1), (4, 9), (5, 10)], [], [], rfl, ?_, ?_, ?_⟩ <;> simp -implicitDefEqProofs (disch := omega) only [go_sem, ↓reduceIte]
theorem repl_calm {D : DS} (ho : D.off = false) (hs : D.set = false) (hw : D.wait = []) (S : SS) (b : List Int) (hi : thereD D ((S.turn + 1) % 2 : Nat)) (hl : b.length + 18 ≤ D.sz) :
    replD D S b = (0, { D with b := putB D.sz D.b ((S.turn + 1) % 2) (sectorL D.sz (S.turn + 1) b) D.sz, wait := [], left := IntKind.i64.wrap (IntKind.i64.wrap (D.left - 1) - 1) }, { S with turn := S.turn + 1, text := b }) := by
  have hsl := sectorL_len (z := D.sz) (T := S.turn + 1) (t := b) hl
  obtain ⟨sz, B, W, off, set, left, kp⟩ := D
  dsimp only at ho hs hw hsl ⊢
  subst ho; subst hs; subst hw
  have e1 : writeD ⟨sz, B, [], false, false, left, kp⟩ ((S.turn + 1) % 2 : Nat) (sectorL sz (S.turn + 1) b) = (0, ⟨sz, B, [((S.turn + 1) % 2, sectorL sz (S.turn + 1) b)], false, false, IntKind.i64.wrap (left - 1), kp⟩) := by
    unfold writeD
    rw [if_neg (fun h => by cases h), if_pos ⟨hi, hsl⟩, Int.toNat_natCast, failed_calm rfl]
    rfl
  have e2 : syncD ⟨sz, B, [((S.turn + 1) % 2, sectorL sz (S.turn + 1) b)], false, false, IntKind.i64.wrap (left - 1), kp⟩ = (0, ⟨sz, putB sz B ((S.turn + 1) % 2) (sectorL sz (S.turn + 1) b) sz, [], false, false, IntKind.i64.wrap (IntKind.i64.wrap (left - 1) - 1), kp⟩) := by
    unfold syncD
    rw [if_neg (fun h => by cases h), failed_calm rfl, if_neg (fun h => by cases h)]
    rfl
  unfold replD
  rw [e1, if_pos rfl, e2, if_pos rfl]
theorem replace_own (D : DS) (h : okD D) (hw : D.wait.length ≤ 90000) (S : SS) (hg : S.gone = false) (hT : S.turn ≤ 4611686018427387000) (b : List Int) (n : Nat) (hn : b.length = n) (hl : n + 18 ≤ D.sz) :
    FnC Tryz.prog 138 [.ref 1 [], .osl 6 [] 1 0 n] ((6, .row (.ints .u8 n b)) :: slO 2 3 D S) (.int .i64 (replD D S b).1) (slO 4 5 (replD D S b).2.1 (replD D S b).2.2) := by
  refine (replace_spec D h hw S hg hT b n hn hl).sub [(0, 0), (1, 1), (2, 2), (3, 3)] [] [6] rfl ?_ ?_
  · simp -implicitDefEqProofs (disch := omega) only [go_sem, ↓reduceIte]
  · simp -implicitDefEqProofs (disch := omega) only [go_sem, ↓reduceIte]
def toU (xs : List Int) : List UInt8 := xs.map fun x => UInt8.ofNat x.toNat
theorem toU_len (xs : List Int) : (toU xs).length = xs.length := List.length_map _
def chunk (sz : Nat) (b : List Int) (q : Nat) : List Int := (b.drop (q * sz)).take sz
theorem chunk_put {sz ns : Nat} {b t : List Int} {at' m q : Nat} (hb : b.length = ns * sz) (ha : at' < ns) (hq : q < ns) (ht : t.length = sz) (hm : m ≤ sz) :
    chunk sz (putB sz b at' t m) q = if q = at' then t.take m ++ (chunk sz b at').drop m else chunk sz b q := by
  have ha2 : at' * sz + sz ≤ ns * sz := by rw [← Nat.succ_mul]; exact Nat.mul_le_mul_right _ ha
  have hpl : (putB sz b at' t m).length = ns * sz := by rw [putB_len (by omega) (by omega), hb]
  have l1 : (b.take (at' * sz)).length = at' * sz := by rw [List.length_take]; omega
  have l2 : (t.take m).length = m := by rw [List.length_take]; omega
  by_cases c : q = at'
  · subst c
    rw [if_pos rfl]
    apply List.ext_getElem?
    intro j
    unfold chunk putB
    rw [List.getElem?_take, List.getElem?_drop, List.getElem?_append_right (by omega), l1, Nat.add_sub_cancel_left]
    by_cases hj : j < sz
    · rw [if_pos hj]
      by_cases hjm : j < m
      · rw [List.getElem?_append_left (by omega), List.getElem?_append_left (by omega)]
      · rw [List.getElem?_append_right (by omega), List.getElem?_append_right (by omega), l2, List.getElem?_drop, List.getElem?_drop, List.getElem?_take, List.getElem?_drop, if_pos (by omega)]
        congr 1; omega
    · rw [if_neg hj, List.getElem?_append_right (by omega), l2, List.getElem?_drop, List.getElem?_take, if_neg (by omega)]
  · rw [if_neg c]
    apply List.ext_getElem?
    intro j
    unfold chunk putB
    rw [List.getElem?_take, List.getElem?_take, List.getElem?_drop, List.getElem?_drop]
    by_cases hj : j < sz
    · rw [if_pos hj, if_pos hj]
      by_cases hlt : q < at'
      · have : q * sz + sz ≤ at' * sz := by rw [← Nat.succ_mul]; exact Nat.mul_le_mul_right _ hlt
        rw [List.getElem?_append_left (by omega), List.getElem?_take, if_pos (by omega)]
      · have : at' * sz + sz ≤ q * sz := by rw [← Nat.succ_mul]; exact Nat.mul_le_mul_right _ (by omega)
        rw [List.getElem?_append_right (by omega), l1, List.getElem?_append_right (by omega), l2, List.getElem?_drop]
        congr 1; omega
    · rw [if_neg hj, if_neg hj]
structure okR (ns : Nat) (D : DS) : Prop where
  n1 : ns ≤ 64
  bl : D.b.length = ns * D.sz
  lf : D.set = true → 0 ≤ D.left ∧ D.left < 9223372036854775808
def inact (z T : Nat) (c : List Int) : Prop := c.getD (z - 1) 0 = (((T - 1) % 256 : Nat) : Int) ∧ (c.take 8 = be (T + 1 : Nat) 8 ∨ c.drop (z - 8) = be (T - 1 : Nat) 8)
structure Cont (z T : Nat) (t b : List Int) : Prop where
  z1 : 18 ≤ z
  z2 : z ≤ 512
  T1 : T ≤ 1000
  tl : t.length + 18 ≤ z
  t0 : T = 0 → t = []
  bl : b.length = 2 * z
  bb : ∀ x ∈ b, 0 ≤ x ∧ x < 256
  act : chunk z b (T % 2) = sectorL z T t
  ina : inact z T (chunk z b ((T + 1) % 2))
structure Inv (z T : Nat) (t : List Int) (D : DS) : Prop where
  d : okD D
  s : D.sz = z
  o : D.off = false
  w : D.wait = []
  c : Cont z T t D.b
end Go.Proofs.YtololahjocfbeaaGreat
namespace Go.Proofs.YtololahjocfbeaaGreat
open Go Go.Sy Go.Proofs.Tryz
set_option maxRecDepth 100000
set_option maxHeartbeats 4000000
set_option linter.unusedSimpArgs false
set_option linter.unusedVariables false
attribute [go_sem] pl248
theorem shl_orI {a x : Int} (ha : 0 ≤ a) (ha' : a < 256) (hx : 0 ≤ x) (hx' : x < 256) : ior .i64 (ishl .i64 a 8) x = a * 256 + x := by
  have e : ishl .i64 a 8 = a * 256 := by
    unfold ishl
    have h8 : (2 : Int) ^ (min 8 IntKind.i64.bits) = 256 := by decide
    rw [h8]
    exact wrap_i64 (by omega) (by omega)
  rw [e, ior_nat (by omega) (by show _ < (2 : Int) ^ 64; omega) hx (by show _ < (2 : Int) ^ 64; omega)]
  have h := Nat.shiftLeft_add_eq_or_of_lt (i := 8) (b := x.toNat) (by omega) a.toNat
  have e2 : (a * 256).toNat = a.toNat <<< 8 := by rw [Nat.shiftLeft_eq]; omega
  rw [e2, ← h, Nat.shiftLeft_eq]
  rw [wrap_i64 (by omega) (by omega)]
  omega
def num2 (b : List Int) : Nat := (b.getD 0 0 * 256 + b.getD 1 0).toNat
theorem num2_int {b : List Int} (hb : ∀ x ∈ b, 0 ≤ x ∧ x < 256) (hl : 2 ≤ b.length) : b.getD 0 0 * 256 + b.getD 1 0 = (num2 b : Int) ∧ num2 b ≤ 65535 := by
  have h0 := getD_all' hb (show 0 < b.length by omega)
  have h1 := getD_all' hb (show 1 < b.length by omega)
  unfold num2
  omega
theorem cut_ok_spec (b : List Int) (m n : Nat) (hm : b.length = m) (hn : n ≤ m) (hl : m ≤ 1000000) : FnC Tryz.prog 249 [.ref 0 [], .int .i64 n] [(0, .var (.sl (.ints .u8 m b)))] (.tup [.osl 1 [] 1 0 n, .bool true])
    [(0, .var (.sl (.ints .u8 (m - n) (b.drop n)))), (1, .row (.ints .u8 n (b.take n)))] := by
  have d1 : (b.drop n).take (m - n) = b.drop n := List.take_of_length_le (by rw [List.length_drop]; omega)
  refine fnN mix [] 1 2 [.tmp 4, .tmp 5] Tryz.func249 rfl (by kernel_rfl) (by kernel_rfl) rfl (by kernel_rfl) (by kernel_rfl) (by simp) ?_
  simp -implicitDefEqProofs (disch := omega) only [go_sem, ↓reduceIte]
  refine brd (fun h => by omega) (fun h => ?_)
  simp -implicitDefEqProofs (disch := omega) only [go_sem, ↓reduceIte, ↓subC_len, d1]
  refine ⟨[(0, 0), (1, 2)], [], [], rfl, ?_, ?_, ?_⟩ <;> simp -implicitDefEqProofs (disch := omega) only [go_sem, ↓reduceIte]
theorem cut_bad_spec (b : List Int) (m n : Nat) (hm : b.length = m) (hn : m < n) (hn' : n ≤ 1000000) (hl : m ≤ 1000000) : FnC Tryz.prog 249 [.ref 0 [], .int .i64 n] [(0, .var (.sl (.ints .u8 m b)))] (.tup [.nils, .bool false]) [(0, .var (.sl (.ints .u8 m b)))] := by
  refine fnN mix [] 1 2 [.tmp 4, .tmp 5] Tryz.func249 rfl (by kernel_rfl) (by kernel_rfl) rfl (by kernel_rfl) (by kernel_rfl) (by simp) ?_
  simp -implicitDefEqProofs (disch := omega) only [go_sem, ↓reduceIte]
  refine brd (fun h => ?_) (fun h => by omega)
  simp -implicitDefEqProofs (disch := omega) only [go_sem, ↓reduceIte]
  refine ⟨[(0, 0)], [], [], rfl, ?_, ?_, ?_⟩ <;> simp -implicitDefEqProofs (disch := omega) only [go_sem, ↓reduceIte]
theorem size_ok_spec (b : List Int) (m : Nat) (hm : b.length = m) (hb : ∀ x ∈ b, 0 ≤ x ∧ x < 256) (hn : 2 ≤ m) (hl : m ≤ 1000000) : FnC Tryz.prog 248 [.ref 0 []] [(0, .var (.sl (.ints .u8 m b)))] (.int .i64 (num2 b)) [(0, .var (.sl (.ints .u8 (m - 2) (b.drop 2))))] := by
  have h0 := getD_all' hb (show 0 < b.length by omega)
  have h1 := getD_all' hb (show 1 < b.length by omega)
  have e0 : (b.take 2).getD 0 0 = b.getD 0 0 := by simp [List.getD, List.getElem?_take]
  have e1 : (b.take 2).getD 1 0 = b.getD 1 0 := by simp [List.getD, List.getElem?_take]
  have e2 := shl_orI h0.1 h0.2 h1.1 h1.2
  have e3 := (num2_int hb (by omega)).1
  refine fnN mix pl248 1 1 [.tmp 2] Tryz.func248 rfl (by kernel_rfl) (by kernel_rfl) rfl (by kernel_rfl) (by kernel_rfl) (by simp) ?_
  simp -implicitDefEqProofs (disch := omega) only [go_sem, ↓reduceIte]
  refine callG false [(0, 0)] [(0, 0), (1, 1)] 2 (cut_ok_spec b m 2 hm hn hl) ?_ ?_
  · simp [keys]
  simp -implicitDefEqProofs (disch := omega) only [go_sem, ↓reduceIte, e0, e1]
  refine ⟨[(0, 0)], [], [], rfl, ?_, ?_, ?_⟩ <;> simp -implicitDefEqProofs (disch := omega) only [go_sem, ↓reduceIte, e2, e3]
theorem size_bad_spec (b : List Int) (m : Nat) (hm : b.length = m) (hn : m < 2) : FnC Tryz.prog 248 [.ref 0 []] [(0, .var (.sl (.ints .u8 m b)))] (.int .i64 (-1)) [(0, .var (.sl (.ints .u8 m b)))] := by
  refine fnN mix pl248 1 1 [.tmp 2] Tryz.func248 rfl (by kernel_rfl) (by kernel_rfl) rfl (by kernel_rfl) (by kernel_rfl) (by simp) ?_
  simp -implicitDefEqProofs (disch := omega) only [go_sem, ↓reduceIte]
  refine callG false [(0, 0)] [(0, 0)] 1 (cut_bad_spec b m 2 hm hn (by decide) (by omega)) ?_ ?_
  · simp [keys]
  simp -implicitDefEqProofs (disch := omega) only [go_sem, ↓reduceIte]
  refine ⟨[(0, 0)], [], [], rfl, ?_, ?_, ?_⟩ <;> simp -implicitDefEqProofs (disch := omega) only [go_sem, ↓reduceIte]
def splitL : Nat → List Int → Option (List (List Int) × List Int)
  | 0, b => some ([], b)
  | k + 1, b => if b.length < 2 then none else if b.length - 2 < num2 b then none else (splitL k (b.drop (2 + num2 b))).map fun r => ((b.drop 2).take (num2 b) :: r.1, r.2)
def splitR : Option (List (List Int) × List Int) → AV
  | none => .tup [.nils, .int .i64 2]
  | some (l, rest) => if rest = [] then .tup [.sl (.lst 1 l.length (l.map bsl)), .int .i64 0] else .tup [.nils, .int .i64 2]
def go (done : List (List Int)) (k : Nat) (rest : List Int) : Option (List (List Int) × List Int) := (splitL k rest).map fun r => (done ++ r.1, r.2)
theorem go_short {done : List (List Int)} {k : Nat} {rest : List Int} (h : rest.length < 2) : go done (k + 1) rest = none := by simp [go, splitL, h]
theorem go_lack {done : List (List Int)} {k : Nat} {rest : List Int} (h : 2 ≤ rest.length) (h' : rest.length - 2 < num2 rest) : go done (k + 1) rest = none := by
  simp [go, splitL, show ¬ rest.length < 2 by omega, h']
theorem go_step {done : List (List Int)} {k : Nat} {rest : List Int} (h : 2 ≤ rest.length) (h' : num2 rest ≤ rest.length - 2) : go done (k + 1) rest = go (done ++ [(rest.drop 2).take (num2 rest)]) k (rest.drop (2 + num2 rest)) := by
  simp only [go, splitL, if_neg (show ¬ rest.length < 2 by omega), if_neg (show ¬ rest.length - 2 < num2 rest by omega)]
  cases splitL k (rest.drop (2 + num2 rest)) <;> simp
theorem go_end {done : List (List Int)} {rest : List Int} : go done 0 rest = some (done, rest) := by simp [go, splitL]
def split (b : List Int) : Option (List (List Int) × List Int) := if b.length < 2 then none else splitL (num2 b) (b.drop 2)
theorem bsl_of {x : List Int} {n : Nat} (h : x.length = n) : AV.sl (.ints .u8 n x) = bsl x := by rw [bsl, h]
theorem split_spec (b : List Int) (r : AV) (hr : splitR (split b) = r) (hb : ∀ x ∈ b, 0 ≤ x ∧ x < 256) (hl : b.length ≤ 1000000) : FnC Tryz.prog 227 [.sl (.ints .u8 b.length b)] [] r [] := by
  refine fnN mix [] 0 1 [.tmp 2, .tmp 3] Tryz.func227 rfl (by kernel_rfl) (by kernel_rfl) rfl (by kernel_rfl) (by kernel_rfl) (by simp) ?_
  simp -implicitDefEqProofs (disch := omega) only [go_sem, ↓reduceIte]
  by_cases h2 : b.length < 2
  · have e : split b = none := by simp [split, h2]
    rw [e] at hr
    subst hr
    refine callG false [(0, 0)] [(0, 0)] 1 (size_bad_spec b _ rfl h2) ?_ ?_
    · simp [keys]
    simp -implicitDefEqProofs (disch := omega) only [go_sem, ↓reduceIte]
    refine ⟨[], [], [], rfl, ?_, ?_, ?_⟩ <;> simp -implicitDefEqProofs (disch := omega) only [go_sem, ↓reduceIte, splitR]
  have hn := num2_int hb (by omega)
  have e : split b = go [] (num2 b) (b.drop 2) := by simp [split, h2, go]
  rw [e] at hr
  have hb2 : ∀ x ∈ b.drop 2, 0 ≤ x ∧ x < 256 := fun x hx => hb x (List.mem_of_mem_drop hx)
  have hl2 : (b.drop 2).length = b.length - 2 := List.length_drop
  refine callG false [(0, 0)] [(0, 0)] 1 (size_ok_spec b _ rfl hb (by omega) hl) ?_ ?_
  · simp [keys]
  simp -implicitDefEqProofs (disch := omega) only [go_sem, ↓reduceIte]
  refine brd (fun h => by omega) (fun h => ?_)
  simp -implicitDefEqProofs (disch := omega) only [go_sem, ↓reduceIte]
  generalize b.drop 2 = b2 at *
  rw [← hl2]
  have hl3 : b2.length ≤ 1000000 := by omega
  clear e
  refine loop (ι := Nat × List (List Int) × List Int) 2 (fun s => s.1 ≤ num2 b ∧ s.2.1.length = s.1 ∧ s.2.2.length ≤ 1000000 ∧ (∀ x ∈ s.2.2, 0 ≤ x ∧ x < 256) ∧ splitR (go s.2.1 (num2 b - s.1) s.2.2) = r)
    (fun s => [(1, .ref 0 []), (5, .osl 1 [] 1 0 s.1), (12, .int .i64 (num2 b)), (13, .int .i64 s.1)])
    (fun s => [(0, .var (.sl (.ints .u8 s.2.2.length s.2.2))), (1, .row (.lst 1 s.1 (s.2.1.map bsl)))]) (fun s => num2 b - s.1) (0, [], b2) [(0, 0)] [1] ⟨Nat.zero_le _, rfl, hl3, hb2, hr⟩ rfl ?_ ?_ ?_ (fun s hs => ?_)
  · simp -implicitDefEqProofs (disch := omega) only [go_sem, ↓reduceIte]
  · simp -implicitDefEqProofs (disch := omega) only [go_sem, ↓reduceIte]
  · simp -implicitDefEqProofs (disch := omega) only [go_sem, ↓reduceIte]
  obtain ⟨i, ds, rest⟩ := s
  obtain ⟨h1, h3, h4, h5, h6⟩ := hs
  dsimp only at h1 h3 h4 h5 h6 ⊢
  simp -implicitDefEqProofs (disch := omega) only [go_sem, ↓reduceIte]
  refine brd (fun h => ?_) (fun h => ?_)
  · have hk : num2 b - i = (num2 b - i - 1) + 1 := by omega
    rw [hk] at h6
    simp -implicitDefEqProofs (disch := omega) only [go_sem, ↓reduceIte]
    by_cases h7 : rest.length < 2
    · rw [go_short h7] at h6
      subst h6
      refine callG false [(0, 0)] [(0, 0)] 2 (size_bad_spec rest _ rfl h7) ?_ ?_
      · simp [keys]
      simp -implicitDefEqProofs (disch := omega) only [go_sem, ↓reduceIte]
      refine ⟨[], [], [], rfl, ?_, ?_, ?_⟩ <;> simp -implicitDefEqProofs (disch := omega) only [go_sem, ↓reduceIte, splitR]
    have hn2 := num2_int h5 (by omega)
    refine callG false [(0, 0)] [(0, 0)] 2 (size_ok_spec rest _ rfl h5 (by omega) h4) ?_ ?_
    · simp [keys]
    simp -implicitDefEqProofs (disch := omega) only [go_sem, ↓reduceIte]
    refine brd (fun h => by omega) (fun h => ?_)
    simp -implicitDefEqProofs (disch := omega) only [go_sem, ↓reduceIte]
    have hd2 : (rest.drop 2).length = rest.length - 2 := List.length_drop
    by_cases h8 : rest.length - 2 < num2 rest
    · rw [go_lack (by omega) h8] at h6
      subst h6
      refine callG false [(0, 0)] [(0, 0)] 2 (cut_bad_spec (rest.drop 2) _ (num2 rest) hd2 h8 (by omega) (by omega)) ?_ ?_
      · simp [keys]
      simp -implicitDefEqProofs (disch := omega) only [go_sem, ↓reduceIte]
      refine ⟨[], [], [], rfl, ?_, ?_, ?_⟩ <;> simp -implicitDefEqProofs (disch := omega) only [go_sem, ↓reduceIte, splitR]
    rw [go_step (by omega) (by omega)] at h6
    refine callG false [(0, 0)] [(0, 0), (1, 2)] 3 (cut_ok_spec (rest.drop 2) _ (num2 rest) hd2 (by omega) (by omega)) ?_ ?_
    · simp [keys]
    have ht : ((rest.drop 2).take (num2 rest)).length = num2 rest := by rw [List.length_take]; omega
    have hdd : (rest.drop 2).drop (num2 rest) = rest.drop (2 + num2 rest) := List.drop_drop
    have hdl : (rest.drop (2 + num2 rest)).length = rest.length - 2 - num2 rest := by rw [List.length_drop]; omega
    have hbs := bsl_of ht
    simp -implicitDefEqProofs (disch := omega) only [go_sem, ↓reduceIte, hdd, ↓subC_len, List.take_of_length_le, Nat.le_refl]
    refine ⟨(i + 1, ds ++ [(rest.drop 2).take (num2 rest)], rest.drop (2 + num2 rest)), [(0, 0), (1, 4)], [], [], ?_, by dsimp only; omega, rfl, ?_, ?_, ?_⟩
    · refine ⟨by dsimp only; omega, by simp [h3], by dsimp only; omega, fun x hx => h5 x (List.mem_of_mem_drop hx), ?_⟩
      rw [← h6, show num2 b - (i + 1) = num2 b - i - 1 by omega]
    all_goals simp -implicitDefEqProofs (disch := omega) only [go_sem, ↓reduceIte, hdl, List.map_append, hbs]
  obtain rfl : i = num2 b := by omega
  rw [Nat.sub_self, go_end] at h6
  simp -implicitDefEqProofs (disch := omega) only [go_sem, ↓reduceIte]
  refine brd (fun h7 => ?_) (fun h7 => ?_)
  · have : rest ≠ [] := by intro e; subst e; simp at h7
    rw [splitR, if_neg this] at h6
    subst h6
    simp -implicitDefEqProofs (disch := omega) only [go_sem, ↓reduceIte]
    refine ⟨[], [], [], rfl, ?_, ?_, ?_⟩ <;> simp -implicitDefEqProofs (disch := omega) only [go_sem, ↓reduceIte]
  · have : rest = [] := List.eq_nil_of_length_eq_zero (by omega)
    rw [splitR, if_pos this, h3] at h6
    subst h6
    simp -implicitDefEqProofs (disch := omega) only [go_sem, ↓reduceIte]
    refine ⟨[], [], [1], rfl, ?_, ?_, ?_⟩ <;> simp -implicitDefEqProofs (disch := omega) only [go_sem, ↓reduceIte]
theorem num2_be (k : Nat) (h : k ≤ 65535) (t : List Int) : num2 (be k 2 ++ t) = k := by
  simp only [num2, be, List.cons_append, List.getD_cons_zero, List.getD_cons_succ, List.nil_append]
  omega
theorem splitL_rows : ∀ (ps : List (List Int)), (∀ p ∈ ps, p.length ≤ 65535) → splitL ps.length (ps.flatMap fun b => be b.length 2 ++ b) = some (ps, [])
  | [], _ => rfl
  | p :: ps, h => by
    have hp := h p (by simp)
    have ih := splitL_rows ps (fun q hq => h q (by simp [hq]))
    have e : ((p :: ps).flatMap fun b => be b.length 2 ++ b) = be p.length 2 ++ (p ++ (ps.flatMap fun b => be b.length 2 ++ b)) := by simp [List.flatMap_cons, List.append_assoc]
    rw [e]
    have hl : (be (p.length : Int) 2 ++ (p ++ (ps.flatMap fun b => be b.length 2 ++ b))).length = 2 + (p.length + (ps.flatMap fun b => be (b.length : Int) 2 ++ b).length) := by simp [be_len]
    have hnum := num2_be p.length hp (p ++ (ps.flatMap fun b => be b.length 2 ++ b))
    have hd2 : (be (p.length : Int) 2 ++ (p ++ (ps.flatMap fun b => be b.length 2 ++ b))).drop 2 = p ++ (ps.flatMap fun b => be b.length 2 ++ b) := by
      rw [List.drop_append_of_le_length (by rw [be_len]; exact Nat.le_refl _), List.drop_of_length_le (by rw [be_len]; exact Nat.le_refl _), List.nil_append]
    have hd3 : (be (p.length : Int) 2 ++ (p ++ (ps.flatMap fun b => be b.length 2 ++ b))).drop (2 + p.length) = ps.flatMap fun b => be b.length 2 ++ b := by
      rw [← List.drop_drop, hd2, List.drop_append_of_le_length (Nat.le_refl _), List.drop_of_length_le (Nat.le_refl _), List.nil_append]
    rw [List.length_cons, splitL, hl, if_neg (by omega), hnum, if_neg (by omega), hd2, hd3, ih, Option.map_some, List.take_append_of_le_length (Nat.le_refl _), List.take_of_length_le (Nat.le_refl _)]
theorem split_rowb (ps : List (List Int)) (hn : ps.length ≤ 65535) (h : ∀ p ∈ ps, p.length ≤ 65535) : split (rowb ps.length ps) = some (ps, []) := by
  unfold split rowb
  rw [num2_be _ hn, if_neg (by simp [be_len]), List.drop_append_of_le_length (by rw [be_len]; exact Nat.le_refl _), List.drop_of_length_le (by rw [be_len]; exact Nat.le_refl _), List.nil_append]
  exact splitL_rows ps h
attribute [go_sem] pl197
def hi_ (a1 a2 b1 b2 : Int) : Int := if b1 < a1 then a2 else if a1 < b1 then b2 else max a2 b2
theorem least_spec (a0 a1 a2 b0 b1 b2 : Int) : FnC Tryz.prog 181 [.agg [.int .i64 a0, .int .i64 a1, .int .i64 a2], .agg [.int .i64 b0, .int .i64 b1, .int .i64 b2]] [] (.agg [.int .i64 (max a0 b0), .int .i64 (max a1 b1), .int .i64 (hi_ a1 a2 b1 b2)]) [] := by
  refine fn0 mix [] 0 2 [.cell 4 138] Tryz.func181 rfl (by kernel_rfl) (by kernel_rfl) rfl (by kernel_rfl) (by kernel_rfl) (by simp) ?_
  simp -implicitDefEqProofs (disch := omega) only [go_sem, ↓reduceIte]
  refine brd (fun h => ?_) (fun h => ?_)
  · simp -implicitDefEqProofs (disch := omega) only [go_sem, ↓reduceIte]
    simp only [hi_, if_pos h, AV.agg.injEq, List.cons.injEq, AV.int.injEq, true_and, and_true]; omega
  simp -implicitDefEqProofs (disch := omega) only [go_sem, ↓reduceIte]
  refine brd (fun h2 => ?_) (fun h2 => ?_)
  · simp -implicitDefEqProofs (disch := omega) only [go_sem, ↓reduceIte]
    simp only [hi_, if_neg h, if_pos h2, AV.agg.injEq, List.cons.injEq, AV.int.injEq, true_and, and_true]; omega
  · simp -implicitDefEqProofs (disch := omega) only [go_sem, ↓reduceIte]
    simp only [hi_, if_neg h, if_neg h2, AV.agg.injEq, List.cons.injEq, AV.int.injEq, true_and, and_true]; omega
theorem new_spec : FnC Tryz.prog 25 [] [] (.ref 0 []) [(0, .var (.agg [.agg [.int .i64 0, .int .i64 0, .int .i64 0]]))] := by
  refine fnN mix [] 0 0 [.tmp 0] Tryz.func25 rfl (by kernel_rfl) (by kernel_rfl) rfl (by kernel_rfl) (by kernel_rfl) (by simp) ?_
  simp -implicitDefEqProofs (disch := omega) only [go_sem, ↓reduceIte]
  refine ⟨[(0, 0)], [], [], rfl, ?_, ?_, ?_⟩ <;> simp -implicitDefEqProofs (disch := omega) only [go_sem, ↓reduceIte]
theorem marks_spec (a0 a1 a2 : Int) : FnC Tryz.prog 182 [.ref 0 []] [(0, .var (.agg [.agg [.int .i64 a0, .int .i64 a1, .int .i64 a2]]))] (.agg [.int .i64 a0, .int .i64 a1, .int .i64 a2]) [(0, .var (.agg [.agg [.int .i64 a0, .int .i64 a1, .int .i64 a2]]))] := by
  refine fnN mix [] 1 1 [.cell 2 138] Tryz.func182 rfl (by kernel_rfl) (by kernel_rfl) rfl (by kernel_rfl) (by kernel_rfl) (by simp) ?_
  simp -implicitDefEqProofs (disch := omega) only [go_sem, ↓reduceIte]
  refine ⟨[(0, 0)], [], [], rfl, ?_, ?_, ?_⟩ <;> simp -implicitDefEqProofs (disch := omega) only [go_sem, ↓reduceIte]
theorem raise_spec (a0 a1 a2 b0 b1 b2 : Int) : FnC Tryz.prog 197 [.ref 0 [], .agg [.int .i64 b0, .int .i64 b1, .int .i64 b2]] [(0, .var (.agg [.agg [.int .i64 a0, .int .i64 a1, .int .i64 a2]]))]
    (.agg [.int .i64 (max a0 b0), .int .i64 (max a1 b1), .int .i64 (hi_ a1 a2 b1 b2)]) [(0, .var (.agg [.agg [.int .i64 (max a0 b0), .int .i64 (max a1 b1), .int .i64 (hi_ a1 a2 b1 b2)]]))] := by
  refine fnN mix pl197 1 2 [.cell 4 138] Tryz.func197 rfl (by kernel_rfl) (by kernel_rfl) rfl (by kernel_rfl) (by kernel_rfl) (by simp) ?_
  simp -implicitDefEqProofs (disch := omega) only [go_sem, ↓reduceIte]
  refine call0 (least_spec _ _ _ _ _ _) ?_
  simp -implicitDefEqProofs (disch := omega) only [go_sem, ↓reduceIte]
  refine br (fun h => ?_) (fun h => ?_)
  · simp only [Bool.and_eq_true, decide_eq_true_eq] at h
    simp -implicitDefEqProofs (disch := omega) only [go_sem, ↓reduceIte]
    refine ⟨[(0, 0)], [], [], rfl, ?_, ?_, ?_⟩ <;> simp -implicitDefEqProofs (disch := omega) only [go_sem, ↓reduceIte, h.1, h.2.1, h.2.2]
  · simp -implicitDefEqProofs (disch := omega) only [go_sem, ↓reduceIte]
    refine ⟨[(0, 0)], [], [], rfl, ?_, ?_, ?_⟩ <;> simp -implicitDefEqProofs (disch := omega) only [go_sem, ↓reduceIte]
def lst3 (x y : Int × Int × Int) : Int × Int × Int := (max x.1 y.1, max x.2.1 y.2.1, hi_ x.2.1 x.2.2 y.2.1 y.2.2)
def acc (ms : List (Int × Int × Int)) (i : Nat) : Int × Int × Int := (ms.take i).foldl lst3 (0, 0, 0)
end Go.Proofs.YtololahjocfbeaaGreat
