/- Texts, joined. -/
import Derived.Test.YtololahjocfbeaaGreatC15
import Derived.Test.YtololahjocfbeaaGreatC16
import Derived.Test.YtololahjocfbeaaGreatC18
import Derived.Test.YtololahjocfbeaaGreatC09
import Derived.Test.YtololahjocfbeaaGreatC30
import Derived.Test.YtololahjocfbeaaGreatC32
namespace Go.Proofs.YtololahjocfbeaaGreat
open Go Go.Sy Go.Proofs.Tryz
set_option maxRecDepth 100000
set_option maxHeartbeats 8000000
set_option linter.unusedSimpArgs false
set_option linter.unusedVariables false
attribute [go_sem] pl138
abbrev slPA (A : Nat) (D : DS) (S : SS) : AV := .agg [.pp (dskP D) [], .int .i64 A, .int .i64 S.turn, .sl (.ints .u8 S.text.length S.text), .bool S.gone]
attribute [go_sem] slPA
theorem room_specA (A : Nat) (D : DS) (h : okD D) (S : SS) : FnC Tryz.prog 179 [.ref 1 []] (slOA A 2 3 D S) (.int .i64 ((D.sz : Int) - 18)) (slOA A 4 5 D S) := by
  have h2 := h.sz2
  refine fnV mix [] 2 4 1 [.tmp 2] Tryz.func179 rfl (by kernel_rfl) (by kernel_rfl) rfl (by kernel_rfl) (by kernel_rfl) (by simp) rfl rfl ?_
  simp -implicitDefEqProofs (disch := omega) only [go_sem, ↓reduceIte]
  refine callG false [(0, 0), (1, 2), (2, 3)] [(0, 0), (3, 4), (4, 5)] 6 (dsize_spec D) ?_ ?_
  · simp [keys]
  simp -implicitDefEqProofs (disch := omega) only [go_sem, ↓reduceIte]
  refine ⟨[(0, 0), (1, 1), (4, 4), (5, 5)], [], [], rfl, ?_, ?_, ?_⟩ <;> simp -implicitDefEqProofs (disch := omega) only [go_sem, ↓reduceIte]
theorem room_ppA (A : Nat) (D : DS) (h : okD D) (S : SS) : FnC Tryz.prog 179 [.pp (slPA A D S) []] [] (.int .i64 ((D.sz : Int) - 18)) [] := by
  have h2 := h.sz2
  refine fn0 mix [] 0 1 [.tmp 2] Tryz.func179 rfl (by kernel_rfl) (by kernel_rfl) rfl (by kernel_rfl) (by kernel_rfl) (by simp) ?_
  simp -implicitDefEqProofs (disch := omega) only [go_sem, ↓reduceIte]
  refine call0 (dsize_pp D) ?_
  simp -implicitDefEqProofs (disch := omega) only [go_sem, ↓reduceIte]
theorem sector_ppA (A : Nat) (D : DS) (h : okD D) (S : SS) (T : Nat) (hT : T ≤ 4611686018427387904) (t : List Int) (n : Nat) (hn : t.length = n) (hl : n + 18 ≤ D.sz) :
    FnC Tryz.prog 201 [.pp (slPA A D S) [], .int .i64 T, .sl (.ints .u8 n t)] [] (.osl 0 [] 1 0 D.sz) [(0, .row (.ints .u8 D.sz (sectorL D.sz T t)))] := by
  have h2 := h.sz2
  have k1 := number_spec T 8 8 rfl
  have k2 := number_spec n 2 2 rfl
  have i1 : (D.sz : Int) - 18 - (n : Int) = ((D.sz - 18 - n : Nat) : Int) := by omega
  have i2 : 8 + 2 + n + (D.sz - 18 - n) + 8 = D.sz := by omega
  unfold sectorL
  rw [hn]
  refine fnN mix [] 0 3 [.tmp 6] Tryz.func201 rfl (by kernel_rfl) (by kernel_rfl) rfl (by kernel_rfl) (by kernel_rfl) (by simp) ?_
  simp -implicitDefEqProofs (disch := omega) only [go_sem, ↓reduceIte]
  refine callF 1 k1 ?_
  simp -implicitDefEqProofs (disch := omega) only [go_sem, ↓reduceIte]
  refine callF 1 k2 ?_
  simp -implicitDefEqProofs (disch := omega) only [go_sem, ↓reduceIte, List.nil_append]
  refine call0 (room_ppA A D h S) ?_
  simp -implicitDefEqProofs (disch := omega) only [go_sem, ↓reduceIte, i1]
  refine ⟨[(0, 7)], [], [], rfl, ?_, ?_, ?_⟩ <;> simp -implicitDefEqProofs (disch := omega) only [go_sem, ↓reduceIte, i2]
def replDA (A : Nat) (D : DS) (S : SS) (b : List Int) : Int × DS × SS :=
  if (writeD D ((A + (S.turn + 1) % 2 : Nat) : Int) (sectorL D.sz (S.turn + 1) b)).1 = 0 then
    (if (syncD (writeD D ((A + (S.turn + 1) % 2 : Nat) : Int) (sectorL D.sz (S.turn + 1) b)).2).1 = 0 then (0, (syncD (writeD D ((A + (S.turn + 1) % 2 : Nat) : Int) (sectorL D.sz (S.turn + 1) b)).2).2, { S with turn := S.turn + 1, text := b })
    else ((syncD (writeD D ((A + (S.turn + 1) % 2 : Nat) : Int) (sectorL D.sz (S.turn + 1) b)).2).1, (syncD (writeD D ((A + (S.turn + 1) % 2 : Nat) : Int) (sectorL D.sz (S.turn + 1) b)).2).2, { S with gone := true }))
  else ((writeD D ((A + (S.turn + 1) % 2 : Nat) : Int) (sectorL D.sz (S.turn + 1) b)).1, (writeD D ((A + (S.turn + 1) % 2 : Nat) : Int) (sectorL D.sz (S.turn + 1) b)).2, { S with gone := true })
theorem replace_specA (A : Nat) (D : DS) (h : okD D) (hw : D.wait.length ≤ 90000) (S : SS) (hg : S.gone = false) (hA : A ≤ 1000) (hT : S.turn ≤ 4611686018427387000) (b : List Int) (n : Nat) (hn : b.length = n) (hl : n + 18 ≤ D.sz) :
    FnC Tryz.prog 138 [.ref 1 [], .sl (.ints .u8 n b)] (slOA A 2 3 D S) (.int .i64 (replDA A D S b).1) (slOA A 4 5 (replDA A D S b).2.1 (replDA A D S b).2.2) := by
  have h2 := h.sz2
  obtain ⟨T, t, g⟩ := S
  dsimp only at hg hT
  subst hg
  have e1 : decide ((D.sz : Int) - 18 < (n : Int)) = false := decide_eq_false (by omega)
  have k1 := room_specA A D h ⟨T, t, false⟩
  have k2 := sector_ppA A D h ⟨T, t, false⟩ (T + 1) (by omega) b n hn hl
  have hsl := sectorL_len (z := D.sz) (T := T + 1) (t := b) (by omega)
  have k3 := write_any_own D h hw ((A + (T + 1) % 2 : Nat) : Int) (sectorL D.sz (T + 1) b) D.sz hsl (by omega)
  have hok1 := writeD_okD h hw ((A + (T + 1) % 2 : Nat) : Int) (sectorL D.sz (T + 1) b)
  have k4 := sync_spec _ hok1
  have tm : ((T : Int) + 1).tmod 2 = ((T + 1) % 2 : Nat) := by rw [Int.tmod_eq_emod_of_nonneg (by omega)]; omega
  unfold replDA
  dsimp only
  generalize sectorL D.sz (T + 1) b = X at *
  have hj : (T + 1) % 2 ≤ 1 := by omega
  generalize (T + 1) % 2 = j at *
  generalize writeD D ((A + j : Nat) : Int) X = R at *
  obtain ⟨w1, D1⟩ := R
  dsimp only at k3 k4 hok1 ⊢
  rw [Int.natCast_add] at k3
  generalize syncD D1 = Y at *
  obtain ⟨y1, D2⟩ := Y
  dsimp only at k4 ⊢
  refine fnV mix pl138 2 4 2 [.tmp 4] Tryz.func138 rfl (by kernel_rfl) (by kernel_rfl) rfl (by kernel_rfl) (by kernel_rfl) (by simp) rfl rfl ?_
  simp -implicitDefEqProofs (disch := omega) only [go_sem, ↓reduceIte]
  refine callG false [(0, 0), (1, 1), (2, 2), (3, 3)] [(0, 0), (1, 1), (4, 4), (5, 5)] 6 k1 ?_ ?_
  · simp [keys]
  simp -implicitDefEqProofs (disch := omega) only [go_sem, ↓reduceIte, e1]
  refine callBF 1 k2 ?_ ?_
  · simp -implicitDefEqProofs (disch := omega) only [go_sem, ↓reduceIte]
  simp -implicitDefEqProofs (disch := omega) only [go_sem, ↓reduceIte, tm]
  refine callG false [(5, 6), (0, 0), (1, 4), (2, 5)] [(0, 0), (3, 9), (4, 10)] 11 k3 ?_ ?_
  · simp [keys]
  by_cases c1 : w1 = 0
  · rw [if_pos c1]
    have d1 : decide (w1 = 0) = true := decide_eq_true c1
    simp -implicitDefEqProofs (disch := omega) only [go_sem, ↓reduceIte, d1]
    refine callG false [(0, 0), (1, 9), (2, 10)] [(0, 0), (3, 11), (4, 12)] 13 k4 ?_ ?_
    · simp [keys]
    by_cases c2 : y1 = 0
    · rw [if_pos c2]
      have d2 : decide (y1 = 0) = true := decide_eq_true c2
      simp -implicitDefEqProofs (disch := omega) only [go_sem, ↓reduceIte, d2, List.nil_append]
      refine ⟨[(0, 0), (1, 1), (4, 11), (5, 12)], [], [14], rfl, ?_, ?_, ?_⟩ <;> simp -implicitDefEqProofs (disch := omega) only [go_sem, ↓reduceIte, hn]
    · rw [if_neg c2]
      have d2 : decide (y1 = 0) = false := decide_eq_false c2
      simp -implicitDefEqProofs (disch := omega) only [go_sem, ↓reduceIte, d2]
      refine ⟨[(0, 0), (1, 1), (4, 11), (5, 12)], [], [], rfl, ?_, ?_, ?_⟩ <;> simp -implicitDefEqProofs (disch := omega) only [go_sem, ↓reduceIte]
  · rw [if_neg c1]
    have d1 : decide (w1 = 0) = false := decide_eq_false c1
    simp -implicitDefEqProofs (disch := omega) only [go_sem, ↓reduceIte, d1]
    refine ⟨[(0, 0), (1, 1), (4, 9), (5, 10)], [], [], rfl, ?_, ?_, ?_⟩ <;> simp -implicitDefEqProofs (disch := omega) only [go_sem, ↓reduceIte]
theorem replace_ownA (A : Nat) (D : DS) (h : okD D) (hw : D.wait.length ≤ 90000) (S : SS) (hg : S.gone = false) (hA : A ≤ 1000) (hT : S.turn ≤ 4611686018427387000) (b : List Int) (n : Nat) (hn : b.length = n) (hl : n + 18 ≤ D.sz) :
    FnC Tryz.prog 138 [.ref 1 [], .osl 6 [] 1 0 n] ((6, .row (.ints .u8 n b)) :: slOA A 2 3 D S) (.int .i64 (replDA A D S b).1) (slOA A 4 5 (replDA A D S b).2.1 (replDA A D S b).2.2) := by
  refine (replace_specA A D h hw S hg hA hT b n hn hl).sub [(0, 0), (1, 1), (2, 2), (3, 3)] [] [6] rfl ?_ ?_
  · simp -implicitDefEqProofs (disch := omega) only [go_sem, ↓reduceIte]
  · simp -implicitDefEqProofs (disch := omega) only [go_sem, ↓reduceIte]
theorem repl_calmA (A : Nat) {D : DS} (ho : D.off = false) (hs : D.set = false) (hw : D.wait = []) (S : SS) (b : List Int) (hi : thereD D ((A + (S.turn + 1) % 2 : Nat) : Int)) (hl : b.length + 18 ≤ D.sz) :
    replDA A D S b = (0, { D with b := putB D.sz D.b (A + (S.turn + 1) % 2) (sectorL D.sz (S.turn + 1) b) D.sz, wait := [], left := IntKind.i64.wrap (IntKind.i64.wrap (D.left - 1) - 1) }, { S with turn := S.turn + 1, text := b }) := by
  have hsl := sectorL_len (z := D.sz) (T := S.turn + 1) (t := b) hl
  obtain ⟨sz, B, W, off, set, left, kp⟩ := D
  dsimp only at ho hs hw hsl ⊢
  subst ho; subst hs; subst hw
  have e1 : writeD ⟨sz, B, [], false, false, left, kp⟩ ((A + (S.turn + 1) % 2 : Nat) : Int) (sectorL sz (S.turn + 1) b) = (0, ⟨sz, B, [(A + (S.turn + 1) % 2, sectorL sz (S.turn + 1) b)], false, false, IntKind.i64.wrap (left - 1), kp⟩) := by
    unfold writeD
    rw [if_neg (fun h => by cases h), if_pos ⟨hi, hsl⟩, Int.toNat_natCast, failed_calm rfl]
    rfl
  have e2 : syncD ⟨sz, B, [(A + (S.turn + 1) % 2, sectorL sz (S.turn + 1) b)], false, false, IntKind.i64.wrap (left - 1), kp⟩ = (0, ⟨sz, putB sz B (A + (S.turn + 1) % 2) (sectorL sz (S.turn + 1) b) sz, [], false, false, IntKind.i64.wrap (IntKind.i64.wrap (left - 1) - 1), kp⟩) := by
    unfold syncD
    rw [if_neg (fun h => by cases h), failed_calm rfl, if_neg (fun h => by cases h)]
    rfl
  unfold replDA
  rw [e1, if_pos rfl, e2, if_pos rfl]
theorem ofb_zerosN : ∀ n, ofb (List.replicate n 0) = 0
  | 0 => rfl
  | n + 1 => by rw [List.replicate_succ', ofb_snoc, ofb_zerosN n]; rfl
theorem readV_zerosN (z : Nat) : readV z (List.replicate z 0) = (0, []) := by
  unfold readV
  rw [if_neg]
  rintro ⟨_, h, _⟩
  rw [List.take_replicate, ofb_zerosN] at h
  omega
theorem zerosN_mem {n : Nat} : ∀ x ∈ List.replicate n (0 : Int), 0 ≤ x ∧ x < 256 := fun x hx => by rw [(List.mem_replicate.1 hx).2]; decide
section
variable (ns : Nat)
def dN : DS := ⟨400, List.replicate (ns * 400) 0, [], false, false, 0, []⟩
def xN : ST := opX (0, 0, 0) ⟨0, 0, 0, 0, 0, []⟩
def fN : Int × Int × Int := opF (0, 0, 0) ⟨0, 0, 0, 0, 0, []⟩
def dM : DS := ⟨400, putB 400 (List.replicate (ns * 400) 0) 1 (sectorL 400 1 (tx xN)) 400, [], false, false, IntKind.i64.wrap (IntKind.i64.wrap (0 - 1) - 1), []⟩
theorem nlen : (List.replicate (ns * 400) (0 : Int)).length = ns * 400 := by rw [List.length_replicate]
theorem chunkN {q : Nat} (h : q < ns) : chunk 400 (List.replicate (ns * 400) (0 : Int)) q = List.replicate 400 0 := by
  unfold chunk
  rw [List.drop_replicate, List.take_replicate]
  congr 1
  have : (q + 1) * 400 ≤ ns * 400 := Nat.mul_le_mul_right _ h
  omega
variable (hns : 5 ≤ ns ∧ ns ≤ 64)
include hns in
theorem dN_ok : okD (dN ns) := ⟨show 1 ≤ 400 by decide, show 400 ≤ 512 by decide, by show (List.replicate (ns * 400) (0 : Int)).length ≤ _; rw [List.length_replicate]; omega, Nat.zero_le _, Nat.zero_le _, fun w h => by cases h⟩
theorem thereN {i : Nat} (h : i < ns) : thereD (dN ns) i := by
  show (0 : Int) ≤ i ∧ (i : Int) < (((List.replicate (ns * 400) (0 : Int)).length / 400 : Nat) : Int)
  rw [List.length_replicate]
  omega
theorem readN {i : Nat} (h : i < ns) : readB (dN ns) i = List.replicate 400 0 := chunkN ns h
include hns in
theorem openN : openS (dN ns) = ⟨0, [], false⟩ := by
  unfold openS
  rw [readN ns (by omega), readN ns (by omega), show (dN ns).sz = 400 from rfl, readV_zerosN]
  rfl
theorem txN : (tx xN).length + 18 ≤ 400 := by rw [tx_len]; decide
include hns in
theorem replN : replD (dN ns) ⟨0, [], false⟩ (tx xN) = (0, dM ns, ⟨1, tx xN, false⟩) :=
  repl_calm (D := dN ns) rfl rfl rfl ⟨0, [], false⟩ (tx xN) (thereN ns (i := 1) (by omega)) txN
include hns in
theorem sopen_newN (total : Int) (ht : 2 ≤ total ∧ total ≤ 65536) :
    FnC Tryz.prog 116 [.ref 0 [], .int .i64 0, .ref 1 [], .int .i64 total, .int .i64 1] [(0, .var (dskV 2 3 (dN ns))), (1, .var (fcV (0, 0, 0))), (2, .row (.ints .u8 (dN ns).b.length (dN ns).b)), (3, .row (.lst 2 (dN ns).wait.length ((dN ns).wait.map wtV)))]
      (.tup [.ref 7 [], .int .i64 0]) (spO 4 5 6 7 (dM ns) ⟨1, tx xN, false⟩ fN xN total 1 0 false) := by
  have k := sopen_spec (dN ns) (dN_ok ns hns) rfl (show 318 ≤ 400 by decide) (thereN ns (i := 1) (by omega)) (fun I h => by rw [readN ns (by omega)]; exact zerosN_mem) rfl (0, 0, 0) ⟨0, 0, 0, 0, 0, []⟩ total 1 ht (by decide) 0 [] (by decide) (openN ns hns) (.inl ⟨rfl, rfl⟩) (by decide) (by rw [show opX (0, 0, 0) ⟨0, 0, 0, 0, 0, []⟩ = xN from rfl, replN ns hns])
  rw [show opX (0, 0, 0) ⟨0, 0, 0, 0, 0, []⟩ = xN from rfl, replN ns hns] at k
  exact k
include hns in
theorem dM_len : (dM ns).b.length = ns * 400 := by
  show (putB 400 (List.replicate (ns * 400) 0) 1 (sectorL 400 1 (tx xN)) 400).length = ns * 400
  rw [putB_len (by rw [List.length_replicate]; omega) (by rw [sectorL_len txN]; exact Nat.le_refl _), List.length_replicate]
include hns in
theorem dM_ok : okD (dM ns) := ⟨show 1 ≤ 400 by decide, show 400 ≤ 512 by decide, by rw [dM_len ns hns]; omega, Nat.zero_le _, Nat.zero_le _, fun w h => by cases h⟩
include hns in
theorem thereM {i : Nat} (h : i < ns) : thereD (dM ns) i := by
  unfold thereD
  rw [dM_len ns hns, show (dM ns).sz = 400 from rfl]
  omega
include hns in
theorem readM {i : Nat} (h : i < ns) (h1 : i ≠ 1) : readB (dM ns) i = List.replicate 400 0 := by
  have := chunk_put (sz := 400) (ns := ns) (b := List.replicate (ns * 400) (0 : Int)) (t := sectorL 400 1 (tx xN)) (at' := 1) (m := 400) (q := i) (nlen ns) (by omega) h (sectorL_len txN) (Nat.le_refl _)
  rw [if_neg h1, chunkN ns h] at this
  exact this
include hns in
theorem openM : openSA 2 (dM ns) = ⟨0, [], false⟩ := by
  unfold openSA
  rw [readM ns hns (by omega) (by decide), readM ns hns (by omega) (by decide), show (dM ns).sz = 400 from rfl, readV_zerosN]
  rfl
include hns in
theorem eopen_newN : FnC Tryz.prog 117 [.ref 0 [], .int .i64 2] (dskO 1 2 (dM ns)) (.tup [.ref 6 [], .int .i64 0]) (dskO 3 4 (dM ns) ++ [(6, .var (slVA 2 ⟨0, [], false⟩))]) := by
  have k := open_specA 2 (dM ns) (dM_ok ns hns) rfl (show 18 ≤ 400 by decide) (thereM ns hns (i := 3) (by omega)) (fun I h => by rw [readM ns hns (by omega) (by omega)]; exact zerosN_mem)
  rw [openM ns hns] at k
  exact k
end
theorem be8_inj {x y : Int} (hx : -9223372036854775808 ≤ x ∧ x < 9223372036854775808) (hy : -9223372036854775808 ≤ y ∧ y < 9223372036854775808) (h : be (IntKind.u64.wrap x) 8 = be (IntKind.u64.wrap y) 8) : x = y := by
  have e := congrArg ofb h
  rw [ofb_be, ofb_be, u64_mod, u64_mod] at e
  have p : (256 : Int) ^ 8 = 18446744073709551616 := by decide
  rw [p] at e
  omega
theorem nums2 (x y : Int) : nums [x, y] = be (IntKind.u64.wrap x) 8 ++ be (IntKind.u64.wrap y) 8 := by simp [nums]
theorem dcat2 (x y : List Int) : dcat [x, y] = x ++ y := by simp [dcat]
def isI (x : Int) : Prop := -9223372036854775808 ≤ x ∧ x < 9223372036854775808
theorem headT_inj {k e k' e' : Int} {t l t' l' : List Int} (hk : isI k) (he : isI e) (hk' : isI k') (he' : isI e') (ht : t.length = 32) (ht' : t'.length = 32) : headT k e t l = headT k' e' t' l' ↔ (k = k' ∧ e = e' ∧ t = t' ∧ l = l') := by
  constructor
  · intro h
    simp only [headT, nums2, dcat2, List.cons.injEq, true_and, List.append_assoc] at h
    obtain ⟨h1, h⟩ := List.append_inj h (by rw [be_len, be_len])
    obtain ⟨h2, h⟩ := List.append_inj h (by rw [be_len, be_len])
    obtain ⟨h3, h4⟩ := List.append_inj h (by rw [ht, ht'])
    exact ⟨be8_inj hk hk' h1, be8_inj he he' h2, h3, h4⟩
  · rintro ⟨rfl, rfl, rfl, rfl⟩; rfl
theorem nums_mem (l : List Int) : ∀ x ∈ nums l, 0 ≤ x ∧ x < 256 := by
  intro x hx
  obtain ⟨y, _, hx⟩ := List.mem_flatMap.1 hx
  exact be_mem _ _ x hx
theorem cons_mem {p : Int → Prop} {a : Int} {l : List Int} (ha : p a) (hl : ∀ x ∈ l, p x) : ∀ x ∈ a :: l, p x := fun x hx => by
  rcases List.mem_cons.1 hx with rfl | hx
  · exact ha
  · exact hl x hx
theorem app_mem20 {p : Int → Prop} {a b : List Int} (ha : ∀ x ∈ a, p x) (hb : ∀ x ∈ b, p x) : ∀ x ∈ a ++ b, p x := fun x hx => by
  rcases List.mem_append.1 hx with hx | hx
  · exact ha x hx
  · exact hb x hx
theorem headT_mem (k e : Int) {t l : List Int} (ht : ∀ x ∈ t, 0 ≤ x ∧ x < 256) (hl : ∀ x ∈ l, 0 ≤ x ∧ x < 256) : ∀ x ∈ headT k e t l, 0 ≤ x ∧ x < 256 := by
  refine cons_mem (by decide) (app_mem20 (nums_mem _) ?_)
  rw [dcat2]; exact app_mem20 ht hl
theorem headT_len' (k e : Int) {t l : List Int} (ht : t.length = 32) (hl : l.length = 32) : (headT k e t l).length = 81 := by
  unfold headT nums dcat
  simp [be_len, ht, hl]
theorem hdF_good (es : List Ep) (k : Nat) (tree : List Int) : goodD (hdF es k tree) := rg_good _ _ _
theorem fndC_no {ks : List MK} {vs : List AV} {k : MK} (h : getM ks vs k = none) (z : AV) (K : AV → Bool → Prop) : fndC (getM ks vs k) z K = K z false := by rw [h]; rfl
structure Dy where
  D : DS
  F : Int × Int × Int
  S : SS
  x : ST
  next : Int
  sg : Bool
  S2 : SS
  es : List Ep
  l : List En
  size : Nat
  ps : List Pt
  gone : Bool
  la : List Pt
  va : List (List UInt8 × List (List Int))
def vtV (p : List UInt8 × List (List Int)) : AV := .sl (.lst 1 p.2.length (p.2.map bsl))
abbrev lastO (la : List Pt) : OB := .gm true (la.map fun p => MK.str p.name) (la.map ptV')
abbrev valsO (va : List (List UInt8 × List (List Int))) : OB := .gm true (va.map fun p => MK.str p.1) (va.map vtV)
abbrev dirV (na ma : List Int) (a n b : Int) (y : Dy) (e t p q : Nat) (W : AV) : AV :=
  .agg [.agg [.ints .u8 32 na, .osl e [] 35 0 y.es.length, .osl t [] 64 0 y.l.length, .mp p, .mp q], cfgV a n b ma na, .ref 0 [], .ref 3 [], .ref 4 [], .int .i64 y.size, W, .bool y.gone]
attribute [go_sem] lastO valsO dirV
abbrev wtP (ps : List Pt) : AV := .sl (.lst 3 ps.length (ps.map ptV'))
abbrev dirOg (na ma : List Int) (a n b : Int) (y : Dy) (s g z d i j e t p q u : Nat) : OO :=
  [(0, .var (dskV i j y.D)), (1, .var (fcV y.F)), (s, .var (slV y.S)), (g, .var (sgV s 1 y.x (manyD a n) b y.next y.sg)), (z, .var (slVA 2 y.S2)),
    (d, .var (.agg [.agg [.ints .u8 32 na, .osl e [] 35 0 y.es.length, .osl t [] 64 0 y.l.length, .mp p, .mp q], cfgV a n b ma na, .ref 0 [], .ref g [], .ref z [], .int .i64 y.size, .osl u [] 3 0 y.ps.length, .bool y.gone])),
    (i, .row (.ints .u8 y.D.b.length y.D.b)), (j, .row (.lst 2 y.D.wait.length (y.D.wait.map wtV))), (e, .row (.lst 35 y.es.length (y.es.map epV))), (t, .row (.lst 64 y.l.length (y.l.map enV))), (p, lastO y.la), (q, valsO y.va), (u, .row (.lst 3 y.ps.length (y.ps.map ptV')))]
abbrev dirOW (na ma : List Int) (a n b : Int) (y : Dy) (i j e t p q u : Nat) : OO := dirOg na ma a n b y 2 3 4 5 i j e t p q u
attribute [go_sem] wtP dirOg dirOW
attribute [simp] dirOg dirOW
theorem rens_pts (σ : List (Nat × Nat)) (K : List AV → Prop) : ∀ la : List Pt, rensC σ (la.map ptV') K = K (la.map ptV')
  | [] => by simp only [List.map_nil, rensC]
  | p :: la => by
    simp only [List.map_cons, rensC, ptV', renC]
    exact rens_pts σ (fun ws => K (AV.agg [AV.str p.name, AV.int .i64 p.ver, AV.sl (AV.ints .u8 p.val.length p.val)] :: ws)) la
theorem rens_vts (σ : List (Nat × Nat)) (K : List AV → Prop) : ∀ va : List (List UInt8 × List (List Int)), rensC σ (va.map vtV) K = K (va.map vtV)
  | [] => by simp only [List.map_nil, rensC]
  | p :: va => by
    simp only [List.map_cons, rensC, vtV, renC]
    exact rens_vts σ (fun ws => K (AV.sl (.lst 1 p.2.length (p.2.map bsl)) :: ws)) va
theorem mats_pts (σ : List (Nat × Nat)) (Z : List Nat) (OF : OO) : ∀ la : List Pt, matsC σ Z OF (la.map ptV') (la.map ptV') = True
  | [] => by simp only [List.map_nil, matsC]
  | p :: la => by simp only [List.map_cons, matsC, ptV', matC, mats_pts σ Z OF la, and_true]
theorem mats_vts (σ : List (Nat × Nat)) (Z : List Nat) (OF : OO) : ∀ va : List (List UInt8 × List (List Int)), matsC σ Z OF (va.map vtV) (va.map vtV) = True
  | [] => by simp only [List.map_nil, matsC]
  | p :: va => by simp only [List.map_cons, matsC, vtV, matC, mats_vts σ Z OF va, and_true]
theorem ids_pts : ∀ la : List Pt, idsVs (la.map ptV') = []
  | [] => rfl
  | p :: la => by simp only [List.map_cons, idsVs, ptV', idsV, ids_pts la, List.append_nil]
theorem ids_vts : ∀ va : List (List UInt8 × List (List Int)), idsVs (va.map vtV) = []
  | [] => rfl
  | p :: va => by simp only [List.map_cons, idsVs, vtV, idsV, ids_vts va, List.append_nil]
theorem nids_pts : ∀ la : List Pt, AV.nids (la.map ptV') = true
  | [] => rfl
  | p :: la => by simp only [List.map_cons, AV.nids, ptV', AV.nid, nids_pts la, Bool.and_true]
theorem nids_vts : ∀ va : List (List UInt8 × List (List Int)), AV.nids (va.map vtV) = true
  | [] => rfl
  | p :: va => by simp only [List.map_cons, AV.nids, vtV, AV.nid, nids_vts va, Bool.and_true]
attribute [go_sem ↓] rens_pts rens_vts mats_pts mats_vts ids_pts ids_vts nids_pts nids_vts
abbrev sgPP (y : Dy) (total batch : Int) : AV := .agg [sgstV y.x, .pp (slP y.D y.S) [], .pp (fcV y.F) [], .int .i64 total, .int .i64 batch, .int .i64 y.next, .bool y.sg]
abbrev bookP (na : List Int) (y : Dy) : AV := .agg [.ints .u8 32 na, .sl (.lst 35 y.es.length (y.es.map epV)), .sl (.lst 64 y.l.length (y.l.map enV)), .opq, .opq]
abbrev restP (na ma : List Int) (a n b : Int) (y : Dy) : List AV := [cfgV a n b ma na, .pp (dskP y.D) [], .pp (sgPP y (manyD a n) b) [], .pp (slPA 2 y.D y.S2) [], .int .i64 y.size, wtP y.ps, .bool y.gone]
abbrev dirP (na ma : List Int) (a n b : Int) (y : Dy) : AV := .agg (bookP na y :: restP na ma a n b y)
attribute [go_sem] sgPP bookP restP dirP
theorem image_pp (D : DS) (h : okD D) : FnC Tryz.prog 35 [.pp (dskP D) []] [] (.osl 0 [] 1 0 D.b.length) [(0, .row (.ints .u8 D.b.length D.b))] := by
  have hb := h.bl
  refine fnN mix [] 0 1 [.tmp 2] Tryz.func35 rfl (by kernel_rfl) (by kernel_rfl) rfl (by kernel_rfl) (by kernel_rfl) (by simp) ?_
  simp -implicitDefEqProofs (disch := omega) only [go_sem, ↓reduceIte, List.nil_append]
  refine ⟨[(0, 1)], [], [], rfl, ?_, ?_, ?_⟩ <;> simp -implicitDefEqProofs (disch := omega) only [go_sem, ↓reduceIte]
section
variable (na ma : List Int) (a n b : Int) (y : Dy)
theorem stopped_pp : FnC Tryz.prog 70 [.pp (dirP na ma a n b y) []] [] (.bool y.gone) [] := by
  refine fn0 mix [] 0 1 [.tmp 2] Tryz.func70 rfl (by kernel_rfl) (by kernel_rfl) rfl (by kernel_rfl) (by kernel_rfl) (by simp) ?_
  simp -implicitDefEqProofs (disch := omega) only [go_sem, ↓reduceIte]
theorem epoch_pp : FnC Tryz.prog 21 [.pp (dirP na ma a n b y) []] [] (.int .i64 y.es.length) [] := by
  refine fn0 mix [] 0 1 [.tmp 2] Tryz.func21 rfl (by kernel_rfl) (by kernel_rfl) rfl (by kernel_rfl) (by kernel_rfl) (by simp) ?_
  simp -implicitDefEqProofs (disch := omega) only [go_sem, ↓reduceIte]
theorem skey_pp (total batch : Int) : FnC Tryz.prog 72 [.pp (sgPP y total batch) []] [] (.int .i64 y.x.key) [] := by
  refine fn0 mix [] 0 1 [.tmp 2] Tryz.func72 rfl (by kernel_rfl) (by kernel_rfl) rfl (by kernel_rfl) (by kernel_rfl) (by simp) ?_
  simp -implicitDefEqProofs (disch := omega) only [go_sem, ↓reduceIte]
theorem area_pp (bk : AV) (hbk : bk.csz = 36) (rest : List AV) (D : DS) (h : okD D) (h4 : 4 * D.sz ≤ D.b.length) : FnC Tryz.prog 74 [.pp (.agg (bk :: cfgV a n b ma na :: .pp (dskP D) [] :: rest)) []] [] (.osl 0 [] 1 (4 * D.sz) (D.b.length - 4 * D.sz)) [(0, .row (.ints .u8 D.b.length D.b))] := by
  have hs := h.sz2
  have hl := h.bl
  have k1 := image_pp D h
  have k2 := dsize_pp D
  refine fnN mix [] 0 1 [.tmp 2] Tryz.func74 rfl (by kernel_rfl) (by kernel_rfl) rfl (by kernel_rfl) (by kernel_rfl) (by simp) ?_
  simp -implicitDefEqProofs (disch := omega) only [go_sem, ↓reduceIte, hbk]
  refine callBF 1 k1 ?_ ?_
  · simp -implicitDefEqProofs (disch := omega) only [go_sem, ↓reduceIte]
  simp -implicitDefEqProofs (disch := omega) only [go_sem, ↓reduceIte, hbk]
  refine callB k2 ?_ ?_
  · simp -implicitDefEqProofs (disch := omega) only [go_sem, ↓reduceIte]
  have hmin : (min (D.b.length : Int) (4 * D.sz)).toNat = 4 * D.sz := by omega
  simp -implicitDefEqProofs (disch := omega) only [go_sem, ↓reduceIte, hmin]
  refine ⟨[(0, 0)], [], [], rfl, ?_, ?_, ?_⟩ <;> simp -implicitDefEqProofs (disch := omega) only [go_sem, ↓reduceIte]
theorem stop_ok : FnC Tryz.prog 79 [.pp (dirP na ma a n b y) [], .int .i64 0] [] (.int .i64 0) [] := by
  refine fn0 mix [] 0 2 [.tmp 4] Tryz.func79 rfl (by kernel_rfl) (by kernel_rfl) rfl (by kernel_rfl) (by kernel_rfl) (by simp) ?_
  simp -implicitDefEqProofs (disch := omega) only [go_sem, ↓reduceIte]
end
attribute [go_sem] pl121
theorem turn_ppA (A : Nat) (D : DS) (S : SS) : FnC Tryz.prog 119 [.pp (slPA A D S) []] [] (.int .i64 S.turn) [] := by
  refine fn0 mix [] 0 1 [.tmp 2] Tryz.func119 rfl (by kernel_rfl) (by kernel_rfl) rfl (by kernel_rfl) (by kernel_rfl) (by simp) ?_
  simp -implicitDefEqProofs (disch := omega) only [go_sem, ↓reduceIte]
theorem text_ppA (A : Nat) (D : DS) (S : SS) (hl : S.text.length ≤ 100000) : FnC Tryz.prog 118 [.pp (slPA A D S) []] [] (.osl 0 [] 1 0 S.text.length) [(0, .row (.ints .u8 S.text.length S.text))] := by
  refine fnN mix [] 0 1 [.tmp 2] Tryz.func118 rfl (by kernel_rfl) (by kernel_rfl) rfl (by kernel_rfl) (by kernel_rfl) (by simp) ?_
  simp -implicitDefEqProofs (disch := omega) only [go_sem, ↓reduceIte, List.nil_append]
  refine ⟨[(0, 1)], [], [], rfl, ?_, ?_, ?_⟩ <;> simp -implicitDefEqProofs (disch := omega) only [go_sem, ↓reduceIte]
theorem load_none (X : AV) : FnC Tryz.prog 121 [.pp X [], .sl (.ints .u8 0 [])] [] (.bool true) [] := by
  refine fn0 mix pl121 0 2 [.tmp 4] Tryz.func121 rfl (by kernel_rfl) (by kernel_rfl) rfl (by kernel_rfl) (by kernel_rfl) (by simp) ?_
  simp -implicitDefEqProofs (disch := omega) only [go_sem, ↓reduceIte]
  refine loop (ι := Nat) 0 (fun i => i = 0) (fun i => [(0, .pp X []), (1, .sl (.ints .u8 0 []))]) (fun i => []) (fun i => 0) 0 [] [] rfl rfl ?_ ?_ ?_ (fun i hi => ?_)
  · simp -implicitDefEqProofs (disch := omega) only [go_sem, ↓reduceIte]
  · simp -implicitDefEqProofs (disch := omega) only [go_sem, ↓reduceIte]
  · simp -implicitDefEqProofs (disch := omega) only [go_sem, ↓reduceIte]
  simp -implicitDefEqProofs (disch := omega) only [go_sem, ↓reduceIte]
theorem manyN_le {a n : Int} (h : rightP a n) : (2 : Int) ≤ manyD a n ∧ (manyD a n : Int) ≤ 65536 := by
  have h1 := mul_16 h
  have h2 := manyD_le a n
  have h3 : manyD a n = 2 ^ (a * n).toNat := by unfold manyD; rw [if_pos h]
  have := Nat.pow_le_pow_right (n := 2) (by decide) (show 1 ≤ (a * n).toNat by omega)
  omega
def yN (ns : Nat) : Dy := ⟨dM ns, fN, ⟨1, tx xN, false⟩, xN, 0, false, ⟨0, [], false⟩, [], [], 0, [], false, [], []⟩
def plDN : List (Nat × Plan) := [(3, [(0, [], none), (1, [0], none), (2, [0, 1], none), (3, [0, 1], none), (4, [0, 1], none), (5, [0, 1, 2, 3, 4], none), (6, [0, 1, 2, 3, 4], none), (7, [], some [19, 20, 23, 25]), (8, [], none), (9, [], none), (10, [9], none), (11, [10], none), (12, [], none)])]
attribute [go_sem] plDN
theorem open_newN (ns : Nat) (hns : 5 ≤ ns ∧ ns ≤ 64) (a n : Int) (ma na : List Int) (hr : rightP a n) : FnC Tryz.prog 69 [cfgV a n 1 ma na, .ref 0 [], .ref 1 []] [(0, .var (dskV 2 3 (dN ns))), (1, .var (fcV (0, 0, 0))), (2, .row (.ints .u8 (dN ns).b.length (dN ns).b)), (3, .row (.lst 2 (dN ns).wait.length ((dN ns).wait.map wtV)))]
    (.tup [.ref 7 [], .int .i64 0]) (dirOg na ma a n 1 (yN ns) 4 5 6 7 8 9 10 11 12 13 14) := by
  have k := right_spec11 a n
  rw [decide_eq_true hr] at k
  have k0 := many_spec a n
  have k1 := sopen_newN ns hns (manyD a n) (manyN_le hr)
  have k2 := eopen_newN ns hns
  have k3 := text_ppA 2 (dM ns) ⟨0, [], false⟩ (by decide)
  have k4 := turn_ppA 2 (dM ns) ⟨0, [], false⟩
  have hle := dM_len ns hns
  have k5 := area_pp na ma a n 1 (.agg [.ints .u8 32 na, .nils, .nils, .opq, .opq]) rfl [.pp (sgPP (yN ns) (manyD a n) 1) [], .pp (slPA 2 (dM ns) ⟨0, [], false⟩) [], .int .i64 0, .nils, .bool false] (dM ns) (dM_ok ns hns) (by rw [hle]; show 4 * 400 ≤ _; omega)
  have k6 := load_none (.agg (.agg [.ints .u8 32 na, .nils, .nils, .opq, .opq] :: cfgV a n 1 ma na :: .pp (dskP (dM ns)) [] :: [.pp (sgPP (yN ns) (manyD a n) 1) [], .pp (slPA 2 (dM ns) ⟨0, [], false⟩) [], .int .i64 0, .nils, .bool false]))
  unfold yN at *
  refine fnV mix plDN 2 4 3 [.tmp 6, .tmp 7] Tryz.func69 rfl (by kernel_rfl) (by kernel_rfl) rfl (by kernel_rfl) (by kernel_rfl) (by simp) rfl rfl ?_
  simp -implicitDefEqProofs (disch := omega) only [go_sem, ↓reduceIte]
  refine call0 k ?_
  simp -implicitDefEqProofs (disch := omega) only [go_sem, ↓reduceIte]
  refine call0 k0 ?_
  simp -implicitDefEqProofs (disch := omega) only [go_sem, ↓reduceIte]
  refine callG false [(0, 0), (1, 1), (2, 2), (3, 3)] [(0, 0), (1, 1), (6, 5), (7, 6), (4, 7), (5, 8)] 9 k1 ?_ ?_
  · simp [keys]
  simp -implicitDefEqProofs (disch := omega) only [go_sem, ↓reduceIte]
  refine callG false [(0, 0), (1, 7), (2, 8)] [(0, 0), (3, 9), (4, 10), (6, 11)] 12 k2 ?_ ?_
  · simp [keys]
  simp -implicitDefEqProofs (disch := omega) only [go_sem, ↓reduceIte, List.cons_append, List.nil_append]
  refine callBF 1 k3 ?_ ?_
  · simp -implicitDefEqProofs (disch := omega) only [go_sem, ↓reduceIte]
  simp -implicitDefEqProofs (disch := omega) only [go_sem, ↓reduceIte]
  refine callB k4 ?_ ?_
  · simp -implicitDefEqProofs (disch := omega) only [go_sem, ↓reduceIte]
  simp -implicitDefEqProofs (disch := omega) only [go_sem, ↓reduceIte]
  refine callBF 1 k5 ?_ ?_
  · simp -implicitDefEqProofs (disch := omega) only [go_sem, ↓reduceIte]
  have d0 : decide ((((dM ns).b.length - 4 * (dM ns).sz : Nat) : Int) < 0) = false := decide_eq_false (by omega)
  simp -implicitDefEqProofs (disch := omega) only [go_sem, ↓reduceIte, d0]
  have hsub := fun lo len κ => subC_len .u8 (dM ns).b.length (dM ns).b lo len κ rfl
  have hb4 : 4 * (dM ns).sz ≤ (dM ns).b.length := by rw [hle]; show 4 * 400 ≤ _; omega
  refine callB k6 ?_ ?_
  · simp -implicitDefEqProofs (disch := omega) only [go_sem, ↓reduceIte, ↓hsub, hb4, List.take_zero, List.take_length]
  simp -implicitDefEqProofs (disch := omega) only [go_sem, ↓reduceIte]
  refine ⟨[(0, 0), (1, 1), (4, 5), (5, 6), (6, 11), (7, 14), (8, 9), (9, 10), (12, 12), (13, 13)], [10, 11, 14], [], rfl, ?_, ?_, ?_⟩ <;> simp -implicitDefEqProofs (disch := omega) only [go_sem, ↓reduceIte, List.map_nil, List.length_nil]
end Go.Proofs.YtololahjocfbeaaGreat
