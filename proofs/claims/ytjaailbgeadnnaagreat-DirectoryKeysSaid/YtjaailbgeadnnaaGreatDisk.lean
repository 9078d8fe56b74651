/- A disk: what it is, and what is done with it. -/
import Derived.Test.YtjaailbgeadnnaaGreatPack
import Derived.Test.YtjaailbgeadnnaaGreatSig
import Derived.Test.YtjaailbgeadnnaaGreatGG
namespace Go.Proofs.YtjaailbgeadnnaaGreat
open Go Go.Sy Go.Proofs.Tryz
set_option maxRecDepth 100000
set_option maxHeartbeats 8000000
set_option linter.unusedSimpArgs false
set_option linter.unusedVariables false
attribute [go_sem] pl58 pl125
/-- A disk: the bytes of a sector, all bytes, what waits (which sector, which text), whether it is off, whether a failure is set, how far it is, its list. -/
structure DS where
  sz : Nat
  b : List Int
  wait : List (Nat × List Int)
  off : Bool
  set : Bool
  left : Int
  keep : List Int
def wtV (w : Nat × List Int) : AV := .agg [.int .i64 w.1, .sl (.ints .u8 w.2.length w.2)]
abbrev dskV (i j : Nat) (D : DS) : AV := .agg [.int .i64 D.sz, .osl i [] 1 0 D.b.length, .osl j [] 2 0 D.wait.length, .bool D.off, .bool D.set, .int .i64 D.left, .sl (.ints .i64 D.keep.length D.keep)]
/-- The disk's objects. -/
abbrev dskO (i j : Nat) (D : DS) : OO := [(0, .var (dskV i j D)), (i, .row (.ints .u8 D.b.length D.b)), (j, .row (.lst 2 D.wait.length (D.wait.map wtV)))]
structure okD (D : DS) : Prop where
  sz1 : 1 ≤ D.sz
  sz2 : D.sz ≤ 512
  bl : D.b.length ≤ 32768
  wl : D.wait.length ≤ 100000
  kl : D.keep.length ≤ 9223372036854775807
  wt : ∀ w ∈ D.wait, w.1 * D.sz + D.sz ≤ D.b.length ∧ w.2.length = D.sz
/-- A text's first bytes put in their place. -/
def putB (sz : Nat) (b : List Int) (at' : Nat) (t : List Int) (m : Nat) : List Int := b.take (at' * sz) ++ (t.take m ++ b.drop (at' * sz + m))
theorem putB_len {sz : Nat} {b : List Int} {at' : Nat} {t : List Int} {m : Nat} (h : at' * sz + m ≤ b.length) (hm : m ≤ t.length) : (putB sz b at' t m).length = b.length := by
  unfold putB
  rw [List.length_append, List.length_append, List.length_take, List.length_take, List.length_drop]
  omega
/-- How many bytes of a text a list lets by. -/
def kept (sz : Nat) (k : Int) : Nat := (max 0 (min k (sz : Int))).toNat
theorem kept_le (sz : Nat) (k : Int) : kept sz k ≤ sz := by unfold kept; omega
def crashB (sz : Nat) : List (Nat × List Int) → List Int → List Int → List Int
  | [], _, b => b
  | _ :: _, [], b => b
  | w :: ws, k :: ks, b => crashB sz ws ks (putB sz b w.1 w.2 (kept sz k))
def crashD (D : DS) (keep : List Int) : DS := if D.off = true then D else { D with b := crashB D.sz D.wait keep D.b, wait := [], off := true, set := false }
def failedD (D : DS) : Bool × DS := if D.set = true ∧ D.left = 0 then (true, crashD D D.keep) else (false, { D with left := IntKind.i64.wrap (D.left - 1) })
def thereD (D : DS) (i : Int) : Prop := 0 ≤ i ∧ i < ((D.b.length / D.sz : Nat) : Int)
instance (D : DS) (i : Int) : Decidable (thereD D i) := by unfold thereD; infer_instance
def writeD (D : DS) (i : Int) (t : List Int) : Int × DS :=
  if D.off = true then (9, D) else if thereD D i ∧ t.length = D.sz then
    (if (failedD { D with wait := D.wait ++ [(i.toNat, t)] }).1 = true then 9 else 0, (failedD { D with wait := D.wait ++ [(i.toNat, t)] }).2) else (1, D)
def readB (D : DS) (i : Nat) : List Int := D.wait.foldl (fun o w => if w.1 = i then w.2 else o) ((D.b.drop (i * D.sz)).take D.sz)
def syncB (sz : Nat) (ws : List (Nat × List Int)) (b : List Int) : List Int := ws.foldl (fun b w => putB sz b w.1 w.2 sz) b
def syncD (D : DS) : Int × DS :=
  if D.off = true then (9, D) else if (failedD D).1 = true then (9, (failedD D).2) else (0, { (failedD D).2 with b := syncB D.sz D.wait D.b, wait := [] })
def failD (D : DS) (after : Int) (keep : List Int) : DS := if D.off = true then D else { D with set := decide (0 ≤ after), left := after, keep := keep }
def bootD (D : DS) : DS := { D with off := false, set := false }
attribute [go_sem] dskV dskO wtV
attribute [simp] dskO
theorem gone_spec (D : DS) : FnC Tryz.prog 93 [.ref 0 []] (dskO 1 2 D) (.bool D.off) (dskO 3 4 D) := by
  refine fnV mix [] 1 3 1 [.tmp 2] Tryz.func93 rfl (by kernel_rfl) (by kernel_rfl) rfl (by kernel_rfl) (by kernel_rfl) (by simp) rfl rfl ?_
  simp (implicitDefEqProofs := false) (disch := omega) only [go_sem, ↓reduceIte]
  refine ⟨[(0, 0), (3, 1), (4, 2)], [], [], rfl, ?_, ?_, ?_⟩ <;> simp (implicitDefEqProofs := false) (disch := omega) only [go_sem, ↓reduceIte]
theorem dsize_spec (D : DS) : FnC Tryz.prog 57 [.ref 0 []] (dskO 1 2 D) (.int .i64 D.sz) (dskO 3 4 D) := by
  refine fnV mix [] 1 3 1 [.tmp 2] Tryz.func57 rfl (by kernel_rfl) (by kernel_rfl) rfl (by kernel_rfl) (by kernel_rfl) (by simp) rfl rfl ?_
  simp (implicitDefEqProofs := false) (disch := omega) only [go_sem, ↓reduceIte]
  refine ⟨[(0, 0), (3, 1), (4, 2)], [], [], rfl, ?_, ?_, ?_⟩ <;> simp (implicitDefEqProofs := false) (disch := omega) only [go_sem, ↓reduceIte]
theorem sectors_spec (D : DS) (h : okD D) : FnC Tryz.prog 58 [.ref 0 []] (dskO 1 2 D) (.int .i64 (D.b.length / D.sz : Nat)) (dskO 3 4 D) := by
  have h1 := h.sz1
  have h2 := h.sz2
  have h3 := h.bl
  have e1 : max (1 : Int) (D.sz : Int) = D.sz := by omega
  have e2 : (D.b.length : Int).tdiv (D.sz : Int) = ((D.b.length / D.sz : Nat) : Int) := by rw [Int.tdiv_eq_ediv_of_nonneg (by omega)]; simp
  have e3 : D.b.length / D.sz ≤ D.b.length := Nat.div_le_self _ _
  generalize D.b.length / D.sz = q at *
  refine fnV mix pl58 1 3 1 [.tmp 2] Tryz.func58 rfl (by kernel_rfl) (by kernel_rfl) rfl (by kernel_rfl) (by kernel_rfl) (by simp) rfl rfl ?_
  simp (implicitDefEqProofs := false) (disch := omega) only [go_sem, ↓reduceIte, e1, e2]
  refine ⟨[(0, 0), (3, 1), (4, 2)], [], [], rfl, ?_, ?_, ?_⟩ <;> simp (implicitDefEqProofs := false) (disch := omega) only [go_sem, ↓reduceIte]
theorem there_spec (D : DS) (h : okD D) (i : Int) : FnC Tryz.prog 94 [.ref 0 [], .int .i64 i] (dskO 1 2 D) (.bool (decide (thereD D i))) (dskO 3 4 D) := by
  refine fnV mix [] 1 3 2 [.tmp 4] Tryz.func94 rfl (by kernel_rfl) (by kernel_rfl) rfl (by kernel_rfl) (by kernel_rfl) (by simp) rfl rfl ?_
  simp (implicitDefEqProofs := false) (disch := omega) only [go_sem, ↓reduceIte]
  by_cases h1 : 0 ≤ i
  · have d1 : decide (0 ≤ i) = true := decide_eq_true h1
    have e : decide (thereD D i) = decide (i < ((D.b.length / D.sz : Nat) : Int)) := decide_eq_decide.2 ⟨fun h => h.2, fun h => ⟨h1, h⟩⟩
    rw [e]
    simp (implicitDefEqProofs := false) (disch := omega) only [go_sem, ↓reduceIte, d1]
    refine callG false [(0, 0), (1, 1), (2, 2)] [(0, 0), (3, 3), (4, 4)] 5 (sectors_spec D h) ?_ ?_
    · simp [keys, dskO]
    simp (implicitDefEqProofs := false) (disch := omega) only [go_sem, ↓reduceIte]
    refine ⟨[(0, 0), (3, 3), (4, 4)], [], [], rfl, ?_, ?_, ?_⟩ <;> simp (implicitDefEqProofs := false) (disch := omega) only [go_sem, ↓reduceIte]
  · have d1 : decide (0 ≤ i) = false := decide_eq_false h1
    have e : decide (thereD D i) = false := decide_eq_false (fun h => h1 h.1)
    rw [e]
    simp (implicitDefEqProofs := false) (disch := omega) only [go_sem, ↓reduceIte, d1]
    refine ⟨[(0, 0), (3, 1), (4, 2)], [], [], rfl, ?_, ?_, ?_⟩ <;> simp (implicitDefEqProofs := false) (disch := omega) only [go_sem, ↓reduceIte]
theorem dput_spec (sz nb : Nat) (cw ck : AV) (off set : Bool) (left : Int) (b : List Int) (at' m n : Nat) (t : List Int) (hb : b.length = nb) (hn : t.length = n) (hs : sz ≤ 512) (hbl : nb ≤ 32768) (hm : m ≤ n) (h : at' * sz + m ≤ nb) :
    FnC Tryz.prog 125 [.ref 0 [], .agg [.int .i64 at', .sl (.ints .u8 n t)], .int .i64 m] [(0, .var (.agg [.int .i64 sz, .osl 1 [] 1 0 nb, .sl cw, .bool off, .bool set, .int .i64 left, .sl ck])), (1, .row (.ints .u8 nb b))] (.tup [])
      [(0, .var (.agg [.int .i64 sz, .osl 2 [] 1 0 nb, .sl cw, .bool off, .bool set, .int .i64 left, .sl ck])), (2, .row (.ints .u8 nb (putB sz b at' t m)))] := by
  have e1 : (at' : Int) * (sz : Int) = ((at' * sz : Nat) : Int) := by simp
  obtain ⟨a, ha⟩ : ∃ a, a = at' * sz := ⟨_, rfl⟩
  unfold putB
  rw [← ha] at h e1 ⊢
  refine fnV mix pl125 1 2 3 [] Tryz.func125 rfl (by kernel_rfl) (by kernel_rfl) rfl (by kernel_rfl) (by kernel_rfl) (by simp) rfl rfl ?_
  by_cases hm0 : m = 0
  · subst hm0
    have e2 : b.take a ++ b.drop a = b := List.take_append_drop a b
    by_cases hn0 : n = 0
    · subst hn0
      simp (implicitDefEqProofs := false) (disch := omega) only [go_sem, ↓reduceIte, e1]
      refine ⟨[(0, 0), (2, 1)], [], [], rfl, ?_, ?_, ?_⟩ <;> simp (implicitDefEqProofs := false) (disch := omega) only [go_sem, ↓reduceIte, List.take_zero, Nat.add_zero, e2]
    · have d1 : ¬ 0 = n := fun h => hn0 h.symm
      simp (implicitDefEqProofs := false) (disch := omega) only [go_sem, ↓reduceIte, e1, d1]
      refine ⟨[(0, 0), (2, 1)], [], [], rfl, ?_, ?_, ?_⟩ <;> simp (implicitDefEqProofs := false) (disch := omega) only [go_sem, ↓reduceIte, List.take_zero, Nat.add_zero, e2]
  · have d2 : ¬ nb - a = 0 := by omega
    by_cases hmn : m = n
    · subst hmn
      have e3 : t.take m = t := List.take_of_length_le (by omega)
      simp (implicitDefEqProofs := false) (disch := omega) only [go_sem, ↓reduceIte, e1, hm0, d2]
      refine brd (fun h3 => ?_) (fun h3 => absurd (show m ≤ nb - a by omega) h3)
      simp (implicitDefEqProofs := false) (disch := omega) only [go_sem, ↓reduceIte]
      refine ⟨[(0, 0), (2, 1)], [], [], rfl, ?_, ?_, ?_⟩ <;> simp (implicitDefEqProofs := false) (disch := omega) only [go_sem, ↓reduceIte, e3]
    · simp (implicitDefEqProofs := false) (disch := omega) only [go_sem, ↓reduceIte, e1, hm0, d2, hmn]
      refine brd (fun h3 => ?_) (fun h3 => absurd (show m ≤ nb - a by omega) h3)
      simp (implicitDefEqProofs := false) (disch := omega) only [go_sem, ↓reduceIte]
      refine ⟨[(0, 0), (2, 1)], [], [], rfl, ?_, ?_, ?_⟩ <;> simp (implicitDefEqProofs := false) (disch := omega) only [go_sem, ↓reduceIte]
end Go.Proofs.YtjaailbgeadnnaaGreat
