/- Answers: all versions that are shown, in some order, and the next one absent. -/
import Derived.Test.YthhlielliopegaaGreatShow
namespace Go.Proofs.YthhlielliopegaaGreat
open Go Go.Sy Go.Proofs.Tryz
set_option maxRecDepth 100000
set_option maxHeartbeats 8000000
set_option linter.unusedSimpArgs false
set_option linter.unusedVariables false

def okV (tree name : List Int) (ord : Nat → SV → Bool) (l : List SV) (i : Nat) : Bool := ord i (l.getD i default) && decide (isShown tree name (l.getD i default))
def allV (tree name : List Int) (ord : Nat → SV → Bool) (l : List SV) : Nat → Bool
  | 0 => true
  | i + 1 => allV tree name ord l i && okV tree name ord l i
def lastV (l : List SV) (i : Nat) : Int := if i = 0 then 0 else (l.getD (i - 1) default).ver
theorem lastV_succ (l : List SV) (i : Nat) : lastV l (i + 1) = (l.getD i default).ver := by unfold lastV; rw [if_neg (by omega), Nat.add_sub_cancel]
theorem allV_le {tree name : List Int} {ord : Nat → SV → Bool} {l : List SV} : ∀ {k : Nat}, allV tree name ord l k = true → ∀ {i : Nat}, i < k → okV tree name ord l i = true
  | 0, _, _, h => by omega
  | k + 1, h, i, hi => by
    rw [allV, Bool.and_eq_true] at h
    by_cases e : i = k
    · subst e; exact h.2
    · exact allV_le h.1 (by omega)
theorem allV_not {tree name : List Int} {ord : Nat → SV → Bool} {l : List SV} : ∀ {k : Nat}, allV tree name ord l k = false → ∃ m, m < k ∧ allV tree name ord l m = true ∧ okV tree name ord l m = false
  | 0, h => by cases h
  | k + 1, h => by
    cases hk : allV tree name ord l k with
    | true => exact ⟨k, by omega, hk, by rw [allV, hk, Bool.true_and] at h; exact h⟩
    | false => obtain ⟨m, h1, h2⟩ := allV_not hk; exact ⟨m, by omega, h2⟩
abbrev xAV (x : SV) : AV := .agg [.int .i64 x.ver, .sl (.ints .u8 x.val.length x.val), .ints .u8 32 x.nonce, .ints .u8 32 x.salt, .agg [.ints .u8 32 x.known, .sl (.lst 32 x.W.length (x.W.map dg))]]
abbrev aAV (l : List SV) (next known : List Int) (W : List (List Int)) : AV := .agg [.sl (.lst 99 l.length (l.map shAV)), .ints .u8 32 next, .agg [.ints .u8 32 known, .sl (.lst 32 W.length (W.map dg))]]
abbrev ansO (tree name : List Int) (n : Nat) (l : List SV) (next known : List Int) (W : List (List Int)) (f : Nat) (v : Int) : OO :=
  [(0, .var (.ints .u8 32 tree)), (1, .var (.sl (.ints .u8 n name))), (2, .var (aAV l next known W)), (3, .var (.fn (.func f) [])), (4, .var (.int .i64 v))]
attribute [go_sem] xAV aAV ansO
attribute [simp] xAV aAV ansO
theorem getSV {l : List SV} {i : Nat} (h : i < l.length) (K : AV → Prop) : getP (l.map shAV) i K = K (.agg [.int .i64 (l.getD i default).ver, .sl (.ints .u8 (l.getD i default).val.length (l.getD i default).val), .ints .u8 32 (l.getD i default).nonce, .ints .u8 32 (l.getD i default).salt, .agg [.ints .u8 32 (l.getD i default).known, .sl (.lst 32 (l.getD i default).W.length ((l.getD i default).W.map dg))]]) :=
  getP_map (f := shAV) (a := l.getD i default) (by rw [List.getD, List.getElem?_eq_getElem h, Option.getD_some]) K
section
variable (tree name : List Int) (n : Nat) (hn : name.length = n) (hm : ∀ x ∈ name, 0 ≤ x ∧ x < 256)
  (l : List SV) (hl : ∀ x ∈ l, goodSV x) (hll : l.length ≤ 1000000) (next known : List Int) (hx : goodD next) (hk : goodD known) (W : List (List Int)) (hL : W.length ≤ 9223372036854775807) (hg : ∀ d ∈ W, goodD d)
  (f : Nat) (ord : Nat → SV → Bool) (hf : ∀ i, i < l.length → FnC Tryz.prog f [.int .i64 i, xAV (l.getD i default)] [] (.bool (ord i (l.getD i default))) [])
include hn hm hl hll hf in
theorem shownA_ok (ha : allV tree name ord l l.length = true) : FnC Tryz.prog 60 [.ref 2 [], .ref 3 [], .ref 0 [], .ref 1 [], .ref 4 []] (ansO tree name n l next known W f 0) (.bool true) (ansO tree name n l next known W f (lastV l l.length)) := by
  refine fnN mix [] 5 5 [.tmp 5] Tryz.func60 rfl (by kernel_rfl) (by kernel_rfl) rfl (by kernel_rfl) (by kernel_rfl) (by simp) ?_
  simp (implicitDefEqProofs := false) (disch := omega) only [go_sem, ↓reduceIte]
  refine loop (ι := Nat) 5 (fun i => i ≤ l.length) (fun i => [(0, .ref 2 []), (1, .ref 3 []), (2, .ref 0 []), (3, .ref 1 []), (4, .ref 4 []), (9, .sl (.lst 99 l.length (l.map shAV))), (10, .int .i64 l.length), (11, .int .i64 i)]) (fun i => ansO tree name n l next known W f (lastV l i)) (fun i => l.length - i) 0 [(0, 0), (1, 1), (2, 2), (3, 3), (4, 4)] [] (Nat.zero_le _) rfl ?_ ?_ ?_ (fun i hi => ?_)
  · simp (implicitDefEqProofs := false) (disch := omega) only [go_sem, ↓reduceIte]
  · simp (implicitDefEqProofs := false) (disch := omega) only [go_sem, ↓reduceIte]
  · simp (implicitDefEqProofs := false) (disch := omega) only [go_sem, ↓reduceIte]
    rfl
  simp (implicitDefEqProofs := false) (disch := omega) only [go_sem, ↓reduceIte]
  refine brd (fun h => ?_) (fun h => ?_)
  · have hi' : i < l.length := by omega
    have g1 := fun K => getSV hi' K
    have hok := allV_le ha hi'
    rw [okV, Bool.and_eq_true] at hok
    have h1 := hf i hi'
    rw [hok.1] at h1
    have h2 := shown_spec tree name n hn hm (l.getD i default) (by rw [List.getD, List.getElem?_eq_getElem hi', Option.getD_some]; exact hl _ (List.getElem_mem _))
    rw [hok.2] at h2
    have hv := lastV_succ l i
    simp (implicitDefEqProofs := false) (disch := omega) only [go_sem, ↓reduceIte, ↓g1]
    refine call0 h1 ?_
    simp (implicitDefEqProofs := false) (disch := omega) only [go_sem, ↓reduceIte]
    refine call0 h2 ?_
    simp (implicitDefEqProofs := false) (disch := omega) only [go_sem, ↓reduceIte]
    refine ⟨i + 1, [(0, 0), (1, 1), (2, 2), (3, 3), (4, 4)], [], [], by dsimp only; omega, by dsimp only; omega, rfl, ?_, ?_, ?_⟩ <;> simp (implicitDefEqProofs := false) (disch := omega) only [go_sem, ↓reduceIte, hv]
  obtain rfl : i = l.length := by omega
  simp (implicitDefEqProofs := false) (disch := omega) only [go_sem, ↓reduceIte]
  refine ⟨[(0, 0), (1, 1), (2, 2), (3, 3), (4, 4)], [], [], rfl, ?_, ?_, ?_⟩ <;> simp (implicitDefEqProofs := false) (disch := omega) only [go_sem, ↓reduceIte]
include hn hm hl hll hf in
theorem shownA_bad (ha : allV tree name ord l l.length = false) : ∃ v, FnC Tryz.prog 60 [.ref 2 [], .ref 3 [], .ref 0 [], .ref 1 [], .ref 4 []] (ansO tree name n l next known W f 0) (.bool false) (ansO tree name n l next known W f v) := by
  obtain ⟨m, hml, ham, hbm⟩ := allV_not ha
  refine ⟨lastV l m, ?_⟩
  refine fnN mix [] 5 5 [.tmp 5] Tryz.func60 rfl (by kernel_rfl) (by kernel_rfl) rfl (by kernel_rfl) (by kernel_rfl) (by simp) ?_
  simp (implicitDefEqProofs := false) (disch := omega) only [go_sem, ↓reduceIte]
  refine loop (ι := Nat) 5 (fun i => i ≤ m) (fun i => [(0, .ref 2 []), (1, .ref 3 []), (2, .ref 0 []), (3, .ref 1 []), (4, .ref 4 []), (9, .sl (.lst 99 l.length (l.map shAV))), (10, .int .i64 l.length), (11, .int .i64 i)]) (fun i => ansO tree name n l next known W f (lastV l i)) (fun i => m - i) 0 [(0, 0), (1, 1), (2, 2), (3, 3), (4, 4)] [] (Nat.zero_le _) rfl ?_ ?_ ?_ (fun i hi => ?_)
  · simp (implicitDefEqProofs := false) (disch := omega) only [go_sem, ↓reduceIte]
  · simp (implicitDefEqProofs := false) (disch := omega) only [go_sem, ↓reduceIte]
  · simp (implicitDefEqProofs := false) (disch := omega) only [go_sem, ↓reduceIte]
    rfl
  simp (implicitDefEqProofs := false) (disch := omega) only [go_sem, ↓reduceIte]
  refine brd (fun h => ?_) (fun h => by omega)
  have hi' : i < l.length := by omega
  have g1 := fun K => getSV hi' K
  have h1 := hf i hi'
  have h2 := shown_spec tree name n hn hm (l.getD i default) (by rw [List.getD, List.getElem?_eq_getElem hi', Option.getD_some]; exact hl _ (List.getElem_mem _))
  have hv := lastV_succ l i
  by_cases e : i = m
  · subst e
    cases ho : ord i (l.getD i default) with
    | false =>
      rw [ho] at h1
      simp (implicitDefEqProofs := false) (disch := omega) only [go_sem, ↓reduceIte, ↓g1]
      refine call0 h1 ?_
      simp (implicitDefEqProofs := false) (disch := omega) only [go_sem, ↓reduceIte]
      refine ⟨[(0, 0), (1, 1), (2, 2), (3, 3), (4, 4)], [], [], rfl, ?_, ?_, ?_⟩ <;> simp (implicitDefEqProofs := false) (disch := omega) only [go_sem, ↓reduceIte]
    | true =>
      rw [okV, ho, Bool.true_and] at hbm
      rw [ho] at h1
      rw [hbm] at h2
      simp (implicitDefEqProofs := false) (disch := omega) only [go_sem, ↓reduceIte, ↓g1]
      refine call0 h1 ?_
      simp (implicitDefEqProofs := false) (disch := omega) only [go_sem, ↓reduceIte]
      refine call0 h2 ?_
      simp (implicitDefEqProofs := false) (disch := omega) only [go_sem, ↓reduceIte]
      refine ⟨[(0, 0), (1, 1), (2, 2), (3, 3), (4, 4)], [], [], rfl, ?_, ?_, ?_⟩ <;> simp (implicitDefEqProofs := false) (disch := omega) only [go_sem, ↓reduceIte]
  · have hok := allV_le ham (show i < m by omega)
    rw [okV, Bool.and_eq_true] at hok
    rw [hok.1] at h1
    rw [hok.2] at h2
    simp (implicitDefEqProofs := false) (disch := omega) only [go_sem, ↓reduceIte, ↓g1]
    refine call0 h1 ?_
    simp (implicitDefEqProofs := false) (disch := omega) only [go_sem, ↓reduceIte]
    refine call0 h2 ?_
    simp (implicitDefEqProofs := false) (disch := omega) only [go_sem, ↓reduceIte]
    refine ⟨i + 1, [(0, 0), (1, 1), (2, 2), (3, 3), (4, 4)], [], [], by dsimp only; omega, by dsimp only; omega, rfl, ?_, ?_, ?_⟩ <;> simp (implicitDefEqProofs := false) (disch := omega) only [go_sem, ↓reduceIte, hv]
include hn hm hx hk hL hg in
theorem absentA_spec (v : Int) : FnC Tryz.prog 61 [.ref 2 [], .ref 1 [], .ref 4 [], .ref 0 []] (ansO tree name n l next known W f v) (.bool (decide (isAbsent tree name (IntKind.i64.wrap (v + 1)) next known W))) (ansO tree name n l next known W f v) := by
  by_cases h1 : namedP name (IntKind.i64.wrap (v + 1))
  · have e : decide (isAbsent tree name (IntKind.i64.wrap (v + 1)) next known W) = decide (pops known = W.length ∧ climbR (fromD next name (IntKind.i64.wrap (v + 1))) known W (emptyD 0) 256 = tree) := decide_eq_decide.2 (by unfold isAbsent; simp [h1])
    rw [e]
    refine fnN mix [] 5 4 [.tmp 4] Tryz.func61 rfl (by kernel_rfl) (by kernel_rfl) rfl (by kernel_rfl) (by kernel_rfl) (by simp) ?_
    simp (implicitDefEqProofs := false) (disch := omega) only [go_sem, ↓reduceIte]
    refine call0 (from16_ok next name _ n hn h1 hx.1 hx.2 hm) ?_
    simp (implicitDefEqProofs := false) (disch := omega) only [go_sem, ↓reduceIte]
    refine call0 (absent_spec tree _ known (fromD_good _ _ _) hk W W.length rfl hL hg) ?_
    simp (implicitDefEqProofs := false) (disch := omega) only [go_sem, ↓reduceIte]
    refine ⟨[(0, 0), (1, 1), (2, 2), (3, 3), (4, 4)], [], [], rfl, ?_, ?_, ?_⟩ <;> simp (implicitDefEqProofs := false) (disch := omega) only [go_sem, ↓reduceIte]
  · rw [show decide (isAbsent tree name (IntKind.i64.wrap (v + 1)) next known W) = false from decide_eq_false (fun h => h1 h.1)]
    refine fnN mix [] 5 4 [.tmp 4] Tryz.func61 rfl (by kernel_rfl) (by kernel_rfl) rfl (by kernel_rfl) (by kernel_rfl) (by simp) ?_
    simp (implicitDefEqProofs := false) (disch := omega) only [go_sem, ↓reduceIte]
    refine call0 (from16_bad next name _ n hn h1) ?_
    simp (implicitDefEqProofs := false) (disch := omega) only [go_sem, ↓reduceIte]
    refine ⟨[(0, 0), (1, 1), (2, 2), (3, 3), (4, 4)], [], [], rfl, ?_, ?_, ?_⟩ <;> simp (implicitDefEqProofs := false) (disch := omega) only [go_sem, ↓reduceIte]
abbrev closA : AV := .arr 1 [.fn (.func 60) [.ref 2 [], .ref 3 [], .ref 0 [], .ref 1 [], .ref 4 []], .fn (.func 61) [.ref 2 [], .ref 1 [], .ref 4 [], .ref 0 []]]
attribute [go_sem] closA
attribute [simp] closA
omit hn hm hl hll hx hk hL hg hf in
theorem allA_run (b1 b2 : Bool) (v : Int)
    (h1 : FnC Tryz.prog 60 [.ref 2 [], .ref 3 [], .ref 0 [], .ref 1 [], .ref 4 []] (ansO tree name n l next known W f 0) (.bool b1) (ansO tree name n l next known W f v))
    (h2 : FnC Tryz.prog 61 [.ref 2 [], .ref 1 [], .ref 4 [], .ref 0 []] (ansO tree name n l next known W f v) (.bool b2) (ansO tree name n l next known W f v)) :
    FnC Tryz.prog 63 [.osl 5 [] 1 0 2] ([(0, .var (.ints .u8 32 tree)), (1, .var (.sl (.ints .u8 n name))), (2, .var (aAV l next known W)), (3, .var (.fn (.func f) [])), (4, .var (.int .i64 0)), (5, .row closA)]) (.bool (b1 && b2)) (ansO tree name n l next known W f v) := by
  refine fnV mix [] 5 6 1 [.tmp 2] Tryz.func63 rfl (by kernel_rfl) (by kernel_rfl) rfl (by kernel_rfl) (by kernel_rfl) (by simp) rfl rfl ?_
  simp (implicitDefEqProofs := false) (disch := omega) only [go_sem, ↓reduceIte]
  refine loop (ι := Nat) 6 (fun i => i ≤ 2 ∧ (0 < i → b1 = true) ∧ (1 < i → b2 = true)) (fun i => [(5, .osl 5 [] 1 0 2), (6, .int .i64 2), (7, .int .i64 i)])
    (fun i => [(0, .var (.ints .u8 32 tree)), (1, .var (.sl (.ints .u8 n name))), (2, .var (aAV l next known W)), (3, .var (.fn (.func f) [])), (4, .var (.int .i64 (if i = 0 then 0 else v))), (5, .row closA)]) (fun i => 3 - i) 0 [(0, 0), (1, 1), (2, 2), (3, 3), (4, 4), (5, 5)] [] ⟨Nat.zero_le _, fun h => by omega, fun h => by omega⟩ rfl ?_ ?_ ?_ (fun i hi => ?_)
  · simp (implicitDefEqProofs := false) (disch := omega) only [go_sem, ↓reduceIte]
  · simp (implicitDefEqProofs := false) (disch := omega) only [go_sem, ↓reduceIte]
  · simp (implicitDefEqProofs := false) (disch := omega) only [go_sem, ↓reduceIte]
  dsimp only [ansO] at h1 h2
  obtain ⟨hi, hb1, hb2⟩ := hi
  have : i = 0 ∨ i = 1 ∨ i = 2 := by omega
  rcases this with rfl | rfl | rfl
  · simp (implicitDefEqProofs := false) (disch := omega) only [go_sem, ↓reduceIte]
    refine callG false [(0, 0), (1, 1), (2, 2), (3, 3), (4, 4)] [(0, 0), (1, 1), (2, 2), (3, 3), (4, 4)] 6 h1 ?_ ?_
    · simp [keys]
    simp (implicitDefEqProofs := false) (disch := omega) only [go_sem, ↓reduceIte]
    refine br (fun e => ?_) (fun e => ?_)
    · simp (implicitDefEqProofs := false) (disch := omega) only [go_sem, ↓reduceIte]
      refine ⟨1, [(0, 0), (1, 1), (2, 2), (3, 3), (4, 4), (5, 5)], [], [], ⟨by omega, fun _ => e, fun h => by omega⟩, by dsimp only; omega, rfl, ?_, ?_, ?_⟩ <;> simp (implicitDefEqProofs := false) (disch := omega) only [go_sem, ↓reduceIte]
    · rw [e]
      rw [Bool.false_and]
      simp (implicitDefEqProofs := false) (disch := omega) only [go_sem, ↓reduceIte]
      refine ⟨[(0, 0), (1, 1), (2, 2), (3, 3), (4, 4)], [], [], rfl, ?_, ?_, ?_⟩ <;> simp (implicitDefEqProofs := false) (disch := omega) only [go_sem, ↓reduceIte]
  · obtain rfl : b1 = true := hb1 (by omega)
    simp (implicitDefEqProofs := false) (disch := omega) only [go_sem, ↓reduceIte]
    refine callG false [(0, 0), (1, 1), (2, 2), (3, 3), (4, 4)] [(0, 0), (1, 1), (2, 2), (3, 3), (4, 4)] 6 h2 ?_ ?_
    · simp [keys]
    simp (implicitDefEqProofs := false) (disch := omega) only [go_sem, ↓reduceIte]
    refine br (fun e => ?_) (fun e => ?_)
    · simp (implicitDefEqProofs := false) (disch := omega) only [go_sem, ↓reduceIte]
      refine ⟨2, [(0, 0), (1, 1), (2, 2), (3, 3), (4, 4), (5, 5)], [], [], ⟨by omega, fun _ => e⟩, by dsimp only; omega, rfl, ?_, ?_, ?_⟩ <;> simp (implicitDefEqProofs := false) (disch := omega) only [go_sem, ↓reduceIte]
    · rw [e]
      rw [Bool.and_false]
      simp (implicitDefEqProofs := false) (disch := omega) only [go_sem, ↓reduceIte]
      refine ⟨[(0, 0), (1, 1), (2, 2), (3, 3), (4, 4)], [], [], rfl, ?_, ?_, ?_⟩ <;> simp (implicitDefEqProofs := false) (disch := omega) only [go_sem, ↓reduceIte]
  · obtain rfl : b1 = true := hb1 (by omega)
    obtain rfl : b2 = true := hb2 (by omega)
    simp (implicitDefEqProofs := false) (disch := omega) only [go_sem, ↓reduceIte]
    refine ⟨[(0, 0), (1, 1), (2, 2), (3, 3), (4, 4)], [], [], rfl, ?_, ?_, ?_⟩ <;> simp (implicitDefEqProofs := false) (disch := omega) only [go_sem, ↓reduceIte]
include hn hm hl hll hf hx hk hL hg in
theorem allA_spec : ∃ v, FnC Tryz.prog 63 [.osl 5 [] 1 0 2] ([(0, .var (.ints .u8 32 tree)), (1, .var (.sl (.ints .u8 n name))), (2, .var (aAV l next known W)), (3, .var (.fn (.func f) [])), (4, .var (.int .i64 0)), (5, .row closA)]) (.bool (allV tree name ord l l.length && decide (isAbsent tree name (IntKind.i64.wrap (lastV l l.length + 1)) next known W))) (ansO tree name n l next known W f v) := by
  cases ha : allV tree name ord l l.length with
  | true =>
    have h1 := shownA_ok tree name n hn hm l hl hll next known W f ord hf ha
    have h2 := absentA_spec tree name n hn hm l next known hx hk W hL hg f (lastV l l.length)
    have h3 := allA_run tree name n l next known W f true _ _ h1 h2
    exact ⟨_, h3⟩
  | false =>
    obtain ⟨v, h1⟩ := shownA_bad tree name n hn hm l hl hll next known W f ord hf ha
    have h2 := absentA_spec tree name n hn hm l next known hx hk W hL hg f v
    have h3 := allA_run tree name n l next known W f false _ v h1 h2
    rw [Bool.false_and] at h3
    rw [Bool.false_and]
    exact ⟨v, h3⟩
include hn hm hl hll hf hx hk hL hg in
theorem answer_spec : FnC Tryz.prog 30 [.ints .u8 32 tree, .sl (.ints .u8 n name), aAV l next known W, .fn (.func f) []] [] (.bool (allV tree name ord l l.length && decide (isAbsent tree name (IntKind.i64.wrap (lastV l l.length + 1)) next known W))) [] := by
  obtain ⟨v, h⟩ := allA_spec tree name n hn hm l hl hll next known hx hk W hL hg f ord hf
  dsimp only [ansO] at h
  refine fn0 mix [] 0 4 [.tmp 8] Tryz.func30 rfl (by kernel_rfl) (by kernel_rfl) rfl (by kernel_rfl) (by kernel_rfl) (by simp) ?_
  simp (implicitDefEqProofs := false) (disch := omega) only [go_sem, ↓reduceIte]
  refine callG false [(0, 0), (1, 1), (2, 2), (3, 3), (4, 4), (5, 5)] [(0, 0), (1, 1), (2, 2), (3, 3), (4, 4)] 6 h ?_ ?_
  · simp [keys]
  simp (implicitDefEqProofs := false) (disch := omega) only [go_sem, ↓reduceIte]
end
section
variable (tree name : List Int) (n : Nat) (hn : name.length = n) (hm : ∀ x ∈ name, 0 ≤ x ∧ x < 256)
  (l : List SV) (hl : ∀ x ∈ l, goodSV x) (hll : l.length ≤ 1000000) (next known : List Int) (hx : goodD next) (hk : goodD known) (W : List (List Int)) (hL : W.length ≤ 9223372036854775807) (hg : ∀ d ∈ W, goodD d)
abbrev ordL : Nat → SV → Bool := fun i _ => decide (i = 0)
abbrev ordH : Nat → SV → Bool := fun i x => decide (x.ver = (i : Int) + 1)
include hn hm hl hll hx hk hL hg
theorem lookup_spec : FnC Tryz.prog 10 [.ints .u8 32 tree, .sl (.ints .u8 n name), aAV l next known W] [] (.bool (allV tree name ordL l l.length && decide (isAbsent tree name (IntKind.i64.wrap (lastV l l.length + 1)) next known W))) [] := by
  have hf : ∀ i, i < l.length → FnC Tryz.prog 31 [.int .i64 i, xAV (l.getD i default)] [] (.bool (ordL i (l.getD i default))) [] := fun i hi => by
    refine fn0 mix [] 0 2 [.tmp 4] Tryz.func31 rfl (by kernel_rfl) (by kernel_rfl) rfl (by kernel_rfl) (by kernel_rfl) (by simp) ?_
    simp (implicitDefEqProofs := false) (disch := omega) only [go_sem, ↓reduceIte]
    exact congrArg AV.bool (decide_eq_decide.2 (by omega))
  have h := answer_spec tree name n hn hm l hl hll next known hx hk W hL hg 31 ordL hf
  refine fn0 mix [] 0 3 [.tmp 6] Tryz.func10 rfl (by kernel_rfl) (by kernel_rfl) rfl (by kernel_rfl) (by kernel_rfl) (by simp) ?_
  simp (implicitDefEqProofs := false) (disch := omega) only [go_sem, ↓reduceIte]
  refine call0 h ?_
  simp (implicitDefEqProofs := false) (disch := omega) only [go_sem, ↓reduceIte]
theorem history_spec : FnC Tryz.prog 11 [.ints .u8 32 tree, .sl (.ints .u8 n name), aAV l next known W] [] (.bool (allV tree name ordH l l.length && decide (isAbsent tree name (IntKind.i64.wrap (lastV l l.length + 1)) next known W))) [] := by
  have hf : ∀ i, i < l.length → FnC Tryz.prog 32 [.int .i64 i, xAV (l.getD i default)] [] (.bool (ordH i (l.getD i default))) [] := fun i hi => by
    refine fn0 mix [] 0 2 [.tmp 4] Tryz.func32 rfl (by kernel_rfl) (by kernel_rfl) rfl (by kernel_rfl) (by kernel_rfl) (by simp) ?_
    simp (implicitDefEqProofs := false) (disch := omega) only [go_sem, ↓reduceIte]
  have h := answer_spec tree name n hn hm l hl hll next known hx hk W hL hg 32 ordH hf
  refine fn0 mix [] 0 3 [.tmp 6] Tryz.func11 rfl (by kernel_rfl) (by kernel_rfl) rfl (by kernel_rfl) (by kernel_rfl) (by simp) ?_
  simp (implicitDefEqProofs := false) (disch := omega) only [go_sem, ↓reduceIte]
  refine call0 h ?_
  simp (implicitDefEqProofs := false) (disch := omega) only [go_sem, ↓reduceIte]
end
end Go.Proofs.YthhlielliopegaaGreat
