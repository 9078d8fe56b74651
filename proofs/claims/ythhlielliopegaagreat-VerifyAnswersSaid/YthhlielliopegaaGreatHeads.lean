/- What is checked of heads, next keys, and logs that grow; an answer that shows nothing. -/
import Derived.Test.YthhlielliopegaaGreatGH
import Derived.Test.YthhlielliopegaaGreatWire2
import Derived.Test.YthhlielliopegaaGreatGL
import Derived.Test.YthhlielliopegaaGreatCommit
import Derived.Test.YthhlielliopegaaGreatGG
namespace Go.Proofs.YthhlielliopegaaGreat
open Go Go.Sy Go.Proofs.Tryz
set_option maxRecDepth 100000
set_option maxHeartbeats 8000000
set_option linter.unusedSimpArgs false
set_option linter.unusedVariables false
attribute [go_sem] pl4 pl17 pl18
theorem headT_len (k e : Int) {t l : List Int} (ht : t.length = 32) (hl : l.length = 32) : (headT k e t l).length = 81 := by
  unfold headT nums dcat
  simp [be_len, ht, hl]
theorem keyT_len (k a b : Int) {t l : List Int} (ht : t.length = 32) (hl : l.length = 32) : (keyT k a b t l).length = 89 := by
  unfold keyT nums dcat
  simp [be_len, ht, hl]
theorem cat1 (a : List Int) : cat [a] = a := by simp [cat]
section
variable (root pub r : List Int) (ht : goodD root) (hp : goodD pub) (hrg : goodD r)
include ht hp hrg in
theorem head22_spec (a b i : Int) (sg : List Part) (hg : ∀ p ∈ sg, goodPt p) (hsl : sg.length ≤ 9223372036854775807) (hi : i < 9223372036854775808) (k e : Int) (t l : List Int) (h1 : goodD t) (h2 : goodD l) :
    FnC Tryz.prog 17 [.agg [.agg [.int .i64 a, .int .i64 b], .ints .u8 32 root, .ints .u8 32 pub], .agg [.int .i64 k, .int .i64 e, .ints .u8 32 t, .ints .u8 32 l], .agg [.int .i64 i, .ints .u8 32 r, .sl (.lst 2 sg.length (sg.map pt))]] []
      (.bool (decide (formedP a b i sg ∧ vK pub (msgD r root i (headT k e t l)) b.toNat i.toNat sg sg.length = root))) [] := by
  have hv := verify_spec root pub r ht hp hrg a b i sg [headT k e t l] hg hsl hi (fun p hp x hx => by rw [List.mem_singleton] at hp; subst hp; exact headT_mem k e h1.2 h2.2 x hx) (by rw [cat1, headT_len k e h1.1 h2.1]; decide) (by simp)
  rw [cat1] at hv
  have hb : bsl (headT k e t l) = .sl (.ints .u8 81 (headT k e t l)) := by unfold bsl; rw [headT_len k e h1.1 h2.1]
  rw [List.map_cons, List.map_nil, hb] at hv
  refine fn0 mix pl17 0 3 [.tmp 6] Tryz.func17 rfl (by kernel_rfl) (by kernel_rfl) rfl (by kernel_rfl) (by kernel_rfl) (by simp) ?_
  simp (implicitDefEqProofs := false) (disch := omega) only [go_sem, ↓reduceIte]
  refine callF 1 (headText_spec k e t l) ?_
  simp (implicitDefEqProofs := false) (disch := omega) only [go_sem, ↓reduceIte]
  refine callB hv ?_ ?_
  · simp (implicitDefEqProofs := false) (disch := omega) only [go_sem, ↓reduceIte]
  simp (implicitDefEqProofs := false) (disch := omega) only [go_sem, ↓reduceIte]
include ht hp hrg in
theorem next22_spec (a b i : Int) (sg : List Part) (hg : ∀ p ∈ sg, goodPt p) (hsl : sg.length ≤ 9223372036854775807) (hi : i < 9223372036854775808) (k c d : Int) (t l : List Int) (h1 : goodD t) (h2 : goodD l) :
    FnC Tryz.prog 18 [.agg [.agg [.int .i64 a, .int .i64 b], .ints .u8 32 root, .ints .u8 32 pub], .int .i64 k, .agg [.agg [.int .i64 c, .int .i64 d], .ints .u8 32 t, .ints .u8 32 l], .agg [.int .i64 i, .ints .u8 32 r, .sl (.lst 2 sg.length (sg.map pt))]] []
      (.bool (decide (formedP a b i sg ∧ vK pub (msgD r root i (keyT k c d t l)) b.toNat i.toNat sg sg.length = root))) [] := by
  have hv := verify_spec root pub r ht hp hrg a b i sg [keyT k c d t l] hg hsl hi (fun p hp x hx => by rw [List.mem_singleton] at hp; subst hp; exact keyT_mem k c d h1.2 h2.2 x hx) (by rw [cat1, keyT_len k c d h1.1 h2.1]; decide) (by simp)
  rw [cat1] at hv
  have hb : bsl (keyT k c d t l) = .sl (.ints .u8 89 (keyT k c d t l)) := by unfold bsl; rw [keyT_len k c d h1.1 h2.1]
  rw [List.map_cons, List.map_nil, hb] at hv
  refine fn0 mix pl18 0 4 [.tmp 8] Tryz.func18 rfl (by kernel_rfl) (by kernel_rfl) rfl (by kernel_rfl) (by kernel_rfl) (by simp) ?_
  simp (implicitDefEqProofs := false) (disch := omega) only [go_sem, ↓reduceIte]
  refine callF 1 (keyText_spec k c d t l) ?_
  simp (implicitDefEqProofs := false) (disch := omega) only [go_sem, ↓reduceIte]
  refine callB hv ?_ ?_
  · simp (implicitDefEqProofs := false) (disch := omega) only [go_sem, ↓reduceIte]
  simp (implicitDefEqProofs := false) (disch := omega) only [go_sem, ↓reduceIte]
end
theorem grows22_spec (a b t t' : List Int) (k k' m n : Int) (W : List (List Int)) (L : Nat) (ha : goodD a) (hb : goodD b) (hW : W.length = L) (hL : L ≤ 1000000) (hg : ∀ d ∈ W, goodD d) :
    FnC Tryz.prog 19 [.agg [.int .i64 k, .int .i64 m, .ints .u8 32 t, .ints .u8 32 a], .agg [.int .i64 k', .int .i64 n, .ints .u8 32 t', .ints .u8 32 b], .sl (.lst 32 L (W.map dg))] [] (.bool (decide (growsP a m b n W))) [] := by
  refine fn0 mix [] 0 3 [.tmp 6] Tryz.func19 rfl (by kernel_rfl) (by kernel_rfl) rfl (by kernel_rfl) (by kernel_rfl) (by simp) ?_
  simp (implicitDefEqProofs := false) (disch := omega) only [go_sem, ↓reduceIte]
  refine call0 (grows_spec a b m n W L ha hb hW hL hg) ?_
  simp (implicitDefEqProofs := false) (disch := omega) only [go_sem, ↓reduceIte]
abbrev zA : AV := .agg [.nils, .ints .u8 32 zs, .agg [.ints .u8 32 zs, .nils]]
abbrev anO : OO := [(0, .var (.ints .u8 32 zs)), (1, .var .nils), (2, .var zA), (3, .var (.fn (.func 31) [])), (4, .var (.int .i64 0))]
attribute [go_sem] zA anO
attribute [simp] anO
theorem shown0_spec : FnC Tryz.prog 60 [.ref 2 [], .ref 3 [], .ref 0 [], .ref 1 [], .ref 4 []] anO (.bool true) anO := by
  refine fnN mix [] 5 5 [.tmp 5] Tryz.func60 rfl (by kernel_rfl) (by kernel_rfl) rfl (by kernel_rfl) (by kernel_rfl) (by simp) ?_
  simp (implicitDefEqProofs := false) (disch := omega) only [go_sem, ↓reduceIte]
  refine loop (ι := Nat) 5 (fun i => i = 0) (fun i => [(9, .nils), (10, .int .i64 0), (11, .int .i64 i)]) (fun i => anO) (fun i => 0) 0 [(0, 0), (1, 1), (2, 2), (3, 3), (4, 4)] [] rfl rfl ?_ ?_ ?_ (fun i hi => ?_)
  · simp (implicitDefEqProofs := false) (disch := omega) only [go_sem, ↓reduceIte]
  · simp (implicitDefEqProofs := false) (disch := omega) only [go_sem, ↓reduceIte]
  · simp (implicitDefEqProofs := false) (disch := omega) only [go_sem, ↓reduceIte]
  subst hi
  simp (implicitDefEqProofs := false) (disch := omega) only [go_sem, ↓reduceIte]
  refine ⟨[(0, 0), (1, 1), (2, 2), (3, 3), (4, 4)], [], [], rfl, ?_, ?_, ?_⟩ <;> simp (implicitDefEqProofs := false) (disch := omega) only [go_sem, ↓reduceIte]
theorem from_nil : FnC Tryz.prog 26 [.ints .u8 32 zs, .nils, .int .i64 1] [] (.tup [.ints .u8 32 zs, .int .i64 1]) [] := by
  have h := from16_bad zs [] 1 0 rfl (by unfold namedP; decide)
  refine h.sub [] [] [] rfl ?_ ?_
  · simp (implicitDefEqProofs := false) (disch := omega) only [go_sem, ↓reduceIte, List.length_nil]
  · simp (implicitDefEqProofs := false) (disch := omega) only [go_sem, ↓reduceIte]
theorem absent0_spec : FnC Tryz.prog 61 [.ref 2 [], .ref 1 [], .ref 4 [], .ref 0 []] anO (.bool false) anO := by
  refine fnN mix [] 5 4 [.tmp 4] Tryz.func61 rfl (by kernel_rfl) (by kernel_rfl) rfl (by kernel_rfl) (by kernel_rfl) (by simp) ?_
  simp (implicitDefEqProofs := false) (disch := omega) only [go_sem, ↓reduceIte]
  refine call0 from_nil ?_
  simp (implicitDefEqProofs := false) (disch := omega) only [go_sem, ↓reduceIte]
  refine ⟨[(0, 0), (1, 1), (2, 2), (3, 3), (4, 4)], [], [], rfl, ?_, ?_, ?_⟩ <;> simp (implicitDefEqProofs := false) (disch := omega) only [go_sem, ↓reduceIte]
theorem all0_spec : FnC Tryz.prog 63 [.osl 5 [] 1 0 2] (anO ++ [(5, .row (.arr 1 [.fn (.func 60) [.ref 2 [], .ref 3 [], .ref 0 [], .ref 1 [], .ref 4 []], .fn (.func 61) [.ref 2 [], .ref 1 [], .ref 4 [], .ref 0 []]]))]) (.bool false) anO := by
  refine fnV mix [] 5 6 1 [.tmp 2] Tryz.func63 rfl (by kernel_rfl) (by kernel_rfl) rfl (by kernel_rfl) (by kernel_rfl) (by simp) rfl rfl ?_
  simp (implicitDefEqProofs := false) (disch := omega) only [go_sem, ↓reduceIte]
  refine loop (ι := Nat) 6 (fun i => i ≤ 1) (fun i => [(5, .osl 5 [] 1 0 2), (6, .int .i64 2), (7, .int .i64 i)])
    (fun i => anO ++ [(5, .row (.arr 1 [.fn (.func 60) [.ref 2 [], .ref 3 [], .ref 0 [], .ref 1 [], .ref 4 []], .fn (.func 61) [.ref 2 [], .ref 1 [], .ref 4 [], .ref 0 []]]))]) (fun i => 2 - i) 0 [(0, 0), (1, 1), (2, 2), (3, 3), (4, 4), (5, 5)] [] (Nat.zero_le _) rfl ?_ ?_ ?_ (fun i hi => ?_)
  · simp (implicitDefEqProofs := false) (disch := omega) only [go_sem, ↓reduceIte]
  · simp (implicitDefEqProofs := false) (disch := omega) only [go_sem, ↓reduceIte]
  · simp (implicitDefEqProofs := false) (disch := omega) only [go_sem, ↓reduceIte]
  by_cases c : i = 0
  · subst c
    simp (implicitDefEqProofs := false) (disch := omega) only [go_sem, ↓reduceIte]
    refine callG false [(0, 0), (1, 1), (2, 2), (3, 3), (4, 4)] [(0, 0), (1, 1), (2, 2), (3, 3), (4, 4)] 6 shown0_spec ?_ ?_
    · simp [keys]
    simp (implicitDefEqProofs := false) (disch := omega) only [go_sem, ↓reduceIte]
    refine ⟨1, [(0, 0), (1, 1), (2, 2), (3, 3), (4, 4), (5, 5)], [], [], by dsimp only; omega, by dsimp only; omega, rfl, ?_, ?_, ?_⟩ <;> simp (implicitDefEqProofs := false) (disch := omega) only [go_sem, ↓reduceIte]
  · obtain rfl : i = 1 := by omega
    simp (implicitDefEqProofs := false) (disch := omega) only [go_sem, ↓reduceIte]
    refine callG false [(0, 0), (1, 1), (2, 2), (3, 3), (4, 4)] [(0, 0), (1, 1), (2, 2), (3, 3), (4, 4)] 6 absent0_spec ?_ ?_
    · simp [keys]
    simp (implicitDefEqProofs := false) (disch := omega) only [go_sem, ↓reduceIte]
    refine ⟨[(0, 0), (1, 1), (2, 2), (3, 3), (4, 4)], [], [], rfl, ?_, ?_, ?_⟩ <;> simp (implicitDefEqProofs := false) (disch := omega) only [go_sem, ↓reduceIte]
theorem answer0_spec : FnC Tryz.prog 30 [.ints .u8 32 zs, .nils, zA, .fn (.func 31) []] [] (.bool false) [] := by
  refine fn0 mix [] 0 4 [.tmp 8] Tryz.func30 rfl (by kernel_rfl) (by kernel_rfl) rfl (by kernel_rfl) (by kernel_rfl) (by simp) ?_
  simp (implicitDefEqProofs := false) (disch := omega) only [go_sem, ↓reduceIte]
  refine callG false [(0, 0), (1, 1), (2, 2), (3, 3), (4, 4), (5, 5)] [(0, 0), (1, 1), (2, 2), (3, 3), (4, 4)] 6 all0_spec ?_ ?_
  · simp [keys]
  simp (implicitDefEqProofs := false) (disch := omega) only [go_sem, ↓reduceIte]
theorem lookup0_spec : FnC Tryz.prog 10 [.ints .u8 32 zs, .nils, zA] [] (.bool false) [] := by
  refine fn0 mix [] 0 3 [.tmp 6] Tryz.func10 rfl (by kernel_rfl) (by kernel_rfl) rfl (by kernel_rfl) (by kernel_rfl) (by simp) ?_
  simp (implicitDefEqProofs := false) (disch := omega) only [go_sem, ↓reduceIte]
  refine call0 answer0_spec ?_
  simp (implicitDefEqProofs := false) (disch := omega) only [go_sem, ↓reduceIte]
theorem knows22_spec : FnC Tryz.prog 6 [] [] (.bool true) [] := by
  have h1 : FnC Tryz.prog 17 [.agg [.agg [.int .i64 0, .int .i64 0], .ints .u8 32 zs, .ints .u8 32 zs], .agg [.int .i64 0, .int .i64 0, .ints .u8 32 zs, .ints .u8 32 zs], .agg [.int .i64 0, .ints .u8 32 zs, .nils]] [] (.bool false) [] := by
    have h := head22_spec zs zs zs zs_good zs_good zs_good 0 0 0 [] (fun p h => by cases h) (by decide) (by decide) 0 0 zs zs zs_good zs_good
    rw [decide_eq_false (fun e => by have := e.1; unfold formedP at this; revert this; decide)] at h
    refine h.sub [] [] [] rfl ?_ ?_
    · simp (implicitDefEqProofs := false) (disch := omega) only [go_sem, ↓reduceIte, List.length_nil, List.map_nil]
    · simp (implicitDefEqProofs := false) (disch := omega) only [go_sem, ↓reduceIte]
  have h2 : FnC Tryz.prog 19 [.agg [.int .i64 0, .int .i64 1, .ints .u8 32 zs, .ints .u8 32 zs], .agg [.int .i64 0, .int .i64 1, .ints .u8 32 zs, .ints .u8 32 zs], .nils] [] (.bool true) [] := by
    have h := grows22_spec zs zs zs zs 0 0 1 1 [] 0 zs_good zs_good rfl (by decide) (fun p h => by cases h)
    rw [decide_eq_true (by unfold growsP; exact ⟨by decide, by decide, by decide, rfl, rfl⟩)] at h
    refine h.sub [] [] [] rfl ?_ ?_
    · simp (implicitDefEqProofs := false) (disch := omega) only [go_sem, ↓reduceIte, List.map_nil]
    · simp (implicitDefEqProofs := false) (disch := omega) only [go_sem, ↓reduceIte]
  have z1 : List.replicate 32 (0 : Int) = zs := rfl
  refine fn0 mix [] 0 0 [.tmp 0] Tryz.func6 rfl (by kernel_rfl) (by kernel_rfl) rfl (by kernel_rfl) (by kernel_rfl) (by simp) ?_
  simp (implicitDefEqProofs := false) (disch := omega) only [go_sem, ↓reduceIte, z1]
  refine call0 h1 ?_
  simp (implicitDefEqProofs := false) (disch := omega) only [go_sem, ↓reduceIte, z1]
  refine call0 h2 ?_
  simp (implicitDefEqProofs := false) (disch := omega) only [go_sem, ↓reduceIte, z1]
  refine call0 lookup0_spec ?_
  simp (implicitDefEqProofs := false) (disch := omega) only [go_sem, ↓reduceIte]
section
variable (root pub r : List Int) (ht : goodD root) (hp : goodD pub) (hrg : goodD r)
include ht hp hrg in
theorem verifyHeads_spec (a b i : Int) (sg : List Part) (hg : ∀ p ∈ sg, goodPt p) (hsl : sg.length ≤ 9223372036854775807) (hi : i < 9223372036854775808) (k e k' e' : Int) (t l t' l' : List Int) (h1 : goodD t) (h2 : goodD l) (h3 : goodD t') (h4 : goodD l')
    (W : List (List Int)) (hWg : ∀ d ∈ W, goodD d) (hWl : W.length ≤ 9223372036854775807) :
    FnC Tryz.prog 4 [.agg [.agg [.int .i64 a, .int .i64 b], .ints .u8 32 root, .ints .u8 32 pub], .agg [.int .i64 k, .int .i64 e, .ints .u8 32 t, .ints .u8 32 l], .agg [.int .i64 k', .int .i64 e', .ints .u8 32 t', .ints .u8 32 l'], .agg [.int .i64 i, .ints .u8 32 r, .sl (.lst 2 sg.length (sg.map pt))], .sl (.lst 32 W.length (W.map dg))] [] (.bool true) [] := by
  refine fn0 mix pl4 0 5 [.tmp 10] Tryz.func4 rfl (by kernel_rfl) (by kernel_rfl) rfl (by kernel_rfl) (by kernel_rfl) (by simp) ?_
  simp (implicitDefEqProofs := false) (disch := omega) only [go_sem, ↓reduceIte]
  refine call0 (few11_spec i r sg hsl) ?_
  by_cases hf : fewP sg
  case neg =>
    rw [decide_eq_false hf]
    simp (implicitDefEqProofs := false) (disch := omega) only [go_sem, ↓reduceIte]
    refine call0 knows22_spec ?_
    simp (implicitDefEqProofs := false) (disch := omega) only [go_sem, ↓reduceIte]
  rw [decide_eq_true hf]
  simp (implicitDefEqProofs := false) (disch := omega) only [go_sem, ↓reduceIte]
  refine brd (fun hL => ?_) (fun hL => ?_)
  · simp (implicitDefEqProofs := false) (disch := omega) only [go_sem, ↓reduceIte]
    refine call0 knows22_spec ?_
    simp (implicitDefEqProofs := false) (disch := omega) only [go_sem, ↓reduceIte]
  have v1 := refverify_spec root pub r ht hp hrg a b i sg (headT k e t l) 81 (headT_len k e h1.1 h2.1) (headT_mem k e h1.2 h2.2) (by decide) hg hsl hi
  have v2 := refverify_spec root pub r ht hp hrg a b i sg (keyT k' a b t' l') 89 (keyT_len k' a b h3.1 h4.1) (keyT_mem k' a b h3.2 h4.2) (by decide) hg hsl hi
  simp (implicitDefEqProofs := false) (disch := omega) only [go_sem, ↓reduceIte]
  refine callF 1 (refheadText_spec k e t l) ?_
  simp (implicitDefEqProofs := false) (disch := omega) only [go_sem, ↓reduceIte]
  refine callB v1 ?_ ?_
  · simp (implicitDefEqProofs := false) (disch := omega) only [go_sem, ↓reduceIte]
  simp (implicitDefEqProofs := false) (disch := omega) only [go_sem, ↓reduceIte]
  refine callF 1 (refkeyText_spec k' a b t' l') ?_
  simp (implicitDefEqProofs := false) (disch := omega) only [go_sem, ↓reduceIte]
  refine callB v2 ?_ ?_
  · simp (implicitDefEqProofs := false) (disch := omega) only [go_sem, ↓reduceIte]
  simp (implicitDefEqProofs := false) (disch := omega) only [go_sem, ↓reduceIte]
  refine call0 (refgrows_spec l l' e e' W W.length h2 h4 rfl (by omega) hWg) ?_
  simp (implicitDefEqProofs := false) (disch := omega) only [go_sem, ↓reduceIte]
  refine call0 (head22_spec root pub r ht hp hrg a b i sg hg hsl hi k e t l h1 h2) ?_
  simp (implicitDefEqProofs := false) (disch := omega) only [go_sem, ↓reduceIte, beq_self_eq_true]
  refine call0 (next22_spec root pub r ht hp hrg a b i sg hg hsl hi k' a b t' l' h3 h4) ?_
  simp (implicitDefEqProofs := false) (disch := omega) only [go_sem, ↓reduceIte, beq_self_eq_true]
  refine call0 (grows22_spec l l' t t' k k' e e' W W.length h2 h4 rfl (by omega) hWg) ?_
  simp (implicitDefEqProofs := false) (disch := omega) only [go_sem, ↓reduceIte, beq_self_eq_true]
  refine call0 knows22_spec ?_
  simp (implicitDefEqProofs := false) (disch := omega) only [go_sem, ↓reduceIte]
end
end Go.Proofs.YthhlielliopegaaGreat
