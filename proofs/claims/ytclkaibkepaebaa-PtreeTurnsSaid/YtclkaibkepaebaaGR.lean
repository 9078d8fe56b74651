/- The document's tree of entries, row by row: what stands at a place, the place beside, the next row. -/
import Derived.Test.YtclkaibkepaebaaGQ
namespace Go.Proofs.Ytclkaibkepaebaa
open Go Go.Sy Go.Proofs.Try
set_option maxRecDepth 100000
set_option maxHeartbeats 8000000
set_option linter.unusedSimpArgs false
set_option linter.unusedVariables false
attribute [go_sem] pl100 pl103
/-- What stands at a place. -/
def findO (p : List Int) : List En → Option (List Int)
  | [] => none
  | e :: l => if e.1 = p then some e.2 else findO p l
theorem findO_some {p v : List Int} : ∀ {l : List En}, findO p l = some v → ∃ m e, l[m]? = some e ∧ e.1 = p ∧ e.2 = v ∧ m < l.length ∧ ∀ i e', i < m → l[i]? = some e' → e'.1 ≠ p
  | [], h => by cases h
  | x :: l, h => by
    rw [findO] at h
    split at h
    · rename_i c
      cases h
      exact ⟨0, x, rfl, c, rfl, by rw [List.length_cons]; omega, fun i e' hi => by omega⟩
    · rename_i c
      obtain ⟨m, e, h1, h2, h3, h5, h4⟩ := findO_some h
      refine ⟨m + 1, e, h1, h2, h3, by rw [List.length_cons]; omega, fun i e' hi he => ?_⟩
      cases i with
      | zero => cases he; exact c
      | succ i => exact h4 i e' (by omega) he
theorem findO_none {p : List Int} : ∀ {l : List En}, findO p l = none → ∀ e ∈ l, e.1 ≠ p
  | [], _, _, h => by cases h
  | x :: l, h, e, he => by
    rw [findO] at h
    split at h
    · cases h
    · rename_i c
      rcases List.mem_cons.1 he with rfl | he
      · exact c
      · exact findO_none h e he
theorem find_some (l : List En) (n : Nat) (hn : l.length = n) (hl : n ≤ 1000) (p v : List Int) (h : findO p l = some v) : FnC Try.prog 103 [.sl (.lst 64 n (l.map enV)), .ints .u8 32 p] [] (.tup [.ints .u8 32 v, .bool true]) [] := by
  obtain ⟨m, e, h1, h2, h3, h5, h4⟩ := findO_some h
  have hle : (l.map enV).length = n := by rw [List.length_map, hn]
  refine fn0 mix pl103 0 2 [.cell 4 25, .tmp 5] Try.func103 rfl (by kernel_rfl) (by kernel_rfl) rfl (by kernel_rfl) (by kernel_rfl) (by simp) ?_
  simp (implicitDefEqProofs := false) (disch := omega) only [go_sem, ↓reduceIte]
  refine loop (ι := Nat) 2 (fun i => i ≤ m) (fun i => [(0, .sl (.lst 64 n (l.map enV))), (3, .ref 0 []), (4, .ref 1 []), (6, .int .i64 i)]) (fun i => [(0, .var (.ints .u8 32 p)), (1, .var (.ints .u8 32 (List.replicate 32 0)))]) (fun i => m - i) 0 [(0, 0), (1, 1)] [] (Nat.zero_le _) rfl ?_ ?_ ?_ (fun i hi => ?_)
  · simp (implicitDefEqProofs := false) (disch := omega) only [go_sem, ↓reduceIte]
  · simp (implicitDefEqProofs := false) (disch := omega) only [go_sem, ↓reduceIte]
  · simp (implicitDefEqProofs := false) (disch := omega) only [go_sem, ↓reduceIte]
  simp (implicitDefEqProofs := false) (disch := omega) only [go_sem, ↓reduceIte]
  refine brd (fun h6 => ?_) (fun h6 => by omega)
  by_cases hm : i = m
  · subst hm
    have g1 := fun K => getEn h1 K
    have d1 : decide (e.1 = p) = true := decide_eq_true h2
    simp (implicitDefEqProofs := false) (disch := omega) only [go_sem, ↓reduceIte, ↓g1, hle, d1]
    rw [h3]
  · obtain ⟨x, hx⟩ : ∃ x, l[i]? = some x := ⟨_, List.getElem?_eq_getElem (by omega)⟩
    have g1 := fun K => getEn hx K
    have d1 : decide (x.1 = p) = false := decide_eq_false (h4 i x (by omega) hx)
    simp (implicitDefEqProofs := false) (disch := omega) only [go_sem, ↓reduceIte, ↓g1, hle, d1]
    refine ⟨i + 1, [(0, 0), (1, 1)], [], [], by dsimp only; omega, by dsimp only; omega, rfl, ?_, ?_, ?_⟩ <;> simp (implicitDefEqProofs := false) (disch := omega) only [go_sem, ↓reduceIte]
theorem find_none (l : List En) (n : Nat) (hn : l.length = n) (hl : n ≤ 1000) (p : List Int) (h : findO p l = none) : FnC Try.prog 103 [.sl (.lst 64 n (l.map enV)), .ints .u8 32 p] [] (.tup [.ints .u8 32 (List.replicate 32 0), .bool false]) [] := by
  have hno := findO_none h
  have hle : (l.map enV).length = n := by rw [List.length_map, hn]
  refine fn0 mix pl103 0 2 [.cell 4 25, .tmp 5] Try.func103 rfl (by kernel_rfl) (by kernel_rfl) rfl (by kernel_rfl) (by kernel_rfl) (by simp) ?_
  simp (implicitDefEqProofs := false) (disch := omega) only [go_sem, ↓reduceIte]
  refine loop (ι := Nat) 2 (fun i => i ≤ n) (fun i => [(0, .sl (.lst 64 n (l.map enV))), (3, .ref 0 []), (4, .ref 1 []), (6, .int .i64 i)]) (fun i => [(0, .var (.ints .u8 32 p)), (1, .var (.ints .u8 32 (List.replicate 32 0)))]) (fun i => n - i) 0 [(0, 0), (1, 1)] [] (Nat.zero_le _) rfl ?_ ?_ ?_ (fun i hi => ?_)
  · simp (implicitDefEqProofs := false) (disch := omega) only [go_sem, ↓reduceIte]
  · simp (implicitDefEqProofs := false) (disch := omega) only [go_sem, ↓reduceIte]
  · simp (implicitDefEqProofs := false) (disch := omega) only [go_sem, ↓reduceIte]
  simp (implicitDefEqProofs := false) (disch := omega) only [go_sem, ↓reduceIte]
  refine brd (fun h6 => ?_) (fun h6 => ?_)
  · obtain ⟨x, hx⟩ : ∃ x, l[i]? = some x := ⟨_, List.getElem?_eq_getElem (by omega)⟩
    have g1 := fun K => getEn hx K
    have d1 : decide (x.1 = p) = false := decide_eq_false (hno x (List.mem_of_getElem? hx))
    simp (implicitDefEqProofs := false) (disch := omega) only [go_sem, ↓reduceIte, ↓g1, hle, d1]
    refine ⟨i + 1, [(0, 0), (1, 1)], [], [], by dsimp only; omega, by dsimp only; omega, rfl, ?_, ?_, ?_⟩ <;> simp (implicitDefEqProofs := false) (disch := omega) only [go_sem, ↓reduceIte]
  · simp (implicitDefEqProofs := false) (disch := omega) only [go_sem, ↓reduceIte]
theorem beside_spec17 (d : List Int) (hd : goodD d) : FnC Try.prog 104 [.ints .u8 32 d] [] (.ints .u8 32 (besD d)) [] := by
  have hx : 0 ≤ d.getD 31 0 ∧ d.getD 31 0 < 256 := getD_all' hd.2 (by rw [hd.1]; decide)
  have r2 : (d.getD 31 0).tmod 2 = d.getD 31 0 % 2 := Int.tmod_eq_emod_of_nonneg hx.1
  have w1 : d.getD 31 0 % 2 = 0 → IntKind.u8.wrap (d.getD 31 0 + 1) = d.getD 31 0 + 1 := fun h => wrap_u8 (by omega) (by omega)
  have w2 : ¬ d.getD 31 0 % 2 = 0 → IntKind.u8.wrap (d.getD 31 0 - 1) = d.getD 31 0 - 1 := fun h => wrap_u8 (by omega) (by omega)
  unfold besD
  refine fn0 mix [] 0 1 [.cell 2 25] Try.func104 rfl (by kernel_rfl) (by kernel_rfl) rfl (by kernel_rfl) (by kernel_rfl) (by simp) ?_
  simp (implicitDefEqProofs := false) (disch := omega) only [go_sem, ↓reduceIte, r2]
  refine brd (fun h => ?_) (fun h => ?_)
  · rw [if_pos h]
    have w := w1 h
    simp (implicitDefEqProofs := false) (disch := omega) only [go_sem, ↓reduceIte, w]
  · rw [if_neg h]
    have w := w2 h
    simp (implicitDefEqProofs := false) (disch := omega) only [go_sem, ↓reduceIte, w]
/-- A place's node in the next row. -/
def upE (l : List En) (emp : List Int) (e : En) : En := (halfD e.1, if e.1.getD 31 0 % 2 = 0 then nodeL e.2 ((findO (besD e.1) l).getD emp) else nodeL ((findO (besD e.1) l).getD emp) e.2)
/-- The next row, so far. -/
def upN (l : List En) (emp : List Int) : Nat → List En
  | 0 => []
  | i + 1 => if (findO (halfD (l.getD i default).1) (upN l emp i)).isSome = true then upN l emp i else upN l emp i ++ [upE l emp (l.getD i default)]
theorem upN_len (l : List En) (emp : List Int) : ∀ i, (upN l emp i).length ≤ i
  | 0 => Nat.le_refl _
  | i + 1 => by
    have := upN_len l emp i
    rw [upN]
    split
    · omega
    · rw [List.length_append, List.length_singleton]; omega
theorem findO_mem {p v : List Int} {l : List En} (h : findO p l = some v) : ∃ e ∈ l, e.2 = v := by
  obtain ⟨m, e, h1, _, h3, _⟩ := findO_some h
  exact ⟨e, List.mem_of_getElem? h1, h3⟩
theorem up_spec (l : List En) (n : Nat) (hn : l.length = n) (hl : n ≤ 500) (emp : List Int) (he : goodD emp) (hg : ∀ e ∈ l, goodE e) :
    FnC Try.prog 100 [.sl (.lst 64 n (l.map enV)), .ints .u8 32 emp] [] (.osl 0 [] 64 0 (upN l emp n).length) [(0, .row (.lst 64 (upN l emp n).length ((upN l emp n).map enV)))] := by
  have hle : (l.map enV).length = n := by rw [List.length_map, hn]
  refine fnN mix pl100 0 2 [.tmp 4] Try.func100 rfl (by kernel_rfl) (by kernel_rfl) rfl (by kernel_rfl) (by kernel_rfl) (by simp) ?_
  simp (implicitDefEqProofs := false) (disch := omega) only [go_sem, ↓reduceIte]
  refine loop (ι := Nat) 2 (fun i => i ≤ n) (fun i => [(0, .sl (.lst 64 n (l.map enV))), (3, .ref 0 []), (5, .osl 1 [] 64 0 (upN l emp i).length), (6, .int .i64 i)]) (fun i => [(0, .var (.ints .u8 32 emp)), (1, .row (.lst 64 (upN l emp i).length ((upN l emp i).map enV)))]) (fun i => n - i) 0 [(0, 0)] [1] (Nat.zero_le _) rfl ?_ ?_ ?_ (fun i hi => ?_)
  · simp (implicitDefEqProofs := false) (disch := omega) only [go_sem, ↓reduceIte]
  · simp (implicitDefEqProofs := false) (disch := omega) only [go_sem, ↓reduceIte, upN, List.length_nil]
  · simp (implicitDefEqProofs := false) (disch := omega) only [go_sem, ↓reduceIte, upN, List.map_nil, List.length_nil]
  simp (implicitDefEqProofs := false) (disch := omega) only [go_sem, ↓reduceIte]
  refine brd (fun h1 => ?_) (fun h1 => ?_)
  · obtain ⟨x, hx⟩ : ∃ x, l[i]? = some x := ⟨_, List.getElem?_eq_getElem (by omega)⟩
    have g1 := fun K => getEn hx K
    have hgx := hg x (List.mem_of_getElem? hx)
    have hxd : l.getD i default = x := by rw [List.getD, hx, Option.getD_some]
    have hh := halfd_spec x.1 hgx.1
    have hb := beside_spec17 x.1 hgx.1
    have hul := upN_len l emp i
    have hx31 : 0 ≤ x.1.getD 31 0 ∧ x.1.getD 31 0 < 256 := getD_all' hgx.1.2 (by rw [hgx.1.1]; decide)
    have r2 : (x.1.getD 31 0).tmod 2 = x.1.getD 31 0 % 2 := Int.tmod_eq_emod_of_nonneg hx31.1
    have hup0 : upN l emp (i + 1) = if (findO (halfD x.1) (upN l emp i)).isSome = true then upN l emp i else upN l emp i ++ [upE l emp x] := by rw [← hxd]; rfl
    simp (implicitDefEqProofs := false) (disch := omega) only [go_sem, ↓reduceIte, ↓g1, hle]
    refine call0 hh ?_
    simp (implicitDefEqProofs := false) (disch := omega) only [go_sem, ↓reduceIte]
    cases hf : findO (halfD x.1) (upN l emp i) with
    | some v =>
      have hup : upN l emp (i + 1) = upN l emp i := by rw [hup0, hf]; rfl
      have hc := find_some (upN l emp i) (upN l emp i).length rfl (by omega) (halfD x.1) v hf
      refine callB hc ?_ ?_
      · simp (implicitDefEqProofs := false) (disch := omega) only [go_sem, ↓reduceIte]
      simp (implicitDefEqProofs := false) (disch := omega) only [go_sem, ↓reduceIte]
      refine ⟨i + 1, [(0, 0), (1, 1)], [], [], by dsimp only; omega, by dsimp only; omega, rfl, ?_, ?_, ?_⟩ <;> simp (implicitDefEqProofs := false) (disch := omega) only [go_sem, ↓reduceIte, hup]
    | none =>
      have hup1 : upN l emp (i + 1) = upN l emp i ++ [upE l emp x] := by rw [hup0, hf]; rfl
      have hc := find_none (upN l emp i) (upN l emp i).length rfl (by omega) (halfD x.1) hf
      refine callB hc ?_ ?_
      · simp (implicitDefEqProofs := false) (disch := omega) only [go_sem, ↓reduceIte]
      simp (implicitDefEqProofs := false) (disch := omega) only [go_sem, ↓reduceIte, ↓g1, hle]
      refine call0 hb ?_
      simp (implicitDefEqProofs := false) (disch := omega) only [go_sem, ↓reduceIte]
      cases hf2 : findO (besD x.1) l with
      | some o =>
        obtain ⟨eo, heo, rfl⟩ := findO_mem hf2
        have hgo := (hg eo heo).2
        have hc2 := find_some l n hn (by omega) (besD x.1) eo.2 hf2
        refine call0 hc2 ?_
        simp (implicitDefEqProofs := false) (disch := omega) only [go_sem, ↓reduceIte, ↓g1, hle, r2]
        refine brd (fun h3 => ?_) (fun h3 => ?_)
        · have hup : upN l emp (i + 1) = upN l emp i ++ [(halfD x.1, nodeL x.2 eo.2)] := by rw [hup1]; unfold upE; rw [if_pos h3, hf2]; rfl
          simp (implicitDefEqProofs := false) (disch := omega) only [go_sem, ↓reduceIte, ↓g1, hle]
          have hN := refnode_spec17 (x.2) (eo.2) hgx.2 hgo
          have eR : (upN l emp (i + 1)).map enV = (upN l emp i).map enV ++ [.agg [.ints .u8 32 (halfD x.1), .ints .u8 32 (nodeL (x.2) (eo.2))]] := by
            rw [hup, List.map_append]
            rfl
          have eL : (upN l emp (i + 1)).length = (upN l emp i).length + 1 := by rw [hup, List.length_append, List.length_singleton]
          refine call0 hN ?_
          simp (implicitDefEqProofs := false) (disch := omega) only [go_sem, ↓reduceIte]
          refine ⟨i + 1, [(0, 0), (1, 6)], [], [], by dsimp only; omega, by dsimp only; omega, rfl, ?_, ?_, ?_⟩ <;> simp (implicitDefEqProofs := false) (disch := omega) only [go_sem, ↓reduceIte, eR, eL]
        · have hup : upN l emp (i + 1) = upN l emp i ++ [(halfD x.1, nodeL eo.2 x.2)] := by rw [hup1]; unfold upE; rw [if_neg h3, hf2]; rfl
          simp (implicitDefEqProofs := false) (disch := omega) only [go_sem, ↓reduceIte, ↓g1, hle]
          have hN := refnode_spec17 (eo.2) (x.2) hgo hgx.2
          have eR : (upN l emp (i + 1)).map enV = (upN l emp i).map enV ++ [.agg [.ints .u8 32 (halfD x.1), .ints .u8 32 (nodeL (eo.2) (x.2))]] := by
            rw [hup, List.map_append]
            rfl
          have eL : (upN l emp (i + 1)).length = (upN l emp i).length + 1 := by rw [hup, List.length_append, List.length_singleton]
          refine call0 hN ?_
          simp (implicitDefEqProofs := false) (disch := omega) only [go_sem, ↓reduceIte]
          refine ⟨i + 1, [(0, 0), (1, 6)], [], [], by dsimp only; omega, by dsimp only; omega, rfl, ?_, ?_, ?_⟩ <;> simp (implicitDefEqProofs := false) (disch := omega) only [go_sem, ↓reduceIte, eR, eL]
      | none =>
        have hc2 := find_none l n hn (by omega) (besD x.1) hf2
        refine call0 hc2 ?_
        simp (implicitDefEqProofs := false) (disch := omega) only [go_sem, ↓reduceIte, ↓g1, hle, r2]
        refine brd (fun h3 => ?_) (fun h3 => ?_)
        · have hup : upN l emp (i + 1) = upN l emp i ++ [(halfD x.1, nodeL x.2 emp)] := by rw [hup1]; unfold upE; rw [if_pos h3, hf2]; rfl
          simp (implicitDefEqProofs := false) (disch := omega) only [go_sem, ↓reduceIte, ↓g1, hle]
          have hN := refnode_spec17 (x.2) (emp) hgx.2 he
          have eR : (upN l emp (i + 1)).map enV = (upN l emp i).map enV ++ [.agg [.ints .u8 32 (halfD x.1), .ints .u8 32 (nodeL (x.2) (emp))]] := by
            rw [hup, List.map_append]
            rfl
          have eL : (upN l emp (i + 1)).length = (upN l emp i).length + 1 := by rw [hup, List.length_append, List.length_singleton]
          refine call0 hN ?_
          simp (implicitDefEqProofs := false) (disch := omega) only [go_sem, ↓reduceIte]
          refine ⟨i + 1, [(0, 0), (1, 6)], [], [], by dsimp only; omega, by dsimp only; omega, rfl, ?_, ?_, ?_⟩ <;> simp (implicitDefEqProofs := false) (disch := omega) only [go_sem, ↓reduceIte, eR, eL]
        · have hup : upN l emp (i + 1) = upN l emp i ++ [(halfD x.1, nodeL emp x.2)] := by rw [hup1]; unfold upE; rw [if_neg h3, hf2]; rfl
          simp (implicitDefEqProofs := false) (disch := omega) only [go_sem, ↓reduceIte, ↓g1, hle]
          have hN := refnode_spec17 (emp) (x.2) he hgx.2
          have eR : (upN l emp (i + 1)).map enV = (upN l emp i).map enV ++ [.agg [.ints .u8 32 (halfD x.1), .ints .u8 32 (nodeL (emp) (x.2))]] := by
            rw [hup, List.map_append]
            rfl
          have eL : (upN l emp (i + 1)).length = (upN l emp i).length + 1 := by rw [hup, List.length_append, List.length_singleton]
          refine call0 hN ?_
          simp (implicitDefEqProofs := false) (disch := omega) only [go_sem, ↓reduceIte]
          refine ⟨i + 1, [(0, 0), (1, 6)], [], [], by dsimp only; omega, by dsimp only; omega, rfl, ?_, ?_, ?_⟩ <;> simp (implicitDefEqProofs := false) (disch := omega) only [go_sem, ↓reduceIte, eR, eL]
  · obtain rfl : i = n := by omega
    simp (implicitDefEqProofs := false) (disch := omega) only [go_sem, ↓reduceIte]
    refine ⟨[(0, 1)], [], [], rfl, ?_, ?_, ?_⟩ <;> simp (implicitDefEqProofs := false) (disch := omega) only [go_sem, ↓reduceIte]
end Go.Proofs.Ytclkaibkepaebaa
/- The document's root. -/
namespace Go.Proofs.Ytclkaibkepaebaa
open Go Go.Sy Go.Proofs.Try
set_option maxRecDepth 100000
set_option maxHeartbeats 8000000
set_option linter.unusedSimpArgs false
set_option linter.unusedVariables false
attribute [go_sem] pl99
theorem pf_enV (l : List En) : AV.pf.pfs (l.map enV) = true := by
  induction l with
  | nil => rfl
  | cons b l ih => simpa [AV.pf.pfs, AV.pf, enV] using ih
def leafE (e : En) : En := (e.1, leafP e.1 e.2)
def lvlR (l : List En) : Nat → List En
  | 0 => l.map leafE
  | k + 1 => upN (lvlR l k) (emptyD k) (lvlR l k).length
theorem upN_good {l : List En} (hg : ∀ e ∈ l, goodE e) (emp : List Int) : ∀ i, i ≤ l.length → ∀ e ∈ upN l emp i, goodE e
  | 0, _, e, h => by cases h
  | i + 1, hi, e, h => by
    rw [upN] at h
    split at h
    · exact upN_good hg emp i (by omega) e h
    · rcases List.mem_append.1 h with h | h
      · exact upN_good hg emp i (by omega) e h
      · rw [List.mem_singleton] at h
        subst h
        have hx : l.getD i default ∈ l := by rw [List.getD, List.getElem?_eq_getElem (by omega), Option.getD_some]; exact List.getElem_mem _
        refine ⟨halfD_good (hg _ hx).1, ?_⟩
        show goodD (if _ then _ else _)
        split <;> exact nodeL_good _ _
theorem lvlR_good {l : List En} (hg : ∀ e ∈ l, goodE e) : ∀ k, ∀ e ∈ lvlR l k, goodE e
  | 0, e, h => by
    rw [lvlR, List.mem_map] at h
    obtain ⟨x, hx, rfl⟩ := h
    exact ⟨(hg x hx).1, leafP_good _ _⟩
  | k + 1, e, h => upN_good (lvlR_good hg k) _ _ (Nat.le_refl _) e h
theorem lvlR_len (l : List En) : ∀ k, (lvlR l k).length ≤ l.length
  | 0 => by rw [lvlR, List.length_map]; exact Nat.le_refl _
  | k + 1 => Nat.le_trans (upN_len _ _ _) (lvlR_len l k)
theorem refrow_spec (l : List En) (n : Nat) (hn : l.length = n) (hl : n ≤ 500) (hg : ∀ e ∈ l, goodE e) :
    FnC Try.prog 99 [.sl (.lst 64 n (l.map enV))] [] (.osl 0 [] 64 0 n) [(0, .row (.lst 64 n ((l.map leafE).map enV)))] := by
  have hle : (l.map enV).length = n := by rw [List.length_map, hn]
  refine fnN mix pl99 0 1 [.tmp 2] Try.func99 rfl (by kernel_rfl) (by kernel_rfl) rfl (by kernel_rfl) (by kernel_rfl) (by simp) ?_
  simp (implicitDefEqProofs := false) (disch := omega) only [go_sem, ↓reduceIte]
  refine loop (ι := Nat) 1 (fun i => i ≤ n) (fun i => [(0, .sl (.lst 64 n (l.map enV))), (3, .osl 0 [] 64 0 i), (4, .int .i64 i)]) (fun i => [(0, .row (.lst 64 i (((l.map leafE).take i).map enV)))]) (fun i => n - i) 0 [] [0] (Nat.zero_le _) rfl ?_ ?_ ?_ (fun i hi => ?_)
  · simp (implicitDefEqProofs := false) (disch := omega) only [go_sem, ↓reduceIte]
  · simp (implicitDefEqProofs := false) (disch := omega) only [go_sem, ↓reduceIte]
  · simp (implicitDefEqProofs := false) (disch := omega) only [go_sem, ↓reduceIte, List.take_zero, List.map_nil]
  simp (implicitDefEqProofs := false) (disch := omega) only [go_sem, ↓reduceIte]
  refine brd (fun h1 => ?_) (fun h1 => ?_)
  · obtain ⟨x, hx⟩ : ∃ x, l[i]? = some x := ⟨_, List.getElem?_eq_getElem (by omega)⟩
    have g1 := fun K => getEn hx K
    have hgx := hg x (List.mem_of_getElem? hx)
    have hlf := refleaf_spec17 x.1 x.2 hgx.1 hgx.2
    have eR : ((l.map leafE).take (i + 1)).map enV = ((l.map leafE).take i).map enV ++ [.agg [.ints .u8 32 x.1, .ints .u8 32 (leafP x.1 x.2)]] := by
      rw [List.take_add_one, List.getElem?_map, hx, List.map_append]
      rfl
    simp (implicitDefEqProofs := false) (disch := omega) only [go_sem, ↓reduceIte, ↓g1, hle]
    refine call0 hlf ?_
    simp (implicitDefEqProofs := false) (disch := omega) only [go_sem, ↓reduceIte]
    refine ⟨i + 1, [(0, 2)], [], [], by dsimp only; omega, by dsimp only; omega, rfl, ?_, ?_, ?_⟩ <;> simp (implicitDefEqProofs := false) (disch := omega) only [go_sem, ↓reduceIte, eR]
  · obtain rfl : i = n := by omega
    have ht : (l.map leafE).take i = l.map leafE := List.take_of_length_le (by rw [List.length_map]; omega)
    simp (implicitDefEqProofs := false) (disch := omega) only [go_sem, ↓reduceIte]
    refine ⟨[(0, 0)], [], [], rfl, ?_, ?_, ?_⟩ <;> simp (implicitDefEqProofs := false) (disch := omega) only [go_sem, ↓reduceIte, ht]
def rootR (l : List En) : List Int := match lvlR l 256 with
  | [] => emptyD 256
  | e :: _ => e.2
theorem refroot17_spec (l : List En) (n : Nat) (hn : l.length = n) (hl : n ≤ 500) (hg : ∀ e ∈ l, goodE e) : FnC Try.prog 52 [.sl (.lst 64 n (l.map enV))] [] (.ints .u8 32 (rootR l)) [] := by
  have l1 : ((empties 257).map dg).length = 257 := by rw [List.length_map, empties_len]
  have hr := refrow_spec l n hn hl hg
  have g256 : ∀ K, getP ((empties 257).map dg) 256 K = K (.ints .u8 32 (emptyD 256)) := fun K => getP_map (f := dg) (empties_get (n := 257) (i := 256) (by omega)) K
  rw [show l.map leafE = lvlR l 0 from rfl] at hr
  have h0 : (lvlR l 0).length = n := by rw [lvlR, List.length_map, hn]
  refine fn0 mix [] 0 1 [.cell 2 25] Try.func52 rfl (by kernel_rfl) (by kernel_rfl) rfl (by kernel_rfl) (by kernel_rfl) (by simp) ?_
  simp (implicitDefEqProofs := false) (disch := omega) only [go_sem, ↓reduceIte]
  refine callF 1 refempty_spec17 ?_
  simp (implicitDefEqProofs := false) (disch := omega) only [go_sem, ↓reduceIte]
  refine callF 1 hr ?_
  simp (implicitDefEqProofs := false) (disch := omega) only [go_sem, ↓reduceIte]
  refine loop (ι := Nat) 3 (fun i => i ≤ 256) (fun i => [(2, .ref 0 []), (3, .osl 1 [] 32 0 257), (4, .osl 2 [] 64 0 (lvlR l i).length), (5, .int .i64 i)]) (fun i => [(0, .var (.ints .u8 32 (List.replicate 32 0))), (1, .row (.lst 32 257 ((empties 257).map dg))), (2, .row (.lst 64 (lvlR l i).length ((lvlR l i).map enV)))]) (fun i => 256 - i) 0 [(0, 0), (1, 1), (2, 2)] [] (Nat.zero_le _) rfl ?_ ?_ ?_ (fun i hi => ?_)
  · simp (implicitDefEqProofs := false) (disch := omega) only [go_sem, ↓reduceIte]
  · simp (implicitDefEqProofs := false) (disch := omega) only [go_sem, ↓reduceIte, h0]
  · simp (implicitDefEqProofs := false) (disch := omega) only [go_sem, ↓reduceIte, h0]
  simp (implicitDefEqProofs := false) (disch := omega) only [go_sem, ↓reduceIte]
  refine brd (fun h1 => ?_) (fun h1 => ?_)
  · have g1 : ∀ K, getP ((empties 257).map dg) i K = K (.ints .u8 32 (emptyD i)) := fun K => getP_map (f := dg) (empties_get (n := 257) (i := i) (by omega)) K
    have hlen := lvlR_len l i
    have hu := up_spec (lvlR l i) (lvlR l i).length rfl (by omega) (emptyD i) (emptyD_good i) (lvlR_good hg i)
    rw [show upN (lvlR l i) (emptyD i) (lvlR l i).length = lvlR l (i + 1) from rfl] at hu
    simp (implicitDefEqProofs := false) (disch := omega) only [go_sem, ↓reduceIte, ↓g1, l1]
    refine callBF 1 hu (hq := by simp [OB.pf, AV.pf, pf_enV]) ?_ ?_
    · simp (implicitDefEqProofs := false) (disch := omega) only [go_sem, ↓reduceIte]
    simp (implicitDefEqProofs := false) (disch := omega) only [go_sem, ↓reduceIte]
    refine ⟨i + 1, [(0, 0), (1, 1), (2, 3)], [], [], by dsimp only; omega, by dsimp only; omega, rfl, ?_, ?_, ?_⟩ <;> simp (implicitDefEqProofs := false) (disch := omega) only [go_sem, ↓reduceIte]
  obtain rfl : i = 256 := by omega
  have hlen := lvlR_len l 256
  unfold rootR
  cases hL : lvlR l 256 with
  | nil =>
    simp (implicitDefEqProofs := false) (disch := omega) only [go_sem, ↓reduceIte, List.length_nil, ↓g256, l1]
  | cons e r =>
    have d0 : decide (((e :: r).length : Int) = 0) = false := decide_eq_false (by rw [List.length_cons]; omega)
    have g2 : ∀ K, getP ((e :: r).map enV) 0 K = K (.agg [.ints .u8 32 e.1, .ints .u8 32 e.2]) := fun K => getEn (l := e :: r) (i := 0) rfl K
    have l2 : ((e :: r).map enV).length = (e :: r).length := List.length_map ..
    generalize (e :: r).map enV = R at *
    generalize hq : (e :: r).length = q at *
    have hq0 : 0 < q := by rw [← hq]; simp
    simp (implicitDefEqProofs := false) (disch := omega) only [go_sem, ↓reduceIte, d0, ↓g2, l2]
    exact hq0
end Go.Proofs.Ytclkaibkepaebaa
/- Sorted entries, parted by a bit: the node of a place is of the two below it. -/
namespace Go.Proofs.Ytclkaibkepaebaa
open Go Go.Sy Go.Proofs.Try
set_option maxRecDepth 100000
set_option linter.unusedSimpArgs false
set_option linter.unusedVariables false
/-- The entries below a place of a level. -/
def grp (S : List En) (k : Nat) (p : Int) : List En := S.filter fun e => decide (ofb e.1 / 2 ^ k = p)
theorem next_half (x : Int) (k : Nat) : x / 2 ^ (k + 1) = x / 2 ^ k / 2 := by
  rw [Int.pow_succ, Int.ediv_ediv_of_nonneg (Int.pow_nonneg (by decide))]
theorem rightE_num {e : En} (he : goodE e) {k : Nat} (hk : k < 256) : rightE k e = decide (ofb e.1 / 2 ^ k % 2 = 1) := by
  unfold rightE
  rw [bitD_num he.1 hk]
theorem cut_filter {k : Nat} (hk : k < 256) {P : Int} : ∀ G : List En, G.Pairwise (fun a b => ofb a.1 ≤ ofb b.1) → (∀ e ∈ G, goodE e ∧ ofb e.1 / 2 ^ (k + 1) = P) →
    G.take (cutN k G) = G.filter (fun e => !rightE k e) ∧ G.drop (cutN k G) = G.filter (fun e => rightE k e)
  | [], _, _ => ⟨rfl, rfl⟩
  | e :: G, hs, hg => by
    have he := hg e (List.mem_cons_self ..)
    rw [List.pairwise_cons] at hs
    have hp : (0 : Int) < 2 ^ k := Int.pow_pos (by decide)
    cases hr : rightE k e with
    | true =>
      have hall : ∀ x ∈ e :: G, rightE k x = true := fun x hx => by
        rcases List.mem_cons.1 hx with rfl | hx
        · exact hr
        · have hx2 := hg x (List.mem_cons_of_mem _ hx)
          rw [rightE_num he.1 hk, decide_eq_true_eq] at hr
          rw [rightE_num hx2.1 hk, decide_eq_true_eq]
          have h1 := Int.ediv_le_ediv hp (hs.1 x hx)
          have h2 := he.2
          have h3 := hx2.2
          rw [next_half] at h2 h3
          omega
      rw [cutN, if_pos hr]
      refine ⟨?_, ?_⟩
      · rw [List.take_zero]
        symm
        rw [List.filter_eq_nil_iff]
        intro x hx
        rw [hall x hx]
        decide
      · rw [List.drop_zero]
        symm
        rw [List.filter_eq_self]
        exact hall
    | false =>
      obtain ⟨h1, h2⟩ := cut_filter hk G hs.2 (fun x hx => hg x (List.mem_cons_of_mem _ hx))
      rw [cutN, if_neg (by rw [hr]; decide), List.take_succ_cons, List.drop_succ_cons, h1, h2]
      refine ⟨?_, ?_⟩
      · rw [List.filter_cons, if_pos (by rw [hr]; rfl)]
      · rw [List.filter_cons, if_neg (by rw [hr]; decide)]
theorem grp_low {S : List En} (hg : ∀ e ∈ S, goodE e) {k : Nat} (hk : k < 256) (P : Int) :
    (grp S (k + 1) P).filter (fun e => !rightE k e) = grp S k (2 * P) ∧ (grp S (k + 1) P).filter (fun e => rightE k e) = grp S k (2 * P + 1) := by
  unfold grp
  rw [List.filter_filter, List.filter_filter]
  refine ⟨List.filter_congr fun e he => ?_, List.filter_congr fun e he => ?_⟩
  · rw [rightE_num (hg e he) hk, next_half, ← decide_not, ← Bool.decide_and]
    exact decide_eq_decide.2 (by omega)
  · rw [rightE_num (hg e he) hk, next_half, ← Bool.decide_and]
    exact decide_eq_decide.2 (by omega)
/-- The node of a place of the next level. -/
theorem node_grp {S : List En} (hg : ∀ e ∈ S, goodE e) (hs : S.Pairwise (fun a b => ofb a.1 ≤ ofb b.1)) {k : Nat} (hk : k < 256) (P : Int) (hne : grp S (k + 1) P ≠ []) :
    nodeP (k + 1) (grp S (k + 1) P) = nodeL (nodeP k (grp S k (2 * P))) (nodeP k (grp S k (2 * P + 1))) := by
  obtain ⟨h1, h2⟩ := cut_filter hk (P := P) (grp S (k + 1) P) (hs.sublist List.filter_sublist) (fun e he => by
    unfold grp at he
    rw [List.mem_filter, decide_eq_true_eq] at he
    exact ⟨hg e he.1, he.2⟩)
  obtain ⟨h3, h4⟩ := grp_low hg hk P
  rw [nodeP_succ k hne, h1, h2, h3, h4]
theorem grp_top {S : List En} (hg : ∀ e ∈ S, goodE e) : grp S 256 0 = S := by
  unfold grp
  rw [List.filter_eq_self]
  intro e he
  have h1 := ofb_lt (hg e he).1.2 32
  rw [take_all (hg e he).1] at h1
  rw [decide_eq_true_eq, Int.ediv_eq_zero_of_lt h1.1 (by have := h1.2; rw [show (256 : Int) ^ 32 = 2 ^ 256 by decide] at this; exact this)]
end Go.Proofs.Ytclkaibkepaebaa
/- The document's rows hold the nodes of sorted entries: the two roots are one. -/
namespace Go.Proofs.Ytclkaibkepaebaa
open Go Go.Sy Go.Proofs.Try
set_option maxRecDepth 100000
set_option linter.unusedSimpArgs false
set_option linter.unusedVariables false
theorem findO_is {p v : List Int} {l : List En} (h : findO p l = some v) : ∃ e ∈ l, e.1 = p ∧ e.2 = v := by
  obtain ⟨m, e, h1, h2, h3, _⟩ := findO_some h
  exact ⟨e, List.mem_of_getElem? h1, h2, h3⟩
/-- What is so of the next row, so far. -/
theorem upN_inv (l : List En) (emp : List Int) : ∀ i, i ≤ l.length → ((upN l emp i).map (·.1)).Nodup ∧ (∀ e' ∈ upN l emp i, ∃ e ∈ l, e' = upE l emp e) ∧ (∀ e ∈ l.take i, ∃ e' ∈ upN l emp i, e'.1 = halfD e.1)
  | 0, _ => by
    refine ⟨List.nodup_nil, fun _ h => ?_, fun _ h => ?_⟩
    · cases h
    · rw [List.take_zero] at h
      cases h
  | i + 1, hi => by
    obtain ⟨h1, h2, h3⟩ := upN_inv l emp i (by omega)
    obtain ⟨x, hx⟩ : ∃ x, l[i]? = some x := ⟨_, List.getElem?_eq_getElem (by omega)⟩
    have hxd : l.getD i default = x := by rw [List.getD, hx, Option.getD_some]
    have hxl := List.mem_of_getElem? hx
    rw [upN, hxd, List.take_add_one, hx]
    cases hf : findO (halfD x.1) (upN l emp i) with
    | some v =>
      rw [Option.isSome_some, if_pos rfl]
      refine ⟨h1, h2, fun e he => ?_⟩
      rcases List.mem_append.1 he with he | he
      · exact h3 e he
      · simp only [Option.toList_some, List.mem_singleton] at he
        subst he
        obtain ⟨e', g1, g2, _⟩ := findO_is hf
        exact ⟨e', g1, g2⟩
    | none =>
      rw [Option.isSome_none, if_neg (by decide)]
      have hno := findO_none hf
      refine ⟨?_, fun e' he' => ?_, fun e he => ?_⟩
      · rw [List.map_append, List.nodup_append]
        refine ⟨h1, by simp, fun a ha b hb hab => ?_⟩
        simp only [List.map_cons, List.map_nil, List.mem_singleton] at hb
        rw [List.mem_map] at ha
        obtain ⟨y, hy, rfl⟩ := ha
        subst hb
        exact hno y hy hab
      · rcases List.mem_append.1 he' with h | h
        · exact h2 e' h
        · rw [List.mem_singleton] at h
          exact ⟨x, hxl, h⟩
      · rcases List.mem_append.1 he with he | he
        · obtain ⟨e', g1, g2⟩ := h3 e he
          exact ⟨e', List.mem_append_left _ g1, g2⟩
        · simp only [Option.toList_some, List.mem_singleton] at he
          subst he
          exact ⟨upE l emp e, List.mem_append_right _ (List.mem_singleton.2 rfl), rfl⟩
section
variable (l S : List En) (hg : ∀ e ∈ l, goodE e) (hp : S.Perm l) (hs : S.Pairwise (fun a b => ofb a.1 ≤ ofb b.1)) (hd : (l.map (·.1)).Nodup)
include hg hp hs hd
theorem lvl_inv : ∀ k, k ≤ 256 → ((lvlR l k).map (·.1)).Nodup ∧ (∀ e ∈ lvlR l k, (∃ x ∈ l, e.1 = halfs x.1 k) ∧ e.2 = nodeP k (grp S k (ofb e.1))) ∧ (∀ x ∈ l, ∃ e ∈ lvlR l k, e.1 = halfs x.1 k)
  | 0, _ => by
    have hgS : ∀ e ∈ S, goodE e := fun e he => hg e (hp.mem_iff.1 he)
    refine ⟨?_, fun e he => ?_, fun x hx => ⟨leafE x, List.mem_map_of_mem hx, rfl⟩⟩
    · rw [lvlR, List.map_map]
      exact hd
    · rw [lvlR, List.mem_map] at he
      obtain ⟨x, hx, rfl⟩ := he
      refine ⟨⟨x, hx, rfl⟩, ?_⟩
      have hone : grp S 0 (ofb x.1) = [x] := by
        have hxS := hp.mem_iff.2 hx
        have hdS : (S.map (·.1)).Nodup := (hp.map _).nodup_iff.2 hd
        unfold grp
        rw [show (fun e : En => decide (ofb e.1 / 2 ^ 0 = ofb x.1)) = fun e => decide (ofb e.1 = ofb x.1) by funext e; rw [show (2 : Int) ^ 0 = 1 by decide, Int.ediv_one]]
        clear hs hp
        induction S with
        | nil => cases hxS
        | cons y S ih =>
          rw [List.map_cons, List.nodup_cons] at hdS
          rw [List.filter_cons]
          rcases List.mem_cons.1 hxS with rfl | hxS
          · rw [if_pos (decide_eq_true rfl)]
            congr 1
            rw [List.filter_eq_nil_iff]
            intro z hz hzz
            rw [decide_eq_true_eq] at hzz
            have := ofb_inj (hgS z (List.mem_cons_of_mem _ hz)).1 (hgS x (List.mem_cons_self ..)).1 hzz
            exact hdS.1 (this ▸ List.mem_map_of_mem hz)
          · rw [if_neg]
            · exact ih (fun e he => hgS e (List.mem_cons_of_mem _ he)) hxS hdS.2
            · intro hyy
              rw [decide_eq_true_eq] at hyy
              have := ofb_inj (hgS y (List.mem_cons_self ..)).1 (hgS x (List.mem_cons_of_mem _ hxS)).1 hyy
              exact hdS.1 (this ▸ List.mem_map_of_mem hxS)
      show leafP x.1 x.2 = nodeP 0 (grp S 0 (ofb x.1))
      rw [hone]
      rfl
  | k + 1, hk => by
    have hgS : ∀ e ∈ S, goodE e := fun e he => hg e (hp.mem_iff.1 he)
    obtain ⟨h1, h2, h3⟩ := lvl_inv k (by omega)
    obtain ⟨u1, u2, u3⟩ := upN_inv (lvlR l k) (emptyD k) (lvlR l k).length (Nat.le_refl _)
    rw [List.take_length] at u3
    refine ⟨u1, fun e' he' => ?_, fun x hx => ?_⟩
    · obtain ⟨e, he, rfl⟩ := u2 e' he'
      obtain ⟨⟨x, hx, hex⟩, hv⟩ := h2 e he
      have hge := lvlR_good hg k e he
      have hgb := besD_good hge.1
      refine ⟨⟨x, hx, by show halfD e.1 = _; rw [hex]; rfl⟩, ?_⟩
      -- what stands beside
      have ho : (findO (besD e.1) (lvlR l k)).getD (emptyD k) = nodeP k (grp S k (ofb (besD e.1))) := by
        cases hf : findO (besD e.1) (lvlR l k) with
        | some v =>
          obtain ⟨e2, g1, g2, g3⟩ := findO_is hf
          rw [Option.getD_some, ← g3, (h2 e2 g1).2, g2]
        | none =>
          have hno := findO_none hf
          have hemp : grp S k (ofb (besD e.1)) = [] := by
            unfold grp
            rw [List.filter_eq_nil_iff]
            intro y hy hyy
            rw [decide_eq_true_eq, ← ofb_halfs (hgS y hy).1] at hyy
            have e1 := ofb_inj (halfs_good (hgS y hy).1 k) hgb hyy
            obtain ⟨e2, g1, g2⟩ := h3 y (hp.mem_iff.1 hy)
            exact hno e2 g1 (g2.trans e1)
          rw [Option.getD_none, hemp, nodeP_nil]
      have hP : ofb (upE (lvlR l k) (emptyD k) e).1 = ofb e.1 / 2 := ofb_halfD hge.1
      have hpar := last_par hge.1
      have hbes := ofb_besD hge.1
      have hne : grp S (k + 1) (ofb e.1 / 2) ≠ [] := by
        intro hn
        unfold grp at hn
        rw [List.filter_eq_nil_iff] at hn
        refine hn x (hp.mem_iff.2 hx) ?_
        rw [decide_eq_true_eq, next_half, ← ofb_halfs (hg x hx).1, ← hex]
      rw [hP, node_grp hgS hs (by omega) _ hne]
      show (if e.1.getD 31 0 % 2 = 0 then nodeL e.2 _ else nodeL _ e.2) = _
      rw [ho, hv]
      by_cases c : e.1.getD 31 0 % 2 = 0
      · rw [if_pos c]
        rw [if_pos (by omega)] at hbes
        rw [hbes, show 2 * (ofb e.1 / 2) = ofb e.1 by omega]
      · rw [if_neg c]
        rw [if_neg (by omega)] at hbes
        rw [hbes, show 2 * (ofb e.1 / 2) + 1 = ofb e.1 by omega, show 2 * (ofb e.1 / 2) = ofb e.1 - 1 by omega]
    · obtain ⟨e, he, hex⟩ := h3 x hx
      obtain ⟨e', g1, g2⟩ := u3 e he
      exact ⟨e', g1, by rw [g2, hex]; rfl⟩
theorem rootR_eq : rootR l = nodeP 256 S := by
  have hgS : ∀ e ∈ S, goodE e := fun e he => hg e (hp.mem_iff.1 he)
  obtain ⟨h1, h2, h3⟩ := lvl_inv l S hg hp hs hd 256 (Nat.le_refl _)
  unfold rootR
  cases hL : lvlR l 256 with
  | nil =>
    have hl : l = [] := by
      cases l with
      | nil => rfl
      | cons x r =>
        obtain ⟨e, he, _⟩ := h3 x (List.mem_cons_self ..)
        rw [hL] at he
        cases he
    subst hl
    have : S = [] := List.Perm.eq_nil hp
    rw [this]
    rfl
  | cons e r =>
    rw [hL] at h2
    obtain ⟨⟨x, hx, hex⟩, hv⟩ := h2 e (List.mem_cons_self ..)
    have hz : ofb e.1 = 0 := by
      rw [hex, ofb_halfs (hg x hx).1]
      have h1 := ofb_lt (hg x hx).1.2 32
      rw [take_all (hg x hx).1] at h1
      exact Int.ediv_eq_zero_of_lt h1.1 (by have := h1.2; rw [show (256 : Int) ^ 32 = 2 ^ 256 by decide] at this; exact this)
    show e.2 = _
    rw [hv, hz, grp_top hgS]
end
end Go.Proofs.Ytclkaibkepaebaa
