/- Texts, joined. -/
import Derived.Test.YtololahjocfbeaaGreatC34
import Derived.Lib.SliceRun
import Derived.Shelf.SlSortCmp.NoneTotal
import Derived.Test.YtololahjocfbeaaGreatC30
import Derived.Test.YtololahjocfbeaaGreatC29
namespace Go.Proofs.YtololahjocfbeaaGreat
open Go Go.Sy Go.Proofs.Tryz Go.Shelf Go.RowKit Go.Sort
set_option maxRecDepth 100000
set_option maxHeartbeats 2000000
set_option linter.unusedSimpArgs false
set_option linter.unusedVariables false
theorem sort_walk (d : List GE) (blk cap : Nat) (w : World) (hH : HoldsK encE 64 w blk 0 d.toArray) (hblk : blk < w.heap.size) (hsz : d.length < 4611686018427387904) :
    Calls Tryz.prog 192 #[.slice (some ⟨blk, 0, none⟩) d.length cap, .func (.func 193) #[] #[]] w fun e w' => e = .returned (.tuple #[]) ∧ ∃ n os, w' = sortWorldK encE 64 w blk 0 n (srtG d).toArray os := by
  have eg : ∀ args w, (callFunc 193 args).run Tryz.prog w = .ok (.enter 193 args) w := enters_of Tryz.func193 (by kernel_rfl) rfl
  have hcmp : CmpLays Tryz.prog 193 #[] encE 64 cfE blk 0 d.toArray.size w := fun _ _ _ _ x y => closure_walk x y _
  have h := AnyQ.slices_SortFunc_eq Tryz.sortEn 64 Tryz.isAgg229 Tryz.sizeOf229 encE encE_len (fun x v hv => by
    rw [encE, List.mem_map] at hv
    obtain ⟨a, _, rfl⟩ := hv
    rfl) cfE swoE 193 #[] blk 0 cap d.toArray w eg hcmp hH hblk hsz
  exact h
theorem heap_sort {w : World} {b n : Nat} {d : Array GE} {os : Array Obj} {cs : Array Value} {e : TypeId} {fz : Nat × Nat} (hh : w.heap[b]? = some (.cells cs e fz)) :
    (sortWorldK encE 64 w b 0 n d os).heap[b]? = some (.cells (putCells id 0 (flatK encE 64 d) cs) e fz) := by
  have hlt : b < w.heap.size := (Array.getElem?_eq_some_iff.1 hh).1
  show ((w.heap.modify b (onCells (putCells id 0 (flatK encE 64 d)))) ++ os)[b]? = _
  rw [Array.getElem?_append_left (by rw [Array.size_modify]; exact hlt), Array.getElem?_modify, if_pos rfl, hh]
  rfl
theorem heap_sort_other {w : World} {b n c : Nat} {d : Array GE} {os : Array Obj} (hc : c < w.heap.size) (hne : ¬ c = b) : (sortWorldK encE 64 w b 0 n d os).heap[c]? = w.heap[c]? := by
  show ((w.heap.modify b (onCells (putCells id 0 (flatK encE 64 d)))) ++ os)[c]? = _
  rw [Array.getElem?_append_left (by rw [Array.size_modify]; exact hc), Array.getElem?_modify, if_neg (fun h => hne h.symm)]
theorem putCells_head (F sp cc : List Value) (h : F.length = cc.length) : putCells id 0 F.toArray (cc ++ sp).toArray = (F ++ sp).toArray := by
  apply Array.ext_getElem?
  intro k
  unfold putCells
  rw [Array.getElem?_mapIdx, List.getElem?_toArray, List.getElem?_toArray]
  by_cases c : k < F.length
  · rw [List.getElem?_append_left (by omega), List.getElem?_append_left c, List.getElem?_eq_getElem (by omega), List.getElem?_eq_getElem c, Option.map_some, if_pos ⟨Nat.zero_le _, by simpa using c⟩, Nat.sub_zero, getElem!_pos _ k (by simpa using c)]
    rfl
  · rw [List.getElem?_append_right (by omega), List.getElem?_append_right (by omega), h]
    cases sp[k - cc.length]? with
    | none => rfl
    | some x => rw [Option.map_some, if_neg (by rintro ⟨_, h2⟩; simp at h2; omega)]
theorem holds_row {w : World} {b : Nat} {d : List GE} {sp : List Value} {e : TypeId} {fz : Nat × Nat} (hh : w.heap[b]? = some (.cells ((d.map encE).flatten ++ sp).toArray e fz)) (hf : freeCells fz ((d.map encE).flatten ++ sp).length) : HoldsK encE 64 w b 0 d.toArray := by
  intro j hj
  rw [flatK_list] at hj ⊢
  have hj' : j < ((d.map encE).flatten).length := by simpa using hj
  refine ⟨?_, ?_⟩
  · rw [World.cell?, hh]
    show ((d.map encE).flatten ++ sp).toArray[0 + j]? = _
    rw [Nat.zero_add, List.getElem?_toArray, List.getElem?_append_left hj', List.getElem?_eq_getElem hj', getElem!_pos _ j (by simpa using hj')]
    rfl
  · have := hf.no (0 + j) (by rw [List.length_append]; omega)
    rw [World.frozen?, hh]
    show (decide (fz.1 ≤ 0 + j) && decide (0 + j < fz.2)) = false
    rw [← Bool.decide_and, decide_eq_false_iff_not]
    exact this
theorem sort_enters : Sy.Enters Tryz.prog 192 := ⟨_, Tryz.func192, by kernel_rfl, by kernel_rfl⟩
theorem good_map (l : List GE) : ∀ e ∈ l.map (·.1), goodE e := fun e he => by
  rw [List.mem_map] at he
  obtain ⟨x, _, rfl⟩ := he
  exact x.2
theorem sort_specG (l : List GE) (n : Nat) (hn : l.length = n) (hn0 : 0 < n) (hl : n ≤ 1000) :
    FnK Tryz.prog [0] 192 [.osl 0 [] 64 0 n, .fn (.func 193) []] [(0, .row (.lst 64 n ((l.map (·.1)).map enV)))] (.tup []) [(0, .row (.lst 64 n (((srtG l).map (·.1)).map enV)))] := by
  refine ⟨sort_enters, fun w M β xs hno hst hvr => ?_⟩
  cases hvr with
  | cons h0 h1 =>
    cases h1 with
    | cons h2 h3 =>
      cases h3
      cases h0 with
      | agg hm0 _ => cases hm0
      | one hm0 h0 =>
        cases h2 with
        | agg hm2 _ => cases hm2
        | one hm2 h2 =>
          cases h2 with
          | fn hcap =>
            cases hcap
            cases h0 with
            | osl hβ hc hk ha =>
              rename_i b κ cap base
              obtain ⟨b', κ', hb', hor⟩ := hst.objs 0 _ rfl
              rw [hβ] at hb'
              cases hb'
              have hcap := hk rfl
              obtain ⟨hr, hz, hor⟩ := hor
              rcases hor with ⟨k0, _⟩ | ⟨k0, cc, sp, e, fz, hh, hf, hrv, hlen⟩
              · omega
              rcases ha with ha | ha
              · omega
              have hcc := rv_lst_inv hrv
              have hmm : (l.map (·.1)).map cellsE = l.map encE := by rw [List.map_map]; rfl
              rw [hmm] at hcc
              subst hcc
              have hlt : b < w.heap.size := (Array.getElem?_eq_some_iff.1 hh).1
              have hw := sort_walk l b cap w (holds_row hh hf) hlt (by omega)
              rw [hn] at hw
              rw [show poff [] + 0 * 64 = 0 from rfl] at ha
              subst ha
              refine hw.mono fun e' w' ⟨he, q, os, hw'⟩ => ⟨_, M, β, he, VR.tup .nil, ?_, fun o c hlk => rfl, fun o ho => rfl⟩
              have hlS : ((srtG l).map encE).flatten.length = (l.map encE).flatten.length := by rw [flat_len, flat_len, srtG_len]
              have hheap : w'.heap[b]? = some (.cells (((srtG l).map encE).flatten ++ sp).toArray e fz) := by
                rw [hw', heap_sort hh, flatK_list, putCells_head _ _ _ hlS]
              have hOR : OR M β b κ w' (.row (.lst 64 n (((srtG l).map (·.1)).map enV))) := by
                refine ⟨rfl, by show 0 < 64; decide, .inr ⟨k0, ((srtG l).map encE).flatten, sp, e, fz, hheap, ?_, ?_, ?_⟩⟩
                · rw [List.length_append, hlS, ← List.length_append]; exact hf
                · have := rv_lst (M := M) (β := β) (good_map (srtG l)) (show ((srtG l).map (·.1)).length = n by rw [List.length_map, srtG_len, hn])
                  rwa [show ((srtG l).map (·.1)).map cellsE = (srtG l).map encE by rw [List.map_map]; rfl] at this
                · rw [List.length_append, hlS, ← List.length_append]; exact hlen
              refine hst.next (BLe.refl _) ?_ (fun c => c = b) (fun c hc => by subst hc; exact hst.mine _ _ _ _ rfl hβ k0) (fun c hc hne => by rw [hw']; exact heap_sort_other hc hne) (by rw [hw']; rfl) (by rw [hw']; rfl) (by rw [hw']; rfl) (fun i obi hi => ?_) ?_
              · rw [hw']
                exact size_sortWorldK_c encE 64 w b 0 _ _ _
              · simp only [lk] at hi
                split at hi
                · rename_i c
                  subst c
                  cases hi
                  exact .inr ⟨b, κ, hβ, hOR, fun _ => .inl rfl⟩
                · cases hi
              · intro i j o1 o2 c κ1 κ2 g1 g2 _ _ _ _
                simp only [lk] at g1 g2
                split at g1
                · split at g2
                  · omega
                  · cases g2
                · cases g1
end Go.Proofs.YtololahjocfbeaaGreat
namespace Go.Proofs.YtololahjocfbeaaGreat
open Go Go.Sy Go.Proofs.Tryz Go.Shelf Go.RowKit Go.Sort
set_option maxRecDepth 100000
set_option maxHeartbeats 8000000
set_option linter.unusedSimpArgs false
set_option linter.unusedVariables false
theorem clone_walk_nil (cap : Nat) (w : World) : Calls Tryz.prog 191 #[.slice none 0 cap] w fun e w' => e = .returned (.slice none 0 0) ∧ ∃ os, w' = grow w os := by
  have q22 : ∀ (w : World) (a : Option Addr) (n c n' c' : Nat), (binOp .eql 126 (.slice a n c) (.slice none n' c')).run Tryz.prog w = .ok (.bool a.isNone) w := fun w a n c n' c' => Lib.run_eql_slice_nil w _ _ a n c n' c' Tryz.underlying126
  go_enter Tryz.func191, Tryz.ntmps191
  go_wp2
  go_ret
  exact ⟨rfl, #[], by rw [grow_empty]⟩
theorem clone_walk_some (a : Addr) (cap : Nat) (w : World) : Calls Tryz.prog 191 #[.slice (some a) 0 cap] w fun e w' => (∃ b, e = .returned (.slice b 0 0)) ∧ ∃ os, w' = grow w os := by
  have q22 : ∀ (w : World) (a : Option Addr) (n c n' c' : Nat), (binOp .eql 126 (.slice a n c) (.slice none n' c')).run Tryz.prog w = .ok (.bool a.isNone) w := fun w a n c n' c' => Lib.run_eql_slice_nil w _ _ a n c n' c' Tryz.underlying126
  go_enter Tryz.func191, Tryz.ntmps191
  go_wp2
  go_ret
  exact ⟨⟨_, rfl⟩, _, by rw [alloc_eq_grow]⟩
theorem clone_pos (l : List En) (n : Nat) (hn : l.length = n) (hn0 : 0 < n) (hl : n ≤ 1000) (hg : ∀ e ∈ l, goodE e) :
    FnC Tryz.prog 191 [.sl (.lst 64 n (l.map enV))] [] (.osl 0 [] 64 0 n) [(0, .row (.lst 64 n (l.map enV)))] := by
  have hle : (l.map enV).length = n := by rw [List.length_map, hn]
  refine fnN mix [] 0 1 [.tmp 2] Tryz.func191 rfl (by kernel_rfl) (by kernel_rfl) rfl (by kernel_rfl) (by kernel_rfl) (by simp) ?_
  simp -implicitDefEqProofs (disch := omega) only [go_sem, ↓reduceIte, hle]
  refine ⟨[(0, 1)], [], [], rfl, ?_, ?_, ?_⟩ <;> simp -implicitDefEqProofs (disch := omega) only [go_sem, ↓reduceIte]
theorem heap_grow {w : World} {os : Array Obj} {c : Nat} (hc : c < w.heap.size) : (grow w os).heap[c]? = w.heap[c]? := by
  show (w.heap ++ os)[c]? = _
  rw [Array.getElem?_append_left hc]
theorem clone_enters : Sy.Enters Tryz.prog 191 := ⟨_, Tryz.func191, by kernel_rfl, by kernel_rfl⟩
theorem clone_zero : FnC Tryz.prog 191 [.sl (.lst 64 0 [])] [] (.osl 0 [] 64 0 0) [(0, .row (.lst 64 0 []))] := by
  refine ⟨clone_enters, fun w M β xs hno hst hvr => ?_⟩
  cases hvr with
  | cons h0 h1 =>
    cases h1
    cases h0 with
    | agg hm0 _ => cases hm0
    | one hm0 h0 =>
      cases h0 with
      | sl h hr hl hc hm =>
        rename_i cc base len cap
        obtain rfl : len = 0 := hl.symm
        have key : Calls Tryz.prog 191 #[.slice base 0 cap] w fun e w' => (∃ b, e = .returned (.slice b 0 0)) ∧ ∃ os, w' = grow w os := by
          cases base with
          | none => exact (clone_walk_nil cap w).mono fun e w' h => ⟨⟨none, h.1⟩, h.2⟩
          | some a => exact clone_walk_some a cap w
        refine key.mono fun e w' ⟨⟨b, he⟩, os, hw⟩ => ⟨_, M, updB β 0 (0, 0), he, ?_, ?_, fun o c hlk => by cases hlk⟩
        · exact VR.one rfl (RV.osl (κ := 0) (updB_same _ _ _) (Nat.le_refl _) (fun _ => Nat.le_refl _) (.inl rfl))
        · subst hw
          refine hst.next (updB_le (hno 0 rfl) _) (by rw [size_grow]; omega) (fun _ => False) (fun _ hx => hx.elim) (fun c hc _ => heap_grow hc) rfl rfl rfl (fun i obi hi => ?_) ?_
          · simp only [lk] at hi
            split at hi
            · rename_i c
              subst c
              cases hi
              refine .inr ⟨0, 0, updB_same _ _ _, ⟨rfl, by show 0 < 64; decide, .inl ⟨rfl, rfl, RV.lst .nil (fun _ h => by cases h) rfl⟩⟩, fun h => absurd rfl h⟩
            · cases hi
          · intro i j o1 o2 c κ1 κ2 g1 g2 _ _ _ _
            simp only [lk] at g1 g2
            split at g1
            · split at g2
              · omega
              · cases g2
            · cases g1
theorem clone_spec (l : List En) (n : Nat) (hn : l.length = n) (hl : n ≤ 1000) (hg : ∀ e ∈ l, goodE e) :
    FnC Tryz.prog 191 [.sl (.lst 64 n (l.map enV))] [] (.osl 0 [] 64 0 n) [(0, .row (.lst 64 n (l.map enV)))] := by
  by_cases h : 0 < n
  · exact clone_pos l n hn h hl hg
  · obtain rfl : n = 0 := by omega
    obtain rfl : l = [] := List.length_eq_zero_iff.1 hn
    exact clone_zero
theorem sort_zero : FnK Tryz.prog [0] 192 [.osl 0 [] 64 0 0, .fn (.func 193) []] [(0, .row (.lst 64 0 []))] (.tup []) [(0, .row (.lst 64 0 []))] := by
  refine ⟨sort_enters, fun w M β xs hno hst hvr => ?_⟩
  cases hvr with
  | cons h0 h1 =>
    cases h1 with
    | cons h2 h3 =>
      cases h3
      cases h0 with
      | agg hm0 _ => cases hm0
      | one hm0 h0 =>
        cases h0 with
        | osl hβ hc hk ha =>
          rename_i x b κ cap base
          have h := AnyF.slices_SortFunc_none Tryz.sortEn base cap x w
          exact h.mono fun e w' ⟨he, hw⟩ => ⟨_, M, β, he, VR.tup .nil, by rw [hw]; exact hst, fun _ _ _ => rfl, fun _ _ => rfl⟩
theorem sort_spec (l : List GE) (n : Nat) (hn : l.length = n) (hl : n ≤ 1000) :
    FnK Tryz.prog [0] 192 [.osl 0 [] 64 0 n, .fn (.func 193) []] [(0, .row (.lst 64 n ((l.map (·.1)).map enV)))] (.tup []) [(0, .row (.lst 64 n (((srtG l).map (·.1)).map enV)))] := by
  by_cases h : 0 < n
  · exact sort_specG l n hn h hl
  · obtain rfl : n = 0 := by omega
    obtain rfl : l = [] := List.length_eq_zero_iff.1 hn
    have e : srtG [] = [] := List.length_eq_zero_iff.1 (srtG_len [])
    rw [e]
    exact sort_zero
end Go.Proofs.YtololahjocfbeaaGreat
namespace Go.Proofs.YtololahjocfbeaaGreat
open Go Go.Sy Go.Proofs.Tryz
set_option maxRecDepth 100000
set_option maxHeartbeats 8000000
set_option linter.unusedSimpArgs false
set_option linter.unusedVariables false
attribute [go_sem] pl129
def nodeP : Nat → List En → List Int
  | 0, [] => emptyD 0
  | 0, e :: _ => leafP e.1 e.2
  | k + 1, [] => emptyD (k + 1)
  | k + 1, e :: l => nodeL (nodeP k ((e :: l).take (cutN k (e :: l)))) (nodeP k ((e :: l).drop (cutN k (e :: l))))
theorem nodeP_nil (k : Nat) : nodeP k [] = emptyD k := by cases k <;> rfl
theorem nodeP_succ (k : Nat) {l : List En} (h : l ≠ []) : nodeP (k + 1) l = nodeL (nodeP k (l.take (cutN k l))) (nodeP k (l.drop (cutN k l))) := by
  cases l with
  | nil => exact absurd rfl h
  | cons e l => rfl
theorem nodeP_good : ∀ (k : Nat) (l : List En), goodD (nodeP k l)
  | 0, [] => emptyD_good 0
  | 0, _ :: _ => leafP_good _ _
  | k + 1, [] => emptyD_good _
  | k + 1, _ :: _ => nodeL_good _ _
theorem node_spec : ∀ (k : Nat), k ≤ 256 → ∀ (l : List En) (n : Nat), l.length = n → n ≤ 1000 → (∀ e ∈ l, goodE e) →
    FnC Tryz.prog 129 [.agg [.sl (.lst 32 257 ((empties 257).map dg))], .sl (.lst 64 n (l.map enV)), .int .i64 (k : Nat)] [] (.ints .u8 32 (nodeP k l)) [] := by
  intro k
  have l1 : ((empties 257).map dg).length = 257 := by rw [List.length_map, empties_len]
  induction k with
  | zero =>
    intro hk l n hn hl hg
    have g1 : ∀ K, getP ((empties 257).map dg) 0 K = K (.ints .u8 32 (emptyD 0)) := fun K => getP_map (f := dg) (empties_get (n := 257) (i := 0) (by omega)) K
    cases l with
    | nil =>
      obtain rfl : n = 0 := hn.symm
      refine fn0 mix pl129 0 3 [.cell 6 25] Tryz.func129 rfl (by kernel_rfl) (by kernel_rfl) rfl (by kernel_rfl) (by kernel_rfl) (by simp) ?_
      simp -implicitDefEqProofs (disch := omega) only [go_sem, ↓reduceIte, ↓g1, l1, nodeP_nil]
    | cons e l =>
      have g2 : ∀ K, getP ((e :: l).map enV) 0 K = K (.agg [.ints .u8 32 e.1, .ints .u8 32 e.2]) := fun K => getEn (l := e :: l) (i := 0) rfl K
      have hle : ((e :: l).map enV).length = n := by rw [List.length_map, hn]
      have hge := hg e (List.mem_cons_self ..)
      have hn0 : 0 < n := by rw [← hn]; simp
      have d0 : decide ((n : Int) = 0) = false := decide_eq_false (by omega)
      have hlf := leaf_spec17 e.1 e.2 hge.1 hge.2
      rw [show nodeP 0 (e :: l) = leafP e.1 e.2 from rfl]
      generalize (e :: l).map enV = R at *
      refine fn0 mix pl129 0 3 [.cell 6 25] Tryz.func129 rfl (by kernel_rfl) (by kernel_rfl) rfl (by kernel_rfl) (by kernel_rfl) (by simp) ?_
      simp -implicitDefEqProofs (disch := omega) only [go_sem, ↓reduceIte, d0, ↓g2, hle]
      refine call0 hlf ?_
      simp -implicitDefEqProofs (disch := omega) only [go_sem, ↓reduceIte]
  | succ k ih =>
    intro hk l n hn hl hg
    by_cases h0 : n = 0
    · subst h0
      obtain rfl : l = [] := List.length_eq_zero_iff.1 hn
      have g1 : ∀ K, getP ((empties 257).map dg) (k + 1) K = K (.ints .u8 32 (emptyD (k + 1))) := fun K => getP_map (f := dg) (empties_get (n := 257) (i := k + 1) (by omega)) K
      have ti : ((k : Int) + 1).toNat = k + 1 := by omega
      refine fn0 mix pl129 0 3 [.cell 6 25] Tryz.func129 rfl (by kernel_rfl) (by kernel_rfl) rfl (by kernel_rfl) (by kernel_rfl) (by simp) ?_
      simp -implicitDefEqProofs (disch := omega) only [go_sem, ↓reduceIte, ti, ↓g1, l1, nodeP_nil]
      omega
    · have hne : l ≠ [] := fun e => h0 (by rw [← hn, e]; rfl)
      have d0 : decide ((n : Int) = 0) = false := decide_eq_false (by omega)
      have d1 : decide ((k : Int) + 1 = 0) = false := decide_eq_false (by omega)
      have e1 : (k : Int) + 1 - 1 = k := by omega
      have hc := cutN_le k l
      have hcut := cut_spec k (by omega) l n hn hl hg
      have h1 := ih (by omega) (l.take (cutN k l)) (cutN k l) (by rw [List.length_take]; omega) (by omega) (fun e h => hg e (List.mem_of_mem_take h))
      have h2 := ih (by omega) (l.drop (cutN k l)) (n - cutN k l) (by rw [List.length_drop, hn]) (by omega) (fun e h => hg e (List.mem_of_mem_drop h))
      have hN := node_spec17 _ _ (nodeP_good k (l.take (cutN k l))) (nodeP_good k (l.drop (cutN k l)))
      rw [← nodeP_succ k hne] at hN
      rw [List.map_take] at h1
      rw [List.map_drop] at h2
      have hle : (l.map enV).length = n := by rw [List.length_map, hn]
      generalize cutN k l = c at *
      generalize l.map enV = R at *
      refine fn0 mix pl129 0 3 [.cell 6 25] Tryz.func129 rfl (by kernel_rfl) (by kernel_rfl) rfl (by kernel_rfl) (by kernel_rfl) (by simp) ?_
      simp -implicitDefEqProofs (disch := omega) only [go_sem, ↓reduceIte, d0, d1]
      refine call0 hcut ?_
      simp -implicitDefEqProofs (disch := omega) only [go_sem, ↓reduceIte, e1]
      by_cases hcn : c = n
      · have t1 : decide (c = n) = true := decide_eq_true hcn
        have t2 : decide (c = 0 ∧ n - c = n) = false := decide_eq_false (fun h => h0 (by omega))
        rw [show (R.take c) = R from List.take_of_length_le (by omega), hcn] at h1
        have h2' := h2
        rw [hcn] at h2 t2
        subst hcn
        have t3 : (R.drop c).take (c - c) = R.drop c := List.take_of_length_le (by rw [List.length_drop, hle]; exact Nat.le_refl _)
        simp -implicitDefEqProofs (disch := omega) only [go_sem, ↓reduceIte, t1, e1]
        refine call0 h1 ?_
        simp -implicitDefEqProofs (disch := omega) only [go_sem, ↓reduceIte, t2, t3, e1]
        refine call0 h2 ?_
        simp -implicitDefEqProofs (disch := omega) only [go_sem, ↓reduceIte]
        refine call0 hN ?_
        simp -implicitDefEqProofs (disch := omega) only [go_sem, ↓reduceIte]
      · have t1 : decide (c = n) = false := decide_eq_false hcn
        simp -implicitDefEqProofs (disch := omega) only [go_sem, ↓reduceIte, t1, Nat.sub_zero, List.drop_zero, e1]
        refine call0 h1 ?_
        by_cases hc0 : c = 0
        · subst hc0
          have t2 : decide (0 = 0 ∧ n - 0 = n) = true := decide_eq_true ⟨rfl, Nat.sub_zero n⟩
          simp only [Nat.sub_zero, List.drop_zero, List.take_zero] at h2 hN
          simp -implicitDefEqProofs (disch := omega) only [go_sem, ↓reduceIte, t2, e1]
          refine call0 h2 ?_
          simp -implicitDefEqProofs (disch := omega) only [go_sem, ↓reduceIte]
          refine call0 hN ?_
          simp -implicitDefEqProofs (disch := omega) only [go_sem, ↓reduceIte]
        · have t2 : decide (c = 0 ∧ n - c = n) = false := decide_eq_false (fun h => hc0 h.1)
          have t3 : (R.drop c).take (n - c) = R.drop c := List.take_of_length_le (by rw [List.length_drop, hle]; exact Nat.le_refl _)
          simp -implicitDefEqProofs (disch := omega) only [go_sem, ↓reduceIte, t2, t3, e1]
          refine call0 h2 ?_
          simp -implicitDefEqProofs (disch := omega) only [go_sem, ↓reduceIte]
          refine call0 hN ?_
          simp -implicitDefEqProofs (disch := omega) only [go_sem, ↓reduceIte]
def srtE (l : List En) (hg : ∀ e ∈ l, goodE e) : List En := (srtG (l.pmap (fun e h => (⟨e, h⟩ : GE)) hg)).map (·.1)
theorem srtE_perm (l : List En) (hg : ∀ e ∈ l, goodE e) : (srtE l hg).Perm l := by
  have h := ((srtG_both (l.pmap (fun e h => (⟨e, h⟩ : GE)) hg)).1).map (·.1)
  rw [val_pmap] at h
  exact h
theorem srtE_len (l : List En) (hg : ∀ e ∈ l, goodE e) : (srtE l hg).length = l.length := (srtE_perm l hg).length_eq
theorem srtE_good (l : List En) (hg : ∀ e ∈ l, goodE e) : ∀ e ∈ srtE l hg, goodE e := fun e he => hg e ((srtE_perm l hg).mem_iff.1 he)
theorem sort_specE (l : List En) (n : Nat) (hn : l.length = n) (hl : n ≤ 1000) (hg : ∀ e ∈ l, goodE e) :
    FnK Tryz.prog [0] 192 [.osl 0 [] 64 0 n, .fn (.func 193) []] [(0, .row (.lst 64 n (l.map enV)))] (.tup []) [(0, .row (.lst 64 n ((srtE l hg).map enV)))] := by
  have h := sort_spec (l.pmap (fun e h => (⟨e, h⟩ : GE)) hg) n (by rw [List.length_pmap, hn]) hl
  rw [val_pmap] at h
  exact h
theorem sorted_ok (l : List En) (n : Nat) (hn : l.length = n) (h : n ≤ 256) (hg : ∀ e ∈ l, goodE e) (hd : (l.map (·.1)).Nodup) :
    FnC Tryz.prog 127 [.sl (.lst 64 n (l.map enV))] [] (.tup [.osl 0 [] 64 0 n, .int .i64 0]) [(0, .row (.lst 64 n ((srtE l hg).map enV)))] := by
  have hle : (l.map enV).length = n := by rw [List.length_map, hn]
  have hcl := clone_spec l n hn (by omega) hg
  have hso := sort_specE l n hn (by omega) hg
  refine fnN mix [] 0 1 [.tmp 2, .tmp 3] Tryz.func127 rfl (by kernel_rfl) (by kernel_rfl) rfl (by kernel_rfl) (by kernel_rfl) (by simp) ?_
  simp -implicitDefEqProofs (disch := omega) only [go_sem, ↓reduceIte]
  refine brd (fun h1 => by omega) (fun h1 => ?_)
  simp -implicitDefEqProofs (disch := omega) only [go_sem, ↓reduceIte]
  refine loop (ι := Nat) 1 (fun i => i ≤ n) (fun i => [(0, .sl (.lst 64 n (l.map enV))), (4, .mp 0), (12, .sl (.lst 64 n (l.map enV))), (13, .int .i64 n), (14, .int .i64 i)]) (fun i => [(0, .map ((l.take i).map (·.1)))]) (fun i => n - i) 0 [(0, 0)] [] (Nat.zero_le _) rfl ?_ ?_ ?_ (fun i hi => ?_)
  · simp -implicitDefEqProofs (disch := omega) only [go_sem, ↓reduceIte]
  · simp -implicitDefEqProofs (disch := omega) only [go_sem, ↓reduceIte]
  · simp -implicitDefEqProofs (disch := omega) only [go_sem, ↓reduceIte, List.take_zero]
  simp -implicitDefEqProofs (disch := omega) only [go_sem, ↓reduceIte]
  refine brd (fun h5 => ?_) (fun h5 => ?_)
  · obtain ⟨x, hx⟩ : ∃ x, l[i]? = some x := ⟨_, List.getElem?_eq_getElem (by omega)⟩
    have g1 := fun K => getEn hx K
    have hsub : ((l.take (i + 1)).map (·.1)).Nodup := List.Nodup.sublist ((List.take_sublist (i + 1) l).map _) hd
    have htk : (l.take (i + 1)).map (·.1) = (l.take i).map (·.1) ++ [x.1] := by rw [List.take_add_one, hx]; simp
    rw [htk, List.nodup_append] at hsub
    have hb : decide (x.1 ∈ (l.take i).map (·.1)) = false := decide_eq_false fun hin => hsub.2.2 _ hin _ (List.mem_singleton.2 rfl) rfl
    simp -implicitDefEqProofs (disch := omega) only [go_sem, ↓reduceIte, ↓g1, hle, hb]
    refine ⟨i + 1, [(0, 0)], [], [], by dsimp only; omega, by dsimp only; omega, rfl, ?_, ?_, ?_⟩ <;> simp -implicitDefEqProofs (disch := omega) only [go_sem, ↓reduceIte, htk]
  · obtain rfl : i = n := by omega
    simp -implicitDefEqProofs (disch := omega) only [go_sem, ↓reduceIte]
    refine callF 1 hcl ?_
    simp -implicitDefEqProofs (disch := omega) only [go_sem, ↓reduceIte]
    refine callK false [(0, 1)] [(0, 1)] 2 hso ?_ ?_
    · simp [keys]
    simp -implicitDefEqProofs (disch := omega) only [go_sem, ↓reduceIte]
    refine ⟨[(0, 1)], [], [], rfl, ?_, ?_, ?_⟩ <;> simp -implicitDefEqProofs (disch := omega) only [go_sem, ↓reduceIte]
theorem root_ok (l : List En) (n : Nat) (hn : l.length = n) (h : n ≤ 256) (hg : ∀ e ∈ l, goodE e) (hd : (l.map (·.1)).Nodup) :
    FnC Tryz.prog 75 [.sl (.lst 64 n (l.map enV))] [] (.tup [.ints .u8 32 (nodeP 256 (srtE l hg)), .int .i64 0]) [] := by
  have hs := sorted_ok l n hn h hg hd
  have hN := node_spec 256 (by decide) (srtE l hg) n (by rw [srtE_len, hn]) (by omega) (srtE_good l hg)
  refine fn0 mix [] 0 1 [.cell 2 25, .tmp 3] Tryz.func75 rfl (by kernel_rfl) (by kernel_rfl) rfl (by kernel_rfl) (by kernel_rfl) (by simp) ?_
  simp -implicitDefEqProofs (disch := omega) only [go_sem, ↓reduceIte]
  refine callF 1 hs ?_
  simp -implicitDefEqProofs (disch := omega) only [go_sem, ↓reduceIte]
  refine callF 1 empty17_spec ?_
  simp -implicitDefEqProofs (disch := omega) only [go_sem, ↓reduceIte]
  refine callB hN ?_ ?_
  · simp -implicitDefEqProofs (disch := omega) only [go_sem, ↓reduceIte]
  simp -implicitDefEqProofs (disch := omega) only [go_sem, ↓reduceIte]
end Go.Proofs.YtololahjocfbeaaGreat
