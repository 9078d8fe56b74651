/- The walk of DiskKeeps. -/
import Derived.Test.YtjaailbgeadnnaaGreatDisk4
namespace Go.Proofs.YtjaailbgeadnnaaGreat
open Go Go.Sy Go.Proofs.Tryz
set_option maxRecDepth 100000
set_option maxHeartbeats 8000000
set_option linter.unusedSimpArgs false
set_option linter.unusedVariables false

theorem failed_calm {D : DS} (h : D.set = false) : failedD D = (false, { D with left := IntKind.i64.wrap (D.left - 1) }) := by
  unfold failedD
  rw [if_neg (fun c => by rw [h] at c; cases c.1)]
theorem write_calm (D : DS) (h : okD D) (hw : D.wait.length ≤ 90000) (ho : D.off = false) (hs : D.set = false) (I : Nat) (hi : thereD D I) (t : List Int) (ht : t.length = D.sz) :
    FnC Tryz.prog 86 [.ref 0 [], .int .i64 I, .sl (.ints .u8 D.sz t)] (dskO 1 2 D) (.int .i64 0) (dskO 3 4 { D with wait := D.wait ++ [(I, t)], left := IntKind.i64.wrap (D.left - 1) }) := by
  have hk := write_ok D h hw ho I hi t ht
  rw [failed_calm (show ({ D with wait := D.wait ++ [(I, t)] } : DS).set = false from hs)] at hk
  rw [if_neg (by simp)] at hk
  exact hk
theorem sync_calm (D : DS) (h : okD D) (ho : D.off = false) (hs : D.set = false) :
    FnC Tryz.prog 87 [.ref 0 []] (dskO 1 2 D) (.int .i64 0) (dskO 3 4 { D with left := IntKind.i64.wrap (D.left - 1), b := syncB D.sz D.wait D.b, wait := [] }) := by
  have hk := sync_spec D h
  unfold syncD at hk
  rw [if_neg (by rw [ho]; simp), failed_calm hs, if_neg (by simp)] at hk
  exact hk
theorem crash_own (D : DS) (h : okD D) (ks : List Int) (nk : Nat) (hk : ks.length = nk) (hkl : nk ≤ 9223372036854775807) : FnC Tryz.prog 156 [.ref 0 [], .osl 5 [] 1 0 nk] ((5, .row (.ints .i64 nk ks)) :: dskO 1 2 D) (.tup []) (dskO 3 4 (crashD D ks)) := by
  refine (crash_spec D h ks nk hk hkl).sub [(0, 0), (1, 1), (2, 2)] [] [5] rfl ?_ ?_
  · simp (implicitDefEqProofs := false) (disch := omega) only [go_sem, ↓reduceIte]
  · simp (implicitDefEqProofs := false) (disch := omega) only [go_sem, ↓reduceIte]
theorem write_own (D : DS) (h : okD D) (hw : D.wait.length ≤ 90000) (ho : D.off = false) (hs : D.set = false) (I : Nat) (hi : thereD D I) (t : List Int) (ht : t.length = D.sz) :
    FnC Tryz.prog 86 [.ref 0 [], .int .i64 I, .osl 5 [] 1 0 D.sz] ((5, .row (.ints .u8 D.sz t)) :: dskO 1 2 D) (.int .i64 0) (dskO 3 4 { D with wait := D.wait ++ [(I, t)], left := IntKind.i64.wrap (D.left - 1) }) := by
  refine (write_calm D h hw ho hs I hi t ht).sub [(0, 0), (1, 1), (2, 2)] [] [5] rfl ?_ ?_
  · simp (implicitDefEqProofs := false) (disch := omega) only [go_sem, ↓reduceIte]
  · simp (implicitDefEqProofs := false) (disch := omega) only [go_sem, ↓reduceIte]
theorem putB_getD {sz : Nat} {b : List Int} {at' : Nat} {t : List Int} {m j : Nat} (h : at' * sz + m ≤ b.length) (hm : m ≤ t.length) : (putB sz b at' t m).getD (at' * sz + j) 0 = if j < m then t.getD j 0 else b.getD (at' * sz + j) 0 := by
  unfold putB
  simp only [List.getD]
  have e1 : (b.take (at' * sz)).length = at' * sz := by rw [List.length_take]; omega
  have e2 : (t.take m).length = m := by rw [List.length_take]; omega
  rw [List.getElem?_append_right (by omega), e1, show at' * sz + j - at' * sz = j by omega]
  by_cases c : j < m
  · rw [if_pos c, List.getElem?_append_left (by omega), List.getElem?_take, if_pos c]
  · rw [if_neg c, List.getElem?_append_right (by omega), e2, List.getElem?_drop, show at' * sz + m + (j - m) = at' * sz + j by omega]
theorem sect_getD {b : List Int} {a z j : Nat} (h : j < z) : ((b.drop a).take z).getD j 0 = b.getD (a + j) 0 := by
  simp only [List.getD, List.getElem?_take, List.getElem?_drop, if_pos h]
end Go.Proofs.YtjaailbgeadnnaaGreat
