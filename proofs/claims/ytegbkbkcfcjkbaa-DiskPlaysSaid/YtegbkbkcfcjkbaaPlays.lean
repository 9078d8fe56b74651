/- What any deeds come to on a disk: one deed. -/
import Derived.Test.YtegbkbkcfcjkbaaRefD3
import Derived.Test.YtegbkbkcfcjkbaaDisk5
namespace Go.Proofs.Ytegbkbkcfcjkbaa
open Go Go.Sy Go.Proofs.Try
set_option maxRecDepth 100000
set_option maxHeartbeats 8000000
set_option linter.unusedSimpArgs false
set_option linter.unusedVariables false
attribute [go_sem] pl22
abbrev plO (a b c d e ns : Nat) (D : DS) : OO := [(0, .var (dskV a b D)), (a, .row (.ints .u8 D.b.length D.b)), (b, .row (.lst 2 D.wait.length (D.wait.map wtV))),
  (1, .var (refV c d e ns D)), (c, .row (.lst 1 ns ((chunks D.sz ns D.b).map strU))), (d, .row (.ints .i64 D.wait.length (D.wait.map fun w => (w.1 : Int)))), (e, .row (.lst 1 D.wait.length (D.wait.map fun w => strU w.2)))]
attribute [go_sem] plO
attribute [simp] plO
theorem failedD_ok {D : DS} (h : okD D) : okD (failedD D).2 := by
  unfold failedD
  split
  · exact crashD_ok h _
  · exact ⟨h.sz1, h.sz2, h.bl, h.wl, h.kl, h.wt⟩
theorem putB_len' {sz : Nat} {b t : List Int} {at' m : Nat} (hw : at' * sz + sz ≤ b.length ∧ t.length = sz) (hm : m ≤ sz) : (putB sz b at' t m).length = b.length := putB_len (by omega) (by omega)
theorem crashB_len {sz nb : Nat} : ∀ (W : List (Nat × List Int)) (ks b : List Int), b.length = nb → (∀ w ∈ W, w.1 * sz + sz ≤ nb ∧ w.2.length = sz) → (crashB sz W ks b).length = nb
  | [], _, _, h, _ => h
  | _ :: _, [], _, h, _ => h
  | w :: W, k :: ks, b, h, hw => by
    have hw0 := hw w (List.mem_cons_self ..)
    rw [crashB]
    exact crashB_len W ks _ (by rw [putB_len' (by rw [h]; exact hw0) (kept_le _ _), h]) (fun w' h' => hw w' (List.mem_cons_of_mem _ h'))
theorem syncB_len {sz nb : Nat} : ∀ (W : List (Nat × List Int)) (b : List Int), b.length = nb → (∀ w ∈ W, w.1 * sz + sz ≤ nb ∧ w.2.length = sz) → (syncB sz W b).length = nb
  | [], _, h, _ => h
  | w :: W, b, h, hw => by
    have hw0 := hw w (List.mem_cons_self ..)
    exact syncB_len W _ (by rw [putB_len' (by rw [h]; exact hw0) (Nat.le_refl _), h]) (fun w' h' => hw w' (List.mem_cons_of_mem _ h'))
theorem crashD_okR {ns : Nat} {D : DS} (h : okD D) (hr : okR ns D) (ks : List Int) : okR ns (crashD D ks) := by
  unfold crashD
  split
  · exact hr
  · exact ⟨hr.n1, by dsimp only; rw [crashB_len _ _ _ rfl h.wt]; exact hr.bl, fun e => by cases e⟩
theorem failedD_okR {ns : Nat} {D : DS} (h : okD D) (hr : okR ns D) : okR ns (failedD D).2 := by
  unfold failedD
  split
  · exact crashD_okR h hr _
  · rename_i c
    refine ⟨hr.n1, hr.bl, fun e => ?_⟩
    have hl := hr.lf e
    have h0 : D.left ≠ 0 := fun e0 => c ⟨e, e0⟩
    dsimp only
    rw [wrap_i64 (by omega) (by omega)]
    omega
theorem failedD_wl (D : DS) : (failedD D).2.wait.length ≤ D.wait.length := by
  unfold failedD
  split
  · unfold crashD; split
    · exact Nat.le_refl _
    · exact Nat.zero_le _
  · exact Nat.le_refl _
theorem failedD_sz (D : DS) : (failedD D).2.sz = D.sz := by
  unfold failedD
  split
  · unfold crashD; split <;> rfl
  · rfl
/-- All that is kept. -/
structure okP (ns sz m : Nat) (D : DS) : Prop where
  d : okD D
  r : okR ns D
  s : D.sz = sz
  w : D.wait.length ≤ m
theorem okP.le {ns sz m m' : Nat} {D : DS} (h : okP ns sz m D) (hm : m ≤ m') : okP ns sz m' D := ⟨h.d, h.r, h.s, Nat.le_trans h.w hm⟩
theorem writeD_okP {ns sz m : Nat} {D : DS} (h : okP ns sz m D) (hm : m ≤ 90000) (i : Int) (t : List Int) : okP ns sz (m + 1) (writeD D i t).2 := by
  unfold writeD
  split
  · exact h.le (Nat.le_succ _)
  split
  · rename_i c
    obtain ⟨I, rfl, hI⟩ := there_at h.d c.1
    rw [Int.toNat_natCast]
    have hw := h.w
    have o1 := okD_wait h.d (by omega) hI c.2
    have o2 : okR ns { D with wait := D.wait ++ [(I, t)] } := ⟨h.r.n1, h.r.bl, h.r.lf⟩
    have hl := failedD_wl { D with wait := D.wait ++ [(I, t)] }
    exact ⟨failedD_ok o1, failedD_okR o1 o2, by rw [failedD_sz]; exact h.s, by simp at hl; dsimp only; omega⟩
  · exact h.le (Nat.le_succ _)
theorem syncD_okP {ns sz m : Nat} {D : DS} (h : okP ns sz m D) : okP ns sz m (syncD D).2 := by
  have hl := failedD_wl D
  have hw := h.w
  have o1 := failedD_ok h.d
  have o2 := failedD_okR h.d h.r
  unfold syncD
  split
  · exact h
  split
  · exact ⟨o1, o2, by rw [failedD_sz]; exact h.s, by dsimp only; omega⟩
  · rename_i c
    rw [Bool.not_eq_true] at c
    rw [failed_b c] at o2 ⊢
    have e := syncB_len D.wait D.b rfl h.d.wt
    exact ⟨⟨h.d.sz1, h.d.sz2, by dsimp only; rw [e]; exact h.d.bl, Nat.zero_le _, h.d.kl, fun w hw => by cases hw⟩, ⟨h.r.n1, by dsimp only; rw [e]; exact h.r.bl, o2.lf⟩, h.s, Nat.zero_le _⟩
theorem crashD_okP {ns sz m : Nat} {D : DS} (h : okP ns sz m D) (ks : List Int) : okP ns sz m (crashD D ks) :=
  ⟨crashD_ok h.d ks, crashD_okR h.d h.r ks, by unfold crashD; split <;> exact h.s, by
    have := h.w
    unfold crashD; split
    · exact h.w
    · exact Nat.zero_le _⟩
theorem bootD_okP {ns sz m : Nat} {D : DS} (h : okP ns sz m D) : okP ns sz m (bootD D) :=
  ⟨⟨h.d.sz1, h.d.sz2, h.d.bl, h.d.wl, h.d.kl, h.d.wt⟩, ⟨h.r.n1, h.r.bl, fun e => by cases e⟩, h.s, h.w⟩
theorem failD_okP {ns sz m : Nat} {D : DS} (h : okP ns sz m D) (a : Int) (ks : List Int) (ha : a < 9223372036854775808) (hk : ks.length ≤ 1000000) : okP ns sz m (failD D a ks) := by
  unfold failD
  split
  · exact h
  · exact ⟨⟨h.d.sz1, h.d.sz2, h.d.bl, h.d.wl, by dsimp only; omega, h.d.wt⟩, ⟨h.r.n1, h.r.bl, fun e => ⟨of_decide_eq_true e, ha⟩⟩, h.s, h.w⟩
theorem restD_okP {ns sz m : Nat} {D : DS} (h : okP ns sz m D) (t : List Int) (ht : t.length = ns * sz) : okP ns sz m (restD D t) := by
  have h1 := h.r.bl
  have h2 := h.s
  have h3 := h.d.bl
  rw [h2] at h1
  refine ⟨⟨h.d.sz1, h.d.sz2, ?_, Nat.zero_le _, h.d.kl, fun w hw => by cases hw⟩, ⟨h.r.n1, ?_, h.r.lf⟩, h.s, Nat.zero_le _⟩
  · show t.length ≤ 32768; omega
  · show t.length = ns * D.sz; rw [h2]; exact ht
def backU (s : List UInt8) : List Int := s.map fun x => (x.toNat : Int)
theorem toU_back (s : List UInt8) : toU (backU s) = s := by
  unfold toU backU
  rw [List.map_map]
  conv => rhs; rw [← List.map_id s]
  apply List.map_congr_left
  intro x _
  simp
def textW (sz : Nat) (n : Int) (b : List Int) : List Int := if 0 < b.length ∧ n.tmod 2 = 0 then (b ++ List.replicate sz 0).take sz else b
def playD (ns : Nat) (D : DS) (img : List UInt8) (w n : Int) (b ks : List Int) : DS × List UInt8 :=
  if w = 0 then ((writeD D n (textW D.sz n b)).2, img) else if w = 1 then (D, img) else if w = 2 then ((syncD D).2, img) else if w = 3 then (failD D n ks, img) else if w = 4 then (crashD D ks, img)
  else if w = 5 then (bootD D, img) else if w = 6 then (D, toU D.b) else if w = 7 then (if img.length = ns * D.sz then (restD D (backU img), img) else (D, img))
  else if w = 8 then (if b.length = ns * D.sz then (restD D b, img) else (D, img)) else (D, img)
theorem playD_okP {ns sz m : Nat} {D : DS} (h : okP ns sz m D) (hm : m ≤ 90000) (img : List UInt8) (w n : Int) (b ks : List Int) (hn : n < 9223372036854775808) (hk : ks.length ≤ 1000000) : okP ns sz (m + 1) (playD ns D img w n b ks).1 := by
  have hs := h.s
  have hl := h.le (Nat.le_succ m)
  unfold playD
  split; · exact writeD_okP h hm _ _
  split; · exact hl
  split; · exact (syncD_okP h).le (Nat.le_succ m)
  split; · exact (failD_okP h n ks hn hk).le (Nat.le_succ m)
  split; · exact (crashD_okP h ks).le (Nat.le_succ m)
  split; · exact (bootD_okP h).le (Nat.le_succ m)
  split; · exact hl
  split
  · split
    · rename_i c; rw [hs] at c
      exact (restD_okP h _ (by unfold backU; rw [List.length_map]; exact c)).le (Nat.le_succ m)
    · exact hl
  split
  · split
    · rename_i c; rw [hs] at c
      exact (restD_okP h _ c).le (Nat.le_succ m)
    · exact hl
  exact hl
theorem restore_own (D : DS) (h : okD D) (t : List Int) (n : Nat) (hn : t.length = n) (hd : n = D.b.length) : FnC Try.prog 64 [.ref 0 [], .osl 5 [] 1 0 n] ((5, .row (.ints .u8 n t)) :: dskO 1 2 D) (.int .i64 0) (dskO 3 4 (restD D t)) := by
  have h3 := h.bl
  have hk := restore_spec D h t n hn (by omega)
  rw [if_pos hd, if_pos hd] at hk
  refine hk.sub [(0, 0), (1, 1), (2, 2)] [] [5] rfl ?_ ?_
  · simp (implicitDefEqProofs := false) (disch := omega) only [go_sem, ↓reduceIte]
  · simp (implicitDefEqProofs := false) (disch := omega) only [go_sem, ↓reduceIte]
def plST : List (Nat × Plan) := (100006, []) :: (23, [(0, [], none), (1, [], some [122]), (2, [0, 1], none), (3, [], some [124]), (5, [0, 1, 2, 3], none), (6, [], some [127]), (4, [5, 6], none), (7, [], none), (8, [4, 7], none), (9, [], none)]) :: pl22
attribute [go_sem] plST
theorem step_spec (ns : Nat) (D : DS) (m : Nat) (h : okP ns D.sz m D) (hm : m ≤ 80000) (img : List UInt8) (hil : img.length ≤ 32768) (w n : Int) (b ks : List Int) (nb nk : Nat) (hnb : b.length = nb) (hnk : ks.length = nk) (hbl : nb ≤ 600) (hkl : nk ≤ 60)
    (hn : -9223372036854775808 ≤ n ∧ n < 9223372036854775808) :
    FnC Try.prog 22 [.ref 0 [], .ref 1 [], .agg [.int .i64 w, .int .i64 n, .sl (.ints .u8 nb b), .sl (.ints .i64 nk ks)], .str img] (plO 2 3 4 5 6 ns D) (.tup [.str (playD ns D img w n b ks).2, .bool true]) (plO 7 8 9 10 11 ns (playD ns D img w n b ks).1) := by
  obtain ⟨hd, hr, _, hwl⟩ := h
  have hs1 := hd.sz1
  have hs2 := hd.sz2
  have hbb := hd.bl
  have hrb := hr.bl
  have hn1 := hr.n1
  unfold playD
  refine fnV mix plST 2 7 4 [.tmp 8, .tmp 9] Try.func22 rfl (by kernel_rfl) (by kernel_rfl) rfl (by kernel_rfl) (by kernel_rfl) (by simp) rfl rfl ?_
  by_cases w0 : w = 0
  · subst w0
    rw [if_pos rfl]
    obtain ⟨T, hT⟩ : ∃ T, T = textW D.sz n b := ⟨_, rfl⟩
    rw [← hT]
    obtain ⟨nt, hnt⟩ : ∃ k, T.length = k := ⟨_, rfl⟩
    have hntl : nt ≤ 600 := by
      rw [← hnt, hT]; unfold textW; split
      · rw [List.length_take]; omega
      · omega
    have k1 := write_spec D hd (by omega) n T nt hnt (by omega)
    have k2 := refwrite_spec ns D hd hr (by omega) n T nt hnt (by omega)
    generalize writeD D n T = R at *
    obtain ⟨e, D'⟩ := R
    dsimp only at k1 k2 ⊢
    unfold textW at hT
    simp (implicitDefEqProofs := false) (disch := omega) only [go_sem, ↓reduceIte]
    by_cases c1 : 0 < nb
    · have d1 : decide ((0 : Int) < (nb : Int)) = true := decide_eq_true (by omega)
      by_cases c2 : n.tmod 2 = 0
      · have d2 : decide (n.tmod 2 = 0) = true := decide_eq_true c2
        rw [if_pos ⟨by omega, c2⟩] at hT
        have et : nt = D.sz := by rw [← hnt, hT, List.length_take, List.length_append, List.length_replicate]; omega
        subst et
        have d3 : decide (D.sz = nb + D.sz) = false := decide_eq_false (by omega)
        simp (implicitDefEqProofs := false) (disch := omega) only [go_sem, ↓reduceIte, d1, d2, List.nil_append]
        refine cut 8 [(0, .ref 0 []), (1, .ref 1 []), (3, .str img), (6, .ref 7 []), (10, .sl (.ints .u8 D.sz T))] ((7, .var (.agg [.int .i64 0, .int .i64 n, .sl (.ints .u8 nb b), .sl (.ints .i64 nk ks)])) :: plO 2 3 4 5 6 ns D) [(0, 0), (1, 1), (2, 2), (3, 3), (4, 4), (5, 5), (6, 6), (7, 7)] [] [10] rfl ?_ ?_ ?_ ?_
        · simp (implicitDefEqProofs := false) (disch := omega) only [go_sem, ↓reduceIte]
        · simp (implicitDefEqProofs := false) (disch := omega) only [go_sem, ↓reduceIte, d3, hT, Nat.le_add_left]
        · simp (implicitDefEqProofs := false) (disch := omega) only [go_sem, ↓reduceIte]
        simp (implicitDefEqProofs := false) (disch := omega) only [go_sem, ↓reduceIte]
        refine callG false [(0, 0), (1, 2), (2, 3)] [(0, 0), (3, 8), (4, 9)] 10 k1 ?_ ?_
        · simp [keys]
        simp (implicitDefEqProofs := false) (disch := omega) only [go_sem, ↓reduceIte]
        refine callG false [(0, 1), (1, 4), (2, 5), (3, 6)] [(0, 1), (4, 10), (5, 11), (6, 12)] 13 k2 ?_ ?_
        · simp [keys]
        simp (implicitDefEqProofs := false) (disch := omega) only [go_sem, ↓reduceIte]
        refine ⟨[(0, 0), (1, 1), (7, 8), (8, 9), (9, 10), (10, 11), (11, 12)], [], [], rfl, ?_, ?_, ?_⟩ <;> simp (implicitDefEqProofs := false) (disch := omega) only [go_sem, ↓reduceIte]
      · have d2 : decide (n.tmod 2 = 0) = false := decide_eq_false c2
        rw [if_neg (fun e => c2 e.2)] at hT
        subst hT
        obtain rfl : nb = nt := by omega
        simp (implicitDefEqProofs := false) (disch := omega) only [go_sem, ↓reduceIte, d1, d2]
        refine cut 8 [(0, .ref 0 []), (1, .ref 1 []), (3, .str img), (6, .ref 7 []), (10, .sl (.ints .u8 nb T))] ((7, .var (.agg [.int .i64 0, .int .i64 n, .sl (.ints .u8 nb T), .sl (.ints .i64 nk ks)])) :: plO 2 3 4 5 6 ns D) [(0, 0), (1, 1), (2, 2), (3, 3), (4, 4), (5, 5), (6, 6), (7, 7)] [] [] rfl ?_ ?_ ?_ ?_
        · simp (implicitDefEqProofs := false) (disch := omega) only [go_sem, ↓reduceIte]
        · simp (implicitDefEqProofs := false) (disch := omega) only [go_sem, ↓reduceIte]
        · simp (implicitDefEqProofs := false) (disch := omega) only [go_sem, ↓reduceIte]
        simp (implicitDefEqProofs := false) (disch := omega) only [go_sem, ↓reduceIte]
        refine callG false [(0, 0), (1, 2), (2, 3)] [(0, 0), (3, 8), (4, 9)] 10 k1 ?_ ?_
        · simp [keys]
        simp (implicitDefEqProofs := false) (disch := omega) only [go_sem, ↓reduceIte]
        refine callG false [(0, 1), (1, 4), (2, 5), (3, 6)] [(0, 1), (4, 10), (5, 11), (6, 12)] 13 k2 ?_ ?_
        · simp [keys]
        simp (implicitDefEqProofs := false) (disch := omega) only [go_sem, ↓reduceIte]
        refine ⟨[(0, 0), (1, 1), (7, 8), (8, 9), (9, 10), (10, 11), (11, 12)], [], [], rfl, ?_, ?_, ?_⟩ <;> simp (implicitDefEqProofs := false) (disch := omega) only [go_sem, ↓reduceIte]
    · have d1 : decide ((0 : Int) < (nb : Int)) = false := decide_eq_false (by omega)
      rw [if_neg (fun e => c1 (by omega))] at hT
      subst hT
      obtain rfl : nb = nt := by omega
      simp (implicitDefEqProofs := false) (disch := omega) only [go_sem, ↓reduceIte, d1]
      refine cut 8 [(0, .ref 0 []), (1, .ref 1 []), (3, .str img), (6, .ref 7 []), (10, .sl (.ints .u8 nb T))] ((7, .var (.agg [.int .i64 0, .int .i64 n, .sl (.ints .u8 nb T), .sl (.ints .i64 nk ks)])) :: plO 2 3 4 5 6 ns D) [(0, 0), (1, 1), (2, 2), (3, 3), (4, 4), (5, 5), (6, 6), (7, 7)] [] [] rfl ?_ ?_ ?_ ?_
      · simp (implicitDefEqProofs := false) (disch := omega) only [go_sem, ↓reduceIte]
      · simp (implicitDefEqProofs := false) (disch := omega) only [go_sem, ↓reduceIte]
      · simp (implicitDefEqProofs := false) (disch := omega) only [go_sem, ↓reduceIte]
      simp (implicitDefEqProofs := false) (disch := omega) only [go_sem, ↓reduceIte]
      refine callG false [(0, 0), (1, 2), (2, 3)] [(0, 0), (3, 8), (4, 9)] 10 k1 ?_ ?_
      · simp [keys]
      simp (implicitDefEqProofs := false) (disch := omega) only [go_sem, ↓reduceIte]
      refine callG false [(0, 1), (1, 4), (2, 5), (3, 6)] [(0, 1), (4, 10), (5, 11), (6, 12)] 13 k2 ?_ ?_
      · simp [keys]
      simp (implicitDefEqProofs := false) (disch := omega) only [go_sem, ↓reduceIte]
      refine ⟨[(0, 0), (1, 1), (7, 8), (8, 9), (9, 10), (10, 11), (11, 12)], [], [], rfl, ?_, ?_, ?_⟩ <;> simp (implicitDefEqProofs := false) (disch := omega) only [go_sem, ↓reduceIte]
  rw [if_neg w0]
  by_cases w1 : w = 1
  · subst w1
    rw [if_pos rfl]
    simp (implicitDefEqProofs := false) (disch := omega) only [go_sem, ↓reduceIte]
    by_cases ho : D.off = true
    · have hi0 := hs1
      refine callG false [(0, 0), (1, 2), (2, 3)] [(0, 0), (3, 8), (4, 9)] 10 (read_off D ho n) ?_ ?_
      · simp [keys]
      simp (implicitDefEqProofs := false) (disch := omega) only [go_sem, ↓reduceIte]
      refine callG false [(0, 1), (1, 4), (2, 5), (3, 6)] [(0, 1), (4, 10), (5, 11), (6, 12)] 13 (refread_off ns D ho n) ?_ ?_
      · simp [keys]
      simp (implicitDefEqProofs := false) (disch := omega) only [go_sem, ↓reduceIte]
      refine ⟨[(0, 0), (1, 1), (7, 8), (8, 9), (9, 10), (10, 11), (11, 12)], [], [], rfl, ?_, ?_, ?_⟩ <;> simp (implicitDefEqProofs := false) (disch := omega) only [go_sem, ↓reduceIte]
    rw [Bool.not_eq_true] at ho
    by_cases ht : thereD D n
    · obtain ⟨I, rfl, hI⟩ := there_at hd ht
      have k1 := read_ok D hd ho I ht
      have k2 := refread_ok ns D hd hr ho I ht
      generalize readB D I = X at *
      refine callG false [(0, 0), (1, 2), (2, 3)] [(0, 0), (3, 8), (4, 9), (5, 10)] 11 k1 ?_ ?_
      · simp [keys]
      simp (implicitDefEqProofs := false) (disch := omega) only [go_sem, ↓reduceIte]
      refine callG false [(0, 1), (1, 4), (2, 5), (3, 6)] [(0, 1), (4, 11), (5, 12), (6, 13)] 14 k2 ?_ ?_
      · simp [keys]
      simp (implicitDefEqProofs := false) (disch := omega) only [go_sem, ↓reduceIte]
      simp (implicitDefEqProofs := false) (disch := omega) only [go_sem, ↓reduceIte, toU]
      refine ⟨[(0, 0), (1, 1), (7, 8), (8, 9), (9, 11), (10, 12), (11, 13)], [], [], rfl, ?_, ?_, ?_⟩ <;> simp (implicitDefEqProofs := false) (disch := omega) only [go_sem, ↓reduceIte]
    · have hi0 := hs1
      refine callG false [(0, 0), (1, 2), (2, 3)] [(0, 0), (3, 8), (4, 9)] 10 (read_arg D hd ho n ht) ?_ ?_
      · simp [keys]
      simp (implicitDefEqProofs := false) (disch := omega) only [go_sem, ↓reduceIte]
      refine callG false [(0, 1), (1, 4), (2, 5), (3, 6)] [(0, 1), (4, 10), (5, 11), (6, 12)] 13 (refread_arg ns D hd hr ho n ht) ?_ ?_
      · simp [keys]
      simp (implicitDefEqProofs := false) (disch := omega) only [go_sem, ↓reduceIte]
      refine ⟨[(0, 0), (1, 1), (7, 8), (8, 9), (9, 10), (10, 11), (11, 12)], [], [], rfl, ?_, ?_, ?_⟩ <;> simp (implicitDefEqProofs := false) (disch := omega) only [go_sem, ↓reduceIte]
  rw [if_neg w1]
  by_cases w2 : w = 2
  · subst w2
    rw [if_pos rfl]
    have k1 := sync_spec D hd
    have k2 := refsync_spec ns D hd hr
    generalize syncD D = R at *
    obtain ⟨e, D'⟩ := R
    dsimp only at k1 k2 ⊢
    simp (implicitDefEqProofs := false) (disch := omega) only [go_sem, ↓reduceIte]
    refine callG false [(0, 0), (1, 2), (2, 3)] [(0, 0), (3, 8), (4, 9)] 10 k1 ?_ ?_
    · simp [keys]
    simp (implicitDefEqProofs := false) (disch := omega) only [go_sem, ↓reduceIte]
    refine callG false [(0, 1), (1, 4), (2, 5), (3, 6)] [(0, 1), (4, 10), (5, 11), (6, 12)] 13 k2 ?_ ?_
    · simp [keys]
    simp (implicitDefEqProofs := false) (disch := omega) only [go_sem, ↓reduceIte]
    refine ⟨[(0, 0), (1, 1), (7, 8), (8, 9), (9, 10), (10, 11), (11, 12)], [], [], rfl, ?_, ?_, ?_⟩ <;> simp (implicitDefEqProofs := false) (disch := omega) only [go_sem, ↓reduceIte]
  rw [if_neg w2]
  by_cases w3 : w = 3
  · subst w3
    rw [if_pos rfl]
    have k1 := fail_spec D n ks (by omega)
    have k2 := reffail_spec ns D n ks hn
    rw [hnk] at k1 k2
    generalize failD D n ks = D' at *
    simp (implicitDefEqProofs := false) (disch := omega) only [go_sem, ↓reduceIte]
    refine callG false [(0, 0), (1, 2), (2, 3)] [(0, 0), (3, 8), (4, 9)] 10 k1 ?_ ?_
    · simp [keys]
    simp (implicitDefEqProofs := false) (disch := omega) only [go_sem, ↓reduceIte]
    refine callG false [(0, 1), (1, 4), (2, 5), (3, 6)] [(0, 1), (4, 10), (5, 11), (6, 12)] 13 k2 ?_ ?_
    · simp [keys]
    simp (implicitDefEqProofs := false) (disch := omega) only [go_sem, ↓reduceIte]
    refine ⟨[(0, 0), (1, 1), (7, 8), (8, 9), (9, 10), (10, 11), (11, 12)], [], [], rfl, ?_, ?_, ?_⟩ <;> simp (implicitDefEqProofs := false) (disch := omega) only [go_sem, ↓reduceIte]
  rw [if_neg w3]
  by_cases w4 : w = 4
  · subst w4
    rw [if_pos rfl]
    have k1 := crash_spec D hd ks nk hnk (by omega)
    have k2 := refcrash_spec ns D hd hr ks nk hnk (by omega)
    generalize crashD D ks = D' at *
    simp (implicitDefEqProofs := false) (disch := omega) only [go_sem, ↓reduceIte]
    refine callG false [(0, 0), (1, 2), (2, 3)] [(0, 0), (3, 8), (4, 9)] 10 k1 ?_ ?_
    · simp [keys]
    simp (implicitDefEqProofs := false) (disch := omega) only [go_sem, ↓reduceIte]
    refine callG false [(0, 1), (1, 4), (2, 5), (3, 6)] [(0, 1), (4, 10), (5, 11), (6, 12)] 13 k2 ?_ ?_
    · simp [keys]
    simp (implicitDefEqProofs := false) (disch := omega) only [go_sem, ↓reduceIte]
    refine ⟨[(0, 0), (1, 1), (7, 8), (8, 9), (9, 10), (10, 11), (11, 12)], [], [], rfl, ?_, ?_, ?_⟩ <;> simp (implicitDefEqProofs := false) (disch := omega) only [go_sem, ↓reduceIte]
  rw [if_neg w4]
  by_cases w5 : w = 5
  · subst w5
    rw [if_pos rfl]
    have k1 := boot_spec D
    have k2 := refboot_spec ns D
    generalize bootD D = D' at *
    simp (implicitDefEqProofs := false) (disch := omega) only [go_sem, ↓reduceIte]
    refine callG false [(0, 0), (1, 2), (2, 3)] [(0, 0), (3, 8), (4, 9)] 10 k1 ?_ ?_
    · simp [keys]
    simp (implicitDefEqProofs := false) (disch := omega) only [go_sem, ↓reduceIte]
    refine callG false [(0, 1), (1, 4), (2, 5), (3, 6)] [(0, 1), (4, 10), (5, 11), (6, 12)] 13 k2 ?_ ?_
    · simp [keys]
    simp (implicitDefEqProofs := false) (disch := omega) only [go_sem, ↓reduceIte]
    refine ⟨[(0, 0), (1, 1), (7, 8), (8, 9), (9, 10), (10, 11), (11, 12)], [], [], rfl, ?_, ?_, ?_⟩ <;> simp (implicitDefEqProofs := false) (disch := omega) only [go_sem, ↓reduceIte]
  rw [if_neg w5]
  by_cases w6 : w = 6
  · subst w6
    rw [if_pos rfl]
    have k1 := image_spec D hd
    have k2 := refimage_spec ns D hd hr
    simp (implicitDefEqProofs := false) (disch := omega) only [go_sem, ↓reduceIte]
    refine callG false [(0, 1), (1, 4), (2, 5), (3, 6)] [(0, 1), (4, 8), (5, 9), (6, 10)] 11 k2 ?_ ?_
    · simp [keys]
    simp (implicitDefEqProofs := false) (disch := omega) only [go_sem, ↓reduceIte]
    refine callG false [(0, 0), (1, 2), (2, 3)] [(0, 0), (3, 11), (4, 12), (5, 13)] 14 k1 ?_ ?_
    · simp [keys]
    simp (implicitDefEqProofs := false) (disch := omega) only [go_sem, ↓reduceIte]
    refine callG false [(0, 1), (1, 8), (2, 9), (3, 10)] [(0, 1), (4, 14), (5, 15), (6, 16)] 17 k2 ?_ ?_
    · simp [keys]
    simp (implicitDefEqProofs := false) (disch := omega) only [go_sem, ↓reduceIte]
    simp (implicitDefEqProofs := false) (disch := omega) only [go_sem, ↓reduceIte, toU]
    refine ⟨[(0, 0), (1, 1), (7, 11), (8, 12), (9, 14), (10, 15), (11, 16)], [], [], rfl, ?_, ?_, ?_⟩ <;> simp (implicitDefEqProofs := false) (disch := omega) only [go_sem, ↓reduceIte, toU]
  rw [if_neg w6]
  by_cases w7 : w = 7
  · subst w7
    rw [if_pos rfl]
    have i1 : (ns : Int) * (D.sz : Int) = ((ns * D.sz : Nat) : Int) := by simp
    have hnd : ns * D.sz ≤ 32768 := by omega
    by_cases c : img.length = ns * D.sz
    · rw [if_pos c]
      have d1 : decide ((img.length : Int) = ((ns * D.sz : Nat) : Int)) = true := decide_eq_true (by omega)
      have hbk : (backU img).length = img.length := by unfold backU; rw [List.length_map]
      have k1 := restore_own D hd (backU img) img.length hbk (by omega)
      have k2 := refrestore_spec ns D hd hr (backU img) (by omega)
      rw [toU_back] at k2
      have eb : (img.map fun x => (x.toNat : Int)) = backU img := rfl
      generalize hD : restD D (backU img) = D' at *
      generalize ns * D.sz = q at *
      simp (implicitDefEqProofs := false) (disch := omega) only [go_sem, ↓reduceIte, i1, d1]
      refine callG false [(0, 1), (1, 4), (2, 5), (3, 6)] [(0, 1), (4, 8), (5, 9), (6, 10)] 11 k2 ?_ ?_
      · simp [keys]
      simp (implicitDefEqProofs := false) (disch := omega) only [go_sem, ↓reduceIte]
      simp (implicitDefEqProofs := false) (disch := omega) only [go_sem, ↓reduceIte, eb]
      refine callG false [(5, 11), (0, 0), (1, 2), (2, 3)] [(0, 0), (3, 12), (4, 13)] 14 k1 ?_ ?_
      · simp [keys]
      simp (implicitDefEqProofs := false) (disch := omega) only [go_sem, ↓reduceIte, eb]
      refine ⟨[(0, 0), (1, 1), (7, 12), (8, 13), (9, 8), (10, 9), (11, 10)], [], [], rfl, ?_, ?_, ?_⟩ <;> simp (implicitDefEqProofs := false) (disch := omega) only [go_sem, ↓reduceIte]
    · rw [if_neg c]
      have d1 : decide ((img.length : Int) = ((ns * D.sz : Nat) : Int)) = false := decide_eq_false (by omega)
      generalize ns * D.sz = q at *
      simp (implicitDefEqProofs := false) (disch := omega) only [go_sem, ↓reduceIte, i1, d1]
      refine ⟨[(0, 0), (1, 1), (7, 2), (8, 3), (9, 4), (10, 5), (11, 6)], [], [], rfl, ?_, ?_, ?_⟩ <;> simp (implicitDefEqProofs := false) (disch := omega) only [go_sem, ↓reduceIte]
  rw [if_neg w7]
  by_cases w8 : w = 8
  · subst w8
    rw [if_pos rfl]
    have i1 : (ns : Int) * (D.sz : Int) = ((ns * D.sz : Nat) : Int) := by simp
    have hnd : ns * D.sz ≤ 32768 := by omega
    have k1 := restore_spec D hd b nb hnb (by omega)
    by_cases c : b.length = ns * D.sz
    · rw [if_pos c]
      rw [if_pos (by omega), if_pos (by omega)] at k1
      have d1 : decide ((nb : Int) = ((ns * D.sz : Nat) : Int)) = true := decide_eq_true (by omega)
      have k2 := refrestore_spec ns D hd hr b (by omega)
      have eb : (b.map fun x => UInt8.ofNat x.toNat) = toU b := rfl
      generalize restD D b = D' at *
      generalize ns * D.sz = q at *
      simp (implicitDefEqProofs := false) (disch := omega) only [go_sem, ↓reduceIte, i1, d1, eb]
      refine callG false [(0, 1), (1, 4), (2, 5), (3, 6)] [(0, 1), (4, 8), (5, 9), (6, 10)] 11 k2 ?_ ?_
      · simp [keys]
      simp (implicitDefEqProofs := false) (disch := omega) only [go_sem, ↓reduceIte]
      refine callG false [(0, 0), (1, 2), (2, 3)] [(0, 0), (3, 11), (4, 12)] 13 k1 ?_ ?_
      · simp [keys]
      simp (implicitDefEqProofs := false) (disch := omega) only [go_sem, ↓reduceIte]
      refine ⟨[(0, 0), (1, 1), (7, 11), (8, 12), (9, 8), (10, 9), (11, 10)], [], [], rfl, ?_, ?_, ?_⟩ <;> simp (implicitDefEqProofs := false) (disch := omega) only [go_sem, ↓reduceIte]
    · rw [if_neg c]
      rw [if_neg (by omega), if_neg (by omega)] at k1
      have d1 : decide ((nb : Int) = ((ns * D.sz : Nat) : Int)) = false := decide_eq_false (by omega)
      generalize ns * D.sz = q at *
      simp (implicitDefEqProofs := false) (disch := omega) only [go_sem, ↓reduceIte, i1, d1]
      refine callG false [(0, 0), (1, 2), (2, 3)] [(0, 0), (3, 8), (4, 9)] 10 k1 ?_ ?_
      · simp [keys]
      simp (implicitDefEqProofs := false) (disch := omega) only [go_sem, ↓reduceIte]
      refine ⟨[(0, 0), (1, 1), (7, 8), (8, 9), (9, 4), (10, 5), (11, 6)], [], [], rfl, ?_, ?_, ?_⟩ <;> simp (implicitDefEqProofs := false) (disch := omega) only [go_sem, ↓reduceIte]
  rw [if_neg w8]
  have d0 : decide (w = 0) = false := decide_eq_false w0
  have d1 : decide (w = 1) = false := decide_eq_false w1
  have d2 : decide (w = 2) = false := decide_eq_false w2
  have d3 : decide (w = 3) = false := decide_eq_false w3
  have d4 : decide (w = 4) = false := decide_eq_false w4
  have d5 : decide (w = 5) = false := decide_eq_false w5
  have d6 : decide (w = 6) = false := decide_eq_false w6
  have d7 : decide (w = 7) = false := decide_eq_false w7
  have d8 : decide (w = 8) = false := decide_eq_false w8
  simp (implicitDefEqProofs := false) (disch := omega) only [go_sem, ↓reduceIte, d0, d1, d2, d3, d4, d5, d6, d7, d8]
  refine ⟨[(0, 0), (1, 1), (7, 2), (8, 3), (9, 4), (10, 5), (11, 6)], [], [], rfl, ?_, ?_, ?_⟩ <;> simp (implicitDefEqProofs := false) (disch := omega) only [go_sem, ↓reduceIte]
end Go.Proofs.Ytegbkbkcfcjkbaa
