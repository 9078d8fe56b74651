/- What any deeds come to on a disk: one deed. -/
import Derived.Test.YthhlielliopegaaRefD3
import Derived.Test.YthhlielliopegaaDisk5
namespace Go.Proofs.Ythhlielliopegaa
open Go Go.Sy Go.Proofs.Try
set_option maxRecDepth 100000
set_option maxHeartbeats 8000000
set_option linter.unusedSimpArgs false
set_option linter.unusedVariables false

abbrev plO (a b c d e ns : Nat) (D : DS) : OO := [(0, .var (dskV a b D)), (a, .row (.ints .u8 D.b.length D.b)), (b, .row (.lst 2 D.wait.length (D.wait.map wtV))),
  (1, .var (refV c d e ns D)), (c, .row (.lst 1 ns ((chunks D.sz ns D.b).map strU))), (d, .row (.ints .i64 D.wait.length (D.wait.map fun w => (w.1 : Int)))), (e, .row (.lst 1 D.wait.length (D.wait.map fun w => strU w.2)))]
attribute [go_sem] plO
attribute [simp] plO
theorem failedD_ok {D : DS} (h : okD D) : okD (failedD D).2 := by
  unfold failedD
  split
  · exact crashD_ok h _
  · exact ⟨h.sz1, h.sz2, h.bl, h.wl, h.kl, h.wt⟩
theorem putB_len' {sz : Nat} {b t : List Int} {at' m : Nat} (hw : at' * sz + sz ≤ b.length ∧ t.length = sz) (hm : m ≤ sz) : (putB sz b at' t m).length = b.length := putB_len (by omega) (by omega)
theorem crashB_len {sz nb : Nat} : ∀ (W : List (Nat × List Int)) (ks b : List Int), b.length = nb → (∀ w ∈ W, w.1 * sz + sz ≤ nb ∧ w.2.length = sz) → (crashB sz W ks b).length = nb
  | [], _, _, h, _ => h
  | _ :: _, [], _, h, _ => h
  | w :: W, k :: ks, b, h, hw => by
    have hw0 := hw w (List.mem_cons_self ..)
    rw [crashB]
    exact crashB_len W ks _ (by rw [putB_len' (by rw [h]; exact hw0) (kept_le _ _), h]) (fun w' h' => hw w' (List.mem_cons_of_mem _ h'))
theorem syncB_len {sz nb : Nat} : ∀ (W : List (Nat × List Int)) (b : List Int), b.length = nb → (∀ w ∈ W, w.1 * sz + sz ≤ nb ∧ w.2.length = sz) → (syncB sz W b).length = nb
  | [], _, h, _ => h
  | w :: W, b, h, hw => by
    have hw0 := hw w (List.mem_cons_self ..)
    exact syncB_len W _ (by rw [putB_len' (by rw [h]; exact hw0) (Nat.le_refl _), h]) (fun w' h' => hw w' (List.mem_cons_of_mem _ h'))
theorem crashD_okR {ns : Nat} {D : DS} (h : okD D) (hr : okR ns D) (ks : List Int) : okR ns (crashD D ks) := by
  unfold crashD
  split
  · exact hr
  · exact ⟨hr.n1, by dsimp only; rw [crashB_len _ _ _ rfl h.wt]; exact hr.bl, fun e => by cases e⟩
theorem failedD_okR {ns : Nat} {D : DS} (h : okD D) (hr : okR ns D) : okR ns (failedD D).2 := by
  unfold failedD
  split
  · exact crashD_okR h hr _
  · rename_i c
    refine ⟨hr.n1, hr.bl, fun e => ?_⟩
    have hl := hr.lf e
    have h0 : D.left ≠ 0 := fun e0 => c ⟨e, e0⟩
    dsimp only
    rw [wrap_i64 (by omega) (by omega)]
    omega
theorem failedD_wl (D : DS) : (failedD D).2.wait.length ≤ D.wait.length := by
  unfold failedD
  split
  · unfold crashD; split
    · exact Nat.le_refl _
    · exact Nat.zero_le _
  · exact Nat.le_refl _
theorem failedD_sz (D : DS) : (failedD D).2.sz = D.sz := by
  unfold failedD
  split
  · unfold crashD; split <;> rfl
  · rfl
/-- All that is kept. -/
structure okP (ns sz m : Nat) (D : DS) : Prop where
  d : okD D
  r : okR ns D
  s : D.sz = sz
  w : D.wait.length ≤ m
theorem okP.le {ns sz m m' : Nat} {D : DS} (h : okP ns sz m D) (hm : m ≤ m') : okP ns sz m' D := ⟨h.d, h.r, h.s, Nat.le_trans h.w hm⟩
theorem writeD_okP {ns sz m : Nat} {D : DS} (h : okP ns sz m D) (hm : m ≤ 90000) (i : Int) (t : List Int) : okP ns sz (m + 1) (writeD D i t).2 := by
  unfold writeD
  split
  · exact h.le (Nat.le_succ _)
  split
  · rename_i c
    obtain ⟨I, rfl, hI⟩ := there_at h.d c.1
    rw [Int.toNat_natCast]
    have hw := h.w
    have o1 := okD_wait h.d (by omega) hI c.2
    have o2 : okR ns { D with wait := D.wait ++ [(I, t)] } := ⟨h.r.n1, h.r.bl, h.r.lf⟩
    have hl := failedD_wl { D with wait := D.wait ++ [(I, t)] }
    exact ⟨failedD_ok o1, failedD_okR o1 o2, by rw [failedD_sz]; exact h.s, by simp at hl; dsimp only; omega⟩
  · exact h.le (Nat.le_succ _)
theorem syncD_okP {ns sz m : Nat} {D : DS} (h : okP ns sz m D) : okP ns sz m (syncD D).2 := by
  have hl := failedD_wl D
  have hw := h.w
  have o1 := failedD_ok h.d
  have o2 := failedD_okR h.d h.r
  unfold syncD
  split
  · exact h
  split
  · exact ⟨o1, o2, by rw [failedD_sz]; exact h.s, by dsimp only; omega⟩
  · rename_i c
    rw [Bool.not_eq_true] at c
    rw [failed_b c] at o2 ⊢
    have e := syncB_len D.wait D.b rfl h.d.wt
    exact ⟨⟨h.d.sz1, h.d.sz2, by dsimp only; rw [e]; exact h.d.bl, Nat.zero_le _, h.d.kl, fun w hw => by cases hw⟩, ⟨h.r.n1, by dsimp only; rw [e]; exact h.r.bl, o2.lf⟩, h.s, Nat.zero_le _⟩
theorem crashD_okP {ns sz m : Nat} {D : DS} (h : okP ns sz m D) (ks : List Int) : okP ns sz m (crashD D ks) :=
  ⟨crashD_ok h.d ks, crashD_okR h.d h.r ks, by unfold crashD; split <;> exact h.s, by
    have := h.w
    unfold crashD; split
    · exact h.w
    · exact Nat.zero_le _⟩
theorem bootD_okP {ns sz m : Nat} {D : DS} (h : okP ns sz m D) : okP ns sz m (bootD D) :=
  ⟨⟨h.d.sz1, h.d.sz2, h.d.bl, h.d.wl, h.d.kl, h.d.wt⟩, ⟨h.r.n1, h.r.bl, fun e => by cases e⟩, h.s, h.w⟩
theorem failD_okP {ns sz m : Nat} {D : DS} (h : okP ns sz m D) (a : Int) (ks : List Int) (ha : a < 9223372036854775808) (hk : ks.length ≤ 1000000) : okP ns sz m (failD D a ks) := by
  unfold failD
  split
  · exact h
  · exact ⟨⟨h.d.sz1, h.d.sz2, h.d.bl, h.d.wl, by dsimp only; omega, h.d.wt⟩, ⟨h.r.n1, h.r.bl, fun e => ⟨of_decide_eq_true e, ha⟩⟩, h.s, h.w⟩
theorem restD_okP {ns sz m : Nat} {D : DS} (h : okP ns sz m D) (t : List Int) (ht : t.length = ns * sz) : okP ns sz m (restD D t) := by
  have h1 := h.r.bl
  have h2 := h.s
  have h3 := h.d.bl
  rw [h2] at h1
  refine ⟨⟨h.d.sz1, h.d.sz2, ?_, Nat.zero_le _, h.d.kl, fun w hw => by cases hw⟩, ⟨h.r.n1, ?_, h.r.lf⟩, h.s, Nat.zero_le _⟩
  · show t.length ≤ 32768; omega
  · show t.length = ns * D.sz; rw [h2]; exact ht
def backU (s : List UInt8) : List Int := s.map fun x => (x.toNat : Int)
theorem toU_back (s : List UInt8) : toU (backU s) = s := by
  unfold toU backU
  rw [List.map_map]
  conv => rhs; rw [← List.map_id s]
  apply List.map_congr_left
  intro x _
  simp
def textW (sz : Nat) (n : Int) (b : List Int) : List Int := if 0 < b.length ∧ n.tmod 2 = 0 then (b ++ List.replicate sz 0).take sz else b
def playD (ns : Nat) (D : DS) (img : List UInt8) (w n : Int) (b ks : List Int) : DS × List UInt8 :=
  if w = 0 then ((writeD D n (textW D.sz n b)).2, img) else if w = 1 then (D, img) else if w = 2 then ((syncD D).2, img) else if w = 3 then (failD D n ks, img) else if w = 4 then (crashD D ks, img)
  else if w = 5 then (bootD D, img) else if w = 6 then (D, toU D.b) else if w = 7 then (if img.length = ns * D.sz then (restD D (backU img), img) else (D, img))
  else if w = 8 then (if b.length = ns * D.sz then (restD D b, img) else (D, img)) else (D, img)
theorem playD_okP {ns sz m : Nat} {D : DS} (h : okP ns sz m D) (hm : m ≤ 90000) (img : List UInt8) (w n : Int) (b ks : List Int) (hn : n < 9223372036854775808) (hk : ks.length ≤ 1000000) : okP ns sz (m + 1) (playD ns D img w n b ks).1 := by
  have hs := h.s
  have hl := h.le (Nat.le_succ m)
  unfold playD
  split; · exact writeD_okP h hm _ _
  split; · exact hl
  split; · exact (syncD_okP h).le (Nat.le_succ m)
  split; · exact (failD_okP h n ks hn hk).le (Nat.le_succ m)
  split; · exact (crashD_okP h ks).le (Nat.le_succ m)
  split; · exact (bootD_okP h).le (Nat.le_succ m)
  split; · exact hl
  split
  · split
    · rename_i c; rw [hs] at c
      exact (restD_okP h _ (by unfold backU; rw [List.length_map]; exact c)).le (Nat.le_succ m)
    · exact hl
  split
  · split
    · rename_i c; rw [hs] at c
      exact (restD_okP h _ c).le (Nat.le_succ m)
    · exact hl
  exact hl
theorem restore_own (D : DS) (h : okD D) (t : List Int) (n : Nat) (hn : t.length = n) (hd : n = D.b.length) : FnC Try.prog 17 [.ref 0 [], .osl 5 [] 1 0 n] ((5, .row (.ints .u8 n t)) :: dskO 1 2 D) (.int .i64 0) (dskO 3 4 (restD D t)) := by
  have h3 := h.bl
  have hk := restore_spec D h t n hn (by omega)
  rw [if_pos hd, if_pos hd] at hk
  refine hk.sub [(0, 0), (1, 1), (2, 2)] [] [5] rfl ?_ ?_
  · simp (implicitDefEqProofs := false) (disch := omega) only [go_sem, ↓reduceIte]
  · simp (implicitDefEqProofs := false) (disch := omega) only [go_sem, ↓reduceIte]
end Go.Proofs.Ythhlielliopegaa
