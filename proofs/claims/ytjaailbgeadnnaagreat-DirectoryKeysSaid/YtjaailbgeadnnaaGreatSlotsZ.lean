/- What the two sectors tell, whatever fails: for sectors of any size. -/
import Derived.Test.YtjaailbgeadnnaaGreatSlots2
import Derived.Test.YtjaailbgeadnnaaGreatRefD
namespace Go.Proofs.YtjaailbgeadnnaaGreat
open Go Go.Sy Go.Proofs.Tryz
set_option maxRecDepth 100000
set_option maxHeartbeats 8000000
set_option linter.unusedSimpArgs false
set_option linter.unusedVariables false

theorem ofb_be8 {T : Nat} (h : T ≤ 4611686018427387904) : ofb (be T 8) = (T : Int) := by
  rw [ofb_be, show (256 : Int) ^ 8 = 18446744073709551616 by decide]; omega
theorem ofb_be2 {n : Nat} (h : n ≤ 1000) : ofb (be n 2) = (n : Int) := by
  rw [ofb_be, show (256 : Int) ^ 2 = 65536 by decide]; omega
/-- The parts of a slot's bytes. -/
theorem sectorL_head (z T : Nat) (t : List Int) : (sectorL z T t).take 8 = be T 8 := by
  unfold sectorL
  rw [List.append_assoc, List.append_assoc, List.append_assoc, List.take_append_of_le_length (by rw [be_len]; exact Nat.le_refl _), List.take_of_length_le (by rw [be_len]; exact Nat.le_refl _)]
theorem sectorL_tail {z T : Nat} {t : List Int} (h : t.length + 18 ≤ z) : (sectorL z T t).drop (z - 8) = be T 8 := by
  unfold sectorL
  rw [List.drop_append_of_le_length (by simp only [List.length_append, be_len, List.length_replicate]; omega), List.drop_eq_nil_of_le (by simp only [List.length_append, be_len, List.length_replicate]; omega), List.nil_append]
theorem sectorL_n (z T : Nat) (t : List Int) : ((sectorL z T t).drop 8).take 2 = be t.length 2 := by
  unfold sectorL
  rw [List.append_assoc, List.append_assoc, List.append_assoc, List.drop_append_of_le_length (by rw [be_len]; exact Nat.le_refl _), List.drop_eq_nil_of_le (by rw [be_len]; exact Nat.le_refl _), List.nil_append,
    List.take_append_of_le_length (by rw [be_len]; exact Nat.le_refl _), List.take_of_length_le (by rw [be_len]; exact Nat.le_refl _)]
theorem sectorL_text (z T : Nat) (t : List Int) : ((sectorL z T t).drop 10).take t.length = t := by
  have e : sectorL z T t = (be T 8 ++ be t.length 2) ++ (t ++ (List.replicate (z - 18 - t.length) 0 ++ be T 8)) := by
    unfold sectorL; simp only [List.append_assoc]
  have l : (be T 8 ++ be t.length 2).length = 10 := by rw [List.length_append, be_len, be_len]
  rw [e, List.drop_append_of_le_length (by omega), List.drop_eq_nil_of_le (by omega), List.nil_append, List.take_append_of_le_length (Nat.le_refl _), List.take_length]
theorem sectorL_mem {z T : Nat} {t : List Int} (ht : ∀ x ∈ t, 0 ≤ x ∧ x < 256) : ∀ x ∈ sectorL z T t, 0 ≤ x ∧ x < 256 := by
  intro x hx
  unfold sectorL at hx
  simp only [List.mem_append] at hx
  rcases hx with (((h | h) | h) | h) | h
  · exact be_mem _ _ x h
  · exact be_mem _ _ x h
  · exact ht x h
  · rw [(List.mem_replicate.1 h).2]; decide
  · exact be_mem _ _ x h
theorem readV_active {z T : Nat} {t : List Int} (hz : z ≤ 512) (hT : T ≤ 4611686018427387904) (ht : t.length + 18 ≤ z) : readV z (sectorL z T t) = if T = 0 then (0, []) else (T, t) := by
  unfold readV
  rw [sectorL_head, sectorL_tail ht, sectorL_n, ofb_be8 hT, ofb_be2 (by omega)]
  by_cases c : T = 0
  · rw [if_pos c, if_neg (fun h => by omega)]
  · rw [if_neg c, if_pos ⟨rfl, by omega, by omega, by omega⟩, Int.toNat_natCast, Int.toNat_natCast, sectorL_text]
/-- A slot that does not count. -/
def inact (z T : Nat) (c : List Int) : Prop := c.getD (z - 1) 0 = (((T - 1) % 256 : Nat) : Int) ∧ (c.take 8 = be (T + 1 : Nat) 8 ∨ c.drop (z - 8) = be (T - 1 : Nat) 8)
theorem last_ofb {l : List Int} (hl : l.length = 8) (hb : ∀ x ∈ l, 0 ≤ x ∧ x < 256) : ofb l % 256 = l.getD 7 0 := by
  have h := ofb_succ (xs := l) (i := 7) (by omega)
  rw [List.take_of_length_le (by omega)] at h
  have h7 := getD_all' hb (show 7 < l.length by omega)
  rw [h]; omega
theorem readV_inact {z T : Nat} {c : List Int} (hz : 18 ≤ z) (hT : T ≤ 1000000) (hc : c.length = z) (hb : ∀ x ∈ c, 0 ≤ x ∧ x < 256) (h : inact z T c) : (readV z c).1 ≤ T - 1 := by
  obtain ⟨h1, h2⟩ := h
  unfold readV
  split
  · rename_i v
    obtain ⟨v1, v2, v3, v4⟩ := v
    dsimp only at v1 ⊢
    rcases h2 with h2 | h2
    · exfalso
      have e := last_ofb (l := c.drop (z - 8)) (by rw [List.length_drop, hc]; omega) (fun x hx => hb x (List.mem_of_mem_drop hx))
      have e2 : (c.drop (z - 8)).getD 7 0 = c.getD (z - 1) 0 := by simp only [List.getD, List.getElem?_drop]; rw [show z - 8 + 7 = z - 1 by omega]
      rw [e2, h1] at e
      rw [h2, ofb_be8 (by omega)] at v1
      have v1 : (((T + 1 : Nat) : Int)) = ofb (c.drop (z - 8)) := v1
      rw [← v1] at e
      omega
    · have v1 : ofb (c.take 8) = ofb (c.drop (z - 8)) := v1
      rw [h2, ofb_be8 (by omega)] at v1
      rw [v1]; omega
  · exact Nat.zero_le _
structure Cont (z T : Nat) (t b : List Int) : Prop where
  z1 : 18 ≤ z
  z2 : z ≤ 512
  T1 : T ≤ 1000
  tl : t.length + 18 ≤ z
  t0 : T = 0 → t = []
  bl : b.length = 2 * z
  bb : ∀ x ∈ b, 0 ≤ x ∧ x < 256
  act : chunk z b (T % 2) = sectorL z T t
  ina : inact z T (chunk z b ((T + 1) % 2))
theorem chunk_mem {sz q : Nat} {b : List Int} (hb : ∀ x ∈ b, 0 ≤ x ∧ x < 256) : ∀ x ∈ chunk sz b q, 0 ≤ x ∧ x < 256 := fun x hx => hb x (List.mem_of_mem_drop (List.mem_of_mem_take hx))
theorem cont_open {z T : Nat} {t : List Int} {D : DS} (hs : D.sz = z) (hw : D.wait = []) (h : Cont z T t D.b) : openS D = ⟨T, t, false⟩ := by
  have r0 : readB D 0 = chunk z D.b 0 := by unfold readB; rw [hw, hs]; rfl
  have r1 : readB D 1 = chunk z D.b 1 := by unfold readB; rw [hw, hs]; rfl
  have hT1 := h.T1
  have ha := h.act
  have hi := h.ina
  have l0 := chunk_len (sz := z) (ns := 2) (q := (T + 1) % 2) (by rw [h.bl]) (by omega)
  have hr := readV_inact h.z1 (by omega) l0 (chunk_mem h.bb) hi
  have hra := readV_active (T := T) (t := t) h.z2 (by omega) h.tl
  rw [← ha] at hra
  unfold openS
  rw [r0, r1, hs]
  have t0 := h.t0
  generalize hc0 : readV z (chunk z D.b 0) = x0 at *
  generalize hc1 : readV z (chunk z D.b 1) = x1 at *
  by_cases c0 : T = 0
  · subst c0
    have e1 : chunk z D.b (0 % 2) = chunk z D.b 0 := rfl
    have e2 : chunk z D.b ((0 + 1) % 2) = chunk z D.b 1 := rfl
    rw [e1, hc0, if_pos rfl] at hra
    rw [e2, hc1] at hr
    rw [hra, t0 rfl]
    unfold lookS
    rw [if_neg (by dsimp only; omega)]
    rw [if_neg (by dsimp only; omega)]
  · rw [if_neg c0] at hra
    by_cases cp : T % 2 = 0
    · have e3 : (T + 1) % 2 = 1 := by omega
      rw [cp, hc0] at hra
      rw [e3, hc1] at hr
      rw [hra]
      unfold lookS
      rw [if_pos (show 0 < T by omega)]
      rw [if_neg (by dsimp only; omega)]
    · have e3 : (T + 1) % 2 = 0 := by omega
      have e4 : T % 2 = 1 := by omega
      rw [e4, hc1] at hra
      rw [e3, hc0] at hr
      rw [hra]
      unfold lookS
      by_cases cx : 0 < x0.1
      · rw [if_pos cx, if_pos (show x0.1 < T by omega)]
      · rw [if_neg cx, if_pos (show 0 < T by omega)]
/-- A part of the new bytes is put in the slot that does not count. -/
theorem cont_put {z T m : Nat} {t u b : List Int} (h : Cont z T t b) (hT : T ≤ 900) (hu : u.length + 18 ≤ z) (hub : ∀ x ∈ u, 0 ≤ x ∧ x < 256) (hm : m ≤ z) :
    (m = z → Cont z (T + 1) u (putB z b ((T + 1) % 2) (sectorL z (T + 1) u) m)) ∧ (m < z → Cont z T t (putB z b ((T + 1) % 2) (sectorL z (T + 1) u) m)) := by
  have hbl := h.bl
  have hz1 := h.z1
  have hz2 := h.z2
  have hsl := sectorL_len (z := z) (T := T + 1) (t := u) hu
  have hsm := sectorL_mem (z := z) (T := T + 1) hub
  have hj : (T + 1) % 2 < 2 := by omega
  have c1 := chunk_put (sz := z) (ns := 2) (b := b) (t := sectorL z (T + 1) u) (at' := (T + 1) % 2) (m := m) (q := (T + 1) % 2) (by rw [hbl]) hj hj hsl hm
  have c2 := chunk_put (sz := z) (ns := 2) (b := b) (t := sectorL z (T + 1) u) (at' := (T + 1) % 2) (m := m) (q := T % 2) (by rw [hbl]) hj (by omega) hsl hm
  rw [if_pos rfl] at c1
  rw [if_neg (by omega), h.act] at c2
  have hpl : (putB z b ((T + 1) % 2) (sectorL z (T + 1) u) m).length = 2 * z := by
    have hjz : (T + 1) % 2 * z + z ≤ 2 * z := by rw [← Nat.succ_mul]; exact Nat.mul_le_mul_right _ (by omega)
    rw [putB_len (by omega) (by omega), hbl]
  have hpm : ∀ x ∈ putB z b ((T + 1) % 2) (sectorL z (T + 1) u) m, 0 ≤ x ∧ x < 256 := fun x hx => by
    unfold putB at hx
    simp only [List.mem_append] at hx
    rcases hx with hx | hx | hx
    · exact h.bb x (List.mem_of_mem_take hx)
    · exact hsm x (List.mem_of_mem_take hx)
    · exact h.bb x (List.mem_of_mem_drop hx)
  have hol := chunk_len (sz := z) (ns := 2) (q := (T + 1) % 2) (b := b) (by rw [hbl]) hj
  refine ⟨fun e => ?_, fun e => ?_⟩
  · have e' : z = m := e.symm
    subst e'
    rw [List.take_of_length_le (by omega), List.drop_eq_nil_of_le (by omega), List.append_nil] at c1
    refine ⟨hz1, hz2, by omega, hu, fun e => by omega, hpl, hpm, c1, ?_⟩
    have e2 : (T + 1 + 1) % 2 = T % 2 := by omega
    rw [e2, c2]
    have htl := sectorL_tail (z := z) (T := T) (t := t) h.tl
    refine ⟨?_, .inr htl⟩
    have e3 : (sectorL z T t).getD (z - 1) 0 = ((sectorL z T t).drop (z - 8)).getD 7 0 := by simp only [List.getD, List.getElem?_drop]; rw [show z - 8 + 7 = z - 1 by omega]
    have htl : (sectorL z T t).drop (z - 8) = be T 8 := htl
    rw [e3, htl, ← last_ofb (be_len _ _) (be_mem _ _), ofb_be8 (by omega)]
    omega
  · refine ⟨hz1, hz2, h.T1, h.tl, h.t0, hpl, hpm, c2, ?_⟩
    rw [c1]
    obtain ⟨i1, i2⟩ := h.ina
    generalize chunk z b ((T + 1) % 2) = old at *
    have hhd := sectorL_head z (T + 1) u
    have hln : ((sectorL z (T + 1) u).take m).length = m := by rw [List.length_take]; omega
    generalize sectorL z (T + 1) u = new at *
    refine ⟨?_, ?_⟩
    · rw [← i1]
      simp only [List.getD]
      rw [List.getElem?_append_right (by omega), hln, List.getElem?_drop, show m + (z - 1 - m) = z - 1 by omega]
    · by_cases c8 : 8 ≤ m
      · left
        rw [List.take_append_of_le_length (by omega), List.take_take, show min 8 m = 8 by omega, hhd]
      · rcases i2 with i2 | i2
        · left
          have e1 : new.take m = (be (T + 1 : Nat) 8).take m := by rw [← hhd, List.take_take, show min m 8 = m by omega]
          have e2 : (old.drop m).take (8 - m) = (be (T + 1 : Nat) 8).drop m := by rw [← i2, List.drop_take]
          rw [List.take_append, hln, List.take_of_length_le (by omega), e1, e2, List.take_append_drop]
        · right
          rw [List.drop_append, hln, List.drop_eq_nil_of_le (by omega), List.nil_append, List.drop_drop, show m + (z - 8 - m) = z - 8 by omega, i2]
structure Inv (z T : Nat) (t : List Int) (D : DS) : Prop where
  d : okD D
  s : D.sz = z
  o : D.off = false
  w : D.wait = []
  c : Cont z T t D.b
theorem inv_there {z T : Nat} {t : List Int} {D : DS} (h : Inv z T t D) {j : Nat} (hj : j < 2) : thereD D j := by
  unfold thereD
  have hz1 := h.c.z1
  rw [h.s, h.c.bl, Nat.mul_div_cancel _ (by omega)]
  exact ⟨by omega, by omega⟩
theorem inv_boot {z T : Nat} {t : List Int} {D : DS} (h : Inv z T t D) (ks : List Int) : Inv z T t (bootD (crashD D ks)) := by
  have e : bootD (crashD D ks) = { D with set := false } := by
    unfold bootD crashD
    rw [if_neg (by rw [h.o]; simp)]
    have hw := h.w
    have ho := h.o
    obtain ⟨sz, b, W, off, set, left, kp⟩ := D
    dsimp only at hw ho ⊢
    subst hw; subst ho
    rfl
  rw [e]
  exact ⟨⟨h.d.sz1, h.d.sz2, h.d.bl, h.d.wl, h.d.kl, h.d.wt⟩, h.s, h.o, h.w, h.c⟩
/-- What a replacing comes to. -/
theorem inv_repl {z T : Nat} {t u : List Int} {D : DS} (h : Inv z T t D) (hT : T ≤ 900) (hu : u.length + 18 ≤ z) (hub : ∀ x ∈ u, 0 ≤ x ∧ x < 256) :
    ((replD D ⟨T, t, false⟩ u).1 = 0 ∧ (replD D ⟨T, t, false⟩ u).2.2 = ⟨T + 1, u, false⟩ ∧ Inv z (T + 1) u (replD D ⟨T, t, false⟩ u).2.1) ∨
    ((replD D ⟨T, t, false⟩ u).1 = 9 ∧ okD (replD D ⟨T, t, false⟩ u).2.1 ∧ (replD D ⟨T, t, false⟩ u).2.1.off = true ∧ (Inv z (T + 1) u (bootD (replD D ⟨T, t, false⟩ u).2.1) ∨ Inv z T t (bootD (replD D ⟨T, t, false⟩ u).2.1))) := by
  have hth := inv_there h (j := (T + 1) % 2) (by omega)
  obtain ⟨hd, hs, ho, hw, hc⟩ := h
  obtain ⟨sz, b, W, off, set, left, kp⟩ := D
  dsimp only at hs ho hw hc
  have hs' : z = sz := hs.symm
  subst hs'; subst ho; subst hw
  have hsl := sectorL_len (z := z) (T := T + 1) (t := u) (by omega)
  have hbl := hc.bl
  have hat : ((T + 1) % 2) * z + z ≤ b.length := by rw [hbl, ← Nat.succ_mul]; exact Nat.mul_le_mul_right _ (by omega)
  -- the power fails
  have crash : ∀ L, okD (crashD ⟨z, b, [((T + 1) % 2, sectorL z (T + 1) u)], false, set, L, kp⟩ kp) ∧ (crashD ⟨z, b, [((T + 1) % 2, sectorL z (T + 1) u)], false, set, L, kp⟩ kp).off = true ∧
      (Inv z (T + 1) u (bootD (crashD ⟨z, b, [((T + 1) % 2, sectorL z (T + 1) u)], false, set, L, kp⟩ kp)) ∨ Inv z T t (bootD (crashD ⟨z, b, [((T + 1) % 2, sectorL z (T + 1) u)], false, set, L, kp⟩ kp))) := fun L => by
    have ok1 : okD ⟨z, b, [((T + 1) % 2, sectorL z (T + 1) u)], false, set, L, kp⟩ := ⟨hd.sz1, hd.sz2, hd.bl, by simp, hd.kl, fun w hw => by
      rw [List.mem_singleton] at hw; subst hw; exact ⟨hat, hsl⟩⟩
    have ok2 := crashD_ok ok1 kp
    have e : crashD ⟨z, b, [((T + 1) % 2, sectorL z (T + 1) u)], false, set, L, kp⟩ kp = ⟨z, crashB z [((T + 1) % 2, sectorL z (T + 1) u)] kp b, [], true, false, L, kp⟩ := rfl
    rw [e] at ok2 ⊢
    refine ⟨ok2, rfl, ?_⟩
    have ok3 : okD (bootD ⟨z, crashB z [((T + 1) % 2, sectorL z (T + 1) u)] kp b, [], true, false, L, kp⟩) := ⟨ok2.sz1, ok2.sz2, ok2.bl, ok2.wl, ok2.kl, ok2.wt⟩
    have eb : ∃ m, m ≤ z ∧ crashB z [((T + 1) % 2, sectorL z (T + 1) u)] kp b = putB z b ((T + 1) % 2) (sectorL z (T + 1) u) m := by
      cases kp with
      | nil => exact ⟨0, by omega, by rw [putB_zero]; rfl⟩
      | cons k ks => exact ⟨kept z k, kept_le _ _, rfl⟩
    obtain ⟨m, hm, eb⟩ := eb
    have hcp := cont_put hc hT hu hub hm
    rw [← eb] at hcp
    by_cases c : m = z
    · exact .inl ⟨ok3, rfl, rfl, rfl, hcp.1 c⟩
    · exact .inr ⟨ok3, rfl, rfl, rfl, hcp.2 (by omega)⟩
  have ew : writeD ⟨z, b, [], false, set, left, kp⟩ ((T + 1) % 2 : Nat) (sectorL z (T + 1) u) = (if (failedD ⟨z, b, [((T + 1) % 2, sectorL z (T + 1) u)], false, set, left, kp⟩).1 = true then 9 else 0, (failedD ⟨z, b, [((T + 1) % 2, sectorL z (T + 1) u)], false, set, left, kp⟩).2) := by
    unfold writeD
    rw [if_neg (fun h => by cases h), if_pos ⟨hth, hsl⟩, Int.toNat_natCast]
    rfl
  unfold replD
  dsimp only
  by_cases c1 : set = true ∧ left = 0
  · have ef : failedD ⟨z, b, [((T + 1) % 2, sectorL z (T + 1) u)], false, set, left, kp⟩ = (true, crashD ⟨z, b, [((T + 1) % 2, sectorL z (T + 1) u)], false, set, left, kp⟩ kp) := by
      unfold failedD; rw [if_pos c1]
    have ew1 : writeD ⟨z, b, [], false, set, left, kp⟩ ((T + 1) % 2 : Nat) (sectorL z (T + 1) u) = (9, crashD ⟨z, b, [((T + 1) % 2, sectorL z (T + 1) u)], false, set, left, kp⟩ kp) := by rw [ew, ef]; rfl
    rw [ew1, if_neg (by dsimp only; omega)]
    exact .inr ⟨rfl, crash left⟩
  · have ef : failedD ⟨z, b, [((T + 1) % 2, sectorL z (T + 1) u)], false, set, left, kp⟩ = (false, ⟨z, b, [((T + 1) % 2, sectorL z (T + 1) u)], false, set, IntKind.i64.wrap (left - 1), kp⟩) := by
      unfold failedD; rw [if_neg c1]
    have ew1 : writeD ⟨z, b, [], false, set, left, kp⟩ ((T + 1) % 2 : Nat) (sectorL z (T + 1) u) = (0, ⟨z, b, [((T + 1) % 2, sectorL z (T + 1) u)], false, set, IntKind.i64.wrap (left - 1), kp⟩) := by rw [ew, ef]; rfl
    rw [ew1, if_pos rfl]
    dsimp only
    generalize IntKind.i64.wrap (left - 1) = L
    by_cases c2 : set = true ∧ L = 0
    · have es : syncD ⟨z, b, [((T + 1) % 2, sectorL z (T + 1) u)], false, set, L, kp⟩ = (9, crashD ⟨z, b, [((T + 1) % 2, sectorL z (T + 1) u)], false, set, L, kp⟩ kp) := by
        unfold syncD failedD
        rw [if_neg (fun h => by cases h), if_pos c2, if_pos rfl]
      rw [es, if_neg (by dsimp only; omega)]
      exact .inr ⟨rfl, crash L⟩
    · have es : syncD ⟨z, b, [((T + 1) % 2, sectorL z (T + 1) u)], false, set, L, kp⟩ = (0, ⟨z, putB z b ((T + 1) % 2) (sectorL z (T + 1) u) z, [], false, set, IntKind.i64.wrap (L - 1), kp⟩) := by
        unfold syncD failedD
        rw [if_neg (fun h => by cases h), if_neg c2, if_neg (by simp)]
        rfl
      rw [es, if_pos rfl]
      have hcp := (cont_put hc hT hu hub (Nat.le_refl z)).1 rfl
      exact .inl ⟨rfl, rfl, ⟨⟨hd.sz1, hd.sz2, by show (putB z b ((T + 1) % 2) (sectorL z (T + 1) u) z).length ≤ 32768; rw [hcp.bl]; have := hc.z2; omega, Nat.zero_le _, hd.kl, fun w hw => by cases hw⟩, rfl, rfl, rfl, hcp⟩⟩
theorem inv_fail {z T : Nat} {t : List Int} {D : DS} (h : Inv z T t D) (a : Int) (ks : List Int) (hk : ks.length ≤ 1000000) : Inv z T t (failD D a ks) := by
  unfold failD
  rw [if_neg (by rw [h.o]; simp)]
  exact ⟨⟨h.d.sz1, h.d.sz2, h.d.bl, h.d.wl, by dsimp only; omega, h.d.wt⟩, h.s, h.o, h.w, h.c⟩
end Go.Proofs.YtjaailbgeadnnaaGreat
