/- Regions whose order is open: the rule. -/
import Derived.Test.YtnonjfknpajpaaaS26c
namespace Go.Sy
open Go
set_option linter.unusedSimpArgs false
set_option linter.unusedVariables false
section
variable {E : Env} {N : Nat} {M M' M1 : Pool} {β β' β1 β2 : Bmap} {T T' T0 : TT} {O O' O1 O2 J V V' O0 : OO} {n n0 nf : Nat} {a : Act} {w w' : World} {P : Program} {ops : Array Oper} {rs : List Rec}

/-- The state when the operations `S` have come up. -/
structure Inv (E : Env) (N : Nat) (rs : List Rec) (T0 : TT) (O0 : OO) (nf : Nat) (S : Nat → Bool) (M : Pool) (β : Bmap) (a : Act) (w : World) : Prop where
  st : St E M β (OS S rs O0) w
  tmps : ∀ t v, lk (TS S rs T0) t = some v → ∃ x, a.tmps[t]? = some x ∧ VR M β v x
  nd : a.defers = []
  sz : a.tmps.size = N
  base : ∀ o, o < E.n0 → β o = E.B0 o
  top : ∀ o, nf ≤ o → β o = none
  free : ∀ r ∈ rs, S r.i = false → ∀ o, r.n ≤ o → o < r.n' → β o = none
/-- What is known of the records. -/
structure Recs (P : Program) (ops : Array Oper) (T0 : TT) (O0 : OO) (n0 nf : Nat) (rs : List Rec) : Prop where
  ok : ∀ l r post, rs = l ++ r :: post → RecOK P ops T0 O0 l r ∧ n0 ≤ r.n ∧ r.n' ≤ nf
  all : ∀ j, j < ops.size → ∃ r ∈ rs, r.i = j
/-- Whatever has come up, so has what it waits for. -/
def Dn (rs : List Rec) (S : Nat → Bool) : Prop := ∀ r ∈ rs, S r.i = true → ∀ b ∈ r.B, S b = true

theorem split_mem {r : Rec} (h : r ∈ rs) : ∃ l post, rs = l ++ r :: post := List.append_of_mem h
theorem apart_dst {x y : Oper} (h : x.apart ops y = true) : (∀ d, x.dst = some d → d ∉ y.looksAt ops) ∧ (∀ d, x.dst = some d → y.dst ≠ some d) ∧ (∀ d, y.dst = some d → d ∉ x.looksAt ops) := Oper.apart_spec h

/-- What an operation sees, whatever has come up ahead of it. -/
theorem Recs.sees (h : Recs P ops T0 O0 n0 nf rs) {S : Nat → Bool} (hd : Dn rs S) {l post : List Rec} {r : Rec} (e : rs = l ++ r :: post) (hS : S r.i = false) (hB : ∀ b ∈ r.B, S b = true) :
    (∀ o ob, lk r.V o = some ob → lk (OS S rs O0) o = some ob) ∧ (∀ t ∈ r.o.looksAt ops, lk (TS S rs T0) t = lk r.T t) ∧
    (∀ o, lk (OS (fun k => S k || k == r.i) rs O0) o = if r.W.contains o = true then lk r.V' o else lk (OS S rs O0) o) ∧ (∀ t, lk (TS (fun k => S k || k == r.i) rs T0) t = lk (putT r.o.dst r.v (TS S rs T0)) t) := by
  obtain ⟨hr, _, _⟩ := h.ok l r post e
  -- an earlier one that has not come up is not waited for
  have early : ∀ p ∈ l, S p.i = false → p.i ∈ r.us := fun p hp hs => by
    rcases hr.mem p hp with g | g
    · rw [hB _ g] at hs; cases hs
    · exact g
  have later : ∀ q ∈ post, ∃ l2 post2, rs = l2 ++ q :: post2 ∧ r ∈ l2 ∧ RecOK P ops T0 O0 l2 q := fun q hq => by
    obtain ⟨l1, p1, e1⟩ := split_mem hq
    refine ⟨l ++ r :: l1, p1, by rw [e, e1]; simp, by simp, ?_⟩
    exact (h.ok _ _ p1 (by rw [e, e1]; simp)).1
  -- a later one that has come up does not wait for it
  have late : ∀ q ∈ post, S q.i = true → r.i ∈ q.us ∧ q.loud = false ∧ r.n' ≤ q.n ∧ r.o.apart ops q.o = true := fun q hq hs => by
    obtain ⟨l2, post2, e2, hm, hq'⟩ := later q hq
    have hqm : q ∈ rs := by rw [e]; simp [hq]
    have hnB : r.i ∉ q.B := fun hb => by have := hd q hqm hs _ hb; rw [hS] at this; cases this
    have hus := (hq'.mem r hm).resolve_left hnB
    refine ⟨hus, ?_, hq'.newer r hm, hq'.apart r hm hus⟩
    cases hl : q.loud with
    | false => rfl
    | true => exact absurd (hq'.loud hl r hm) hnB
  have lateW : ∀ q ∈ post, S q.i = true → ∀ o, o < r.n' → q.W.contains o = false := fun q hq hs o ho => by
    obtain ⟨_, h1, h2, _⟩ := late q hq hs
    obtain ⟨_, _, _, _, hq'⟩ := later q hq
    cases hc : q.W.contains o with
    | false => rfl
    | true =>
      have := hq'.quiet h1 o (by simpa using hc)
      omega
  have hdiff : ∀ q ∈ post, q.i ≠ r.i := fun q hq => by
    obtain ⟨_, _, _, hm, hq'⟩ := later q hq
    exact fun e' => hq'.fresh r hm e'.symm
  have hl' : ∀ p ∈ l, (S p.i || p.i == r.i) = S p.i := fun p hp => by simp [hr.fresh p hp]
  have hp' : ∀ p ∈ post, (S p.i || p.i == r.i) = S p.i := fun p hp => by simp [hdiff p hp]
  refine ⟨fun o ob hl => ?_, fun t ht => ?_, fun o => ?_, fun t => ?_⟩
  · obtain ⟨g1, g2, g3⟩ := hr.view o ob hl
    rw [e, OS_append]
    simp only [OS, hS, Bool.false_eq_true, if_false]
    rw [OS_skip post fun q hq hs => lateW q hq hs o (Nat.lt_of_lt_of_le g3 hr.nle)]
    rw [OS_agree l (fun p hp hs => by simpa using g2 p hp (early p hp hs)) rfl]
    exact g1
  · rw [e, TS_append]
    simp only [TS, hS, Bool.false_eq_true, if_false]
    rw [TS_skip post fun q hq hs hdq => (apart_dst (late q hq hs).2.2.2).2.2 _ hdq ht]
    rw [hr.tmps]
    exact TS_agree l (fun p hp hs hdp => (apart_dst (hr.apart p hp (early p hp hs))).1 _ hdp ht) rfl
  · rw [e, OS_append, OS_append]
    simp only [OS, hS, Bool.false_or, beq_self_eq_true, if_true, Bool.false_eq_true, if_false]
    rw [OS_congr (S' := S) l hl', OS_congr (S' := S) post hp']
    by_cases hw : r.W.contains o = true
    · rw [if_pos hw]
      rw [OS_skip post fun q hq hs => lateW q hq hs o (hr.wlt o (by simpa using hw)), lk_updR, if_pos hw]
    · rw [if_neg hw]
      exact OS_lk post (by rw [lk_updR, if_neg hw])
  · rw [e, TS_append, TS_append, lk_putT]
    simp only [TS, hS, Bool.false_or, beq_self_eq_true, if_true, Bool.false_eq_true, if_false]
    rw [TS_congr (S' := S) l hl', TS_congr (S' := S) post hp']
    by_cases hdt : r.o.dst = some t
    · rw [if_pos hdt, TS_skip post fun q hq hs hdq => (apart_dst (late q hq hs).2.2.2).2.1 _ hdt hdq, lk_putT, if_pos hdt]
    · rw [if_neg hdt]
      exact TS_lk post (by rw [lk_putT, if_neg hdt])

theorem Inv.step (h : Recs P ops T0 O0 n0 nf rs) (hE : ∀ o, E.ok o) (hn0 : E.n0 ≤ n0) {S : Nat → Bool} (hd : Dn rs S) {l post : List Rec} {r : Rec} (e : rs = l ++ r :: post) (hS : S r.i = false) (hB : ∀ b ∈ r.B, S b = true)
    (hdst : ∀ t, r.o.dst = some t → t < N) (hi : Inv E N rs T0 O0 nf S M β a w) {Q : Exit → Act → World → Prop} {next : Act → World → Prop}
    (hnext : ∀ a' w' M' β', Inv E N rs T0 O0 nf (fun k => S k || k == r.i) M' β' a' w' → next a' w') : wpOp P ops Q r.i next a w := by
  obtain ⟨hr, hnr, hnf⟩ := h.ok l r post e
  obtain ⟨s1, s2, s3, s4⟩ := h.sees hd e hS hB
  have hrm : r ∈ rs := by rw [e]; simp
  have order : ∀ q ∈ rs, q.i ≠ r.i → q.n' ≤ r.n ∨ r.n' ≤ q.n := fun q hq hne => by
    rw [e] at hq
    rcases List.mem_append.1 hq with hq | hq
    · exact .inl (hr.newer q hq)
    · rcases List.mem_cons.1 hq with rfl | hq
      · exact absurd rfl hne
      · obtain ⟨l1, p1, e1⟩ := split_mem hq
        have := (h.ok (l ++ r :: l1) q p1 (by rw [e, e1]; simp)).1
        exact .inr (this.newer r (by simp))
  -- what the guard says
  have gd : ∀ j want g b, r.o.guard = some (j, want) → (ops[j]?).bind (·.dst) = some g → lk r.T g = some (.bool b) → Region.wanted r.o (yielded ops a.tmps) = (b == want) := fun j want g b h1 h2 h3 => by
    have hg : g ∈ r.o.looksAt ops := by simp only [Oper.looksAt, h1, h2]; simp
    obtain ⟨x, hx, hv⟩ := hi.tmps g _ (by rw [s2 g hg]; exact h3)
    have := hv.bool_inv
    subst this
    refine wanted_of h1 ?_
    unfold yielded
    rw [h2]
    simp [hx]
  unfold wpOp
  simp only [hr.op]
  rcases hr.run with ⟨hrun, hg⟩ | ⟨hv, hW, j, want, g, u, h1, h2, h3, hu⟩
  · have hw : Region.wanted r.o (yielded ops a.tmps) = true := by
      rcases hg with hg | ⟨j, want, g, h1, h2, h3⟩
      · unfold Region.wanted; rw [hg]
      · rw [gd j want g want h1 h2 h3]; simp
    rw [if_pos hw]
    refine .inl ?_
    have hrun' : vcOp P r.o.op (TS S rs T0) r.V r.n (fun v V' n' => v = r.v ∧ V' = r.V' ∧ n' = r.n') := by
      rw [vcOp_congr (T := r.T) fun x hx => evC_congr fun t ht => s2 t ?_]
      · exact hrun
      · subst ht
        exact List.mem_append_left _ (List.mem_filterMap.2 ⟨.tmp t, hx, rfl⟩)
    have hrel : RelAt ⟨w, ownOf r.V β, M, β, r.n, fun o => o < r.n'⟩ N M β (TS S rs T0) r.V r.n a w :=
      ⟨hi.st.view s1 _ _ _, fun o h1 h2 => hi.free r hrm hS o h1 h2, hi.tmps, hi.nd, hi.sz, fun _ _ => rfl, Nat.le_refl _⟩
    refine vcOp_sound (fun v O' n' hk o h1 h2 => by rw [hk.2.2] at h2; exact h2) rfl hrun' hrel next Q ?_
    rintro v V' n' x w' M' β' ⟨rfl, rfl, rfl⟩ hr' hv
    have hout : ∀ o, (o < r.n ∨ ¬ o < r.n') → β' o = β o := hr'.base
    have hbl : BLe β β' := fun o y hy => by
      by_cases h1 : r.n ≤ o ∧ o < r.n'
      · rw [hi.free r hrm hS o h1.1 h1.2] at hy; cases hy
      · rw [hout o (by omega)]; exact hy
    have hval := hr'.value hdst hv
    refine hnext _ _ M' β' ⟨hi.st.frame s1 hr'.st hbl fun o ob hl => ?_, fun t v hl => ?_, hval.nd, hval.sz, fun o ho => ?_, fun o ho => ?_, fun q hq hs o h1 h2 => ?_⟩
    · rw [s3] at hl
      split at hl
      · exact .inl hl
      · rename_i hw
        cases hl2 : lk r.V o with
        | none => exact .inr ⟨hl, rfl⟩
        | some ob2 =>
          have := s1 o ob2 hl2
          rw [hl] at this; cases this
          exact .inl (by rw [hr.same o (by simpa using hw)]; exact hl2)
    · rw [s4] at hl
      exact hval.tmps t v hl
    · rw [hout o (.inl (by omega))]; exact hi.base o ho
    · rw [hout o (.inr (by omega))]; exact hi.top o ho
    · have hs' : S q.i = false ∧ q.i ≠ r.i := by simpa using hs
      rw [hout o (by rcases order q hq hs'.2 with g | g <;> omega)]
      exact hi.free q hq hs'.1 o h1 h2
  · have hw : Region.wanted r.o (yielded ops a.tmps) = false := by
      rcases hu with rfl | rfl
      · rw [gd j want g (!want) h1 h2 h3]
        cases want <;> rfl
      · have hg : g ∈ r.o.looksAt ops := by simp only [Oper.looksAt, h1, h2]; simp
        obtain ⟨x, hx, hv⟩ := hi.tmps g _ (by rw [s2 g hg]; exact h3)
        have : x = .tuple #[] := by
          cases hv with
          | tup h => cases h; rfl
          | one hm h => cases h
          | agg hm h => cases h
        subst this
        unfold Region.wanted
        rw [h1]
        have : yielded ops a.tmps j = none := by unfold yielded; rw [h2]; simp [hx]
        simp [this]
    rw [hw]
    simp only [Bool.false_eq_true, if_false]
    have hsz : ∀ t, r.o.dst = some t → t < a.tmps.size := fun t ht => by rw [hi.sz]; exact hdst t ht
    refine hnext _ _ M β ⟨?_, fun t v hl => ?_, by cases r.o.dst <;> exact hi.nd, by cases hd : r.o.dst <;> simp [Act.put, hi.sz], hi.base, hi.top, fun q hq hs => hi.free q hq (by simp at hs; exact hs.1)⟩
    · refine ⟨hi.st.pool, hi.st.sub, hi.st.only, fun o ob hl => ?_, fun o ob b κ hl => ?_, fun o o' ob ob' b κ κ' hl hl' => ?_, hi.st.size, hi.st.keep, hi.st.os, hi.st.tape, hi.st.output⟩
      · rw [s3, hW] at hl; exact hi.st.objs o ob (by simpa using hl)
      · rw [s3, hW] at hl; exact hi.st.mine o ob b κ (by simpa using hl)
      · rw [s3, hW] at hl hl'; exact hi.st.inj o o' ob ob' b κ κ' (by simpa using hl) (by simpa using hl')
    · rw [s4, lk_putT, hv] at hl
      rw [put_tmps]
      split at hl
      · rename_i e'
        rw [if_pos e', if_pos (hsz t e')]
        cases hl
        exact ⟨_, rfl, .tup .nil⟩
      · rename_i e'
        rw [if_neg e']
        exact hi.tmps t v hl
end
end Go.Sy
