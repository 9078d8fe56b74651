/- Regions whose order is open: the rule, whole. -/
import Derived.Test.YtnonjfknpajpaaaS26
namespace Go.Sy
open Go
set_option linter.unusedSimpArgs false
set_option linter.unusedVariables false
section
variable {E : Env} {N : Nat} {M M' M1 : Pool} {β β' β1 β2 : Bmap} {T T' T0 : TT} {O O' O1 O2 J V V' O0 : OO} {n n0 nf : Nat} {a : Act} {w w' : World} {P : Program} {ops : Array Oper} {rs : List Rec}

theorem OS_none {S : Nat → Bool} (h : ∀ i, S i = false) : ∀ (l : List Rec) (O : OO), OS S l O = O := by
  intro l
  induction l with
  | nil => intro O; rfl
  | cons r l ih => intro O; simp only [OS, h, Bool.false_eq_true, if_false]; exact ih O
theorem TS_none {S : Nat → Bool} (h : ∀ i, S i = false) : ∀ (l : List Rec) (O : TT), TS S l O = O := by
  intro l
  induction l with
  | nil => intro O; rfl
  | cons r l ih => intro O; simp only [TS, h, Bool.false_eq_true, if_false]; exact ih O
theorem St.lkeq (h : St E M β O w) (he : ∀ o, lk O' o = lk O o) : St E M β O' w :=
  ⟨h.pool, h.sub, h.only, fun o ob hl => h.objs o ob (by rw [← he]; exact hl), fun o ob b κ hl => h.mine o ob b κ (by rw [← he]; exact hl),
    fun o o' ob ob' b κ κ' hl hl' => h.inj o o' ob ob' b κ κ' (by rw [← he]; exact hl) (by rw [← he]; exact hl'), h.size, h.keep, h.os, h.tape, h.output⟩
theorem filter_lt {p q : Nat → Bool} {x : Nat} : ∀ {l : List Nat}, (∀ i, q i = true → p i = true) → x ∈ l → p x = true → q x = false → (l.filter q).length < (l.filter p).length := by
  intro l
  induction l with
  | nil => intro _ h; cases h
  | cons a l ih =>
    intro hpq hx hp hq
    have le : ∀ l : List Nat, (l.filter q).length ≤ (l.filter p).length := by
      intro l
      induction l with
      | nil => simp
      | cons b l ih =>
        simp only [List.filter_cons]
        cases hb : q b
        · simp only [Bool.false_eq_true, if_false]; split <;> (try simp) <;> omega
        · simp only [hpq b hb, if_true, List.length_cons]; omega
    rcases List.mem_cons.1 hx with rfl | hx
    · simp only [List.filter_cons, hp, hq, if_true, Bool.false_eq_true, if_false, List.length_cons]
      have := le l
      omega
    · have := ih hpq hx hp hq
      simp only [List.filter_cons]
      cases hb : q a
      · simp only [Bool.false_eq_true, if_false]; split <;> (try simp) <;> omega
      · simp only [hpq a hb, if_true, List.length_cons]; omega
theorem waits_spec {o : Oper} {b : Nat} (h : waits o b = true) : ∃ e ∈ o.after, Region.binds .any e = true ∧ e.on = b := by
  simp only [waits, List.any_eq_true, Bool.and_eq_true, beq_iff_eq] at h
  obtain ⟨e, he, h1, h2⟩ := h
  exact ⟨e, by simpa using he, h1, h2⟩
theorem draw_any (h : Recs P ops T0 O0 n0 nf rs) (hE : ∀ o, E.ok o) (hn0 : E.n0 ≤ n0) (hd : ∀ o ∈ ops.toList, ∀ t, o.dst = some t → t < N) {Q : Exit → Act → World → Prop}
    (hQ : ∀ a w M β, Inv E N rs T0 O0 nf (fun _ => true) M β a w → Q .normal a w) : ∀ (fuel : Nat) (listed : Array Bool) (a : Act) (w : World) (M : Pool) (β : Bmap), listed.size = ops.size →
      Dn rs (fun i => listed.getD i false) → Inv E N rs T0 O0 nf (fun i => listed.getD i false) M β a w → ((List.range ops.size).filter fun i => !listed.getD i false).length ≤ fuel → wpAny P .any ops Q fuel listed a w := by
  have done : ∀ (listed : Array Bool) (a : Act) (w : World) (M : Pool) (β : Bmap), listed.size = ops.size → Inv E N rs T0 O0 nf (fun i => listed.getD i false) M β a w → Region.ready .any ops listed = [] → Q .normal a w := by
    intro listed a w M β hsz hi hrd
    have all : ∀ (l pre post : List Rec), rs = pre ++ (l ++ post) → (∀ r ∈ pre, listed.getD r.i false = true) → ∀ r ∈ l, listed.getD r.i false = true := by
      intro l
      induction l with
      | nil => intro pre post e _ r hr; cases hr
      | cons q l ih =>
        intro pre post e hpre r hr'
        have hq : listed.getD q.i false = true := by
          obtain ⟨hr, _, _⟩ := h.ok pre q (l ++ post) (by rw [e]; simp)
          cases hs : listed.getD q.i false with
          | true => rfl
          | false =>
            exfalso
            have hlt : q.i < ops.size := (Array.getElem?_eq_some_iff.1 hr.op).1
            have : q.i ∈ Region.ready .any ops listed := by
              rw [mem_ready]
              refine ⟨?_, q.o, hr.op, fun e' he hb => ?_⟩
              · have hlt' : q.i < listed.size := by omega
                simp only [Array.getD_eq_getD_getElem?, Array.getElem?_eq_getElem hlt', Option.getD_some] at hs ⊢
                exact hs
              · obtain ⟨p, hp, ep⟩ := hr.isB _ (hr.edge e' he hb)
                rw [← ep]; exact hpre p hp
            rw [hrd] at this
            cases this
        rcases List.mem_cons.1 hr' with rfl | hr'
        · exact hq
        · refine ih (pre ++ [q]) post (by rw [e]; simp) (fun p hp => ?_) r hr'
          rcases List.mem_append.1 hp with hp | hp
          · exact hpre p hp
          · simp only [List.mem_singleton] at hp; subst hp; exact hq
    have hall : ∀ r ∈ rs, listed.getD r.i false = true := all rs [] [] (by simp) (fun r hr => (by cases hr))
    refine hQ a w M β ⟨by rw [← OS_congr rs (S := fun i => listed.getD i false) hall]; exact hi.st, by rw [← TS_congr rs (S := fun i => listed.getD i false) hall]; exact hi.tmps, hi.nd, hi.sz, hi.base, hi.top, fun r hr hs => by cases hs⟩
  intro fuel
  induction fuel with
  | zero =>
    intro listed a w M β hsz hdn hi hf
    have hrd : Region.ready .any ops listed = [] := by
      cases hr : Region.ready .any ops listed with
      | nil => rfl
      | cons j l =>
        exfalso
        have hj : j ∈ Region.ready .any ops listed := by rw [hr]; simp
        obtain ⟨h1, o, h2, _⟩ := mem_ready.1 hj
        have hlt : j < ops.size := (Array.getElem?_eq_some_iff.1 h2).1
        have hlt' : j < listed.size := by omega
        have : j ∈ (List.range ops.size).filter fun i => !listed.getD i false := by
          rw [List.mem_filter]
          refine ⟨by simpa using hlt, ?_⟩
          simp only [Array.getD_eq_getD_getElem?, Array.getElem?_eq_getElem hlt', Option.getD_some] at h1 ⊢
          simp [h1]
        rw [List.eq_nil_of_length_eq_zero (Nat.le_zero.1 hf)] at this
        cases this
    exact ⟨hrd, done listed a w M β hsz hi hrd⟩
  | succ fuel ih =>
    intro listed a w M β hsz hdn hi hf
    refine ⟨fun hrd => done listed a w M β hsz hi hrd, fun i hir => ?_⟩
    obtain ⟨h1, o, h2, h3⟩ := mem_ready.1 hir
    have hlt : i < ops.size := (Array.getElem?_eq_some_iff.1 h2).1
    have hlt' : i < listed.size := by omega
    have hSi : listed.getD i false = false := by
      simp only [Array.getD_eq_getD_getElem?, Array.getElem?_eq_getElem hlt', Option.getD_some] at h1 ⊢
      exact h1
    have hBi : ∀ q ∈ rs, q.i = i → ∀ b ∈ q.B, listed.getD b false = true := fun q hq e b hb => by
      obtain ⟨l, post, e2⟩ := split_mem hq
      obtain ⟨hr, _, _⟩ := h.ok l q post e2
      have hop := hr.op
      rw [e, h2] at hop
      cases hop
      rcases hr.bef b hb with g | ⟨c, hc, g1, g2⟩
      · obtain ⟨e', he, hbd, rfl⟩ := waits_spec g
        exact h3 e' he hbd
      · obtain ⟨e', he, hbd, ec⟩ := waits_spec g1
        have := h3 e' he hbd
        rw [ec] at this
        exact hdn c (by rw [e2]; simp [hc]) this b g2
    obtain ⟨r, hr, rfl⟩ := h.all i hlt
    obtain ⟨l, post, e2⟩ := split_mem hr
    have hnew : (fun k => listed.getD k false || k == r.i) = fun k => (listed.setIfInBounds r.i true).getD k false := by
      funext k
      by_cases hk : k = r.i
      · subst hk
        simp [hlt']
      · rw [getD_set_ne false (Ne.symm hk)]
        simp [hk]
    refine Inv.step h hE hn0 hdn e2 hSi (hBi r hr rfl) (fun t ht => hd r.o (by
      have := (h.ok l r post e2).1.op
      have := Array.mem_of_getElem? this
      simpa using this) t ht) hi fun a' w' M' β' hi' => ih _ a' w' M' β' (by simpa using hsz) ?_ (by rw [← hnew]; exact hi') ?_
    · intro q hq hs b hb
      have hs' : (listed.getD q.i false || q.i == r.i) = true := by rw [congrFun hnew q.i]; exact hs
      show (listed.setIfInBounds r.i true).getD b false = true
      rw [← congrFun hnew b]
      simp only [Bool.or_eq_true, beq_iff_eq] at hs' ⊢
      rcases hs' with g | g
      · exact .inl (hdn q hq g b hb)
      · exact .inl (hBi q hq g b hb)
    · have := filter_lt (l := List.range ops.size) (p := fun i => !listed.getD i false) (q := fun i => !(listed.setIfInBounds r.i true).getD i false) (x := r.i) (fun k hk => by
        rw [← congrFun hnew k] at hk
        simp only [Bool.not_or, Bool.and_eq_true] at hk
        exact hk.1) (by simpa using hlt) (by simp only [hSi]; rfl) (by rw [← congrFun hnew r.i]; simp)
      omega
theorem vcWalk_sound (hm : P.follows .mixedOrders = true) (hE : ∀ o, E.ok o) {pl : Plan} {K : CK} {id : Nat} {Q : Exit → Act → World → Prop} (hd : ∀ o ∈ ops.toList, ∀ t, o.dst = some t → t < N) (hp : okPlan ops [] pl = true)
    (h : vcWalk P ops.toList pl [] K T O n) (hr : Rel E N T O n a w) (hK : ∀ T O n a w, K T O n → Rel E N T O n a w → Q .normal a w) : (Code.region id ops true).wp P Q a w := by
  obtain ⟨M, β, hr⟩ := hr
  have hlt : ∀ o ob, lk O o = some ob → o < n := fun o ob hl => by
    obtain ⟨b, κ, hb, _⟩ := hr.st.objs _ _ hl
    by_cases hn : o < n
    · exact hn
    · rw [hr.ids o (by omega) (hE o)] at hb; cases hb
  obtain ⟨rs, Tf, Of, nf, k1, k2, k3, k4, k5, k6⟩ := chain (T0 := T) (O0 := O) pl [] [] [] T O n ⟨fun us o => by simp [hidX], fun q => by simp, fun t => rfl, fun o => rfl, hlt, fun p hp => (by cases hp), fun p hp => (by cases hp)⟩ (fun p hp => (by cases hp)) hp h
  have hrec : Recs P ops T O n nf rs := ⟨fun l r post e => by have := k2 l r post e; simpa using this, by simpa using k6⟩
  refine wp_region_any hm (draw_any hrec hE hr.le0 hd (fun a w M β hi => hK Tf Of nf a w k1 ⟨M, β, hi.st.lkeq (by simpa using k4), fun o ho _ => hi.top o ho, fun t v hl => hi.tmps t v (by rw [← hl]; simpa using (k3 t).symm), hi.nd, hi.sz, fun o ho => hi.base o (ho.resolve_right fun h => h (hE o)), Nat.le_trans hr.le0 k5⟩) _ _ _ _ M β (by simp) ?_ ?_ ?_)
  · intro r _ hs
    exfalso
    simp [Array.getElem?_replicate] at hs
    split at hs <;> simp at hs
  · have hS : ∀ i, (fun i => (Array.replicate ops.size false).getD i false) i = false := fun i => by
      simp only [Array.getD_eq_getD_getElem?, Array.getElem?_replicate]
      split <;> rfl
    refine ⟨by rw [OS_none hS]; exact hr.st.drew, by rw [TS_none hS]; exact hr.tmps, hr.nd, hr.sz, fun o ho => hr.base o (.inl ho), fun o ho => hr.ids o (by omega) (hE o), fun r hr' _ o h1 _ => ?_⟩
    obtain ⟨l, post, e⟩ := split_mem hr'
    have := (k2 l r post e).2.1
    exact hr.ids o (by omega) (hE o)
  · have := List.length_filter_le (fun i => !(Array.replicate ops.size false).getD i false) (List.range ops.size)
    simpa using this
end
end Go.Sy
