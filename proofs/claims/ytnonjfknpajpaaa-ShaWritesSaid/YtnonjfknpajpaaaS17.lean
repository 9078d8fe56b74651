/- The builtins and the conversions as operations. -/
import Derived.Test.YtnonjfknpajpaaaS16
namespace Go.Sy
open Go
set_option linter.unusedSimpArgs false
set_option linter.unusedVariables false
section
variable {E : Env} {N : Nat} {M : Pool} {β β' : Bmap} {T : TT} {O O' : OO} {n : Nat} {a : Act} {w w' : World} {P : Program} {o : Oper} {K : KK}

theorem appendC_spec (h0 : RelAt E N M β T O n a w) {ts : List TypeId} {s x : AV} {sv xv : Value} {tt : TypeId} {κ : AV → OO → Nat → Prop} (hK : ∀ v O' n', κ v O' n' → ∀ o, n ≤ o → o < n' → E.ok o) (h : appendC P ts s x O n κ) (hs : VR M β s sv) (hx : VR M β x xv) :
    BltS P E N T a w (Builtin.append_ ts.toArray tt #[sv, xv]) κ := by
  unfold appendC at h
  split at h
  · rename_i st xt
    obtain ⟨sty, hst, _, h⟩ := tyC_spec h
    cases sty with
    | slice e =>
      obtain ⟨te, hte, _, inf, hinf, hb0, hpos, h⟩ := tyC_spec h
      have gen : (∀ k i, x ≠ .int k i) → (tyC P xt fun xty => (∀ k, xty ≠ .int k) ∧ contC O te x fun d => ownC te O s fun c O' => appC te inf.bytes c d n O' κ) → BltS P E N T a w (Builtin.append_ #[st, xt] tt #[sv, xv]) κ := fun _ h => by
        obtain ⟨xty, hxt, _, hni, h⟩ := tyC_spec h
        obtain ⟨d, h, hc⟩ := contC_spec (P := P) h0 hpos h hx
        obtain ⟨c, O', h, hown, hcr, hc0⟩ := ownC_spec h0 hpos h hs
        have hu : ∃ d, P.underlying xt = some d ∧ ∀ k, d ≠ .int k := by
          cases xty with
          | int k => exact absurd rfl (hni k)
          | st ts => obtain ⟨_, fs, hu, _⟩ := hxt; exact ⟨_, hu, by intro k e; cases e⟩
          | arr m e te => exact ⟨_, hxt.2.1, by intro k e; cases e⟩
          | func => obtain ⟨_, _, _, _, hu⟩ := hxt; exact ⟨_, hu, by intro k e; cases e⟩
          | _ => exact ⟨_, hxt.2, by intro k e; cases e⟩
        obtain ⟨xd, hu, hd⟩ := hu
        exact app_run h0 hst.2 hte hinf hpos hb0 hown hcr hc0 (.inl ⟨xd, hu, hd, hc⟩) hK h
      cases x with
      | int k m =>
        obtain ⟨xty, hxt, _, ⟨k', rfl⟩, hm0, hm1, h⟩ := tyC_spec h
        obtain ⟨d, h, hdr, hdc, hde, _, hrv⟩ := zerosC_spec h hpos
        obtain ⟨c, O', h, hown, hcr, hc0⟩ := ownC_spec h0 hpos h hs
        have e := hx.int_inv
        subst e
        refine app_run h0 hst.2 hte hinf hpos hb0 hown hcr hc0 (.inr ⟨k', k, hxt.2, by rw [hdc, Int.toNat_of_nonneg hm0], by omega, hdr, hde, fun {M β} => by rw [hdc]; exact hrv⟩) hK h
      | _ => exact gen (by intro k i e; cases e) h
    | _ => exact h.elim
  · exact h.elim
theorem putC_spec {q d : AV} {lo : Nat} {κ : AV → Prop} (h : putC q lo d κ) : ∃ q', κ q' ∧ q'.isRow = true ∧ q'.esz = q.esz ∧ q'.cnt = q.cnt ∧ d.esz = q.esz ∧ lo + d.cnt ≤ q.cnt ∧ q'.csz = q.csz ∧
    ∀ {M : Pool} {β : Bmap} {cs dd : List Value}, RV M β q cs → RV M β d dd → RV M β q' (splice cs (lo * q.esz) dd) := by
  cases q <;> cases d <;> first | exact h.elim | skip
  · obtain ⟨rfl, hl, h⟩ := h
    rename_i k m xs n ys
    refine ⟨_, h, rfl, rfl, rfl, rfl, hl, rfl, fun {M β cs dd} h1 h2 => ?_⟩
    cases h1 with
    | ints _ l1 => cases h2 with
      | ints _ l2 =>
        have : splice (xs.map (Value.int k)) (lo * 1) (ys.map (Value.int k)) = (xs.take lo ++ (ys ++ xs.drop (lo + ys.length))).map (Value.int k) := by
          simp only [splice, Nat.mul_one, List.length_map, List.map_take, List.map_drop, List.map_append]
        simp only [AV.esz, AV.cnt] at *
        rw [this, l2]
        exact .ints _ (by simp; omega)
  · obtain ⟨rfl, hl, h⟩ := h
    rename_i sz n es m fs
    refine ⟨_, h, rfl, rfl, rfl, rfl, hl, rfl, fun {M β cs dd} h1 h2 => ?_⟩
    cases h1 with
    | lst l1 z1 n1 => cases h2 with
      | lst l2 z2 n2 =>
        simp only [AV.esz, splice, AV.cnt] at *
        have hd : dd.length = m * sz := by rw [l2.length, cszs_const z2, n2]
        rw [hd, ← Nat.add_mul]
        refine .lst ((l1.take z1 lo).append (l2.append (l1.drop z1 (lo + m)))) (fun p hp => ?_) (by simp; omega)
        rcases List.mem_append.1 hp with hp | hp
        · exact z1 p (List.mem_of_mem_take hp)
        · rcases List.mem_append.1 hp with hp | hp
          · exact z2 p hp
          · exact z1 p (List.mem_of_mem_drop hp)
theorem putC_csz {q d : AV} {lo : Nat} {κ : AV → Prop} (h : putC q lo d κ) : q.csz = q.cnt * q.esz := by
  cases q <;> cases d <;> first | exact h.elim | skip
  · simp [AV.csz, AV.cnt, AV.esz]
  · simp [AV.csz, AV.cnt, AV.esz]
theorem copyC_spec (h0 : RelAt E N M β T O n a w) {ts : List TypeId} {s x : AV} {sv xv : Value} {tt : TypeId} {κ : Nat → OO → Prop} (h : copyC P ts s x O κ) (hs : VR M β s sv) (hx : VR M β x xv) :
    BltS P E N T a w (Builtin.copy_ ts.toArray tt #[sv, xv]) (fun r O' n' => ∃ m : Nat, r = .int .i64 m ∧ n' = n ∧ κ m O') := by
  unfold copyC at h
  split at h
  · rename_i st rest
    obtain ⟨sty, hst, _, h⟩ := tyC_spec h
    cases sty with
    | slice e =>
      obtain ⟨te, hte, _, hpos, h⟩ := tyC_spec h
      have none0 : ∀ (base : Option Addr) (len cap : Nat) (d : AV), sv = .slice base len cap → Cont M β w P te xv d → Nat.min d.cnt len = 0 → κ 0 O →
          BltS P E N T a w (Builtin.copy_ (st :: rest).toArray tt #[sv, xv]) (fun r O' n' => ∃ m : Nat, r = .int .i64 m ∧ n' = n ∧ κ m O') := by
        intro base len cap d e hc hm hk
        obtain ⟨dd, _, hpre⟩ := hc.pre
        subst e
        refine ⟨_, _, _, .int .i64 0, w, M, β, ⟨0, rfl, rfl, hk⟩, ?_, h0, .one rfl (.int _ _)⟩
        simp only [Builtin.copy_, List.getElem?_toArray, List.getElem?_cons_zero, List.getElem?_cons_succ, Sem.run_bind, r_under hst.2, Result.andThen_ok, hc.len w, r_size hte]
        rw [hm, hpre 0 (Nat.zero_le _) w rfl]
        cases base <;> simp [storeCells, goInt]
      cases s with
      | nils =>
        obtain ⟨d, hk, hc⟩ := contC_spec (P := P) h0 hpos h hx
        exact none0 none 0 0 d hs.nils_inv hc (Nat.min_zero _) hk
      | osl i p sz lo len =>
        obtain ⟨hsz, h2⟩ := h
        subst hsz
        obtain ⟨d, ⟨hz, hA, hB⟩, hc⟩ := contC_spec (P := P) h0 hpos h2 hx
        obtain ⟨dd, hdd, hpre⟩ := hc.pre
        have hdl := row_len hdd hc.row
        rw [hc.ez] at hdl
        obtain ⟨b, κ0, base, cap, hb, rfl, hcap, hkk, ha⟩ := hs.osl_inv
        by_cases hcz : d.cnt = 0 ∨ len = 0
        · refine none0 base len cap d rfl hc ?_ (hz hcz)
          show min d.cnt len = 0
          omega
        have hbase : base = some ⟨b, poff p + lo * te.size, none⟩ := ha.resolve_left (by omega)
        subst hbase
        have gen : ∀ (m : Nat) (d' : AV) (xs : List Value), m = Nat.min d.cnt len → 0 < m → m ≤ d.cnt → RV M β d' xs → xs = dd.take (m * te.size) → d'.cnt = m →
            (objC O i fun ob => obC ob fun c => navC p c fun q => putC q lo d' fun q' => updO O i p q' fun O' => κ m O') →
            BltS P E N T a w (Builtin.copy_ (st :: rest).toArray tt #[.slice (some ⟨b, poff p + lo * te.size, none⟩) len cap, xv]) (fun r O' n' => ∃ m : Nat, r = .int .i64 m ∧ n' = n ∧ κ m O') := by
          intro m d' xs hm hm0 hmd hd' hxs hc' h
          obtain ⟨ob, hl, h⟩ := objC_spec h
          obtain ⟨c, hcc, h⟩ := obC_spec h
          obtain ⟨q, h, hq⟩ := nav_spec _ _ _ h
          have hqc := putC_csz h
          obtain ⟨q', h, q1, q2, q3, q4, q5, q6, q7⟩ := putC_spec h
          have hxl : xs.length = m * te.size := by rw [hxs, List.length_take, hdl]; exact Nat.min_eq_left (Nat.mul_le_mul_right _ hmd)
          have hxp : 0 < xs.length := by rw [hxl]; exact Nat.mul_pos hm0 hpos
          have hrow : d'.isRow = true := by cases d' <;> first | rfl | (simp [AV.cnt] at hc'; omega)
          have he' : d'.esz = te.size := by
            have := row_len hd' hrow
            rw [hxl, hc'] at this
            exact (Nat.eq_of_mul_eq_mul_left hm0 this).symm
          have hqe : q.esz = te.size := by rw [← q4, he']
          obtain ⟨O', w', b', κ', hb', hk, hrun, hr'⟩ := h0.writeAt (P := P) h (lo * te.size) hxp hd'.one fun {c' cs} hl' hcs => by
            have e1 : c' = c := by
              rcases hl' with h' | h' <;> rw [h'] at hl <;> cases hl <;> exact hcc
            subst e1
            obtain ⟨g1, g2⟩ := hq hcs
            have g3 := q7 g2 hd'
            rw [hqe] at g3
            exact ⟨q.csz, g1, by rw [hqc, hqe, hxl, ← Nat.add_mul, ← hc']; exact Nat.mul_le_mul_right _ q5, g3, by rw [g3.length, q6]⟩
          rw [hb] at hb'; cases hb'
          refine ⟨_, _, _, .int .i64 m, w', M, β, ⟨m, rfl, rfl, hk⟩, ?_, hr', .one rfl (.int _ _)⟩
          simp only [Builtin.copy_, List.getElem?_toArray, List.getElem?_cons_zero, List.getElem?_cons_succ, Sem.run_bind, r_under hst.2, Result.andThen_ok, hc.len w, r_size hte, ← hm]
          rw [hpre m hmd w rfl, ← hxs]
          simp only [Result.andThen_ok, Sem.run_bind, hrun]
          rfl
        by_cases hle : d.cnt ≤ len
        · refine gen d.cnt d dd (Nat.min_eq_left hle).symm (by omega) (Nat.le_refl _) hdd ?_ rfl (hA (by omega) (by omega) hle)
          rw [List.take_of_length_le (by omega)]
        · obtain ⟨d', h, s1, s2, s3, s4, _, s5⟩ := subC_spec (hB (by omega) (by omega) hle)
          obtain ⟨_, this⟩ := s5 hdd
          simp only [Nat.zero_mul, piece, List.drop_zero, hc.ez] at this
          exact gen len d' _ (Nat.min_eq_right (by omega)).symm (by omega) (by omega) this rfl s2 h
      | _ => exact h.elim
    | _ => exact h.elim
  · exact h.elim
end
end Go.Sy
