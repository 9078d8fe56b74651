/- The builtins and the conversions as operations. -/
import Derived.Test.YtnonjfknpajpaaaS17
import Derived.Laws.IdiomStrings
import Derived.Laws.BytesArg
namespace Go.Sy
open Go
set_option linter.unusedSimpArgs false
set_option linter.unusedVariables false
section
variable {E : Env} {N : Nat} {M : Pool} {β β' : Bmap} {T : TT} {O O' : OO} {n : Nat} {a : Act} {w w' : World} {P : Program} {o : Oper} {K : KK}

theorem OpS.blt {s : Sem Value} {κ : AV → OO → Nat → Prop} (hrun : (execOp a.eval o).run P w = (do pure (.value (← s)) : Sem Next).run P w) (h : BltS P E N T a w s κ)
    (hk : ∀ r O' n', κ r O' n' → K r O' n') : OpS P o E N T K a w := by
  obtain ⟨r, O', n', y, w', M', β', h1, h2, h3, h4⟩ := h
  refine fun next Q hn => ?_
  unfold Oper.wp
  rw [hrun]
  simp only [Sem.run_bind, h2, Result.andThen_ok, Sem.run_pure]
  exact hn _ _ _ _ _ _ _ (hk _ _ _ h1) h3 h4
theorem bltC_spec (h0 : RelAt E N M β T O n a w) {b : Builtin} {ts : List TypeId} {vs : List AV} {xs : List Value} {tt : TypeId} {κ : AV → OO → Nat → Prop} (hK : ∀ v O' n', κ v O' n' → ∀ o, n ≤ o → o < n' → E.ok o) (h : bltC P b ts vs O n κ) (hv : VRs M β vs xs) :
    ∃ s : Sem Value, (∀ cs, builtin b ts.toArray tt cs xs.toArray = (do pure (.value (← s)) : Sem Next)) ∧ BltS P E N T a w s κ := by
  unfold bltC at h
  split at h
  · rename_i v
    split at h
    · rename_i t
      cases hv with
      | cons h1 hs =>
        cases hs
        obtain ⟨m, hk, hrun⟩ := lenK_spec (tt := tt) h h1
        exact ⟨_, fun _ => rfl, _, _, _, _, w, M, β, hk, hrun, h0, .one rfl (.int _ _)⟩
    · exact h.elim
  · cases hv with
    | cons h1 hs => cases hs with
      | cons h2 hs =>
        cases hs
        exact ⟨_, fun _ => rfl, appendC_spec h0 hK h h1 h2⟩
  · cases hv with
    | cons h1 hs => cases hs with
      | cons h2 hs =>
        cases hs
        obtain ⟨r, O', n', y, w', M', β', ⟨m, rfl, rfl, hk⟩, g⟩ := copyC_spec (tt := tt) h0 h h1 h2
        exact ⟨_, fun _ => rfl, _, _, _, y, w', M', β', hk, g⟩
  · rename_i k x k' y
    obtain ⟨rfl, h⟩ := h
    cases hv with
    | cons h1 hs => cases hs with
      | cons h2 hs =>
        cases hs
        have e1 := h1.int_inv
        have e2 := h2.int_inv
        subst e1; subst e2
        refine ⟨_, fun _ => rfl, _, _, _, .int k (min x y), w, M, β, h, ?_, h0, .one rfl (.int _ _)⟩
        have : (if y < x then y else x) = min x y := by rw [Int.min_def]; split <;> split <;> omega
        simp [Builtin.min_, Builtin.min2, this]
  · rename_i k x k' y
    obtain ⟨rfl, h⟩ := h
    cases hv with
    | cons h1 hs => cases hs with
      | cons h2 hs =>
        cases hs
        have e1 := h1.int_inv
        have e2 := h2.int_inv
        subst e1; subst e2
        refine ⟨_, fun _ => rfl, _, _, _, .int k (max x y), w, M, β, h, ?_, h0, .one rfl (.int _ _)⟩
        have : (if x < y then y else x) = max x y := by rw [Int.max_def]; split <;> split <;> omega
        simp [Builtin.max_, Builtin.max2, this]
  · exact h.elim
theorem s_builtin (hK : ∀ v O' n', K v O' n' → ∀ o, n ≤ o → o < n' → E.ok o) {c : Call} {b : Builtin} (ho : o.op = .call c) (hb : c.callee = .builtin b)
    (h : evsC T c.args.toList fun vs => bltC P b c.argTypes.toList vs O n fun r O' n' => K r O' n') (hr : RelAt E N M β T O n a w) : OpS P o E N T K a w := by
  obtain ⟨vs, h, hv⟩ := evsC_spec hr h
  obtain ⟨s, e, hs⟩ := bltC_spec (tt := o.type) hr hK h hv
  refine OpS.blt ?_ hs fun _ _ _ hk => hk
  simp only [execOp, ho, resolve, hb, Sem.run_bind, Sem.run_pure, Result.andThen_ok, invoke]
  have ea : c.args.map a.eval = (c.args.toList.map a.eval).toArray := by apply Array.ext'; simp
  have et : c.argTypes = c.argTypes.toList.toArray := by simp
  rw [ea, et, e]
  simp

theorem bytesOf_spec {c : AV} {κ : List UInt8 → Prop} (h : bytesOf c κ) : ∃ m xs, c = .ints .u8 m xs ∧ κ (xs.map fun x => UInt8.ofNat x.toNat) := by
  unfold bytesOf at h
  split at h
  · exact ⟨_, _, rfl, h⟩
  · exact h.elim
theorem s_convert (hK : ∀ v O' n', K v O' n' → ∀ o, n ≤ o → o < n' → E.ok o) {q t : TypeId} {x : Operand} (ho : o.op = .convert q t x) (h : evC T x fun v => convC P q t v O n fun r O' n' => K r O' n') (hr : RelAt E N M β T O n a w) : OpS P o E N T K a w := by
  obtain ⟨v, h, hv⟩ := evC_spec hr h
  obtain ⟨sty, hs, _, h⟩ := tyC_spec h
  obtain ⟨d, hdd, _, h⟩ := tyC_spec h
  have hu : ∃ d, P.underlying q = some d := by
    cases sty with
    | st ts => obtain ⟨_, fs, hu, _⟩ := hs; exact ⟨_, hu⟩
    | arr m e te => exact ⟨_, hs.2.1⟩
    | func => obtain ⟨_, _, _, _, hu⟩ := hs; exact ⟨_, hu⟩
    | _ => exact ⟨_, hs.2⟩
  obtain ⟨ud, hu⟩ := hu
  refine OpS.blt (s := convert q t (a.eval x)) (by simp only [execOp, ho]) (κ := fun r O' n' => K r O' n') ?_ fun _ _ _ hk => hk
  cases d with
  | int k =>
    cases v with
    | int k' m =>
      have e := hv.int_inv
      rw [e]
      refine ⟨_, _, _, .int k (k.wrap m), w, M, β, h, ?_, hr, .one rfl (.int _ _)⟩
      simp [convert, r_under hu, r_under hdd.2, Conv.intToInt]
    | _ => exact h.elim
  | slice e =>
    cases v with
    | osl o0 p sz lo len =>
      obtain ⟨rfl, hlen, rfl, h⟩ := h
      obtain ⟨te, hte, _, hte2, h⟩ := tyC_spec h
      subst hte2
      obtain ⟨ob, hl, h⟩ := objC_spec h
      cases ob with
      | row c =>
        have hk : K (.osl o0 [] sz lo len) O n := h
        have hv0 := hv
        obtain ⟨b, κ, base, cap, hb, e1, hcap, hkk, ha⟩ := hv.osl_inv
        have hbase : base = some ⟨b, poff [] + lo * sz, none⟩ := ha.resolve_left (by omega)
        have hk0 : κ ≠ 0 := by have := hkk rfl; omega
        obtain ⟨b', κ', hb', hor⟩ := hr.st.objs _ _ hl
        rw [hb] at hb'; cases hb'
        obtain ⟨h1, h2, h3⟩ := hor
        rcases h3 with ⟨h3, _⟩ | ⟨_, cc, sp, e', fz, h4, h5, h6, h7⟩
        · exact absurd h3 hk0
        · rw [e1, hbase]
          let fz' : Nat × Nat := if fz.1 == fz.2 then ((cc ++ sp).length, (cc ++ sp).length + 1) else (min fz.1 (cc ++ sp).length, max fz.2 ((cc ++ sp).length + 1))
          have hfz' : freeCells fz' (cc ++ sp).length := by
            show freeCells (if fz.1 == fz.2 then _ else _) _
            split
            · exact .inr (Nat.le_refl _)
            · rename_i hne
              rcases h5 with h5 | h5
              · exact absurd (by simpa using h5) hne
              · exact .inr (by show _ ≤ min _ _; omega)
          have hblt : b < w.heap.size := (Array.getElem?_eq_some_iff.1 h4).1
          have hput := hr.st.put hl hb hk0 (O' := O) (ob' := .row c) (x := .cells (cc ++ sp).toArray e' fz') (fun i => by split <;> simp_all) ⟨h1, h2, .inr ⟨hk0, cc, sp, e', fz', by rw [getElem?_putBlock hblt, if_pos rfl], hfz', h6, h7⟩⟩
          have hrel : RelAt E N M β T O n a (w.putBlock b (.cells (cc ++ sp).toArray e' fz')) := hr.next hput (BLe.refl _) hr.ids (fun _ _ => rfl) (Nat.le_refl _)
          refine ⟨_, _, _, .slice (some ⟨b, poff [] + lo * sz, none⟩) len cap, w.putBlock b (.cells (cc ++ sp).toArray e' fz'), M, β, hk, ?_, hrel, ?_⟩
          · have hsh : w.shape? b = some (e', (cc ++ sp).length) := by simp [World.shape?, h4]
            have hfr : w.freeze ⟨b, (cc ++ sp).length, none⟩ 1 = w.putBlock b (.cells (cc ++ sp).toArray e' fz') := by
              unfold World.freeze World.putBlock
              rw [if_neg (by decide)]
              congr 1
              apply Array.ext_getElem?
              intro i
              rw [Array.getElem?_modify, Array.getElem?_setIfInBounds]
              by_cases hi : b = i
              · subst hi
                rw [if_pos rfl, if_pos rfl, if_pos hblt, h4]
                rfl
              · rw [if_neg hi, if_neg hi]
            simp [convert, r_under hdd.2, r_under hte.2, markStringish, hsh]
            rw [← List.length_append]
            exact hfr
          · rw [e1, hbase] at hv0; exact hv0
      | _ => exact h.elim
    | str s =>
      obtain ⟨hs2, h2⟩ := h
      subst hs2
      obtain ⟨te, hte, _, hte2, h3⟩ := tyC_spec h2
      subst hte2
      have e1 := hv.str_inv
      rw [e1]
      have hsz : (⟨s.toArray⟩ : ByteArray).size = s.length := by simp [ByteArray.size]
      have hrun := run_bytes_of_string (P := P) w q t e ⟨s.toArray⟩ hs.2 hdd.2 hte.2
      rw [hsz] at hrun
      have hge := grownCap_ge w s.length 0 e
      have hr0 : RelAt E N M β T O n a w.drew := hr.next hr.st.drew (BLe.refl _) hr.ids (fun _ _ => rfl) (Nat.le_refl _)
      have hrv : RV M β (.ints .u8 s.length (s.map fun x => (x.toNat : Int))) ((s.map fun x => (x.toNat : Int)).map (Value.int .u8)) := .ints _ (by simp)
      have hnew := hr0.newRowF (hK _ _ _ h3 n (Nat.le_refl _) (Nat.lt_succ_self _)) (e := e) (cells := bytesRow ⟨s.toArray⟩ (grownCap w s.length 0 e)) (sp := List.replicate (grownCap w s.length 0 e - s.length) (.int .u8 0)) (κ := grownCap w s.length 0 e)
        (fz := ((bytesRow ⟨s.toArray⟩ (grownCap w s.length 0 e)).size, (bytesRow ⟨s.toArray⟩ (grownCap w s.length 0 e)).size + 1)) (.inr (Nat.le_refl _)) hrv rfl (by simp [AV.esz])
        (by simp [bytesRow, ByteArray.size]) (by simp [AV.esz]; omega) (by simp [AV.esz, AV.cnt])
      refine ⟨_, _, _, _, _, M, _, h3, hrun, hnew, ?_⟩
      exact row_value (c := .ints .u8 s.length (s.map fun x => (x.toNat : Int))) hge _ (by simp)
    | _ => exact h.elim
  | str =>
    have gen : (∃ b l c, a.eval x = .slice b l c) → (match (generalizing := false) sty with
      | .slice e => tyC P e fun te => te = .int .u8 ∧ contC O te v fun c => bytesOf c fun s => K (.str s) O n
      | _ => False) → BltS P E N T a w (convert q t (a.eval x)) (fun r O' n' => K r O' n') := by
      rintro ⟨b, l, c, e⟩ h
      rw [e] at hv ⊢
      cases sty with
      | slice e =>
        obtain ⟨te, hte, _, hte2, h3⟩ := tyC_spec h
        subst hte2
        obtain ⟨d, h4, hc⟩ := contC_spec (P := P) hr (by decide) h3 hv
        obtain ⟨m, xs, rfl, hk⟩ := bytesOf_spec h4
        refine ⟨_, _, _, .string ⟨(xs.map fun x => UInt8.ofNat x.toNat).toArray⟩, w, M, β, hk, ?_, hr, .one rfl (.str _)⟩
        rw [run_convert_bytes_string w q t e b l c hs.2 hte.2 hdd.2]
        obtain ⟨cc, hcc, hcells⟩ := hc.cells
        have hl : l = m := by
          have := hc.len w
          simp only [Builtin.lenOf, Sem.run_pure, AV.cnt] at this
          simpa using this
        have hcx : cc = xs.map (Value.int .u8) := by cases hcc; rfl
        have hrd := hcells w rfl
        subst hl; subst hcx
        cases b with
        | none =>
          simp only [Builtin.firstCells, Sem.run_pure] at hrd
          have : xs = [] := by
            have e := hrd
            simp at e
            exact e
          subst this
          simp [Conv.bytesToString, ByteArray.empty, ByteArray.emptyWithCapacity]
          rfl
        | some aa =>
          simp only [Builtin.firstCells, AV.cnt, Ty.size, Nat.mul_one] at hrd
          rw [run_bytesToString w aa l c xs hrd, foldl_push_bytes]
          simp [ByteArray.empty, ByteArray.emptyWithCapacity]
          rfl
      | _ => exact h.elim
    cases v with
    | str s =>
      have e := hv.str_inv
      rw [e]
      refine ⟨_, _, _, .string ⟨s.toArray⟩, w, M, β, h, ?_, hr, .one rfl (.str _)⟩
      cases ud <;> simp [convert, r_under hu, r_under hdd.2]
    | sl c => exact gen (by obtain ⟨_, _, _, e, _⟩ := hv.sl_inv; exact ⟨_, _, _, e⟩) h
    | nils => exact gen ⟨_, _, _, hv.nils_inv⟩ h
    | osl i p sz lo len => exact gen (by obtain ⟨_, _, _, _, _, e, _⟩ := hv.osl_inv; exact ⟨_, _, _, e⟩) h
    | _ => cases sty <;> first | exact h.elim | (obtain ⟨_, _, _, _, h⟩ := tyC_spec h; exact h.elim)
  | _ => exact h.elim
end
end Go.Sy
