/- A contract told at other objects: rows that are handed over to be read alone, nil slices. -/
import Derived.Test.YthhlielliopegaaGreatLI
namespace Go.Sy
open Go
set_option linter.unusedSimpArgs false
set_option linter.unusedVariables false
/-- The names by which a contract's objects are found; the variables keep theirs. -/
def subOK (σ : List (Nat × Nat)) (Z F : List Nat) (O2 O1 : OO) : Bool :=
  F.all (fun f => !(σ.map (·.2)).contains f) && decide ((σ.map (·.2)).Nodup) && σ.all (fun p => !Z.contains p.1 && (keys O1).contains p.1) && Z.all (fun z => (keys O1).contains z) &&
    O2.all fun p => match p.2 with | .var _ => (match lk σ p.1 with | some o => Nat.beq o p.1 && (match lk O1 p.1 with | some (.var _) => true | _ => false) | none => false) | _ => true
theorem lk_keys {O : OO} {o : Nat} (h : (keys O).contains o = true) : lk O o ≠ none := by
  induction O with
  | nil => simp [keys] at h
  | cons p O ih =>
    obtain ⟨i, v⟩ := p
    simp only [lk]
    split
    · simp
    · rename_i e
      refine ih ?_
      simp only [keys, List.map_cons, List.contains_cons, Bool.or_eq_true, beq_iff_eq] at h ⊢
      rcases h with h | h
      · exact absurd h.symm e
      · exact h
theorem FnC.sub {P : Program} {f : FuncId} {A args : List AV} {r : AV} {O1 O2 O' : OO} (h : FnC P f A O1 r O') (σ : List (Nat × Nat)) (Z F : List Nat) (hok : subOK σ Z F O2 O1 = true)
    (hA : matsC σ Z (frzO O2 F) A args) (hO : holdsN O2 σ Z (frzO O2 F) O1) : FnC P f args O2 r O' := by
  refine ⟨h.1, fun w M β xs hids hst hxs => ?_⟩
  simp only [subOK, Bool.and_eq_true, List.all_eq_true, decide_eq_true_eq, Bool.not_eq_true'] at hok
  obtain ⟨⟨⟨⟨hF, hnd⟩, hσ⟩, hZ⟩, hvar⟩ := hok
  let b1 : Bmap := fun o => match lk σ o with | some o' => β o' | none => if Z.contains o = true then some (0, 0) else none
  have ha : Agr σ b1 β := fun o o' h => by show (match lk σ o with | some o' => β o' | none => _) = _; rw [h]
  have hz : NilOK Z b1 := fun o ho => by
    have : lk σ o = none := by
      rw [lk_none]
      intro hm
      obtain ⟨p, hp, rfl⟩ := List.mem_map.1 hm
      have := (hσ p hp).1
      rw [ho] at this
      cases this
    show (match lk σ o with | some o' => β o' | none => if Z.contains o = true then some (0, 0) else none) = _
    rw [this]
    simp only [ho, if_true]
  have hF' : ∀ f ∈ F, ∀ o, lk σ o ≠ some f := fun f hf o e => by
    have := hF f hf
    have hm : f ∈ σ.map (·.2) := List.mem_map.2 ⟨_, lk_mem e, rfl⟩
    simp only [Bool.eq_false_iff] at this
    exact this (by simpa using hm)
  obtain ⟨M1, hM, hV, hs1⟩ := hst.ren hF' hnd ha hz hO
  have hH := holdsN_spec hO
  have own1 : ∀ b, ownOf O1 b1 b → ownOf O2 β b := fun b ⟨o, ob, κ, g1, g2, g3⟩ => by
    rcases hH _ (lk_mem g1) with ⟨o', ob', k1, k2, _⟩ | ⟨_, k2⟩
    · have : b1 o = β o' := ha _ _ k1
      rw [this] at g2
      exact ⟨o', ob', κ, k2, g2, g3⟩
    · rw [hz _ k2] at g2
      cases g2
      exact absurd rfl g3
  have hids1 : ∀ o, lk O1 o = none → b1 o = none := fun o ho => by
    show (match lk σ o with | some o' => β o' | none => if Z.contains o = true then some (0, 0) else none) = none
    cases hl : lk σ o with
    | some o' => exact absurd ho (lk_keys (hσ _ (lk_mem hl)).2)
    | none =>
      simp only []
      by_cases hc : Z.contains o = true
      · exact absurd ho (lk_keys (hZ o (by simpa using hc)))
      · simp only [hc, if_false, Bool.false_eq_true]
  have hs2 : St ⟨w, ownOf O1 b1, M1, nob, 0, fun _ => True⟩ M1 b1 O1 w :=
    ⟨hs1.pool, fun _ _ _ h => h, fun _ _ _ h => .inl h, hs1.objs, fun o ob b κ hl hb hk => ⟨(hs1.mine o ob b κ hl hb hk).1, .inl ⟨o, ob, κ, hl, hb, hk⟩⟩, hs1.inj, Nat.le_refl _, fun _ _ _ => rfl, rfl, rfl, rfl⟩
  have hxs1 : VRs M1 b1 A xs := (matsC_spec σ Z (frzO O2 F) A args hA).vr hM hV ha hz hxs
  refine (h.2 w M1 b1 xs hids1 hs2 hxs1).mono fun e w' ⟨x, M', β', he, hr, st, hv⟩ => ⟨x, M', β', he, hr, ?_, fun o c hl => ?_⟩
  · refine ⟨st.pool, fun b i v hm => st.sub _ _ _ (hM _ _ _ hm), fun b i v hm => ?_, st.objs, fun o ob b κ hl hb hk => ?_, st.inj, st.size, fun b hb hn => st.keep b hb fun h => hn (own1 b h), st.os, st.tape, st.output⟩
    · rcases st.only _ _ _ hm with g | g | g
      · exact hs1.only _ _ _ g
      · exact .inr (.inl (own1 b g))
      · exact .inr (.inr g)
    · obtain ⟨g1, g2⟩ := st.mine o ob b κ hl hb hk
      exact ⟨g1, g2.imp (own1 b) id⟩
  · have hp := hvar _ (lk_mem hl)
    simp only [] at hp
    cases hl2 : lk σ o with
    | none => rw [hl2] at hp; cases hp
    | some o' =>
      rw [hl2] at hp
      simp only [Bool.and_eq_true] at hp
      obtain rfl := Nat.eq_of_beq_eq_true hp.1
      have hp2 := hp.2
      split at hp2
      · rename_i c' hc'
        rw [hv _ _ hc']
        exact ha _ _ hl2
      · cases hp2
end Go.Sy
