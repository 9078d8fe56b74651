/- Own memory that is not turned any more, told as memory that never turns. -/
import Derived.Test.YtnonjfknpajpaaaS26d
namespace Go.Sy
open Go
set_option linter.unusedSimpArgs false
set_option linter.unusedVariables false
def frzO : OO → List Nat → OO
  | [], _ => []
  | (o, ob) :: O, F => if F.contains o = true then (o, ob) :: frzO O F else frzO O F
def dropO : OO → List Nat → OO
  | [], _ => []
  | (o, ob) :: O, F => if F.contains o = true then dropO O F else (o, ob) :: dropO O F
theorem lk_frzO (F : List Nat) (o : Nat) : ∀ O : OO, lk (frzO O F) o = if F.contains o = true then lk O o else none
  | [] => by simp [frzO, lk]
  | (i, ob) :: O => by
    have ih := lk_frzO F o O
    simp only [frzO]
    by_cases hi : i = o
    · subst hi
      by_cases h : F.contains i = true
      · rw [if_pos h, if_pos h]; simp [lk]
      · rw [if_neg h, if_neg h, ih, if_neg h]
    · by_cases h : F.contains i = true
      · rw [if_pos h]; simp only [lk, if_neg hi, ih]
      · rw [if_neg h, ih]; simp only [lk, if_neg hi]
theorem lk_dropO (F : List Nat) (o : Nat) : ∀ O : OO, lk (dropO O F) o = if F.contains o = true then none else lk O o
  | [] => by simp [dropO, lk]
  | (i, ob) :: O => by
    have ih := lk_dropO F o O
    simp only [dropO]
    by_cases hi : i = o
    · subst hi
      by_cases h : F.contains i = true
      · rw [if_pos h, if_pos h, ih, if_pos h]
      · rw [if_neg h, if_neg h]; simp [lk]
    · by_cases h : F.contains i = true
      · rw [if_pos h, ih]; simp only [lk, if_neg hi]
      · rw [if_neg h]; simp only [lk, if_neg hi, ih]
section
variable {E : Env} {N : Nat} {M M' M1 : Pool} {β β' β1 : Bmap} {T : TT} {O O' O1 O2 J : OO} {n : Nat} {a : Act} {w w' : World} {P : Program}
/-- What reading own memory as memory that never turns gives. -/
def Views (M M1 : Pool) (β : Bmap) (OF : OO) : Prop := ∀ v κ, viewC OF 4 v κ → ∃ c, κ c ∧ Vw M M1 β v c
theorem St.freeze (h : St E M β O w) (F : List Nat) : ∃ M1, PLe M M1 ∧ Views M M1 β (frzO O F) ∧ St E M1 β (dropO O F) w := by
  let M1 : Pool := poolOf true M β (frzO O F) w
  have hin : ∀ o ob, lk (frzO O F) o = some ob → lk O o = some ob ∧ F.contains o = true := fun o ob hl => by
    rw [lk_frzO] at hl
    split at hl
    · rename_i e; exact ⟨hl, e⟩
    · cases hl
  have hout : ∀ o ob, lk (dropO O F) o = some ob → lk O o = some ob ∧ ¬ F.contains o = true := fun o ob hl => by
    rw [lk_dropO] at hl
    split at hl
    · cases hl
    · rename_i e; exact ⟨hl, e⟩
  have hM : PLe M M1 := fun b i v hm => by
    show poolOf true M β (frzO O F) w b i = some v
    unfold poolOf
    rw [if_neg]
    · exact hm
    · rintro ⟨_, o, ob, κ, h1, h2, h3⟩
      have := (h.mine o ob b κ (hin _ _ h1).1 h2 h3).1 i
      rw [this] at hm; cases hm
  have cases1 : ∀ b i v, M1 b i = some v → ((∃ o ob κ, lk (frzO O F) o = some ob ∧ β o = some (b, κ) ∧ κ ≠ 0) ∧ w.cell? ⟨b, i, none⟩ = some v) ∨ M b i = some v := fun b i v hm => by
    have hm : poolOf true M β (frzO O F) w b i = some v := hm
    unfold poolOf at hm
    split at hm
    · rename_i e; exact .inl ⟨e.2, hm⟩
    · exact .inr hm
  refine ⟨M1, hM, ?_, ?_⟩
  · intro v κ hv
    refine viewC_spec h hM (fun o ob h => (hin o ob h).1) (fun o ob b κ h1 h2 h3 i v h4 => ?_) 4 v κ hv
    show poolOf true M β (frzO O F) w b i = some v
    unfold poolOf
    rw [if_pos ⟨rfl, o, ob, κ, h1, h2, h3⟩]
    exact h4
  · refine ⟨fun b i v hm => ?_, fun b i v hm => hM _ _ _ (h.sub _ _ _ hm), fun b i v hm => ?_, fun o ob hl => ?_, fun o ob b κ hl hb hk => ⟨fun i => ?_, (h.mine o ob b κ (hout _ _ hl).1 hb hk).2⟩, fun o o' ob ob' b κ κ' hl hl' => h.inj o o' ob ob' b κ κ' (hout _ _ hl).1 (hout _ _ hl').1, h.size, h.keep, h.os, h.tape, h.output⟩
    · rcases cases1 b i v hm with ⟨_, g⟩ | g
      · exact g
      · exact h.pool _ _ _ g
    · rcases cases1 b i v hm with ⟨⟨o, ob, κ, h1, h2, h3⟩, _⟩ | g
      · exact .inr (h.mine o ob b κ (hin _ _ h1).1 h2 h3).2
      · exact h.only _ _ _ g
    · obtain ⟨b, κ, hb, hor⟩ := h.objs _ _ (hout _ _ hl).1
      exact ⟨b, κ, hb, hor.mono2 hM (BLe.refl _) fun _ => rfl⟩
    · cases hc : M1 b i with
      | none => rfl
      | some v =>
        exfalso
        rcases cases1 b i v hc with ⟨⟨o', ob', κ', h1, h2, h3⟩, _⟩ | g
        · obtain ⟨g1, g2⟩ := hin _ _ h1
          obtain ⟨g3, g4⟩ := hout _ _ hl
          have := h.inj _ _ _ _ _ _ _ g3 g1 hb h2 hk h3
          subst this
          exact g4 g2
        · rw [(h.mine o ob b κ (hout _ _ hl).1 hb hk).1 i] at g; cases g
end
end Go.Sy
