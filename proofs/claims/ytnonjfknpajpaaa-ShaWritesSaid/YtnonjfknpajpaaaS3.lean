/- Cells read and written, many at once. -/
import Derived.Test.YtnonjfknpajpaaaS2
namespace Go.Sy
open Go

@[simp] theorem add_none (b o n : Nat) : (⟨b, o, none⟩ : Addr).add n = ⟨b, o + n, none⟩ := by
  unfold Addr.add; split <;> simp_all

/-- The block's cells from a place on. -/
def CellsAt (w : World) (b o : Nat) (cs : List Value) : Prop := ∀ i v, cs[i]? = some v → w.cell? ⟨b, o + i, none⟩ = some v
theorem CellsAt.tail {w : World} {b o : Nat} {c : Value} {cs : List Value} (h : CellsAt w b o (c :: cs)) : CellsAt w b (o + 1) cs := fun i v hv => by
  have := h (i + 1) v (by simpa using hv)
  rwa [show o + (i + 1) = o + 1 + i by omega] at this
theorem CellsAt.head {w : World} {b o : Nat} {c : Value} {cs : List Value} (h : CellsAt w b o (c :: cs)) : w.cell? ⟨b, o, none⟩ = some c := by simpa using h 0 c rfl
theorem CellsAt.of_block {w : World} {b : Nat} {cs : Array Value} {e : TypeId} {fz : Nat × Nat} (h : w.heap[b]? = some (.cells cs e fz)) (o n : Nat) : CellsAt w b o (piece cs.toList o n) := by
  intro i v hv
  simp only [piece, List.getElem?_take, List.getElem?_drop] at hv
  split at hv
  · simp only [World.cell?, h]
    simpa using hv
  · cases hv

theorem run_loadCellsFrom {P : Program} {w : World} {b o : Nat} : ∀ (cs : List Value) (i : Nat) (acc : Array Value), CellsAt w b (o + i) cs →
    (loadCellsFrom ⟨b, o, none⟩ i cs.length acc).run P w = .ok (acc ++ cs.toArray) w := by
  intro cs
  induction cs with
  | nil => intro i acc h; simp [loadCellsFrom]
  | cons c cs ih =>
    intro i acc h
    have h0 := h.head
    simp only [List.length_cons, loadCellsFrom, Sem.run_bind, run_load, add_none, h0, Result.andThen_ok]
    rw [ih (i + 1) (acc.push c) (by have := h.tail; rwa [show o + i + 1 = o + (i + 1) by omega] at this)]
    simp
theorem run_loadCells {P : Program} {w : World} {b o : Nat} {cs : List Value} (h : CellsAt w b o cs) : (loadCells ⟨b, o, none⟩ cs.length).run P w = .ok cs.toArray w := by
  unfold loadCells
  rw [run_loadCellsFrom cs 0 #[] (by simpa using h)]
  simp

/-- A block whose cells are turned. -/
def _root_.Go.World.putBlock (w : World) (b : Nat) (o : Obj) : World := { w with heap := w.heap.setIfInBounds b o }
theorem getElem?_putBlock {w : World} {b : Nat} {o : Obj} (h : b < w.heap.size) (k : Nat) : (w.putBlock b o).heap[k]? = if k = b then some o else w.heap[k]? := by
  simp only [World.putBlock, Array.getElem?_setIfInBounds]
  by_cases e : b = k
  · subst e; simp [h]
  · simp [e, Ne.symm e]
theorem setCell_block {w : World} {b o : Nat} {cs : Array Value} {e : TypeId} {fz : Nat × Nat} (h : w.heap[b]? = some (.cells cs e fz)) (v : Value) :
    w.setCell ⟨b, o, none⟩ v = w.putBlock b (.cells (cs.setIfInBounds o v) e fz) := by
  have hb : b < w.heap.size := (Array.getElem?_eq_some_iff.1 h).1
  simp only [World.setCell, World.putBlock]
  congr 1
  apply Array.ext_getElem?
  intro i
  simp only [Array.getElem?_modify, Array.getElem?_setIfInBounds]
  by_cases e : b = i
  · subst e; simp only [h, hb, if_true]; rfl
  · simp [e]
theorem putBlock_putBlock {w : World} {b : Nat} {o o' : Obj} : (w.putBlock b o).putBlock b o' = w.putBlock b o' := by
  simp only [World.putBlock]
  congr 1
  apply Array.ext_getElem?
  intro i
  simp only [Array.getElem?_setIfInBounds, Array.size_setIfInBounds]
  repeat' split
  all_goals first | rfl | skip
  all_goals simp_all
theorem putBlock_same {w : World} {b : Nat} {o : Obj} (h : w.heap[b]? = some o) : w.putBlock b o = w := by
  simp only [World.putBlock]
  have hb : b < w.heap.size := (Array.getElem?_eq_some_iff.1 h).1
  have : w.heap.setIfInBounds b o = w.heap := by
    apply Array.ext_getElem?
    intro i
    simp only [Array.getElem?_setIfInBounds]
    by_cases e : b = i
    · subst e; simp only [h, hb, if_true]
    · simp [e]
  rw [this]
theorem run_storeCells {P : Program} {b o : Nat} {e : TypeId} {fz : Nat × Nat} : ∀ (xs : List Value) (i : Nat) (w : World) (cs : List Value), w.heap[b]? = some (.cells cs.toArray e fz) → o + i + xs.length ≤ cs.length → freeCells fz cs.length →
    (∀ x ∈ xs, x.oneCell' = true) → (storeCells ⟨b, o, none⟩ xs i).run P w = .ok () (w.putBlock b (.cells (splice cs (o + i) xs).toArray e fz)) := by
  intro xs
  induction xs with
  | nil =>
    intro i w cs h hl hf h1
    have : splice cs (o + i) [] = cs := by simp [splice]
    simp only [storeCells, this, putBlock_same h]
    rfl
  | cons x xs ih =>
    intro i w cs h hl hf h1
    simp only [List.length_cons] at hl
    have hc : w.cell? ⟨b, o + i, none⟩ = some (cs[o + i]'(by omega)) := by simp [World.cell?, h]
    have hz : w.frozen? ⟨b, o + i, none⟩ = false := by
      have := hf.no (o + i) (by omega)
      simp only [World.frozen?, h]
      simpa using this
    simp only [storeCells, Sem.run_bind, add_none]
    rw [run_store _ _ _ _ _ (h1 x (by simp)), hc]
    simp only [hz, Bool.false_eq_true, if_false, Result.andThen_ok]
    rw [setCell_block h]
    have hb : b < w.heap.size := (Array.getElem?_eq_some_iff.1 h).1
    rw [ih (i + 1) _ (cs.set (o + i) x) (by rw [getElem?_putBlock hb]; simp) (by simp; omega) (by simpa using hf) (fun y hy => h1 y (by simp [hy])), putBlock_putBlock]
    congr 4
    simp only [splice]
    rw [List.set_eq_take_append_cons_drop, if_pos (by omega)]
    have e1 : List.take (o + (i + 1)) (List.take (o + i) cs ++ x :: List.drop (o + i + 1) cs) = List.take (o + i) cs ++ [x] := by
      rw [List.take_append, List.take_of_length_le (by simp; omega)]
      congr 1
      rw [show o + (i + 1) - (List.take (o + i) cs).length = 1 by simp; omega]
      simp
    have e2 : List.drop (o + (i + 1) + xs.length) (List.take (o + i) cs ++ x :: List.drop (o + i + 1) cs) = List.drop (o + i + (x :: xs).length) cs := by
      rw [List.drop_append, List.drop_of_length_le (by simp; omega), show o + (i + 1) + xs.length - (List.take (o + i) cs).length = xs.length + 1 by simp; omega]
      simp only [List.nil_append, List.drop_succ_cons, List.drop_drop, List.length_cons]
      congr 1; omega
    rw [e1, e2]
    simp
end Go.Sy
