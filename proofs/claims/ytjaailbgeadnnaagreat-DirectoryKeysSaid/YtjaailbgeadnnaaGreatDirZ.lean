/- A disk that is all 0: the signer and the slots, opened on it. -/
import Derived.Test.YtjaailbgeadnnaaGreatSlotsA
import Derived.Test.YtjaailbgeadnnaaGreatSgn4
namespace Go.Proofs.YtjaailbgeadnnaaGreat
open Go Go.Sy Go.Proofs.Tryz
set_option maxRecDepth 100000
set_option maxHeartbeats 8000000
set_option linter.unusedSimpArgs false
set_option linter.unusedVariables false
theorem ofb_zeros : ∀ n, ofb (List.replicate n 0) = 0
  | 0 => rfl
  | n + 1 => by rw [List.replicate_succ', ofb_snoc, ofb_zeros n]; rfl
theorem readV_zeros (z : Nat) : readV z (List.replicate z 0) = (0, []) := by
  unfold readV
  rw [if_neg]
  rintro ⟨_, h, _⟩
  rw [List.take_replicate, ofb_zeros] at h
  omega
def dZ : DS := ⟨400, List.replicate 2000 0, [], false, false, 0, []⟩
def xZ : ST := opX (0, 0, 0) ⟨0, 0, 0, 0, 0, []⟩
def dY : DS := ⟨400, putB 400 (List.replicate 2000 0) 1 (sectorL 400 1 (tx xZ)) 400, [], false, false, IntKind.i64.wrap (IntKind.i64.wrap (0 - 1) - 1), []⟩
theorem zlen : (List.replicate 2000 (0 : Int)).length = 5 * 400 := by rw [List.length_replicate]
theorem chunkZ {q : Nat} (h : q < 5) : chunk 400 (List.replicate 2000 (0 : Int)) q = List.replicate 400 0 := by
  unfold chunk
  rw [List.drop_replicate, List.take_replicate]
  congr 1
  omega
theorem dZ_ok : okD dZ := ⟨by decide, by decide, by show (List.replicate 2000 (0 : Int)).length ≤ _; rw [List.length_replicate]; decide, Nat.zero_le _, Nat.zero_le _, fun w h => by cases h⟩
theorem thereZ {i : Nat} (h : i < 5) : thereD dZ i := by
  show (0 : Int) ≤ i ∧ (i : Int) < (((List.replicate 2000 (0 : Int)).length / 400 : Nat) : Int)
  rw [List.length_replicate]
  omega
theorem readZ {i : Nat} (h : i < 5) : readB dZ i = List.replicate 400 0 := chunkZ h
theorem openZ : openS dZ = ⟨0, [], false⟩ := by
  unfold openS
  rw [readZ (by decide), readZ (by decide), show dZ.sz = 400 from rfl, readV_zeros]
  rfl
theorem txZ : (tx xZ).length + 18 ≤ 400 := by rw [tx_len]; decide
theorem replZ : replD dZ ⟨0, [], false⟩ (tx xZ) = (0, dY, ⟨1, tx xZ, false⟩) :=
  repl_calm (D := dZ) rfl rfl rfl ⟨0, [], false⟩ (tx xZ) (thereZ (i := 1) (by decide)) txZ
theorem zeros_mem {n : Nat} : ∀ x ∈ List.replicate n (0 : Int), 0 ≤ x ∧ x < 256 := fun x hx => by rw [(List.mem_replicate.1 hx).2]; decide
theorem sopen_new (total : Int) (ht : 2 ≤ total ∧ total ≤ 65536) :
    FnC Tryz.prog 19 [.ref 0 [], .int .i64 0, .ref 1 [], .int .i64 total, .int .i64 1] [(0, .var (dskV 2 3 dZ)), (1, .var (fcV (0, 0, 0))), (2, .row (.ints .u8 dZ.b.length dZ.b)), (3, .row (.lst 2 dZ.wait.length (dZ.wait.map wtV)))]
      (.tup [.ref 7 [], .int .i64 0]) (spO 4 5 6 7 dY ⟨1, tx xZ, false⟩ (opF (0, 0, 0) ⟨0, 0, 0, 0, 0, []⟩) xZ total 1 0 false) := by
  have k := sopen_spec dZ dZ_ok rfl (by decide) (thereZ (i := 1) (by decide)) (fun I h => by rw [readZ (by omega)]; exact zeros_mem) rfl (0, 0, 0) ⟨0, 0, 0, 0, 0, []⟩ total 1 ht (by decide) 0 [] (by decide) openZ (.inl ⟨rfl, rfl⟩) (by decide) (by rw [show opX (0, 0, 0) ⟨0, 0, 0, 0, 0, []⟩ = xZ from rfl, replZ])
  rw [show opX (0, 0, 0) ⟨0, 0, 0, 0, 0, []⟩ = xZ from rfl, replZ] at k
  exact k
theorem dY_len : dY.b.length = 2000 := by
  show (putB 400 (List.replicate 2000 0) 1 (sectorL 400 1 (tx xZ)) 400).length = 2000
  rw [putB_len (by rw [List.length_replicate]; decide) (by rw [sectorL_len txZ]; exact Nat.le_refl _), List.length_replicate]
theorem dY_ok : okD dY := ⟨by decide, by decide, by rw [dY_len]; decide, Nat.zero_le _, Nat.zero_le _, fun w h => by cases h⟩
theorem thereY {i : Nat} (h : i < 5) : thereD dY i := by
  unfold thereD
  rw [dY_len, show dY.sz = 400 from rfl]
  omega
theorem readY {i : Nat} (h : i < 5) (h1 : i ≠ 1) : readB dY i = List.replicate 400 0 := by
  have := chunk_put (sz := 400) (ns := 5) (b := List.replicate 2000 (0 : Int)) (t := sectorL 400 1 (tx xZ)) (at' := 1) (m := 400) (q := i) zlen (by decide) h (sectorL_len txZ) (Nat.le_refl _)
  rw [if_neg h1, chunkZ h] at this
  exact this
theorem openY : openSA 2 dY = ⟨0, [], false⟩ := by
  unfold openSA
  rw [readY (by decide) (by decide), readY (by decide) (by decide), show dY.sz = 400 from rfl, readV_zeros]
  rfl
theorem eopen_new : FnC Tryz.prog 21 [.ref 0 [], .int .i64 2] (dskO 1 2 dY) (.tup [.ref 6 [], .int .i64 0]) (dskO 3 4 dY ++ [(6, .var (slVA 2 ⟨0, [], false⟩))]) := by
  have k := open_specA 2 dY dY_ok rfl (by decide) (thereY (i := 3) (by decide)) (fun I h => by rw [readY (by omega) (by omega)]; exact zeros_mem)
  rw [openY] at k
  exact k
end Go.Proofs.YtjaailbgeadnnaaGreat
