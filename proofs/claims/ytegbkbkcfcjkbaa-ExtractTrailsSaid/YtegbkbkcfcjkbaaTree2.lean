/- The builder of the package tree: the contracts of see, add and Build. -/
import Derived.Test.YtegbkbkcfcjkbaaTreeC
namespace Go.Proofs.Ytegbkbkcfcjkbaa
open Go Go.Sy Go.Proofs.Try
set_option maxRecDepth 100000
set_option maxHeartbeats 8000000
set_option linter.unusedSimpArgs false
set_option linter.unusedVariables false

/-- The one beside. -/
def sib (q : Nat) : Nat := if q % 2 = 0 then q + 1 else q - 1
theorem xor_sib (q : Nat) (h : q < 1000) : q ^^^ 1 = sib q := (by decide +kernel : ∀ q, q < 1000 → q ^^^ 1 = sib q) q h
theorem sib_le (q : Nat) : sib q ≤ q + 1 := by unfold sib; split <;> omega
theorem ixor_sib (q : Nat) (h : q < 1000) : ixor .i64 (q : Int) 1 = (sib q : Int) := by
  rw [ixor_nat (k := .i64) (by omega) (by show (q : Int) < 2 ^ 64; omega) (by decide) (by decide)]
  have e : (q : Int).toNat ^^^ (1 : Int).toNat = sib q := by rw [Int.toNat_natCast, show (1 : Int).toNat = 1 by rfl, xor_sib q h]
  rw [e]
  have := sib_le q
  exact wrap_i64 (by omega) (by omega)
structure Nd where
  d : List Int
  lv : Nat
  at_ : Nat
def ndV (n : Nd) : AV := .agg [.ints .u8 32 n.d, .int .i64 n.lv, .int .i64 n.at_]
def seeD (leaf : Nat) (way : List (List Int)) (n : Nd) : List (List Int) :=
  if n.lv < way.length ∧ n.at_ = sib (leaf / 2 ^ n.lv) then way.set n.lv n.d else way
section
variable (pub : List Int) (l t : Int) (leaf n : Nat) (way : List (List Int)) (hn : way.length = n) (hn4 : n ≤ 4) (hleaf : leaf < 1000)
end
/-- A node of two. -/
def upN (pub : List Int) (l t : Int) (a b : Nd) : Nd := ⟨nodeD a.d b.d pub l t b.lv (b.at_ / 2), b.lv + 1, b.at_ / 2⟩
def nd0 : Nd := ⟨[], 0, 0⟩
/-- What waits, when one more came. -/
def addN (pub : List Int) (l t : Int) (ws : List Nd) : Nat → Nd → List Nd
  | 0, nd => [nd]
  | r + 1, nd => if (ws.getD r nd0).lv = nd.lv then addN pub l t ws r (upN pub l t (ws.getD r nd0) nd) else ws.take (r + 1) ++ [nd]
def wayN (pub : List Int) (l t : Int) (leaf : Nat) (ws : List Nd) : Nat → Nd → List (List Int) → List (List Int)
  | 0, _, w => w
  | r + 1, nd, w => if (ws.getD r nd0).lv = nd.lv then wayN pub l t leaf ws r (upN pub l t (ws.getD r nd0) nd) (seeD leaf w (upN pub l t (ws.getD r nd0) nd)) else w
theorem seeD_len (leaf : Nat) (w : List (List Int)) (nd : Nd) : (seeD leaf w nd).length = w.length := by
  unfold seeD; split <;> simp
def goodN (n : Nd) : Prop := goodD n.d ∧ n.lv < 100 ∧ n.at_ < 1000
theorem getN_map {ws : List Nd} {i : Nat} (h : i < ws.length) (K : AV → Prop) : getP (ws.map ndV) i K = K (.agg [.ints .u8 32 (ws.getD i nd0).d, .int .i64 (ws.getD i nd0).lv, .int .i64 (ws.getD i nd0).at_]) := by
  refine getP_map (f := ndV) ?_ K
  simp only [List.getD, List.getElem?_eq_getElem h, Option.getD_some]
theorem getN_good {ws : List Nd} (h : ∀ n ∈ ws, goodN n) {i : Nat} (hi : i < ws.length) : goodN (ws.getD i nd0) := by
  simp only [List.getD, List.getElem?_eq_getElem hi, Option.getD_some]
  exact h _ (List.getElem_mem hi)
section
variable (pub : List Int) (l t : Int) (leaf n : Nat) (way : List (List Int)) (hp : goodD pub) (hl : 0 ≤ l ∧ l < 4294967296) (hn : way.length = n) (hn4 : n ≤ 4) (hleaf : leaf < 1000)
end
end Go.Proofs.Ytegbkbkcfcjkbaa
