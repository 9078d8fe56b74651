/- The operations that leave memory alone. -/
import Derived.Test.YtnonjfknpajpaaaS7
namespace Go.Sy
open Go
set_option linter.unusedSimpArgs false
set_option linter.unusedVariables false
section
variable {E : Env} {N : Nat} {M : Pool} {β β' : Bmap} {T : TT} {O O' : OO} {n : Nat} {a : Act} {w w' : World} {P : Program} {o : Oper} {K : KK}

theorem beq_dec {α : Type} [BEq α] [LawfulBEq α] [DecidableEq α] (x y : α) : (x == y) = decide (x = y) := by rw [Bool.eq_iff_iff]; simp
theorem s_move {x : Operand} (ho : o.op = .move x) (h : evC T x fun v => K v O n) (hr : RelAt E N M β T O n a w) : OpS P o E N T K a w := by
  obtain ⟨v, hk, hv⟩ := evC_spec hr h
  exact OpS.val (by simp [execOp, ho]) hr hv hk
theorem s_assign {x : Operand} (ho : o.op = .assign x) (h : evC T x fun v => K v O n) (hr : RelAt E N M β T O n a w) : OpS P o E N T K a w := by
  obtain ⟨v, hk, hv⟩ := evC_spec hr h
  exact OpS.val (by simp [execOp, ho]) hr hv hk
theorem boolC_spec {v : AV} {K : Bool → Prop} (h : boolC v K) : ∃ b, v = .bool b ∧ K b := by cases v <;> first | exact h.elim | exact ⟨_, rfl, h⟩
theorem intC_spec {v : AV} {K : Int → Prop} (h : intC v K) : ∃ k i, v = .int k i ∧ K i := by cases v <;> first | exact h.elim | exact ⟨_, _, rfl, h⟩
theorem iteC_spec {b : Bool} {K : Bool → Prop} (h : iteC b K) : K b := by cases b; exact h.2 rfl; exact h.1 rfl
theorem s_pick {c x y : Operand} (ho : o.op = .pick c x y)
    (h : evC T c fun v => boolC v fun t => iteC t fun t => if t then evC T x fun v => K v O n else evC T y fun v => K v O n) (hr : RelAt E N M β T O n a w) : OpS P o E N T K a w := by
  obtain ⟨v, h1, hv⟩ := evC_spec hr h
  obtain ⟨b, rfl, h⟩ := boolC_spec h1
  replace h := iteC_spec h
  have hb := hv.bool_inv
  cases b
  · simp only [Bool.false_eq_true, if_false] at h
    obtain ⟨v, hk, hv⟩ := evC_spec hr h
    exact OpS.val (by simp [execOp, ho, hb, asBool]) hr hv hk
  · simp only [if_true] at h
    obtain ⟨v, hk, hv⟩ := evC_spec hr h
    exact OpS.val (by simp [execOp, ho, hb, asBool]) hr hv hk

theorem intB_spec {op : BinOp} {k k' : IntKind} {x y : Int} {t : TypeId} {K : AV → Prop} (h : intB op k x k' y K) : ∃ v u, K v ∧ (binOp op t (.int k x) (.int k' y)).run P w = .ok u w ∧ ∀ M β, VR M β v u := by
  cases op
  case shl => obtain ⟨h1, h⟩ := h; exact ⟨_, .int k (ishl k x y.toNat), h, by simp [binOp, Op.shift, ishl, show ¬ y < 0 by omega], fun M β => .one rfl (.int _ _)⟩
  case shr => obtain ⟨h1, h⟩ := h; exact ⟨_, .int k (ishr k x y.toNat), h, by simp [binOp, Op.shift, ishr, show ¬ y < 0 by omega], fun M β => .one rfl (.int _ _)⟩
  case quo => obtain ⟨rfl, h1, h⟩ := h; exact ⟨_, .int k (k.wrap (x.tdiv y)), h, by simp [binOp, Op.intDiv, h1], fun M β => .one rfl (.int _ _)⟩
  case rem => obtain ⟨rfl, h1, h⟩ := h; exact ⟨_, .int k (x.tmod y), h, by simp [binOp, Op.intDiv, h1], fun M β => .one rfl (.int _ _)⟩
  case add => obtain ⟨rfl, h⟩ := h; exact ⟨_, .int k (k.wrap (x + y)), h, by simp [binOp, Op.intArith], fun M β => .one rfl (.int _ _)⟩
  case sub => obtain ⟨rfl, h⟩ := h; exact ⟨_, .int k (k.wrap (x - y)), h, by simp [binOp, Op.intArith], fun M β => .one rfl (.int _ _)⟩
  case mul => obtain ⟨rfl, h⟩ := h; exact ⟨_, .int k (k.wrap (x * y)), h, by simp [binOp, Op.intArith], fun M β => .one rfl (.int _ _)⟩
  case and => obtain ⟨rfl, h⟩ := h; exact ⟨_, .int k (iand k x y), h, by simp [binOp, Op.intBits, iand], fun M β => .one rfl (.int _ _)⟩
  case or => obtain ⟨rfl, h⟩ := h; exact ⟨_, .int k (ior k x y), h, by simp [binOp, Op.intBits, ior], fun M β => .one rfl (.int _ _)⟩
  case xor => obtain ⟨rfl, h⟩ := h; exact ⟨_, .int k (ixor k x y), h, by simp [binOp, Op.intBits, ixor], fun M β => .one rfl (.int _ _)⟩
  case andNot => obtain ⟨rfl, h⟩ := h; exact ⟨_, .int k (iandn k x y), h, by simp [binOp, Op.intBits, iandn], fun M β => .one rfl (.int _ _)⟩
  case eql => obtain ⟨rfl, h⟩ := h; exact ⟨_, .bool (decide (x = y)), h, by simp only [binOp, Op.intCmp, beq_dec]; simp, fun M β => .one rfl (.bool _)⟩
  case neq => obtain ⟨rfl, h⟩ := h; exact ⟨_, .bool (!decide (x = y)), h, by simp only [binOp, Op.intCmp, bne, beq_dec]; simp, fun M β => .one rfl (.bool _)⟩
  case lss => obtain ⟨rfl, h⟩ := h; exact ⟨_, .bool (decide (x < y)), h, by simp [binOp, Op.intCmp], fun M β => .one rfl (.bool _)⟩
  case leq => obtain ⟨rfl, h⟩ := h; exact ⟨_, .bool (decide (x ≤ y)), h, by simp [binOp, Op.intCmp], fun M β => .one rfl (.bool _)⟩
  case gtr => obtain ⟨rfl, h⟩ := h; exact ⟨_, .bool (decide (y < x)), h, by simp [binOp, Op.intCmp], fun M β => .one rfl (.bool _)⟩
  case geq => obtain ⟨rfl, h⟩ := h; exact ⟨_, .bool (decide (y ≤ x)), h, by simp [binOp, Op.intCmp], fun M β => .one rfl (.bool _)⟩
theorem bytes_toList (s : List UInt8) : (⟨s.toArray⟩ : ByteArray).toList = s := by
  have key : ∀ (n i : Nat) (r : List UInt8), s.length - i = n → i ≤ s.length → ByteArray.toList.loop ⟨s.toArray⟩ i r = r.reverse ++ s.drop i := by
    intro n
    induction n with
    | zero =>
      intro i r hn hi
      unfold ByteArray.toList.loop
      rw [if_neg (by simp [ByteArray.size]; omega), List.drop_of_length_le (by omega), List.append_nil]
    | succ n ih =>
      intro i r hn hi
      unfold ByteArray.toList.loop
      rw [if_pos (by simp [ByteArray.size]; omega), ih (i + 1) _ (by omega) (by omega)]
      have : i < s.length := by omega
      rw [List.drop_eq_getElem_cons this]
      simp [ByteArray.get!, this]
  have := key s.length 0 [] (by simp) (by simp)
  simpa [ByteArray.toList] using this
theorem strB_spec {op : BinOp} {x y : List UInt8} {t : TypeId} {K : AV → Prop} (h : strB op x y K) :
    ∃ v u, K v ∧ (binOp op t (.string ⟨x.toArray⟩) (.string ⟨y.toArray⟩)).run P w = .ok u w ∧ ∀ M β, VR M β v u := by
  cases op <;> first | exact h.elim | skip
  · obtain ⟨h1, h⟩ := h
    have e : ((⟨x.toArray⟩ : ByteArray) ++ ⟨y.toArray⟩) = ⟨(x ++ y).toArray⟩ := by
      apply ByteArray.ext
      simp
    have hm : IntKind.i64.max = 9223372036854775807 := by decide
    refine ⟨_, .string ⟨(x ++ y).toArray⟩, h, ?_, fun M β => .one rfl (.str _)⟩
    simp only [binOp, Op.stringOp]
    rw [if_neg (by simp only [ByteArray.size, List.size_toArray, hm]; omega), e]
    rfl
  · exact ⟨_, .bool (decide (x = y)), h, by simp only [binOp, Op.stringOp, bytes_toList, beq_dec]; simp, fun M β => .one rfl (.bool _)⟩
  · exact ⟨_, .bool (!decide (x = y)), h, by simp only [binOp, Op.stringOp, bytes_toList, beq_dec]; simp, fun M β => .one rfl (.bool _)⟩

/-! Equality. -/
def Ty.dep : Ty → Nat
  | .arr _ _ t => t.dep + 1
  | .st ts => deps ts + 1
  | _ => 0
where deps : List Ty → Nat
  | [] => 0
  | t :: ts => max t.dep (deps ts)
theorem tyF_dep {f : TypeId → Option Ty} {n : Nat} (hf : ∀ t ty, f t = some ty → ty.dep ≤ n) : ∀ (fs : List Field) (off : Nat) (ts : List Ty), tyF f off fs = some ts → Ty.dep.deps ts ≤ n := by
  intro fs
  induction fs with
  | nil => intro off ts h; simp [tyF] at h; subst h; simp [Ty.dep.deps]
  | cons x fs ih =>
    intro off ts h
    simp only [tyF] at h
    split at h
    · rename_i ty hty
      split at h
      · simp only [Option.map_eq_some_iff] at h
        obtain ⟨ts', h1, rfl⟩ := h
        have := hf _ _ hty
        have := ih _ _ h1
        simp only [Ty.dep.deps]; omega
      · cases h
    · cases h
theorem tyq_dep : ∀ (n : Nat) (t : TypeId) (ty : Ty), tyq P n t = some ty → ty.dep ≤ n := by
  intro n
  induction n with
  | zero => intro t ty h; cases h
  | succ n ih =>
    intro t ty h
    simp only [tyq] at h
    split at h
    · rename_i ty' i hd hi
      split at h
      · cases h
        unfold tyD at hd
        split at hd
        all_goals first | (cases hd; done) | (cases hd; simp [Ty.dep]; done) | skip
        · split at hd
          · rename_i te hte
            split at hd
            · cases hd; have := ih _ _ hte; simp only [Ty.dep]; omega
            · cases hd
          · cases hd
        · split at hd
          · cases hd
          · simp only [Option.map_eq_some_iff] at hd
            obtain ⟨ts, h1, rfl⟩ := hd
            have := tyF_dep ih _ _ _ h1
            simp only [Ty.dep]; omega
      · cases h
    · cases h
theorem tyC_spec {t : TypeId} {K : Ty → Prop} (h : tyC P t K) : ∃ ty, ty.ok P t ∧ ty.dep ≤ 12 ∧ K ty := by
  obtain ⟨ty, h1, h2⟩ := h
  exact ⟨ty, tyq_ok _ _ _ h1, tyq_dep _ _ _ h1, h2⟩
/-- A part of an aggregate. -/
theorem run_part {t : TypeId} {ty : Ty} (hty : ty.ok P t) (hpos : 0 < ty.size) {cs : List Value} {off : Nat} {q : AV} (hq : RV M β q (piece cs off ty.size)) (hs : q.csz = ty.size) (hm : q.multi = ty.multi) (hmem : q.mem = true) (hl : off + ty.size ≤ cs.length) :
    ∃ u, (part t cs.toArray off).run P w = .ok u w ∧ VR M β q u := by
  unfold part
  simp only [Sem.run_bind, r_isAgg hty, Result.andThen_ok]
  cases hmm : ty.multi with
  | true =>
    refine ⟨.agg (piece cs off ty.size).toArray, ?_, .agg (by rw [hm, hmm]) hq⟩
    simp only [if_true, Sem.run_bind, r_size hty, Result.andThen_ok]
    have : cs.toArray.extract off (off + ty.size) = (piece cs off ty.size).toArray := by
      apply Array.ext'
      rw [Array.toList_extract]
      simp only [List.extract, piece, Nat.add_sub_cancel_left]
    rw [this]; rfl
  | false =>
    have h1 : ty.size = 1 := by cases ty <;> first | rfl | cases hmm
    rw [h1] at hq hl
    have hlt : off < cs.length := by omega
    have e : piece cs off 1 = [cs[off]] := by simp only [piece]; rw [List.drop_eq_getElem_cons hlt]; rfl
    rw [e] at hq
    refine ⟨cs[off], ?_, .one (by rw [hm, hmm]) hq⟩
    have e2 : cs.toArray[off]? = some cs[off] := by simp
    rw [if_neg (by simp), e2]
    rfl

/-- The fields of two structs, one by one. -/
def eqFs (d : Nat) (xs ys : Array Value) : List Field → Sem Bool
  | [] => pure true
  | f :: fs => do
    if f.name ≠ "_" then
      if !(← Op.equalIn d f.type (← part f.type xs f.offset) (← part f.type ys f.offset)) then pure false else eqFs d xs ys fs
    else eqFs d xs ys fs
theorem run_eq_struct (d : Nat) (t : TypeId) (xs ys : Array Value) (fs : Array Field) (ht : P.underlying t = some (.struct fs)) (hp : P.stoodInHeld t = false) :
    (Op.equalIn (d + 1) t (.agg xs) (.agg ys)).run P w = (eqFs d xs ys fs.toList).run P w := by
  simp only [Op.equalIn, Sem.run_bind, r_under ht, Result.andThen_ok, run_program, hp, Bool.false_eq_true, if_false]
  rw [← Array.forIn_toList]
  generalize fs.toList = fs
  clear ht
  induction fs generalizing w with
  | nil => simp [eqFs]
  | cons f fs ih =>
    simp only [List.forIn_cons, eqFs, Sem.run_bind, Sem.run_ite]
    split
    · generalize (part f.type xs f.offset).run P w = r1
      cases r1 with
      | ok a w1 =>
        simp only [Result.andThen_ok]
        generalize (part f.type ys f.offset).run P w1 = r2
        cases r2 with
        | ok b w2 =>
          simp only [Result.andThen_ok]
          generalize (Op.equalIn d f.type a b).run P w2 = r3
          cases r3 with
          | ok r w3 =>
            cases r
            · simp only [Result.andThen_ok, Bool.not_false, if_true, Sem.run_pure]
            · simp only [Result.andThen_ok, Bool.not_true, Bool.false_eq_true, if_false, Sem.run_pure]
              exact ih
          | halt x w3 => simp [Result.andThen]
        | halt x w2 => simp [Result.andThen]
      | halt x w1 => simp [Result.andThen]
    · simp only [Sem.run_pure, Result.andThen_ok]
      exact ih
/-- The elements of two arrays, from a place on. -/
def eqEs (d : Nat) (e : TypeId) (sz : Nat) (xs ys : Array Value) : List Nat → Sem Bool
  | [] => pure true
  | i :: is => do if !(← Op.equalIn d e (← part e xs (i * sz)) (← part e ys (i * sz))) then pure false else eqEs d e sz xs ys is
theorem run_eq_array (d : Nat) (t e : TypeId) (te : Ty) (hte : te.ok P e) (n : Nat) (xs ys : Array Value) (ht : P.underlying t = some (.array n e)) :
    (Op.equalIn (d + 1) t (.agg xs) (.agg ys)).run P w = (eqEs d e te.size xs ys (List.range n)).run P w := by
  simp only [Op.equalIn, Sem.run_bind, r_under ht, Result.andThen_ok, r_size hte]
  rw [Std.Legacy.Range.forIn_eq_forIn_range']
  have : List.range' 0 ((n - 0 + 1 - 1) / 1) 1 = List.range n := by rw [List.range_eq_range']; simp
  simp only [Std.Legacy.Range.size, this]
  generalize List.range n = is
  induction is generalizing w with
  | nil => simp [eqEs]
  | cons i is ih =>
    simp only [List.forIn_cons, eqEs, Sem.run_bind, Sem.run_ite]
    generalize (part e xs (i * te.size)).run P w = r1
    cases r1 with
    | ok a w1 =>
      simp only [Result.andThen_ok]
      generalize (part e ys (i * te.size)).run P w1 = r2
      cases r2 with
      | ok b w2 =>
        simp only [Result.andThen_ok]
        generalize (Op.equalIn d e a b).run P w2 = r3
        cases r3 with
        | ok r w3 =>
          cases r
          · simp only [Result.andThen_ok, Bool.not_false, if_true, Sem.run_pure]
          · simp only [Result.andThen_ok, Bool.not_true, Bool.false_eq_true, if_false, Sem.run_pure]
            exact ih
        | halt x w3 => simp [Result.andThen]
      | halt x w2 => simp [Result.andThen]
    | halt x w1 => simp [Result.andThen]
end
end Go.Sy
