/- No index of a key is told for two messages: the plain law. -/
import Derived.Test.YthhlielliopegaaSgn6
namespace Go.Proofs.Ythhlielliopegaa
open Go Go.Sy Go.Proofs.Try
set_option maxRecDepth 100000
set_option maxHeartbeats 8000000
set_option linter.unusedSimpArgs false
set_option linter.unusedVariables false

/-- A key, an index, a message. -/
abbrev At := Int × Int × List UInt8
structure OkS (n : Int) (F : Int × Int × Int) (att : List At) (y : ST) : Prop where
  g : 0 ≤ y.gen ∧ y.gen ≤ F.1
  r : 0 ≤ y.res ∧ y.res ≤ n
  kk : 0 ≤ y.key
  l : y.key < F.2.1 ∨ (y.key = F.2.1 ∧ y.res ≤ F.2.2)
  lk : 0 ≤ y.lk ∧ y.lk ≤ F.2.1
  li : 0 ≤ y.li ∧ y.li ≤ n
  m : y.msg.length ≤ 200
  a : y.msg = [] ∨ (y.lk, y.li, y.msg) ∈ att
def OkI (n : Int) (F : Int × Int × Int) (att : List At) (T : Nat) (t : List Int) : Prop := T = 0 ∨ (1 ≤ T ∧ ∃ y, t = tx y ∧ OkS n F att y)
structure Up (F F' : Int × Int × Int) : Prop where
  g : F.1 ≤ F'.1
  l : F.2.1 < F'.2.1 ∨ (F.2.1 = F'.2.1 ∧ F.2.2 ≤ F'.2.2)
theorem OkS.mono {n : Int} {F F' : Int × Int × Int} {att att' : List At} {y : ST} (h : OkS n F att y) (hu : Up F F') (ha : ∀ a ∈ att, a ∈ att') : OkS n F' att' y := by
  obtain ⟨h1, h2, h3, h4, h5, h6, h7, h8⟩ := h
  obtain ⟨u1, u2⟩ := hu
  exact ⟨⟨h1.1, by omega⟩, h2, h3, by omega, ⟨h5.1, by omega⟩, h6, h7, h8.imp id (ha _)⟩
theorem OkI.mono {n : Int} {F F' : Int × Int × Int} {att att' : List At} {T : Nat} {t : List Int} (h : OkI n F att T t) (hu : Up F F') (ha : ∀ a ∈ att, a ∈ att') : OkI n F' att' T t := by
  rcases h with h | ⟨h, y, e, h2⟩
  · exact .inl h
  · exact .inr ⟨h, y, e, h2.mono hu ha⟩
def used (all : List At) (k : Int) : Nat := (all.filter fun g => decide (g.1 = k)).length
theorem used_app (all : List At) (g : At) (k : Int) : used (all ++ [g]) k = used all k + if g.1 = k then 1 else 0 := by
  unfold used
  rw [List.filter_append, List.length_append]
  by_cases c : g.1 = k
  · simp [c]
  · simp [c]
structure Atts (n : Int) (att : List At) : Prop where
  u : ∀ a ∈ att, ∀ c ∈ att, a.1 = c.1 → a.2.1 = c.2.1 → a.2.2 = c.2.2
  p : ∀ a ∈ att, 0 ≤ a.1 ∧ 0 ≤ a.2.1 ∧ a.2.1 < n
def Imgs (n : Int) (B : Nat) (F : Int × Int × Int) (att : List At) (imgs : List (List UInt8)) : Prop := ∀ s ∈ imgs, s.length = 800 ∧ ∃ T t, T ≤ B ∧ Cont 400 T t (bkU s) ∧ OkI n F att T t
structure Glob (n B : Nat) (F : Int × Int × Int) (att all : List At) (imgs : List (List UInt8)) : Prop where
  t : Atts n att
  fg : 0 ≤ F.1 ∧ F.1 ≤ B
  fk : 0 ≤ F.2.1 ∧ F.2.1 ≤ B
  fh : 0 ≤ F.2.2 ∧ F.2.2 ≤ (n : Int) - 1
  be : ∀ a ∈ att, a.1 < F.2.1 ∨ (a.1 = F.2.1 ∧ a.2.1 < F.2.2)
  im : Imgs n B F att imgs
  al : ∀ g ∈ all, g ∈ att
structure LI (n b B : Nat) (F : Int × Int × Int) (att all : List At) (imgs : List (List UInt8)) (opened : Nat) (D : DS) (T : Nat) (t : List Int) (x : ST) (next : Int) : Prop where
  g : Glob n B F att all imgs
  lv : ∀ a ∈ att, a.1 < x.key ∨ (a.1 = x.key ∧ a.2.1 < next)
  fk : F.2.1 = x.key
  fh : F.2.2 = x.res
  nx : 0 ≤ next ∧ next ≤ x.res ∧ x.res ≤ next + b
  ok : OkS n F att x
  inv : Inv 400 T t D
  T1 : 1 ≤ T ∧ T ≤ B
  tt : t = tx x
  us : next ≤ ((used all x.key + b * opened : Nat) : Int)
structure Pre (n b B : Nat) (F : Int × Int × Int) (att all : List At) (imgs : List (List UInt8)) (opened : Nat) (D : DS) (T : Nat) (t : List Int) : Prop where
  g : Glob n B F att all imgs
  inv : Inv 400 T t D
  set : D.set = false
  T1 : T ≤ B
  oi : OkI n F att T t
  us : F.2.2 ≤ ((used all F.2.1 + b * opened : Nat) : Int)
theorem Imgs.mono {n : Int} {B B' : Nat} {F F' : Int × Int × Int} {att att' : List At} {imgs : List (List UInt8)} (h : Imgs n B F att imgs) (hB : B ≤ B') (hu : Up F F') (ha : ∀ a ∈ att, a ∈ att') : Imgs n B' F' att' imgs := fun s hs => by
  obtain ⟨h1, T, t, h2, h3, h4⟩ := h s hs
  exact ⟨h1, T, t, by omega, h3, h4.mono hu ha⟩
theorem Up.refl (F : Int × Int × Int) : Up F F := ⟨Int.le_refl _, .inr ⟨rfl, Int.le_refl _⟩⟩
theorem Glob.mono {n B B' : Nat} {F : Int × Int × Int} {att all : List At} {imgs : List (List UInt8)} (h : Glob n B F att all imgs) (hB : B ≤ B') : Glob n B' F att all imgs :=
  ⟨h.t, ⟨h.fg.1, by have := h.fg.2; omega⟩, ⟨h.fk.1, by have := h.fk.2; omega⟩, h.fh, h.be, h.im.mono hB (Up.refl F) (fun a h => h), h.al⟩
theorem LI.mono {n b B B' : Nat} {F : Int × Int × Int} {att all : List At} {imgs : List (List UInt8)} {opened : Nat} {D : DS} {T : Nat} {t : List Int} {x : ST} {next : Int} (h : LI n b B F att all imgs opened D T t x next) (hB : B ≤ B') : LI n b B' F att all imgs opened D T t x next :=
  ⟨h.g.mono hB, h.lv, h.fk, h.fh, h.nx, h.ok, h.inv, ⟨h.T1.1, Nat.le_trans h.T1.2 hB⟩, h.tt, h.us⟩
theorem lst3_low {F G : Int × Int × Int} (h1 : G.1 ≤ F.1) (h2 : G.2.1 < F.2.1 ∨ (G.2.1 = F.2.1 ∧ G.2.2 ≤ F.2.2)) : lst3 F G = F := by
  obtain ⟨a, b, c⟩ := F
  obtain ⟨d, e, f⟩ := G
  dsimp only at h1 h2
  unfold lst3 hi_
  dsimp only
  rw [show max a d = a by omega, show max b e = b by omega]
  by_cases c1 : e < b
  · rw [if_pos c1]
  · rw [if_neg c1, if_neg (by omega), show max c f = c by omega]
theorem lst3_high {F G : Int × Int × Int} (h2 : F.2.1 < G.2.1 ∨ (F.2.1 = G.2.1 ∧ F.2.2 ≤ G.2.2)) : lst3 F G = (max F.1 G.1, G.2.1, G.2.2) := by
  obtain ⟨a, b, c⟩ := F
  obtain ⟨d, e, f⟩ := G
  dsimp only at h2
  unfold lst3 hi_
  dsimp only
  rw [show max b e = e by omega]
  by_cases c1 : b < e
  · rw [if_neg (by omega), if_pos c1]
  · rw [if_neg (by omega), if_neg c1, show max c f = f by omega]
/-- What comes of an opening. -/
theorem reopen {n b B : Nat} {F : Int × Int × Int} {att all : List At} {imgs : List (List UInt8)} {opened : Nat} {D : DS} {T : Nat} {t : List Int} (hn : 2 ≤ n ∧ n ≤ 400) (hb : 1 ≤ b ∧ b ≤ 16) (hB : B ≤ 800) (h : Pre n b B F att all imgs opened D T t) :
    ∃ D' T' t' F' x' next', FnC Try.prog 6 [.ref 0 [], .int .i64 0, .ref 1 [], .int .i64 n, .int .i64 b] [(0, .var (dskV 2 3 D)), (1, .var (fcV F)), (2, .row (.ints .u8 D.b.length D.b)), (3, .row (.lst 2 D.wait.length (D.wait.map wtV)))]
      (.tup [.ref 7 [], .int .i64 0]) (spO 4 5 6 7 D' ⟨T', t', false⟩ F' x' n b next' false) ∧ LI n b (B + 1) F' att all imgs opened D' T' t' x' next' := by
  obtain ⟨g, inv, set, T1, oi, us⟩ := h
  obtain ⟨gt, gfg, gfk, gfh, gbe, gim, gal⟩ := g
  have hy : ∃ y, ((T = 0 ∧ y = ⟨0, 0, 0, 0, 0, []⟩) ∨ (1 ≤ T ∧ t = tx y ∧ y.msg.length ≤ 200 ∧ ∀ v ∈ [y.gen, y.key, y.res, y.lk, y.li], 0 ≤ v ∧ v ≤ 4611686018427387904)) ∧ OkS n F att y := by
    rcases oi with h0 | ⟨h1, y, e, ⟨o1, o2, o3, o4, o5, o6, o7, o8⟩⟩
    · refine ⟨⟨0, 0, 0, 0, 0, []⟩, .inl ⟨h0, rfl⟩, ⟨⟨Int.le_refl _, gfg.1⟩, ⟨Int.le_refl _, by show (0 : Int) ≤ n; omega⟩, Int.le_refl _, ?_, ⟨Int.le_refl _, gfk.1⟩, ⟨Int.le_refl _, by show (0 : Int) ≤ n; omega⟩, Nat.zero_le _, .inl rfl⟩⟩
      show (0 : Int) < F.2.1 ∨ ((0 : Int) = F.2.1 ∧ 0 ≤ F.2.2)
      omega
    · refine ⟨y, .inr ⟨h1, e, o7, fun v hv => ?_⟩, ⟨o1, o2, o3, o4, o5, o6, o7, o8⟩⟩
      simp only [List.mem_cons, List.not_mem_nil, or_false] at hv
      rcases hv with rfl | rfl | rfl | rfl | rfl <;> omega
  obtain ⟨y, hx, hok⟩ := hy
  obtain ⟨D', k, i', s'⟩ := sopen_calm inv set (by omega) F y n b (by omega) (by omega) hx (by omega)
  have e1 : lst3 F (y.gen, y.key, y.res) = F := lst3_low hok.g.2 hok.l
  have e2 : opX F y = ⟨F.1 + 1, F.2.1, F.2.2, y.lk, y.li, y.msg⟩ := by unfold opX; rw [e1]
  have e3 : opF F y = (F.1 + 1, F.2.1, F.2.2) := by
    unfold opF; rw [e2]
    dsimp only
    rw [lst3_high (F := F) (G := (F.1 + 1, F.2.1, F.2.2)) (.inr ⟨rfl, Int.le_refl _⟩)]
    dsimp only
    rw [show max F.1 (F.1 + 1) = F.1 + 1 by omega]
  rw [e2, e3] at k
  rw [e2] at i'
  have up : Up F (F.1 + 1, F.2.1, F.2.2) := ⟨by dsimp only; omega, .inr ⟨rfl, Int.le_refl _⟩⟩
  refine ⟨D', T + 1, _, _, _, _, k, ⟨gt, ?_, ?_, gfh, gbe, gim.mono (by omega) up (fun a h => h), gal⟩, gbe, rfl, rfl, ⟨gfh.1, Int.le_refl _, by dsimp only; omega⟩, ?_, i', by omega, rfl, us⟩
  · dsimp only; omega
  · dsimp only; omega
  · have hm := hok.mono up (fun a h => h)
    exact ⟨⟨by dsimp only; omega, Int.le_refl _⟩, ⟨gfh.1, by dsimp only; omega⟩, gfk.1, .inr ⟨rfl, Int.le_refl _⟩, hm.lk, hm.li, hm.m, hm.a⟩
/-- What a dealing, or a rolling over, comes to. -/
def Mid (n b B : Nat) (all : List At) (imgs : List (List UInt8)) (opened : Nat) (m : List UInt8) (a c h : Int) (D' : DS) (S' : SS) (F' : Int × Int × Int) (x' : ST) (next' : Int) (gone' : Bool) : Prop :=
  (h ≠ 0 ∧ h ≠ 9 ∧ gone' = false ∧ ∃ T' t' att', S' = ⟨T', t', false⟩ ∧ LI n b B F' att' all imgs opened D' T' t' x' next') ∨
  (h = 0 ∧ gone' = false ∧ ∃ T' t' att', S' = ⟨T', t', false⟩ ∧ (a, c, m) ∈ att' ∧ Atts n att' ∧ (∀ g ∈ all, g ∈ att') ∧ ((∃ g ∈ all, g.1 = a ∧ g.2.1 = c) → LI n b B F' att' all imgs opened D' T' t' x' next') ∧ ((∀ g ∈ all, ¬ (g.1 = a ∧ g.2.1 = c)) → LI n b B F' att' (all ++ [(a, c, m)]) imgs opened D' T' t' x' next')) ∨
  (h = 9 ∧ okD D' ∧ D'.off = true ∧ ∃ T' t' att', Pre n b B F' att' all imgs (opened + 1) (bootD D') T' t')
theorem mid_same {n b B : Nat} {F : Int × Int × Int} {att all : List At} {imgs : List (List UInt8)} {opened : Nat} {D : DS} {T : Nat} {t : List Int} {x : ST} {next : Int} (h : LI n b B F att all imgs opened D T t x next) (m : List UInt8) (e : Int) (h0 : e ≠ 0) (h9 : e ≠ 9) :
    Mid n b (B + 1) all imgs opened m 0 0 e D ⟨T, t, false⟩ F x next false := .inl ⟨h0, h9, rfl, T, t, att, rfl, h.mono (by omega)⟩
theorem mid_old {n b B : Nat} {F : Int × Int × Int} {att all : List At} {imgs : List (List UInt8)} {opened : Nat} {D : DS} {T : Nat} {t : List Int} {x : ST} {next : Int} (h : LI n b B F att all imgs opened D T t x next) (m : List UInt8) (hm : m = x.msg) (hn : m ≠ []) :
    Mid n b (B + 1) all imgs opened m x.lk x.li 0 D ⟨T, t, false⟩ F x next false := by
  have ha : (x.lk, x.li, m) ∈ att := by
    rcases h.ok.a with e | e
    · exact absurd (hm.trans e) hn
    · rw [hm]; exact e
  refine .inr (.inl ⟨rfl, rfl, T, t, att, rfl, ha, h.g.t, h.g.al, fun _ => h.mono (by omega), fun _ => ?_⟩)
  obtain ⟨g, lv, fk, fh, nx, ok, inv, T1, tt, us⟩ := h.mono (show B ≤ B + 1 by omega)
  obtain ⟨g1, g2, g3, g4, g5, g6, g7⟩ := g
  refine ⟨⟨g1, g2, g3, g4, g5, g6, fun q hq => ?_⟩, lv, fk, fh, nx, ok, inv, T1, tt, ?_⟩
  · rcases List.mem_append.1 hq with hq | hq
    · exact g7 q hq
    · rw [List.mem_singleton] at hq; subst hq; exact ha
  · rw [used_app]; omega
theorem atts_cons {n : Int} {att : List At} {k i : Int} {m : List UInt8} (h : Atts n att) (hk : 0 ≤ k) (hi : 0 ≤ i ∧ i < n) (hl : ∀ a ∈ att, a.1 < k ∨ (a.1 = k ∧ a.2.1 < i)) : Atts n ((k, i, m) :: att) := by
  refine ⟨fun a ha c hc e1 e2 => ?_, fun a ha => ?_⟩
  · rcases List.mem_cons.1 ha with rfl | ha
    · rcases List.mem_cons.1 hc with rfl | hc
      · rfl
      · have := hl c hc; dsimp only at e1 e2; omega
    · rcases List.mem_cons.1 hc with rfl | hc
      · have := hl a ha; dsimp only at e1 e2; omega
      · exact h.u a ha c hc e1 e2
  · rcases List.mem_cons.1 ha with rfl | ha
    · exact ⟨hk, hi⟩
    · exact h.p a ha
/-- A new text is stored: what comes of that, if the fence was raised ahead. -/
theorem mid_new {n b B : Nat} {F F' : Int × Int × Int} {att all : List At} {imgs : List (List UInt8)} {opened : Nat} {D : DS} {T : Nat} {t : List Int} {x y : ST} {next next' : Int} {m : List UInt8} (h : LI n b B F att all imgs opened D T t x next) (hB : B ≤ 800) (hn : n ≤ 400) (hm : m.length ≤ 200) (hx : next < n)
    (up : Up F F') (f1 : F'.1 ≤ B + 1) (f2 : F'.2.1 ≤ B + 1) (f3 : 0 ≤ F'.2.2 ∧ F'.2.2 ≤ (n : Int) - 1) (hy1 : y.gen = x.gen) (hy2 : y.key = F'.2.1) (hy3 : y.res = F'.2.2) (hy4 : y.lk = x.key) (hy5 : y.li = next) (hy6 : y.msg = m) (hlt : x.key < F'.2.1 ∨ (x.key = F'.2.1 ∧ next < next' ∧ next < F'.2.2)) (hnx : 0 ≤ next' ∧ next' ≤ F'.2.2 ∧ F'.2.2 ≤ next' + b)
    (hus : next' ≤ ((used all y.key + (if x.key = y.key then 1 else 0) + b * opened : Nat) : Int)) (hus2 : F'.2.2 ≤ ((used all F'.2.1 + b * (opened + 1) : Nat) : Int)) :
    ∃ h, ((replD D ⟨T, t, false⟩ (tx y)).1 = 0 ∧ h = 0 ∨ (replD D ⟨T, t, false⟩ (tx y)).1 ≠ 0 ∧ h = 9) ∧
    Mid n b (B + 1) all imgs opened m (if (replD D ⟨T, t, false⟩ (tx y)).1 = 0 then x.key else 0) (if (replD D ⟨T, t, false⟩ (tx y)).1 = 0 then next else 0) h (replD D ⟨T, t, false⟩ (tx y)).2.1 (replD D ⟨T, t, false⟩ (tx y)).2.2 F'
      (if (replD D ⟨T, t, false⟩ (tx y)).1 = 0 then y else x) (if (replD D ⟨T, t, false⟩ (tx y)).1 = 0 then next' else next) (decide ((replD D ⟨T, t, false⟩ (tx y)).1 ≠ 0)) := by
  have hmono : ∀ a ∈ att, a ∈ ((x.key, next, m) : At) :: att := fun a ha => List.mem_cons_of_mem _ ha
  obtain ⟨g, lv, fk, fh, nx, ok, inv, T1, tt, us⟩ := h
  obtain ⟨gt, gfg, gfk, gfh, gbe, gim, gal⟩ := g
  have hat := atts_cons (m := m) gt ok.kk ⟨nx.1, hx⟩ lv
  have hoy : OkS n F' ((x.key, next, m) :: att) y := by
    obtain ⟨u1, u2⟩ := up
    obtain ⟨o1, o2, o3, o4, o5, o6, o7, o8⟩ := ok
    refine ⟨by omega, by omega, by omega, by omega, by omega, by omega, by rw [hy6]; exact hm, .inr ?_⟩
    rw [hy4, hy5, hy6]
    exact List.mem_cons_self ..
  have hg : Glob n (B + 1) F' ((x.key, next, m) :: att) all imgs := by
    obtain ⟨u1, u2⟩ := up
    refine ⟨hat, by omega, by omega, f3, fun a ha => ?_, gim.mono (by omega) ⟨u1, u2⟩ hmono, fun q hq => hmono q (gal q hq)⟩
    rcases List.mem_cons.1 ha with rfl | ha
    · dsimp only; omega
    · have := gbe a ha; omega
  rcases inv_repl inv (by omega) (show (tx y).length + 18 ≤ 400 by rw [tx_len, hy6]; omega) (tx_mem y) with ⟨r1, r2, r3⟩ | ⟨r1, r2, r3, r4⟩
  · refine ⟨0, .inl ⟨r1, rfl⟩, ?_⟩
    rw [r1, if_pos rfl, if_pos rfl, if_pos rfl, if_pos rfl, decide_eq_false (fun h => h rfl), r2]
    generalize (replD D ⟨T, t, false⟩ (tx y)).2.1 = D' at *
    refine .inr (.inl ⟨rfl, rfl, T + 1, tx y, (x.key, next, m) :: att, rfl, List.mem_cons_self .., hat, hg.al, fun ⟨q, hq, q1, q2⟩ => ?_, fun _ => ?_⟩)
    · have := lv q (gal q hq); omega
    · obtain ⟨g1, g2, g3, g4, g5, g6, g7⟩ := hg
      refine ⟨⟨g1, g2, g3, g4, g5, g6, fun q hq => ?_⟩, fun a ha => ?_, hy2.symm, hy3.symm, by rw [hy3]; exact hnx, hoy, r3, by omega, rfl, ?_⟩
      · rcases List.mem_append.1 hq with hq | hq
        · exact g7 q hq
        · rw [List.mem_singleton] at hq; subst hq; exact List.mem_cons_self ..
      · rw [hy2]
        rcases List.mem_cons.1 ha with rfl | ha
        · dsimp only; omega
        · have := lv a ha; omega
      · rw [used_app]; exact hus
  · refine ⟨9, .inr ⟨by rw [r1]; decide, rfl⟩, ?_⟩
    have e : ¬ (9 : Int) = 0 := by decide
    rw [r1, if_neg e, if_neg e, if_neg e, if_neg e]
    refine .inr (.inr ⟨rfl, r2, r3, ?_⟩)
    rcases r4 with hI | hI
    · exact ⟨T + 1, tx y, _, hg, hI, rfl, by omega, .inr ⟨by omega, y, rfl, hoy⟩, hus2⟩
    · exact ⟨T, t, _, hg, hI, rfl, by omega, .inr ⟨T1.1, x, tt, ok.mono up hmono⟩, hus2⟩
theorem deal_mid {n b B : Nat} {F : Int × Int × Int} {att all : List At} {imgs : List (List UInt8)} {opened : Nat} {D : DS} {T : Nat} {t : List Int} {x : ST} {next : Int} (hn : 2 ≤ n ∧ n ≤ 400) (hb : 1 ≤ b ∧ b ≤ 16) (hB : B ≤ 800) (h : LI n b B F att all imgs opened D T t x next) (m : List Int) (q : Nat) (hq : m.length = q) (hql : q ≤ 1000) :
    ∃ a c e D' S' F' x' next' gone', FnC Try.prog 8 [.ref 3 [], .sl (.ints .u8 q m)] (sgO 4 5 D ⟨T, t, false⟩ F x n b next false) (.tup [.int .i64 a, .int .i64 c, .int .i64 e]) (sgO 6 7 D' S' F' x' n b next' gone') ∧
      Mid n b (B + 1) all imgs opened (toU m) a c e D' S' F' x' next' gone' := by
  by_cases c1 : q = 0 ∨ 200 < q
  · exact ⟨_, _, _, _, _, _, _, _, _, deal_arg D ⟨T, t, false⟩ F x n b next m q hq (by omega) c1, mid_same h _ 1 (by decide) (by decide)⟩
  have hne : toU m ≠ [] := fun e => c1 (.inl (by rw [← hq, ← toU_len, e]; rfl))
  by_cases c2 : toU m = x.msg
  · exact ⟨_, _, _, _, _, _, _, _, _, deal_old D ⟨T, t, false⟩ F x n b next m q hq c1 c2, mid_old h _ c2 hne⟩
  by_cases c3 : (n : Int) - 1 ≤ next
  · exact ⟨_, _, _, _, _, _, _, _, _, deal_spent D ⟨T, t, false⟩ F x n b next m q hq c1 c2 c3 (by omega), mid_same h _ 6 (by decide) (by decide)⟩
  have k := deal_new D h.inv.d (by rw [h.inv.w]; simp) ⟨T, t, false⟩ rfl (by have := h.T1; dsimp only; omega) (by rw [h.inv.s]; omega) F x n b next m q hq c1 c2 c3 (by omega) (by omega) h.nx.1
  obtain ⟨nx1, nx2, nx3⟩ := h.nx
  have fh := h.fh
  have fk := h.fk
  have gfh := h.g.fh
  have gfg := h.g.fg
  have gfk := h.g.fk
  have us := h.us
  have hF : dealF F x n b next = (F.1, F.2.1, (dealY x n b next (toU m)).res) := by
    unfold dealF dealY
    dsimp only
    by_cases c : x.res ≤ next
    · rw [if_pos c, if_pos c, lst3_high (.inr ⟨fk, by dsimp only; omega⟩)]
      dsimp only
      rw [show max F.1 x.gen = F.1 by have := h.ok.g; omega, fk]
    · rw [if_neg c, if_neg c, ← fh]
  have hr : next < (dealY x n b next (toU m)).res ∧ x.res ≤ (dealY x n b next (toU m)).res ∧ (dealY x n b next (toU m)).res ≤ next + b ∧ (dealY x n b next (toU m)).res ≤ (n : Int) - 1 := by
    unfold dealY
    dsimp only
    by_cases c : x.res ≤ next
    · rw [if_pos c]; omega
    · rw [if_neg c]; omega
  have z1 : (dealY x n b next (toU m)).gen = x.gen := rfl
  have z2 : (dealY x n b next (toU m)).key = x.key := rfl
  have z4 : (dealY x n b next (toU m)).lk = x.key := rfl
  have z5 : (dealY x n b next (toU m)).li = next := rfl
  have z6 : (dealY x n b next (toU m)).msg = toU m := rfl
  rw [hF] at k
  generalize dealY x n b next (toU m) = y at *
  obtain ⟨e, he, M⟩ := mid_new (F' := (F.1, F.2.1, y.res)) (y := y) (next' := next + 1) (m := toU m) h hB hn.2 (by rw [toU_len]; omega) (by omega) ⟨Int.le_refl _, .inr ⟨rfl, by dsimp only; omega⟩⟩ (by dsimp only; omega) (by dsimp only; omega) ⟨by dsimp only; omega, by dsimp only; omega⟩ z1 (z2.trans fk.symm) rfl z4 z5 z6
    (.inr ⟨fk.symm, by omega, hr.1⟩) (by dsimp only; omega) (by rw [z2, if_pos rfl]; omega) (by dsimp only; rw [fk, Nat.mul_add]; omega)
  refine ⟨_, _, e, _, _, _, _, _, _, ?_, M⟩
  rcases he with ⟨r0, rfl⟩ | ⟨r0, rfl⟩
  · rw [r0, if_pos rfl, if_pos rfl, if_pos rfl] at k
    rw [r0, if_pos rfl, if_pos rfl, if_pos rfl, if_pos rfl]
    exact k
  · rw [if_neg r0, if_neg r0, if_neg r0] at k
    rw [if_neg r0, if_neg r0, if_neg r0, if_neg r0]
    exact k
theorem roll_mid {n b B : Nat} {F : Int × Int × Int} {att all : List At} {imgs : List (List UInt8)} {opened : Nat} {D : DS} {T : Nat} {t : List Int} {x : ST} {next : Int} (hn : 2 ≤ n ∧ n ≤ 400) (hb : 1 ≤ b ∧ b ≤ 16) (hB : B ≤ 800) (h : LI n b B F att all imgs opened D T t x next) (m : List Int) (q : Nat) (hq : m.length = q) (hql : q ≤ 1000) :
    ∃ a c e D' S' F' x' next' gone', FnC Try.prog 9 [.ref 3 [], .sl (.ints .u8 q m)] (sgO 4 5 D ⟨T, t, false⟩ F x n b next false) (.tup [.int .i64 a, .int .i64 c, .int .i64 e]) (sgO 6 7 D' S' F' x' n b next' gone') ∧
      Mid n b (B + 1) all imgs opened (toU m) a c e D' S' F' x' next' gone' := by
  by_cases c1 : q = 0 ∨ 200 < q
  · exact ⟨_, _, _, _, _, _, _, _, _, roll_arg D ⟨T, t, false⟩ F x n b next m q hq (by omega) c1, mid_same h _ 1 (by decide) (by decide)⟩
  have hne : toU m ≠ [] := fun e => c1 (.inl (by rw [← hq, ← toU_len, e]; rfl))
  by_cases c2 : toU m = x.msg
  · exact ⟨_, _, _, _, _, _, _, _, _, roll_old D ⟨T, t, false⟩ F x n b next m q hq c1 c2, mid_old h _ c2 hne⟩
  obtain ⟨nx1, nx2, nx3⟩ := h.nx
  have fh := h.fh
  have fk := h.fk
  have gfh := h.g.fh
  have gfg := h.g.fg
  have gfk := h.g.fk
  have k := roll_new D h.inv.d (by rw [h.inv.w]; simp) ⟨T, t, false⟩ rfl (by have := h.T1; dsimp only; omega) (by rw [h.inv.s]; omega) F x n b next m q hq c1 c2 (by omega) (by omega)
  have hF : lst3 F (x.gen, x.key + 1, 0) = (F.1, x.key + 1, 0) := by
    rw [lst3_high (.inl (by dsimp only; omega))]
    dsimp only
    rw [show max F.1 x.gen = F.1 by have := h.ok.g; omega]
  have z1 : (rollY x next (toU m)).gen = x.gen := rfl
  have z2 : (rollY x next (toU m)).key = x.key + 1 := rfl
  have z3 : (rollY x next (toU m)).res = 0 := rfl
  have z4 : (rollY x next (toU m)).lk = x.key := rfl
  have z5 : (rollY x next (toU m)).li = next := rfl
  have z6 : (rollY x next (toU m)).msg = toU m := rfl
  rw [hF] at k
  generalize rollY x next (toU m) = y at *
  obtain ⟨e, he, M⟩ := mid_new (F' := (F.1, x.key + 1, 0)) (y := y) (next' := 0) (m := toU m) h hB hn.2 (by rw [toU_len]; omega) (by omega) ⟨Int.le_refl _, .inl (by dsimp only; omega)⟩ (by dsimp only; omega) (by dsimp only; omega) ⟨by dsimp only; omega, by dsimp only; omega⟩ z1 z2 z3 z4 z5 z6
    (.inl (by dsimp only; omega)) (by dsimp only; omega) (by omega) (by dsimp only; omega)
  refine ⟨_, _, e, _, _, _, _, _, _, ?_, M⟩
  rcases he with ⟨r0, rfl⟩ | ⟨r0, rfl⟩
  · rw [r0, if_pos rfl, if_pos rfl, if_pos rfl] at k
    rw [r0, if_pos rfl, if_pos rfl, if_pos rfl, if_pos rfl]
    exact k
  · rw [if_neg r0, if_neg r0, if_neg r0] at k
    rw [if_neg r0, if_neg r0, if_neg r0, if_neg r0]
    exact k
end Go.Proofs.Ythhlielliopegaa
