/- The walk of SignerOnce. -/
import Derived.Test.YthhlielliopegaaSgn8
namespace Go.Proofs.Ythhlielliopegaa
open Go Go.Sy Go.Proofs.Try
set_option maxRecDepth 100000
set_option maxHeartbeats 80000000
set_option linter.unusedSimpArgs false
set_option linter.unusedVariables false

def plS1 : List (Nat × Plan) := [(36, [(0, [], none), (1, [0], none), (2, [], none), (3, [], none), (4, [], none), (5, [0, 1, 2, 3, 4], none), (6, [0, 1, 2, 3, 4], none), (7, [0, 1, 2, 3, 4], none), (8, [], none)]), (53, [(5, [], none), (6, [], some [243]), (0, [5, 6], none), (1, [5, 6, 0], none), (2, [5, 6], none), (3, [5, 6], none), (4, [5, 6], none), (7, [], none)])]
attribute [go_sem] plS1
structure Lp where
  i : Nat
  D : DS
  T : Nat
  t : List Int
  F : Int × Int × Int
  x : ST
  next : Int
  imgs : List (List UInt8)
  all : List At
  opened : Nat
def imV (s : List UInt8) : AV := .str s
def atV (g : At) : AV := .agg [.int .i64 g.1, .int .i64 g.2.1, .str g.2.2]
abbrev lpO (p : Lp) (n b : Int) : OO :=
  [(0, .var (dskV 4 5 p.D)), (1, .var (slV ⟨p.T, p.t, false⟩)), (2, .var (fcV p.F)), (3, .var (sgV 1 2 p.x n b p.next false)), (4, .row (.ints .u8 p.D.b.length p.D.b)), (5, .row (.lst 2 p.D.wait.length (p.D.wait.map wtV))),
    (6, .row (.lst 1 p.imgs.length (p.imgs.map imV))), (7, .row (.lst 3 p.all.length (p.all.map atV)))]
attribute [go_sem] lpO
attribute [simp] lpO
structure LpQ (n b nl : Nat) (p : Lp) : Prop where
  i : p.i ≤ nl
  o : p.opened ≤ p.i
  a : p.all.length ≤ p.i
  m : p.imgs.length ≤ p.i
  l : ∃ att, LI n b (2 * p.i + 1) p.F att p.all p.imgs p.opened p.D p.T p.t p.x p.next
theorem used_succ {all : List At} {j : Nat} (h : j < all.length) (k : Int) : used (all.take (j + 1)) k = used (all.take j) k + if (all[j]).1 = k then 1 else 0 := by
  rw [List.take_add_one, List.getElem?_eq_getElem h]
  exact used_app _ _ _
theorem used_le (all : List At) (k : Int) : used all k ≤ all.length := List.length_filter_le _ _
theorem any_succ {all : List At} {j : Nat} (h : j < all.length) (a c : Int) : (∃ g ∈ all.take (j + 1), g.1 = a ∧ g.2.1 = c) ↔ ((∃ g ∈ all.take j, g.1 = a ∧ g.2.1 = c) ∨ ((all[j]).1 = a ∧ (all[j]).2.1 = c)) := by
  rw [List.take_add_one, List.getElem?_eq_getElem h]
  constructor
  · rintro ⟨g, hg, e⟩
    rcases List.mem_append.1 hg with hg | hg
    · exact .inl ⟨g, hg, e⟩
    · have hg : g ∈ [all[j]] := hg
      rw [List.mem_singleton] at hg; subst hg; exact .inr e
  · rintro (⟨g, hg, e⟩ | e)
    · exact ⟨g, List.mem_append_left _ hg, e⟩
    · exact ⟨_, List.mem_append_right _ (List.mem_singleton.2 rfl), e⟩
/-- What a failure of the power leaves. -/
theorem pre_boot {n b B : Nat} {F : Int × Int × Int} {att all : List At} {imgs : List (List UInt8)} {opened : Nat} {D : DS} {T : Nat} {t : List Int} {x : ST} {next : Int} (h : LI n b B F att all imgs opened D T t x next) (ks : List Int) : Pre n b (B + 1) F att all imgs (opened + 1) (bootD (crashD D ks)) T t := by
  obtain ⟨g, lv, fk, fh, nx, ok, inv, T1, tt, us⟩ := h
  refine ⟨g.mono (by omega), inv_boot inv ks, rfl, by omega, .inr ⟨T1.1, x, tt, ok⟩, ?_⟩
  rw [fk, fh, Nat.mul_add]; omega
theorem pre_rest {n b B : Nat} {F : Int × Int × Int} {att all : List At} {imgs : List (List UInt8)} {opened : Nat} {D : DS} {T : Nat} {t : List Int} {x : ST} {next : Int} (h : LI n b B F att all imgs opened D T t x next) (ks : List Int) {s : List UInt8} (hs : s ∈ imgs) :
    s.length = 800 ∧ ∃ T' t', Pre n b (B + 1) F att all imgs (opened + 1) (bootD (restD (crashD D ks) (bkU s))) T' t' := by
  obtain ⟨g, lv, fk, fh, nx, ok, inv, T1, tt, us⟩ := h
  obtain ⟨h8, T', t', h1, h2, h3⟩ := g.im s hs
  have hI := inv_boot inv ks
  have d := crashD_ok inv.d ks
  have hs : (crashD D ks).sz = 400 := hI.s
  refine ⟨h8, T', t', g.mono (by omega), ⟨⟨d.sz1, d.sz2, ?_, Nat.zero_le _, d.kl, fun w hw => by cases hw⟩, hs, rfl, rfl, h2⟩, rfl, by omega, h3, ?_⟩
  · show (bkU s).length ≤ 32768; rw [bkU_len, h8]; decide
  · rw [fk, fh, Nat.mul_add]; omega
theorem li_fail {n b B : Nat} {F : Int × Int × Int} {att all : List At} {imgs : List (List UInt8)} {opened : Nat} {D : DS} {T : Nat} {t : List Int} {x : ST} {next : Int} (h : LI n b B F att all imgs opened D T t x next) (a : Int) (ks : List Int) (hk : ks.length ≤ 1000000) : LI n b B F att all imgs opened (failD D a ks) T t x next :=
  ⟨h.g, h.lv, h.fk, h.fh, h.nx, h.ok, inv_fail h.inv a ks hk, h.T1, h.tt, h.us⟩
theorem li_image {n b B : Nat} {F : Int × Int × Int} {att all : List At} {imgs : List (List UInt8)} {opened : Nat} {D : DS} {T : Nat} {t : List Int} {x : ST} {next : Int} (h : LI n b B F att all imgs opened D T t x next) : LI n b B F att all (imgs ++ [toU D.b]) opened D T t x next := by
  obtain ⟨g, lv, fk, fh, nx, ok, inv, T1, tt, us⟩ := h
  obtain ⟨g1, g2, g3, g4, g5, g6, g7⟩ := g
  refine ⟨⟨g1, g2, g3, g4, g5, fun s hs => ?_, g7⟩, lv, fk, fh, nx, ok, inv, T1, tt, us⟩
  rcases List.mem_append.1 hs with hs | hs
  · exact g6 s hs
  · rw [List.mem_singleton] at hs; subst hs
    refine ⟨by rw [toU_len, inv.c.bl], T, t, T1.2, ?_, .inr ⟨T1.1, x, tt, ok⟩⟩
    rw [bk_toU inv.c.bb]; exact inv.c
theorem signerOnce_spec (tv bv : Int) (ht : 0 ≤ tv ∧ tv < 65536) (hb : 0 ≤ bv ∧ bv < 256) (l : List Dd) (hl : l.length ≤ 9223372036854775807) (hd : ∀ x ∈ l, x.m.length ≤ 9223372036854775807 ∧ x.k.length ≤ 9223372036854775807 ∧ ∀ y ∈ x.m, 0 ≤ y ∧ y < 256) :
    FnC Try.prog 4 [.int .u16 tv, .int .u8 bv, .sl (.lst 4 l.length (l.map ddV))] [] (.bool true) [] := by
  obtain ⟨nl, hnl⟩ : ∃ n, l.length = n := ⟨_, rfl⟩
  rw [hnl] at hl ⊢
  have hle : (l.map ddV).length = nl := by rw [List.length_map, hnl]
  obtain ⟨n, hn⟩ := Int.eq_ofNat_of_zero_le (show 0 ≤ tv % 300 + 2 by omega)
  obtain ⟨b, hb'⟩ := Int.eq_ofNat_of_zero_le (show 0 ≤ bv % 16 + 1 by omega)
  have hn2 : 2 ≤ n ∧ n ≤ 400 := by omega
  have hb2 : 1 ≤ b ∧ b ≤ 16 := by omega
  have tn : tv.tmod 300 + 2 = (n : Int) := by rw [Int.tmod_eq_emod_of_nonneg (by omega)]; exact hn
  have tb : bv.tmod 16 + 1 = (b : Int) := by rw [Int.tmod_eq_emod_of_nonneg (by omega)]; exact hb'
  have r0 := new_ok 2 400 (by decide) (by decide) (by decide) (by decide)
  have i0 := inv0
  have e0 : List.replicate (2 * 400) (0 : Int) = List.replicate 800 0 := rfl
  rw [e0] at r0
  have s0 : DS.set ⟨400, List.replicate 800 0, [], false, false, 0, []⟩ = false := rfl
  generalize (⟨400, List.replicate 800 0, [], false, false, 0, []⟩ : DS) = D0 at *
  have p0 : Pre n b 0 (0, 0, 0) [] [] [] 0 D0 0 [] := ⟨⟨⟨fun a h => absurd h List.not_mem_nil, fun a h => absurd h List.not_mem_nil⟩, ⟨Int.le_refl _, Int.le_refl _⟩, ⟨Int.le_refl _, Int.le_refl _⟩, ⟨Int.le_refl _, by dsimp only; omega⟩, fun a h => absurd h List.not_mem_nil, fun a h => absurd h List.not_mem_nil, fun a h => absurd h List.not_mem_nil⟩, i0, s0, Nat.le_refl _, .inl rfl, by dsimp only; omega⟩
  obtain ⟨D1, T1, t1, F1, x1, next1, r1, l1⟩ := reopen hn2 hb2 (by omega) p0
  obtain ⟨fw, rf, hfw⟩ := few15_spec l nl hnl hl (fun x hx => ⟨(hd x hx).1, (hd x hx).2.1⟩)
  refine fn0 mix plS1 0 3 [.tmp 6] Try.func4 rfl (by kernel_rfl) (by kernel_rfl) rfl (by kernel_rfl) (by kernel_rfl) (by simp) ?_
  simp (implicitDefEqProofs := false) (disch := omega) only [go_sem, ↓reduceIte, tn, tb]
  refine callF 3 r0 ?_
  simp (implicitDefEqProofs := false) (disch := omega) only [go_sem, ↓reduceIte]
  refine callF 1 new_spec ?_
  simp (implicitDefEqProofs := false) (disch := omega) only [go_sem, ↓reduceIte]
  refine call0 rf ?_
  cases fw
  · simp (implicitDefEqProofs := false) (disch := omega) only [go_sem, ↓reduceIte]
    refine call0 knows15_spec ?_
    simp (implicitDefEqProofs := false) (disch := omega) only [go_sem, ↓reduceIte]
  obtain ⟨hl60, hsm⟩ := hfw rfl
  simp (implicitDefEqProofs := false) (disch := omega) only [go_sem, ↓reduceIte]
  refine callG false [(0, 0), (1, 3), (2, 1), (3, 2)] [(0, 0), (1, 3), (6, 4), (7, 5), (4, 6), (5, 7)] 8 r1 ?_ ?_
  · simp [keys]
  simp (implicitDefEqProofs := false) (disch := omega) only [go_sem, ↓reduceIte]
  refine loop (ι := Lp) 8 (LpQ n b nl) (fun p => [(2, .sl (.lst 4 nl (l.map ddV))), (7, .int .i64 n), (8, .int .i64 b), (9, .ref 0 []), (11, .ref 2 []), (12, .ref 3 []), (14, .osl 6 [] 1 0 p.imgs.length), (15, .osl 7 [] 3 0 p.all.length), (16, .int .i64 p.opened), (17, .int .i64 p.i)])
    (fun p => lpO p n b) (fun p => nl - p.i) ⟨0, D1, T1, t1, F1, x1, next1, [], [], 0⟩ [(0, 0), (1, 4), (2, 3), (3, 5), (4, 6), (5, 7)] [6, 7] ⟨Nat.zero_le _, Nat.le_refl _, Nat.le_refl _, Nat.le_refl _, _, l1⟩ rfl ?_ ?_ ?_ (fun p hp => ?_)
  · simp (implicitDefEqProofs := false) (disch := omega) only [go_sem, ↓reduceIte]
  · simp (implicitDefEqProofs := false) (disch := omega) only [go_sem, ↓reduceIte, List.length_nil]
  · simp (implicitDefEqProofs := false) (disch := omega) only [go_sem, ↓reduceIte, List.map_nil, List.length_nil]
  obtain ⟨i, D, T, t, F, x, next, imgs, all, opened⟩ := p
  obtain ⟨q1, q2, q3, q4, att, q5⟩ := hp
  dsimp only at q1 q2 q3 q4 q5 ⊢
  simp (implicitDefEqProofs := false) (disch := omega) only [go_sem, ↓reduceIte]
  refine brd (fun h1 => ?_) (fun h1 => ?_)
  case' refine_2 =>
    simp (implicitDefEqProofs := false) (disch := omega) only [go_sem, ↓reduceIte]
    refine call0 knows15_spec ?_
    simp (implicitDefEqProofs := false) (disch := omega) only [go_sem, ↓reduceIte]
  have hi : i < l.length := by omega
  have hgd : ∀ K, getP (l.map ddV) i K = K (.agg [.int .i64 (l[i]).w, .sl (.ints .u8 (l[i]).m.length (l[i]).m), .int .i64 (l[i]).n, .sl (.ints .i64 (l[i]).k.length (l[i]).k)]) := fun K => getP_map (f := ddV) (List.getElem?_eq_getElem hi) K
  have hbi := hd _ (List.getElem_mem hi)
  have hsi := hsm _ (List.getElem_mem hi)
  generalize l[i] = y at *
  obtain ⟨w, m, N, ks⟩ := y
  dsimp only at hbi hsi hgd
  simp (implicitDefEqProofs := false) (disch := omega) only [go_sem, ↓reduceIte, ↓hgd, hle]
  refine brd (fun w0 => ?_) (fun w0 => ?_)
  · subst w0
    obtain ⟨a, c, e, D2, S2, F2, x2, next2, gone2, k, M⟩ := deal_mid hn2 hb2 (by omega) q5 m m.length rfl (by omega)
    simp (implicitDefEqProofs := false) (disch := omega) only [go_sem, ↓reduceIte]
    refine callG false [(0, 0), (1, 1), (2, 2), (3, 3), (4, 4), (5, 5)] [(0, 0), (1, 1), (2, 2), (3, 3), (6, 9), (7, 10)] 11 k ?_ ?_
    · simp [keys]
    rcases M with ⟨m1, m2, m3, T2, t2, att2, rfl, hL⟩ | ⟨rfl, m3, T2, t2, att2, rfl, hU, hA, hAl, hG1, hG2⟩ | ⟨rfl, m1, m2, T2, t2, att2, hP⟩
    · have d0 : decide (e = 0) = false := decide_eq_false m1
      have d9 : decide (e = 9) = false := decide_eq_false m2
      subst m3
      simp (implicitDefEqProofs := false) (disch := omega) only [go_sem, ↓reduceIte, d0, d9]
      have hLm := (hL).mono (show _ ≤ 2 * (i + 1) + 1 by omega)
      have hul := used_le all (x2).key
      have hbo : 0 ≤ (b : Int) * ((opened : Nat) : Int) ∧ (b : Int) * ((opened : Nat) : Int) ≤ 976 := by
        have := Nat.mul_le_mul hb2.2 (show opened ≤ 61 by omega)
        have h2 : ((b * opened : Nat) : Int) = (b : Int) * ((opened : Nat) : Int) := by simp
        omega
      have hus : decide (((used all (x2).key : Nat) : Int) + (b : Int) * ((opened : Nat) : Int) < next2) = false := by
        have h1 := hLm.us
        have h2 : ((b * opened : Nat) : Int) = (b : Int) * ((opened : Nat) : Int) := by simp
        exact decide_eq_false (by omega)
      have hkey := key_spec D2 ⟨T2, t2, false⟩ F2 x2 n b next2 false
      have hnext := next_spec D2 ⟨T2, t2, false⟩ F2 x2 n b next2 false
      have hLa : (all).length ≤ i + 1 := by first | omega | (rw [List.length_append]; simp only [List.length_singleton]; omega)
      have hLi : (imgs).length ≤ i + 1 := by first | omega | (rw [List.length_append]; simp only [List.length_singleton]; omega)
      have hLo : opened ≤ i + 1 := by omega
      have hu0 : used [] (x2).key = 0 := rfl
      generalize hALL : all = ALL at *
      generalize hIMG : imgs = IMG at *
      refine loop (ι := Nat) 8 (fun j => j ≤ ALL.length) (fun j => [(2, .sl (.lst 4 nl (l.map ddV))), (7, .int .i64 n), (8, .int .i64 b), (9, .ref 0 []), (11, .ref 2 []), (12, .ref 3 []), (14, .osl 6 [] 1 0 IMG.length), (15, .osl 7 [] 3 0 ALL.length), (16, .int .i64 (opened : Nat)), (17, .int .i64 i), (24, .int .i64 (used (ALL.take j) (x2).key : Nat)), (25, .int .i64 j)])
        (fun j => lpO ⟨i, D2, T2, t2, F2, x2, next2, IMG, ALL, opened⟩ n b) (fun j => ALL.length - j) 0 [(0, 0), (1, 1), (2, 2), (3, 3), (4, 9), (5, 10), (6, 6), (7, 7)] [] (Nat.zero_le _) rfl ?_ ?_ ?_ (fun j hj => ?_)
      · simp (implicitDefEqProofs := false) (disch := omega) only [go_sem, ↓reduceIte]
      · simp (implicitDefEqProofs := false) (disch := omega) only [go_sem, ↓reduceIte, hu0, hALL, hIMG, hu0]
      · simp (implicitDefEqProofs := false) (disch := omega) only [go_sem, ↓reduceIte, hALL, hIMG, hu0]
      simp (implicitDefEqProofs := false) (disch := omega) only [go_sem, ↓reduceIte]
      refine brd (fun g1 => ?_) (fun g1 => ?_)
      · have hj' : j < ALL.length := by omega
        have hge : ∀ K, getP (ALL.map atV) j K = K (.agg [.int .i64 (ALL[j]).1, .int .i64 (ALL[j]).2.1, .str (ALL[j]).2.2]) := fun K => getP_map (f := atV) (List.getElem?_eq_getElem hj') K
        have hsu := used_succ hj' (x2).key
        have hul2 := used_le (ALL.take j) (x2).key
        have htl : (ALL.take j).length ≤ 100 := by rw [List.length_take]; omega
        have hlea : (ALL.map atV).length = ALL.length := List.length_map _
        simp (implicitDefEqProofs := false) (disch := omega) only [go_sem, ↓reduceIte, ↓hge, hlea]
        refine callG false [(0, 0), (1, 1), (2, 2), (3, 3), (4, 4), (5, 5)] [(0, 0), (1, 1), (2, 2), (3, 3), (6, 8), (7, 9)] 10 hkey ?_ ?_
        · simp [keys]
        simp (implicitDefEqProofs := false) (disch := omega) only [go_sem, ↓reduceIte, ↓hge, hlea]
        refine brd (fun g2 => ?_) (fun g2 => ?_)
        · rw [if_pos g2] at hsu
          simp (implicitDefEqProofs := false) (disch := omega) only [go_sem, ↓reduceIte]
          refine ⟨j + 1, [(0, 0), (1, 1), (2, 2), (3, 3), (4, 8), (5, 9), (6, 6), (7, 7)], [], [], by dsimp only; omega, by dsimp only; omega, rfl, ?_, ?_, ?_⟩ <;> simp (implicitDefEqProofs := false) (disch := omega) only [go_sem, ↓reduceIte, hsu]
        · rw [if_neg g2] at hsu
          simp (implicitDefEqProofs := false) (disch := omega) only [go_sem, ↓reduceIte]
          refine ⟨j + 1, [(0, 0), (1, 1), (2, 2), (3, 3), (4, 8), (5, 9), (6, 6), (7, 7)], [], [], by dsimp only; omega, by dsimp only; omega, rfl, ?_, ?_, ?_⟩ <;> simp (implicitDefEqProofs := false) (disch := omega) only [go_sem, ↓reduceIte, hsu, Nat.add_zero]
      · obtain rfl : j = ALL.length := by omega
        rw [List.take_length]
        simp (implicitDefEqProofs := false) (disch := omega) only [go_sem, ↓reduceIte]
        refine callG false [(0, 0), (1, 1), (2, 2), (3, 3), (4, 4), (5, 5)] [(0, 0), (1, 1), (2, 2), (3, 3), (6, 8), (7, 9)] 10 hnext ?_ ?_
        · simp [keys]
        simp (implicitDefEqProofs := false) (disch := omega) only [go_sem, ↓reduceIte, hus]
        refine ⟨⟨i + 1, D2, T2, t2, F2, x2, next2, IMG, ALL, opened⟩, [(0, 0), (1, 1), (2, 2), (3, 3), (4, 8), (5, 9), (6, 6), (7, 7)], [], [], ⟨by dsimp only; omega, hLo, hLa, hLi, _, hLm⟩, by dsimp only; omega, rfl, ?_, ?_, ?_⟩ <;> simp (implicitDefEqProofs := false) (disch := omega) only [go_sem, ↓reduceIte]
    · subst m3
      have hab := hA.p _ hU
      dsimp only at hab
      have da : decide (a < 0) = false := decide_eq_false (by omega)
      have dc : decide (c < 0) = false := decide_eq_false (by omega)
      have dn : decide ((n : Int) ≤ c) = false := decide_eq_false (by omega)
      simp (implicitDefEqProofs := false) (disch := omega) only [go_sem, ↓reduceIte, da, dc, dn]
      refine loop (ι := Nat × Bool) 9 (fun j => j.1 ≤ all.length ∧ (j.2 = true ↔ ∃ g ∈ all.take j.1, g.1 = a ∧ g.2.1 = c)) (fun j => [(2, .sl (.lst 4 nl (l.map ddV))), (7, .int .i64 n), (8, .int .i64 b), (9, .ref 0 []), (11, .ref 2 []), (12, .ref 3 []), (14, .osl 6 [] 1 0 imgs.length), (15, .osl 7 [] 3 0 all.length), (16, .int .i64 opened), (17, .int .i64 i), (18, .ref 8 []), (19, .int .i64 a), (20, .int .i64 c), (21, .int .i64 0), (22, .bool j.2), (23, .int .i64 j.1)])
        (fun j => lpO ⟨i, D2, T2, t2, F2, x2, next2, imgs, all, opened⟩ n b ++ [(8, .var (.agg [.int .i64 0, .sl (.ints .u8 m.length m), .int .i64 N, .sl (.ints .i64 ks.length ks)]))]) (fun j => all.length - j.1) (0, false) [(0, 0), (1, 1), (2, 2), (3, 3), (4, 9), (5, 10), (6, 6), (7, 7), (8, 8)] [] ⟨Nat.zero_le _, ⟨fun h => absurd h Bool.false_ne_true, fun ⟨g, hg, _⟩ => absurd hg List.not_mem_nil⟩⟩ rfl ?_ ?_ ?_ (fun j hj => ?_)
      · simp (implicitDefEqProofs := false) (disch := omega) only [go_sem, ↓reduceIte]
      · simp (implicitDefEqProofs := false) (disch := omega) only [go_sem, ↓reduceIte]
      · simp (implicitDefEqProofs := false) (disch := omega) only [go_sem, ↓reduceIte]
      obtain ⟨j, o⟩ := j
      obtain ⟨hj, ho⟩ := hj
      dsimp only at hj ho ⊢
      simp (implicitDefEqProofs := false) (disch := omega) only [go_sem, ↓reduceIte]
      refine brd (fun g1 => ?_) (fun g1 => ?_)
      · have hj' : j < all.length := by omega
        have hge : ∀ K, getP (all.map atV) j K = K (.agg [.int .i64 (all[j]).1, .int .i64 (all[j]).2.1, .str (all[j]).2.2]) := fun K => getP_map (f := atV) (List.getElem?_eq_getElem hj') K
        have hlea : (all.map atV).length = all.length := List.length_map _
        have hsu := any_succ hj' a c
        have heq : (all[j]).1 = a → (all[j]).2.1 = c → (all[j]).2.2 = toU m := fun h1 h2 => hA.u _ (hAl _ (List.getElem_mem hj')) _ hU h1 h2
        generalize all[j] = g at *
        obtain ⟨ga, gc, gm⟩ := g
        dsimp only at hge hsu heq
        simp (implicitDefEqProofs := false) (disch := omega) only [go_sem, ↓reduceIte, ↓hge, hlea]
        refine brd (fun g2 => ?_) (fun g2 => ?_)
        · simp (implicitDefEqProofs := false) (disch := omega) only [go_sem, ↓reduceIte, ↓hge, hlea]
          refine brd (fun g3 => ?_) (fun g3 => ?_)
          · have hq := heq g2 g3
            have dq : decide (gm = m.map fun x => UInt8.ofNat x.toNat) = true := decide_eq_true hq
            simp (implicitDefEqProofs := false) (disch := omega) only [go_sem, ↓reduceIte, ↓hge, hlea, dq]
            refine ⟨(j + 1, true), [(0, 0), (1, 1), (2, 2), (3, 3), (4, 4), (5, 5), (6, 6), (7, 7), (8, 8)], [], [], ⟨by dsimp only; omega, ⟨fun _ => hsu.2 (.inr ⟨g2, g3⟩), fun _ => rfl⟩⟩, by dsimp only; omega, rfl, ?_, ?_, ?_⟩ <;> simp (implicitDefEqProofs := false) (disch := omega) only [go_sem, ↓reduceIte]
          · simp (implicitDefEqProofs := false) (disch := omega) only [go_sem, ↓reduceIte]
            refine ⟨(j + 1, o), [(0, 0), (1, 1), (2, 2), (3, 3), (4, 4), (5, 5), (6, 6), (7, 7), (8, 8)], [], [], ⟨by dsimp only; omega, ⟨fun h => hsu.2 (.inl (ho.1 h)), fun h => ho.2 ((hsu.1 h).resolve_right (fun e => g3 e.2))⟩⟩, by dsimp only; omega, rfl, ?_, ?_, ?_⟩ <;> simp (implicitDefEqProofs := false) (disch := omega) only [go_sem, ↓reduceIte]
        · simp (implicitDefEqProofs := false) (disch := omega) only [go_sem, ↓reduceIte]
          refine ⟨(j + 1, o), [(0, 0), (1, 1), (2, 2), (3, 3), (4, 4), (5, 5), (6, 6), (7, 7), (8, 8)], [], [], ⟨by dsimp only; omega, ⟨fun h => hsu.2 (.inl (ho.1 h)), fun h => ho.2 ((hsu.1 h).resolve_right (fun e => g2 e.1))⟩⟩, by dsimp only; omega, rfl, ?_, ?_, ?_⟩ <;> simp (implicitDefEqProofs := false) (disch := omega) only [go_sem, ↓reduceIte]
      obtain rfl : j = all.length := by omega
      rw [List.take_length] at ho
      cases o
      case true =>
        have hL := hG1 (ho.1 rfl)
        simp (implicitDefEqProofs := false) (disch := omega) only [go_sem, ↓reduceIte]
        have hLm := (hL).mono (show _ ≤ 2 * (i + 1) + 1 by omega)
        have hul := used_le all (x2).key
        have hbo : 0 ≤ (b : Int) * ((opened : Nat) : Int) ∧ (b : Int) * ((opened : Nat) : Int) ≤ 976 := by
          have := Nat.mul_le_mul hb2.2 (show opened ≤ 61 by omega)
          have h2 : ((b * opened : Nat) : Int) = (b : Int) * ((opened : Nat) : Int) := by simp
          omega
        have hus : decide (((used all (x2).key : Nat) : Int) + (b : Int) * ((opened : Nat) : Int) < next2) = false := by
          have h1 := hLm.us
          have h2 : ((b * opened : Nat) : Int) = (b : Int) * ((opened : Nat) : Int) := by simp
          exact decide_eq_false (by omega)
        have hkey := key_spec D2 ⟨T2, t2, false⟩ F2 x2 n b next2 false
        have hnext := next_spec D2 ⟨T2, t2, false⟩ F2 x2 n b next2 false
        have hLa : (all).length ≤ i + 1 := by first | omega | (rw [List.length_append]; simp only [List.length_singleton]; omega)
        have hLi : (imgs).length ≤ i + 1 := by first | omega | (rw [List.length_append]; simp only [List.length_singleton]; omega)
        have hLo : opened ≤ i + 1 := by omega
        have hu0 : used [] (x2).key = 0 := rfl
        generalize hALL : all = ALL at *
        generalize hIMG : imgs = IMG at *
        refine loop (ι := Nat) 8 (fun j => j ≤ ALL.length) (fun j => [(2, .sl (.lst 4 nl (l.map ddV))), (7, .int .i64 n), (8, .int .i64 b), (9, .ref 0 []), (11, .ref 2 []), (12, .ref 3 []), (14, .osl 6 [] 1 0 IMG.length), (15, .osl 7 [] 3 0 ALL.length), (16, .int .i64 (opened : Nat)), (17, .int .i64 i), (24, .int .i64 (used (ALL.take j) (x2).key : Nat)), (25, .int .i64 j)])
          (fun j => lpO ⟨i, D2, T2, t2, F2, x2, next2, IMG, ALL, opened⟩ n b) (fun j => ALL.length - j) 0 [(0, 0), (1, 1), (2, 2), (3, 3), (4, 4), (5, 5), (6, 6), (7, 7)] [] (Nat.zero_le _) rfl ?_ ?_ ?_ (fun j hj => ?_)
        · simp (implicitDefEqProofs := false) (disch := omega) only [go_sem, ↓reduceIte]
        · simp (implicitDefEqProofs := false) (disch := omega) only [go_sem, ↓reduceIte, hu0, hALL, hIMG, hu0]
        · simp (implicitDefEqProofs := false) (disch := omega) only [go_sem, ↓reduceIte, hALL, hIMG, hu0]
        simp (implicitDefEqProofs := false) (disch := omega) only [go_sem, ↓reduceIte]
        refine brd (fun g1 => ?_) (fun g1 => ?_)
        · have hj' : j < ALL.length := by omega
          have hge : ∀ K, getP (ALL.map atV) j K = K (.agg [.int .i64 (ALL[j]).1, .int .i64 (ALL[j]).2.1, .str (ALL[j]).2.2]) := fun K => getP_map (f := atV) (List.getElem?_eq_getElem hj') K
          have hsu := used_succ hj' (x2).key
          have hul2 := used_le (ALL.take j) (x2).key
          have htl : (ALL.take j).length ≤ 100 := by rw [List.length_take]; omega
          have hlea : (ALL.map atV).length = ALL.length := List.length_map _
          simp (implicitDefEqProofs := false) (disch := omega) only [go_sem, ↓reduceIte, ↓hge, hlea]
          refine callG false [(0, 0), (1, 1), (2, 2), (3, 3), (4, 4), (5, 5)] [(0, 0), (1, 1), (2, 2), (3, 3), (6, 8), (7, 9)] 10 hkey ?_ ?_
          · simp [keys]
          simp (implicitDefEqProofs := false) (disch := omega) only [go_sem, ↓reduceIte, ↓hge, hlea]
          refine brd (fun g2 => ?_) (fun g2 => ?_)
          · rw [if_pos g2] at hsu
            simp (implicitDefEqProofs := false) (disch := omega) only [go_sem, ↓reduceIte]
            refine ⟨j + 1, [(0, 0), (1, 1), (2, 2), (3, 3), (4, 8), (5, 9), (6, 6), (7, 7)], [], [], by dsimp only; omega, by dsimp only; omega, rfl, ?_, ?_, ?_⟩ <;> simp (implicitDefEqProofs := false) (disch := omega) only [go_sem, ↓reduceIte, hsu]
          · rw [if_neg g2] at hsu
            simp (implicitDefEqProofs := false) (disch := omega) only [go_sem, ↓reduceIte]
            refine ⟨j + 1, [(0, 0), (1, 1), (2, 2), (3, 3), (4, 8), (5, 9), (6, 6), (7, 7)], [], [], by dsimp only; omega, by dsimp only; omega, rfl, ?_, ?_, ?_⟩ <;> simp (implicitDefEqProofs := false) (disch := omega) only [go_sem, ↓reduceIte, hsu, Nat.add_zero]
        · obtain rfl : j = ALL.length := by omega
          rw [List.take_length]
          simp (implicitDefEqProofs := false) (disch := omega) only [go_sem, ↓reduceIte]
          refine callG false [(0, 0), (1, 1), (2, 2), (3, 3), (4, 4), (5, 5)] [(0, 0), (1, 1), (2, 2), (3, 3), (6, 8), (7, 9)] 10 hnext ?_ ?_
          · simp [keys]
          simp (implicitDefEqProofs := false) (disch := omega) only [go_sem, ↓reduceIte, hus]
          refine ⟨⟨i + 1, D2, T2, t2, F2, x2, next2, IMG, ALL, opened⟩, [(0, 0), (1, 1), (2, 2), (3, 3), (4, 8), (5, 9), (6, 6), (7, 7)], [], [], ⟨by dsimp only; omega, hLo, hLa, hLi, _, hLm⟩, by dsimp only; omega, rfl, ?_, ?_, ?_⟩ <;> simp (implicitDefEqProofs := false) (disch := omega) only [go_sem, ↓reduceIte]
      case false =>
        have hL := hG2 (fun g hg e => by have := ho.2 ⟨g, hg, e⟩; cases this)
        have hlen : all.length + 1 = (all ++ [(a, c, toU m)]).length := by rw [List.length_append]; rfl
        have hmap : all.map atV ++ [.agg [.int .i64 a, .int .i64 c, .str (m.map fun x => UInt8.ofNat x.toNat)]] = (all ++ [(a, c, toU m)]).map atV := by rw [List.map_append]; rfl
        generalize hal2 : all ++ [(a, c, toU m)] = al2 at *
        simp (implicitDefEqProofs := false) (disch := omega) only [go_sem, ↓reduceIte]
        have hLm := (hL).mono (show _ ≤ 2 * (i + 1) + 1 by omega)
        have hul := used_le al2 (x2).key
        have hbo : 0 ≤ (b : Int) * ((opened : Nat) : Int) ∧ (b : Int) * ((opened : Nat) : Int) ≤ 976 := by
          have := Nat.mul_le_mul hb2.2 (show opened ≤ 61 by omega)
          have h2 : ((b * opened : Nat) : Int) = (b : Int) * ((opened : Nat) : Int) := by simp
          omega
        have hus : decide (((used al2 (x2).key : Nat) : Int) + (b : Int) * ((opened : Nat) : Int) < next2) = false := by
          have h1 := hLm.us
          have h2 : ((b * opened : Nat) : Int) = (b : Int) * ((opened : Nat) : Int) := by simp
          exact decide_eq_false (by omega)
        have hkey := key_spec D2 ⟨T2, t2, false⟩ F2 x2 n b next2 false
        have hnext := next_spec D2 ⟨T2, t2, false⟩ F2 x2 n b next2 false
        have hLa : (al2).length ≤ i + 1 := by first | omega | (rw [List.length_append]; simp only [List.length_singleton]; omega)
        have hLi : (imgs).length ≤ i + 1 := by first | omega | (rw [List.length_append]; simp only [List.length_singleton]; omega)
        have hLo : opened ≤ i + 1 := by omega
        have hu0 : used [] (x2).key = 0 := rfl
        generalize hALL : al2 = ALL at *
        generalize hIMG : imgs = IMG at *
        refine loop (ι := Nat) 8 (fun j => j ≤ ALL.length) (fun j => [(2, .sl (.lst 4 nl (l.map ddV))), (7, .int .i64 n), (8, .int .i64 b), (9, .ref 0 []), (11, .ref 2 []), (12, .ref 3 []), (14, .osl 6 [] 1 0 IMG.length), (15, .osl 7 [] 3 0 ALL.length), (16, .int .i64 (opened : Nat)), (17, .int .i64 i), (24, .int .i64 (used (ALL.take j) (x2).key : Nat)), (25, .int .i64 j)])
          (fun j => lpO ⟨i, D2, T2, t2, F2, x2, next2, IMG, ALL, opened⟩ n b) (fun j => ALL.length - j) 0 [(0, 0), (1, 1), (2, 2), (3, 3), (4, 4), (5, 5), (6, 6), (7, 10)] [] (Nat.zero_le _) rfl ?_ ?_ ?_ (fun j hj => ?_)
        · simp (implicitDefEqProofs := false) (disch := omega) only [go_sem, ↓reduceIte]
        · simp (implicitDefEqProofs := false) (disch := omega) only [go_sem, ↓reduceIte, hu0, hALL, hIMG, hlen, hmap]
        · simp (implicitDefEqProofs := false) (disch := omega) only [go_sem, ↓reduceIte, hALL, hIMG, hlen, hmap]
        simp (implicitDefEqProofs := false) (disch := omega) only [go_sem, ↓reduceIte]
        refine brd (fun g1 => ?_) (fun g1 => ?_)
        · have hj' : j < ALL.length := by omega
          have hge : ∀ K, getP (ALL.map atV) j K = K (.agg [.int .i64 (ALL[j]).1, .int .i64 (ALL[j]).2.1, .str (ALL[j]).2.2]) := fun K => getP_map (f := atV) (List.getElem?_eq_getElem hj') K
          have hsu := used_succ hj' (x2).key
          have hul2 := used_le (ALL.take j) (x2).key
          have htl : (ALL.take j).length ≤ 100 := by rw [List.length_take]; omega
          have hlea : (ALL.map atV).length = ALL.length := List.length_map _
          simp (implicitDefEqProofs := false) (disch := omega) only [go_sem, ↓reduceIte, ↓hge, hlea]
          refine callG false [(0, 0), (1, 1), (2, 2), (3, 3), (4, 4), (5, 5)] [(0, 0), (1, 1), (2, 2), (3, 3), (6, 8), (7, 9)] 10 hkey ?_ ?_
          · simp [keys]
          simp (implicitDefEqProofs := false) (disch := omega) only [go_sem, ↓reduceIte, ↓hge, hlea]
          refine brd (fun g2 => ?_) (fun g2 => ?_)
          · rw [if_pos g2] at hsu
            simp (implicitDefEqProofs := false) (disch := omega) only [go_sem, ↓reduceIte]
            refine ⟨j + 1, [(0, 0), (1, 1), (2, 2), (3, 3), (4, 8), (5, 9), (6, 6), (7, 7)], [], [], by dsimp only; omega, by dsimp only; omega, rfl, ?_, ?_, ?_⟩ <;> simp (implicitDefEqProofs := false) (disch := omega) only [go_sem, ↓reduceIte, hsu]
          · rw [if_neg g2] at hsu
            simp (implicitDefEqProofs := false) (disch := omega) only [go_sem, ↓reduceIte]
            refine ⟨j + 1, [(0, 0), (1, 1), (2, 2), (3, 3), (4, 8), (5, 9), (6, 6), (7, 7)], [], [], by dsimp only; omega, by dsimp only; omega, rfl, ?_, ?_, ?_⟩ <;> simp (implicitDefEqProofs := false) (disch := omega) only [go_sem, ↓reduceIte, hsu, Nat.add_zero]
        · obtain rfl : j = ALL.length := by omega
          rw [List.take_length]
          simp (implicitDefEqProofs := false) (disch := omega) only [go_sem, ↓reduceIte]
          refine callG false [(0, 0), (1, 1), (2, 2), (3, 3), (4, 4), (5, 5)] [(0, 0), (1, 1), (2, 2), (3, 3), (6, 8), (7, 9)] 10 hnext ?_ ?_
          · simp [keys]
          simp (implicitDefEqProofs := false) (disch := omega) only [go_sem, ↓reduceIte, hus]
          refine ⟨⟨i + 1, D2, T2, t2, F2, x2, next2, IMG, ALL, opened⟩, [(0, 0), (1, 1), (2, 2), (3, 3), (4, 8), (5, 9), (6, 6), (7, 7)], [], [], ⟨by dsimp only; omega, hLo, hLa, hLi, _, hLm⟩, by dsimp only; omega, rfl, ?_, ?_, ?_⟩ <;> simp (implicitDefEqProofs := false) (disch := omega) only [go_sem, ↓reduceIte]
    · have hz : True := trivial
      have hcr := crash_spec D2 m1 ks ks.length rfl (by omega)
      have ecr : crashD D2 ks = D2 := by unfold crashD; rw [if_pos m2]
      rw [ecr] at hcr
      have hbo2 := boot_spec D2
      obtain ⟨D5, T5, t5, F5, x5, next5, r5, l5⟩ := reopen hn2 hb2 (by omega) hP
      generalize bootD D2 = D4 at *
      simp (implicitDefEqProofs := false) (disch := omega) only [go_sem, ↓reduceIte]
      refine callG false [(0, 0), (1, 9), (2, 10)] [(0, 0), (3, 11), (4, 12)] 13 hcr ?_ ?_
      · simp [keys]
      simp (implicitDefEqProofs := false) (disch := omega) only [go_sem, ↓reduceIte]
      refine callG false [(0, 0), (1, 11), (2, 12)] [(0, 0), (3, 13), (4, 14)] 15 hbo2 ?_ ?_
      · simp [keys]
      simp (implicitDefEqProofs := false) (disch := omega) only [go_sem, ↓reduceIte]
      refine callG false [(0, 0), (1, 2), (2, 13), (3, 14)] [(0, 0), (1, 2), (6, 15), (7, 16), (4, 17), (5, 18)] 19 r5 ?_ ?_
      · simp [keys]
      simp (implicitDefEqProofs := false) (disch := omega) only [go_sem, ↓reduceIte]
      obtain ⟨op, hop⟩ : ∃ op, op = opened + 1 := ⟨_, rfl⟩
      have hop2 : (opened : Int) + 1 = (op : Int) := by omega
      rw [← hop] at l5
      have hLm := (l5).mono (show _ ≤ 2 * (i + 1) + 1 by omega)
      have hul := used_le all (x5).key
      have hbo : 0 ≤ (b : Int) * ((op : Nat) : Int) ∧ (b : Int) * ((op : Nat) : Int) ≤ 976 := by
        have := Nat.mul_le_mul hb2.2 (show op ≤ 61 by omega)
        have h2 : ((b * op : Nat) : Int) = (b : Int) * ((op : Nat) : Int) := by simp
        omega
      have hus : decide (((used all (x5).key : Nat) : Int) + (b : Int) * ((op : Nat) : Int) < next5) = false := by
        have h1 := hLm.us
        have h2 : ((b * op : Nat) : Int) = (b : Int) * ((op : Nat) : Int) := by simp
        exact decide_eq_false (by omega)
      have hkey := key_spec D5 ⟨T5, t5, false⟩ F5 x5 n b next5 false
      have hnext := next_spec D5 ⟨T5, t5, false⟩ F5 x5 n b next5 false
      have hLa : (all).length ≤ i + 1 := by first | omega | (rw [List.length_append]; simp only [List.length_singleton]; omega)
      have hLi : (imgs).length ≤ i + 1 := by first | omega | (rw [List.length_append]; simp only [List.length_singleton]; omega)
      have hLo : op ≤ i + 1 := by omega
      have hu0 : used [] (x5).key = 0 := rfl
      generalize hALL : all = ALL at *
      generalize hIMG : imgs = IMG at *
      refine loop (ι := Nat) 8 (fun j => j ≤ ALL.length) (fun j => [(2, .sl (.lst 4 nl (l.map ddV))), (7, .int .i64 n), (8, .int .i64 b), (9, .ref 0 []), (11, .ref 2 []), (12, .ref 3 []), (14, .osl 6 [] 1 0 IMG.length), (15, .osl 7 [] 3 0 ALL.length), (16, .int .i64 (op : Nat)), (17, .int .i64 i), (24, .int .i64 (used (ALL.take j) (x5).key : Nat)), (25, .int .i64 j)])
        (fun j => lpO ⟨i, D5, T5, t5, F5, x5, next5, IMG, ALL, op⟩ n b) (fun j => ALL.length - j) 0 [(0, 0), (1, 15), (2, 2), (3, 16), (4, 17), (5, 18), (6, 6), (7, 7)] [] (Nat.zero_le _) rfl ?_ ?_ ?_ (fun j hj => ?_)
      · simp (implicitDefEqProofs := false) (disch := omega) only [go_sem, ↓reduceIte]
      · simp (implicitDefEqProofs := false) (disch := omega) only [go_sem, ↓reduceIte, hu0, hALL, hIMG, hop2]
      · simp (implicitDefEqProofs := false) (disch := omega) only [go_sem, ↓reduceIte, hALL, hIMG, hop2]
      simp (implicitDefEqProofs := false) (disch := omega) only [go_sem, ↓reduceIte]
      refine brd (fun g1 => ?_) (fun g1 => ?_)
      · have hj' : j < ALL.length := by omega
        have hge : ∀ K, getP (ALL.map atV) j K = K (.agg [.int .i64 (ALL[j]).1, .int .i64 (ALL[j]).2.1, .str (ALL[j]).2.2]) := fun K => getP_map (f := atV) (List.getElem?_eq_getElem hj') K
        have hsu := used_succ hj' (x5).key
        have hul2 := used_le (ALL.take j) (x5).key
        have htl : (ALL.take j).length ≤ 100 := by rw [List.length_take]; omega
        have hlea : (ALL.map atV).length = ALL.length := List.length_map _
        simp (implicitDefEqProofs := false) (disch := omega) only [go_sem, ↓reduceIte, ↓hge, hlea]
        refine callG false [(0, 0), (1, 1), (2, 2), (3, 3), (4, 4), (5, 5)] [(0, 0), (1, 1), (2, 2), (3, 3), (6, 8), (7, 9)] 10 hkey ?_ ?_
        · simp [keys]
        simp (implicitDefEqProofs := false) (disch := omega) only [go_sem, ↓reduceIte, ↓hge, hlea]
        refine brd (fun g2 => ?_) (fun g2 => ?_)
        · rw [if_pos g2] at hsu
          simp (implicitDefEqProofs := false) (disch := omega) only [go_sem, ↓reduceIte]
          refine ⟨j + 1, [(0, 0), (1, 1), (2, 2), (3, 3), (4, 8), (5, 9), (6, 6), (7, 7)], [], [], by dsimp only; omega, by dsimp only; omega, rfl, ?_, ?_, ?_⟩ <;> simp (implicitDefEqProofs := false) (disch := omega) only [go_sem, ↓reduceIte, hsu]
        · rw [if_neg g2] at hsu
          simp (implicitDefEqProofs := false) (disch := omega) only [go_sem, ↓reduceIte]
          refine ⟨j + 1, [(0, 0), (1, 1), (2, 2), (3, 3), (4, 8), (5, 9), (6, 6), (7, 7)], [], [], by dsimp only; omega, by dsimp only; omega, rfl, ?_, ?_, ?_⟩ <;> simp (implicitDefEqProofs := false) (disch := omega) only [go_sem, ↓reduceIte, hsu, Nat.add_zero]
      · obtain rfl : j = ALL.length := by omega
        rw [List.take_length]
        simp (implicitDefEqProofs := false) (disch := omega) only [go_sem, ↓reduceIte]
        refine callG false [(0, 0), (1, 1), (2, 2), (3, 3), (4, 4), (5, 5)] [(0, 0), (1, 1), (2, 2), (3, 3), (6, 8), (7, 9)] 10 hnext ?_ ?_
        · simp [keys]
        simp (implicitDefEqProofs := false) (disch := omega) only [go_sem, ↓reduceIte, hus]
        refine ⟨⟨i + 1, D5, T5, t5, F5, x5, next5, IMG, ALL, op⟩, [(0, 0), (1, 1), (2, 2), (3, 3), (4, 8), (5, 9), (6, 6), (7, 7)], [], [], ⟨by dsimp only; omega, hLo, hLa, hLi, _, hLm⟩, by dsimp only; omega, rfl, ?_, ?_, ?_⟩ <;> simp (implicitDefEqProofs := false) (disch := omega) only [go_sem, ↓reduceIte]
  simp (implicitDefEqProofs := false) (disch := omega) only [go_sem, ↓reduceIte]
  refine brd (fun w1 => ?_) (fun w1 => ?_)
  · subst w1
    obtain ⟨a, c, e, D2, S2, F2, x2, next2, gone2, k, M⟩ := roll_mid hn2 hb2 (by omega) q5 m m.length rfl (by omega)
    simp (implicitDefEqProofs := false) (disch := omega) only [go_sem, ↓reduceIte]
    refine callG false [(0, 0), (1, 1), (2, 2), (3, 3), (4, 4), (5, 5)] [(0, 0), (1, 1), (2, 2), (3, 3), (6, 9), (7, 10)] 11 k ?_ ?_
    · simp [keys]
    rcases M with ⟨m1, m2, m3, T2, t2, att2, rfl, hL⟩ | ⟨rfl, m3, T2, t2, att2, rfl, hU, hA, hAl, hG1, hG2⟩ | ⟨rfl, m1, m2, T2, t2, att2, hP⟩
    · have d0 : decide (e = 0) = false := decide_eq_false m1
      have d9 : decide (e = 9) = false := decide_eq_false m2
      subst m3
      simp (implicitDefEqProofs := false) (disch := omega) only [go_sem, ↓reduceIte, d0, d9]
      have hLm := (hL).mono (show _ ≤ 2 * (i + 1) + 1 by omega)
      have hul := used_le all (x2).key
      have hbo : 0 ≤ (b : Int) * ((opened : Nat) : Int) ∧ (b : Int) * ((opened : Nat) : Int) ≤ 976 := by
        have := Nat.mul_le_mul hb2.2 (show opened ≤ 61 by omega)
        have h2 : ((b * opened : Nat) : Int) = (b : Int) * ((opened : Nat) : Int) := by simp
        omega
      have hus : decide (((used all (x2).key : Nat) : Int) + (b : Int) * ((opened : Nat) : Int) < next2) = false := by
        have h1 := hLm.us
        have h2 : ((b * opened : Nat) : Int) = (b : Int) * ((opened : Nat) : Int) := by simp
        exact decide_eq_false (by omega)
      have hkey := key_spec D2 ⟨T2, t2, false⟩ F2 x2 n b next2 false
      have hnext := next_spec D2 ⟨T2, t2, false⟩ F2 x2 n b next2 false
      have hLa : (all).length ≤ i + 1 := by first | omega | (rw [List.length_append]; simp only [List.length_singleton]; omega)
      have hLi : (imgs).length ≤ i + 1 := by first | omega | (rw [List.length_append]; simp only [List.length_singleton]; omega)
      have hLo : opened ≤ i + 1 := by omega
      have hu0 : used [] (x2).key = 0 := rfl
      generalize hALL : all = ALL at *
      generalize hIMG : imgs = IMG at *
      refine loop (ι := Nat) 8 (fun j => j ≤ ALL.length) (fun j => [(2, .sl (.lst 4 nl (l.map ddV))), (7, .int .i64 n), (8, .int .i64 b), (9, .ref 0 []), (11, .ref 2 []), (12, .ref 3 []), (14, .osl 6 [] 1 0 IMG.length), (15, .osl 7 [] 3 0 ALL.length), (16, .int .i64 (opened : Nat)), (17, .int .i64 i), (24, .int .i64 (used (ALL.take j) (x2).key : Nat)), (25, .int .i64 j)])
        (fun j => lpO ⟨i, D2, T2, t2, F2, x2, next2, IMG, ALL, opened⟩ n b) (fun j => ALL.length - j) 0 [(0, 0), (1, 1), (2, 2), (3, 3), (4, 9), (5, 10), (6, 6), (7, 7)] [] (Nat.zero_le _) rfl ?_ ?_ ?_ (fun j hj => ?_)
      · simp (implicitDefEqProofs := false) (disch := omega) only [go_sem, ↓reduceIte]
      · simp (implicitDefEqProofs := false) (disch := omega) only [go_sem, ↓reduceIte, hu0, hALL, hIMG, hu0]
      · simp (implicitDefEqProofs := false) (disch := omega) only [go_sem, ↓reduceIte, hALL, hIMG, hu0]
      simp (implicitDefEqProofs := false) (disch := omega) only [go_sem, ↓reduceIte]
      refine brd (fun g1 => ?_) (fun g1 => ?_)
      · have hj' : j < ALL.length := by omega
        have hge : ∀ K, getP (ALL.map atV) j K = K (.agg [.int .i64 (ALL[j]).1, .int .i64 (ALL[j]).2.1, .str (ALL[j]).2.2]) := fun K => getP_map (f := atV) (List.getElem?_eq_getElem hj') K
        have hsu := used_succ hj' (x2).key
        have hul2 := used_le (ALL.take j) (x2).key
        have htl : (ALL.take j).length ≤ 100 := by rw [List.length_take]; omega
        have hlea : (ALL.map atV).length = ALL.length := List.length_map _
        simp (implicitDefEqProofs := false) (disch := omega) only [go_sem, ↓reduceIte, ↓hge, hlea]
        refine callG false [(0, 0), (1, 1), (2, 2), (3, 3), (4, 4), (5, 5)] [(0, 0), (1, 1), (2, 2), (3, 3), (6, 8), (7, 9)] 10 hkey ?_ ?_
        · simp [keys]
        simp (implicitDefEqProofs := false) (disch := omega) only [go_sem, ↓reduceIte, ↓hge, hlea]
        refine brd (fun g2 => ?_) (fun g2 => ?_)
        · rw [if_pos g2] at hsu
          simp (implicitDefEqProofs := false) (disch := omega) only [go_sem, ↓reduceIte]
          refine ⟨j + 1, [(0, 0), (1, 1), (2, 2), (3, 3), (4, 8), (5, 9), (6, 6), (7, 7)], [], [], by dsimp only; omega, by dsimp only; omega, rfl, ?_, ?_, ?_⟩ <;> simp (implicitDefEqProofs := false) (disch := omega) only [go_sem, ↓reduceIte, hsu]
        · rw [if_neg g2] at hsu
          simp (implicitDefEqProofs := false) (disch := omega) only [go_sem, ↓reduceIte]
          refine ⟨j + 1, [(0, 0), (1, 1), (2, 2), (3, 3), (4, 8), (5, 9), (6, 6), (7, 7)], [], [], by dsimp only; omega, by dsimp only; omega, rfl, ?_, ?_, ?_⟩ <;> simp (implicitDefEqProofs := false) (disch := omega) only [go_sem, ↓reduceIte, hsu, Nat.add_zero]
      · obtain rfl : j = ALL.length := by omega
        rw [List.take_length]
        simp (implicitDefEqProofs := false) (disch := omega) only [go_sem, ↓reduceIte]
        refine callG false [(0, 0), (1, 1), (2, 2), (3, 3), (4, 4), (5, 5)] [(0, 0), (1, 1), (2, 2), (3, 3), (6, 8), (7, 9)] 10 hnext ?_ ?_
        · simp [keys]
        simp (implicitDefEqProofs := false) (disch := omega) only [go_sem, ↓reduceIte, hus]
        refine ⟨⟨i + 1, D2, T2, t2, F2, x2, next2, IMG, ALL, opened⟩, [(0, 0), (1, 1), (2, 2), (3, 3), (4, 8), (5, 9), (6, 6), (7, 7)], [], [], ⟨by dsimp only; omega, hLo, hLa, hLi, _, hLm⟩, by dsimp only; omega, rfl, ?_, ?_, ?_⟩ <;> simp (implicitDefEqProofs := false) (disch := omega) only [go_sem, ↓reduceIte]
    · subst m3
      have hab := hA.p _ hU
      dsimp only at hab
      have da : decide (a < 0) = false := decide_eq_false (by omega)
      have dc : decide (c < 0) = false := decide_eq_false (by omega)
      have dn : decide ((n : Int) ≤ c) = false := decide_eq_false (by omega)
      simp (implicitDefEqProofs := false) (disch := omega) only [go_sem, ↓reduceIte, da, dc, dn]
      refine loop (ι := Nat × Bool) 9 (fun j => j.1 ≤ all.length ∧ (j.2 = true ↔ ∃ g ∈ all.take j.1, g.1 = a ∧ g.2.1 = c)) (fun j => [(2, .sl (.lst 4 nl (l.map ddV))), (7, .int .i64 n), (8, .int .i64 b), (9, .ref 0 []), (11, .ref 2 []), (12, .ref 3 []), (14, .osl 6 [] 1 0 imgs.length), (15, .osl 7 [] 3 0 all.length), (16, .int .i64 opened), (17, .int .i64 i), (18, .ref 8 []), (19, .int .i64 a), (20, .int .i64 c), (21, .int .i64 0), (22, .bool j.2), (23, .int .i64 j.1)])
        (fun j => lpO ⟨i, D2, T2, t2, F2, x2, next2, imgs, all, opened⟩ n b ++ [(8, .var (.agg [.int .i64 1, .sl (.ints .u8 m.length m), .int .i64 N, .sl (.ints .i64 ks.length ks)]))]) (fun j => all.length - j.1) (0, false) [(0, 0), (1, 1), (2, 2), (3, 3), (4, 9), (5, 10), (6, 6), (7, 7), (8, 8)] [] ⟨Nat.zero_le _, ⟨fun h => absurd h Bool.false_ne_true, fun ⟨g, hg, _⟩ => absurd hg List.not_mem_nil⟩⟩ rfl ?_ ?_ ?_ (fun j hj => ?_)
      · simp (implicitDefEqProofs := false) (disch := omega) only [go_sem, ↓reduceIte]
      · simp (implicitDefEqProofs := false) (disch := omega) only [go_sem, ↓reduceIte]
      · simp (implicitDefEqProofs := false) (disch := omega) only [go_sem, ↓reduceIte]
      obtain ⟨j, o⟩ := j
      obtain ⟨hj, ho⟩ := hj
      dsimp only at hj ho ⊢
      simp (implicitDefEqProofs := false) (disch := omega) only [go_sem, ↓reduceIte]
      refine brd (fun g1 => ?_) (fun g1 => ?_)
      · have hj' : j < all.length := by omega
        have hge : ∀ K, getP (all.map atV) j K = K (.agg [.int .i64 (all[j]).1, .int .i64 (all[j]).2.1, .str (all[j]).2.2]) := fun K => getP_map (f := atV) (List.getElem?_eq_getElem hj') K
        have hlea : (all.map atV).length = all.length := List.length_map _
        have hsu := any_succ hj' a c
        have heq : (all[j]).1 = a → (all[j]).2.1 = c → (all[j]).2.2 = toU m := fun h1 h2 => hA.u _ (hAl _ (List.getElem_mem hj')) _ hU h1 h2
        generalize all[j] = g at *
        obtain ⟨ga, gc, gm⟩ := g
        dsimp only at hge hsu heq
        simp (implicitDefEqProofs := false) (disch := omega) only [go_sem, ↓reduceIte, ↓hge, hlea]
        refine brd (fun g2 => ?_) (fun g2 => ?_)
        · simp (implicitDefEqProofs := false) (disch := omega) only [go_sem, ↓reduceIte, ↓hge, hlea]
          refine brd (fun g3 => ?_) (fun g3 => ?_)
          · have hq := heq g2 g3
            have dq : decide (gm = m.map fun x => UInt8.ofNat x.toNat) = true := decide_eq_true hq
            simp (implicitDefEqProofs := false) (disch := omega) only [go_sem, ↓reduceIte, ↓hge, hlea, dq]
            refine ⟨(j + 1, true), [(0, 0), (1, 1), (2, 2), (3, 3), (4, 4), (5, 5), (6, 6), (7, 7), (8, 8)], [], [], ⟨by dsimp only; omega, ⟨fun _ => hsu.2 (.inr ⟨g2, g3⟩), fun _ => rfl⟩⟩, by dsimp only; omega, rfl, ?_, ?_, ?_⟩ <;> simp (implicitDefEqProofs := false) (disch := omega) only [go_sem, ↓reduceIte]
          · simp (implicitDefEqProofs := false) (disch := omega) only [go_sem, ↓reduceIte]
            refine ⟨(j + 1, o), [(0, 0), (1, 1), (2, 2), (3, 3), (4, 4), (5, 5), (6, 6), (7, 7), (8, 8)], [], [], ⟨by dsimp only; omega, ⟨fun h => hsu.2 (.inl (ho.1 h)), fun h => ho.2 ((hsu.1 h).resolve_right (fun e => g3 e.2))⟩⟩, by dsimp only; omega, rfl, ?_, ?_, ?_⟩ <;> simp (implicitDefEqProofs := false) (disch := omega) only [go_sem, ↓reduceIte]
        · simp (implicitDefEqProofs := false) (disch := omega) only [go_sem, ↓reduceIte]
          refine ⟨(j + 1, o), [(0, 0), (1, 1), (2, 2), (3, 3), (4, 4), (5, 5), (6, 6), (7, 7), (8, 8)], [], [], ⟨by dsimp only; omega, ⟨fun h => hsu.2 (.inl (ho.1 h)), fun h => ho.2 ((hsu.1 h).resolve_right (fun e => g2 e.1))⟩⟩, by dsimp only; omega, rfl, ?_, ?_, ?_⟩ <;> simp (implicitDefEqProofs := false) (disch := omega) only [go_sem, ↓reduceIte]
      obtain rfl : j = all.length := by omega
      rw [List.take_length] at ho
      cases o
      case true =>
        have hL := hG1 (ho.1 rfl)
        simp (implicitDefEqProofs := false) (disch := omega) only [go_sem, ↓reduceIte]
        have hLm := (hL).mono (show _ ≤ 2 * (i + 1) + 1 by omega)
        have hul := used_le all (x2).key
        have hbo : 0 ≤ (b : Int) * ((opened : Nat) : Int) ∧ (b : Int) * ((opened : Nat) : Int) ≤ 976 := by
          have := Nat.mul_le_mul hb2.2 (show opened ≤ 61 by omega)
          have h2 : ((b * opened : Nat) : Int) = (b : Int) * ((opened : Nat) : Int) := by simp
          omega
        have hus : decide (((used all (x2).key : Nat) : Int) + (b : Int) * ((opened : Nat) : Int) < next2) = false := by
          have h1 := hLm.us
          have h2 : ((b * opened : Nat) : Int) = (b : Int) * ((opened : Nat) : Int) := by simp
          exact decide_eq_false (by omega)
        have hkey := key_spec D2 ⟨T2, t2, false⟩ F2 x2 n b next2 false
        have hnext := next_spec D2 ⟨T2, t2, false⟩ F2 x2 n b next2 false
        have hLa : (all).length ≤ i + 1 := by first | omega | (rw [List.length_append]; simp only [List.length_singleton]; omega)
        have hLi : (imgs).length ≤ i + 1 := by first | omega | (rw [List.length_append]; simp only [List.length_singleton]; omega)
        have hLo : opened ≤ i + 1 := by omega
        have hu0 : used [] (x2).key = 0 := rfl
        generalize hALL : all = ALL at *
        generalize hIMG : imgs = IMG at *
        refine loop (ι := Nat) 8 (fun j => j ≤ ALL.length) (fun j => [(2, .sl (.lst 4 nl (l.map ddV))), (7, .int .i64 n), (8, .int .i64 b), (9, .ref 0 []), (11, .ref 2 []), (12, .ref 3 []), (14, .osl 6 [] 1 0 IMG.length), (15, .osl 7 [] 3 0 ALL.length), (16, .int .i64 (opened : Nat)), (17, .int .i64 i), (24, .int .i64 (used (ALL.take j) (x2).key : Nat)), (25, .int .i64 j)])
          (fun j => lpO ⟨i, D2, T2, t2, F2, x2, next2, IMG, ALL, opened⟩ n b) (fun j => ALL.length - j) 0 [(0, 0), (1, 1), (2, 2), (3, 3), (4, 4), (5, 5), (6, 6), (7, 7)] [] (Nat.zero_le _) rfl ?_ ?_ ?_ (fun j hj => ?_)
        · simp (implicitDefEqProofs := false) (disch := omega) only [go_sem, ↓reduceIte]
        · simp (implicitDefEqProofs := false) (disch := omega) only [go_sem, ↓reduceIte, hu0, hALL, hIMG, hu0]
        · simp (implicitDefEqProofs := false) (disch := omega) only [go_sem, ↓reduceIte, hALL, hIMG, hu0]
        simp (implicitDefEqProofs := false) (disch := omega) only [go_sem, ↓reduceIte]
        refine brd (fun g1 => ?_) (fun g1 => ?_)
        · have hj' : j < ALL.length := by omega
          have hge : ∀ K, getP (ALL.map atV) j K = K (.agg [.int .i64 (ALL[j]).1, .int .i64 (ALL[j]).2.1, .str (ALL[j]).2.2]) := fun K => getP_map (f := atV) (List.getElem?_eq_getElem hj') K
          have hsu := used_succ hj' (x2).key
          have hul2 := used_le (ALL.take j) (x2).key
          have htl : (ALL.take j).length ≤ 100 := by rw [List.length_take]; omega
          have hlea : (ALL.map atV).length = ALL.length := List.length_map _
          simp (implicitDefEqProofs := false) (disch := omega) only [go_sem, ↓reduceIte, ↓hge, hlea]
          refine callG false [(0, 0), (1, 1), (2, 2), (3, 3), (4, 4), (5, 5)] [(0, 0), (1, 1), (2, 2), (3, 3), (6, 8), (7, 9)] 10 hkey ?_ ?_
          · simp [keys]
          simp (implicitDefEqProofs := false) (disch := omega) only [go_sem, ↓reduceIte, ↓hge, hlea]
          refine brd (fun g2 => ?_) (fun g2 => ?_)
          · rw [if_pos g2] at hsu
            simp (implicitDefEqProofs := false) (disch := omega) only [go_sem, ↓reduceIte]
            refine ⟨j + 1, [(0, 0), (1, 1), (2, 2), (3, 3), (4, 8), (5, 9), (6, 6), (7, 7)], [], [], by dsimp only; omega, by dsimp only; omega, rfl, ?_, ?_, ?_⟩ <;> simp (implicitDefEqProofs := false) (disch := omega) only [go_sem, ↓reduceIte, hsu]
          · rw [if_neg g2] at hsu
            simp (implicitDefEqProofs := false) (disch := omega) only [go_sem, ↓reduceIte]
            refine ⟨j + 1, [(0, 0), (1, 1), (2, 2), (3, 3), (4, 8), (5, 9), (6, 6), (7, 7)], [], [], by dsimp only; omega, by dsimp only; omega, rfl, ?_, ?_, ?_⟩ <;> simp (implicitDefEqProofs := false) (disch := omega) only [go_sem, ↓reduceIte, hsu, Nat.add_zero]
        · obtain rfl : j = ALL.length := by omega
          rw [List.take_length]
          simp (implicitDefEqProofs := false) (disch := omega) only [go_sem, ↓reduceIte]
          refine callG false [(0, 0), (1, 1), (2, 2), (3, 3), (4, 4), (5, 5)] [(0, 0), (1, 1), (2, 2), (3, 3), (6, 8), (7, 9)] 10 hnext ?_ ?_
          · simp [keys]
          simp (implicitDefEqProofs := false) (disch := omega) only [go_sem, ↓reduceIte, hus]
          refine ⟨⟨i + 1, D2, T2, t2, F2, x2, next2, IMG, ALL, opened⟩, [(0, 0), (1, 1), (2, 2), (3, 3), (4, 8), (5, 9), (6, 6), (7, 7)], [], [], ⟨by dsimp only; omega, hLo, hLa, hLi, _, hLm⟩, by dsimp only; omega, rfl, ?_, ?_, ?_⟩ <;> simp (implicitDefEqProofs := false) (disch := omega) only [go_sem, ↓reduceIte]
      case false =>
        have hL := hG2 (fun g hg e => by have := ho.2 ⟨g, hg, e⟩; cases this)
        have hlen : all.length + 1 = (all ++ [(a, c, toU m)]).length := by rw [List.length_append]; rfl
        have hmap : all.map atV ++ [.agg [.int .i64 a, .int .i64 c, .str (m.map fun x => UInt8.ofNat x.toNat)]] = (all ++ [(a, c, toU m)]).map atV := by rw [List.map_append]; rfl
        generalize hal2 : all ++ [(a, c, toU m)] = al2 at *
        simp (implicitDefEqProofs := false) (disch := omega) only [go_sem, ↓reduceIte]
        have hLm := (hL).mono (show _ ≤ 2 * (i + 1) + 1 by omega)
        have hul := used_le al2 (x2).key
        have hbo : 0 ≤ (b : Int) * ((opened : Nat) : Int) ∧ (b : Int) * ((opened : Nat) : Int) ≤ 976 := by
          have := Nat.mul_le_mul hb2.2 (show opened ≤ 61 by omega)
          have h2 : ((b * opened : Nat) : Int) = (b : Int) * ((opened : Nat) : Int) := by simp
          omega
        have hus : decide (((used al2 (x2).key : Nat) : Int) + (b : Int) * ((opened : Nat) : Int) < next2) = false := by
          have h1 := hLm.us
          have h2 : ((b * opened : Nat) : Int) = (b : Int) * ((opened : Nat) : Int) := by simp
          exact decide_eq_false (by omega)
        have hkey := key_spec D2 ⟨T2, t2, false⟩ F2 x2 n b next2 false
        have hnext := next_spec D2 ⟨T2, t2, false⟩ F2 x2 n b next2 false
        have hLa : (al2).length ≤ i + 1 := by first | omega | (rw [List.length_append]; simp only [List.length_singleton]; omega)
        have hLi : (imgs).length ≤ i + 1 := by first | omega | (rw [List.length_append]; simp only [List.length_singleton]; omega)
        have hLo : opened ≤ i + 1 := by omega
        have hu0 : used [] (x2).key = 0 := rfl
        generalize hALL : al2 = ALL at *
        generalize hIMG : imgs = IMG at *
        refine loop (ι := Nat) 8 (fun j => j ≤ ALL.length) (fun j => [(2, .sl (.lst 4 nl (l.map ddV))), (7, .int .i64 n), (8, .int .i64 b), (9, .ref 0 []), (11, .ref 2 []), (12, .ref 3 []), (14, .osl 6 [] 1 0 IMG.length), (15, .osl 7 [] 3 0 ALL.length), (16, .int .i64 (opened : Nat)), (17, .int .i64 i), (24, .int .i64 (used (ALL.take j) (x2).key : Nat)), (25, .int .i64 j)])
          (fun j => lpO ⟨i, D2, T2, t2, F2, x2, next2, IMG, ALL, opened⟩ n b) (fun j => ALL.length - j) 0 [(0, 0), (1, 1), (2, 2), (3, 3), (4, 4), (5, 5), (6, 6), (7, 10)] [] (Nat.zero_le _) rfl ?_ ?_ ?_ (fun j hj => ?_)
        · simp (implicitDefEqProofs := false) (disch := omega) only [go_sem, ↓reduceIte]
        · simp (implicitDefEqProofs := false) (disch := omega) only [go_sem, ↓reduceIte, hu0, hALL, hIMG, hlen, hmap]
        · simp (implicitDefEqProofs := false) (disch := omega) only [go_sem, ↓reduceIte, hALL, hIMG, hlen, hmap]
        simp (implicitDefEqProofs := false) (disch := omega) only [go_sem, ↓reduceIte]
        refine brd (fun g1 => ?_) (fun g1 => ?_)
        · have hj' : j < ALL.length := by omega
          have hge : ∀ K, getP (ALL.map atV) j K = K (.agg [.int .i64 (ALL[j]).1, .int .i64 (ALL[j]).2.1, .str (ALL[j]).2.2]) := fun K => getP_map (f := atV) (List.getElem?_eq_getElem hj') K
          have hsu := used_succ hj' (x2).key
          have hul2 := used_le (ALL.take j) (x2).key
          have htl : (ALL.take j).length ≤ 100 := by rw [List.length_take]; omega
          have hlea : (ALL.map atV).length = ALL.length := List.length_map _
          simp (implicitDefEqProofs := false) (disch := omega) only [go_sem, ↓reduceIte, ↓hge, hlea]
          refine callG false [(0, 0), (1, 1), (2, 2), (3, 3), (4, 4), (5, 5)] [(0, 0), (1, 1), (2, 2), (3, 3), (6, 8), (7, 9)] 10 hkey ?_ ?_
          · simp [keys]
          simp (implicitDefEqProofs := false) (disch := omega) only [go_sem, ↓reduceIte, ↓hge, hlea]
          refine brd (fun g2 => ?_) (fun g2 => ?_)
          · rw [if_pos g2] at hsu
            simp (implicitDefEqProofs := false) (disch := omega) only [go_sem, ↓reduceIte]
            refine ⟨j + 1, [(0, 0), (1, 1), (2, 2), (3, 3), (4, 8), (5, 9), (6, 6), (7, 7)], [], [], by dsimp only; omega, by dsimp only; omega, rfl, ?_, ?_, ?_⟩ <;> simp (implicitDefEqProofs := false) (disch := omega) only [go_sem, ↓reduceIte, hsu]
          · rw [if_neg g2] at hsu
            simp (implicitDefEqProofs := false) (disch := omega) only [go_sem, ↓reduceIte]
            refine ⟨j + 1, [(0, 0), (1, 1), (2, 2), (3, 3), (4, 8), (5, 9), (6, 6), (7, 7)], [], [], by dsimp only; omega, by dsimp only; omega, rfl, ?_, ?_, ?_⟩ <;> simp (implicitDefEqProofs := false) (disch := omega) only [go_sem, ↓reduceIte, hsu, Nat.add_zero]
        · obtain rfl : j = ALL.length := by omega
          rw [List.take_length]
          simp (implicitDefEqProofs := false) (disch := omega) only [go_sem, ↓reduceIte]
          refine callG false [(0, 0), (1, 1), (2, 2), (3, 3), (4, 4), (5, 5)] [(0, 0), (1, 1), (2, 2), (3, 3), (6, 8), (7, 9)] 10 hnext ?_ ?_
          · simp [keys]
          simp (implicitDefEqProofs := false) (disch := omega) only [go_sem, ↓reduceIte, hus]
          refine ⟨⟨i + 1, D2, T2, t2, F2, x2, next2, IMG, ALL, opened⟩, [(0, 0), (1, 1), (2, 2), (3, 3), (4, 8), (5, 9), (6, 6), (7, 7)], [], [], ⟨by dsimp only; omega, hLo, hLa, hLi, _, hLm⟩, by dsimp only; omega, rfl, ?_, ?_, ?_⟩ <;> simp (implicitDefEqProofs := false) (disch := omega) only [go_sem, ↓reduceIte]
    · have hz : True := trivial
      have hcr := crash_spec D2 m1 ks ks.length rfl (by omega)
      have ecr : crashD D2 ks = D2 := by unfold crashD; rw [if_pos m2]
      rw [ecr] at hcr
      have hbo2 := boot_spec D2
      obtain ⟨D5, T5, t5, F5, x5, next5, r5, l5⟩ := reopen hn2 hb2 (by omega) hP
      generalize bootD D2 = D4 at *
      simp (implicitDefEqProofs := false) (disch := omega) only [go_sem, ↓reduceIte]
      refine callG false [(0, 0), (1, 9), (2, 10)] [(0, 0), (3, 11), (4, 12)] 13 hcr ?_ ?_
      · simp [keys]
      simp (implicitDefEqProofs := false) (disch := omega) only [go_sem, ↓reduceIte]
      refine callG false [(0, 0), (1, 11), (2, 12)] [(0, 0), (3, 13), (4, 14)] 15 hbo2 ?_ ?_
      · simp [keys]
      simp (implicitDefEqProofs := false) (disch := omega) only [go_sem, ↓reduceIte]
      refine callG false [(0, 0), (1, 2), (2, 13), (3, 14)] [(0, 0), (1, 2), (6, 15), (7, 16), (4, 17), (5, 18)] 19 r5 ?_ ?_
      · simp [keys]
      simp (implicitDefEqProofs := false) (disch := omega) only [go_sem, ↓reduceIte]
      obtain ⟨op, hop⟩ : ∃ op, op = opened + 1 := ⟨_, rfl⟩
      have hop2 : (opened : Int) + 1 = (op : Int) := by omega
      rw [← hop] at l5
      have hLm := (l5).mono (show _ ≤ 2 * (i + 1) + 1 by omega)
      have hul := used_le all (x5).key
      have hbo : 0 ≤ (b : Int) * ((op : Nat) : Int) ∧ (b : Int) * ((op : Nat) : Int) ≤ 976 := by
        have := Nat.mul_le_mul hb2.2 (show op ≤ 61 by omega)
        have h2 : ((b * op : Nat) : Int) = (b : Int) * ((op : Nat) : Int) := by simp
        omega
      have hus : decide (((used all (x5).key : Nat) : Int) + (b : Int) * ((op : Nat) : Int) < next5) = false := by
        have h1 := hLm.us
        have h2 : ((b * op : Nat) : Int) = (b : Int) * ((op : Nat) : Int) := by simp
        exact decide_eq_false (by omega)
      have hkey := key_spec D5 ⟨T5, t5, false⟩ F5 x5 n b next5 false
      have hnext := next_spec D5 ⟨T5, t5, false⟩ F5 x5 n b next5 false
      have hLa : (all).length ≤ i + 1 := by first | omega | (rw [List.length_append]; simp only [List.length_singleton]; omega)
      have hLi : (imgs).length ≤ i + 1 := by first | omega | (rw [List.length_append]; simp only [List.length_singleton]; omega)
      have hLo : op ≤ i + 1 := by omega
      have hu0 : used [] (x5).key = 0 := rfl
      generalize hALL : all = ALL at *
      generalize hIMG : imgs = IMG at *
      refine loop (ι := Nat) 8 (fun j => j ≤ ALL.length) (fun j => [(2, .sl (.lst 4 nl (l.map ddV))), (7, .int .i64 n), (8, .int .i64 b), (9, .ref 0 []), (11, .ref 2 []), (12, .ref 3 []), (14, .osl 6 [] 1 0 IMG.length), (15, .osl 7 [] 3 0 ALL.length), (16, .int .i64 (op : Nat)), (17, .int .i64 i), (24, .int .i64 (used (ALL.take j) (x5).key : Nat)), (25, .int .i64 j)])
        (fun j => lpO ⟨i, D5, T5, t5, F5, x5, next5, IMG, ALL, op⟩ n b) (fun j => ALL.length - j) 0 [(0, 0), (1, 15), (2, 2), (3, 16), (4, 17), (5, 18), (6, 6), (7, 7)] [] (Nat.zero_le _) rfl ?_ ?_ ?_ (fun j hj => ?_)
      · simp (implicitDefEqProofs := false) (disch := omega) only [go_sem, ↓reduceIte]
      · simp (implicitDefEqProofs := false) (disch := omega) only [go_sem, ↓reduceIte, hu0, hALL, hIMG, hop2]
      · simp (implicitDefEqProofs := false) (disch := omega) only [go_sem, ↓reduceIte, hALL, hIMG, hop2]
      simp (implicitDefEqProofs := false) (disch := omega) only [go_sem, ↓reduceIte]
      refine brd (fun g1 => ?_) (fun g1 => ?_)
      · have hj' : j < ALL.length := by omega
        have hge : ∀ K, getP (ALL.map atV) j K = K (.agg [.int .i64 (ALL[j]).1, .int .i64 (ALL[j]).2.1, .str (ALL[j]).2.2]) := fun K => getP_map (f := atV) (List.getElem?_eq_getElem hj') K
        have hsu := used_succ hj' (x5).key
        have hul2 := used_le (ALL.take j) (x5).key
        have htl : (ALL.take j).length ≤ 100 := by rw [List.length_take]; omega
        have hlea : (ALL.map atV).length = ALL.length := List.length_map _
        simp (implicitDefEqProofs := false) (disch := omega) only [go_sem, ↓reduceIte, ↓hge, hlea]
        refine callG false [(0, 0), (1, 1), (2, 2), (3, 3), (4, 4), (5, 5)] [(0, 0), (1, 1), (2, 2), (3, 3), (6, 8), (7, 9)] 10 hkey ?_ ?_
        · simp [keys]
        simp (implicitDefEqProofs := false) (disch := omega) only [go_sem, ↓reduceIte, ↓hge, hlea]
        refine brd (fun g2 => ?_) (fun g2 => ?_)
        · rw [if_pos g2] at hsu
          simp (implicitDefEqProofs := false) (disch := omega) only [go_sem, ↓reduceIte]
          refine ⟨j + 1, [(0, 0), (1, 1), (2, 2), (3, 3), (4, 8), (5, 9), (6, 6), (7, 7)], [], [], by dsimp only; omega, by dsimp only; omega, rfl, ?_, ?_, ?_⟩ <;> simp (implicitDefEqProofs := false) (disch := omega) only [go_sem, ↓reduceIte, hsu]
        · rw [if_neg g2] at hsu
          simp (implicitDefEqProofs := false) (disch := omega) only [go_sem, ↓reduceIte]
          refine ⟨j + 1, [(0, 0), (1, 1), (2, 2), (3, 3), (4, 8), (5, 9), (6, 6), (7, 7)], [], [], by dsimp only; omega, by dsimp only; omega, rfl, ?_, ?_, ?_⟩ <;> simp (implicitDefEqProofs := false) (disch := omega) only [go_sem, ↓reduceIte, hsu, Nat.add_zero]
      · obtain rfl : j = ALL.length := by omega
        rw [List.take_length]
        simp (implicitDefEqProofs := false) (disch := omega) only [go_sem, ↓reduceIte]
        refine callG false [(0, 0), (1, 1), (2, 2), (3, 3), (4, 4), (5, 5)] [(0, 0), (1, 1), (2, 2), (3, 3), (6, 8), (7, 9)] 10 hnext ?_ ?_
        · simp [keys]
        simp (implicitDefEqProofs := false) (disch := omega) only [go_sem, ↓reduceIte, hus]
        refine ⟨⟨i + 1, D5, T5, t5, F5, x5, next5, IMG, ALL, op⟩, [(0, 0), (1, 1), (2, 2), (3, 3), (4, 8), (5, 9), (6, 6), (7, 7)], [], [], ⟨by dsimp only; omega, hLo, hLa, hLi, _, hLm⟩, by dsimp only; omega, rfl, ?_, ?_, ?_⟩ <;> simp (implicitDefEqProofs := false) (disch := omega) only [go_sem, ↓reduceIte]
  simp (implicitDefEqProofs := false) (disch := omega) only [go_sem, ↓reduceIte]
  refine brd (fun w2 => ?_) (fun w2 => ?_)
  · subst w2
    have hfa := fail_spec D N ks (by omega)
    have hL := li_fail q5 N ks (by omega)
    generalize failD D N ks = D2 at *
    simp (implicitDefEqProofs := false) (disch := omega) only [go_sem, ↓reduceIte]
    refine callG false [(0, 0), (1, 4), (2, 5)] [(0, 0), (3, 9), (4, 10)] 11 hfa ?_ ?_
    · simp [keys]
    simp (implicitDefEqProofs := false) (disch := omega) only [go_sem, ↓reduceIte]
    have hLm := (hL).mono (show _ ≤ 2 * (i + 1) + 1 by omega)
    have hul := used_le all (x).key
    have hbo : 0 ≤ (b : Int) * ((opened : Nat) : Int) ∧ (b : Int) * ((opened : Nat) : Int) ≤ 976 := by
      have := Nat.mul_le_mul hb2.2 (show opened ≤ 61 by omega)
      have h2 : ((b * opened : Nat) : Int) = (b : Int) * ((opened : Nat) : Int) := by simp
      omega
    have hus : decide (((used all (x).key : Nat) : Int) + (b : Int) * ((opened : Nat) : Int) < next) = false := by
      have h1 := hLm.us
      have h2 : ((b * opened : Nat) : Int) = (b : Int) * ((opened : Nat) : Int) := by simp
      exact decide_eq_false (by omega)
    have hkey := key_spec D2 ⟨T, t, false⟩ F x n b next false
    have hnext := next_spec D2 ⟨T, t, false⟩ F x n b next false
    have hLa : (all).length ≤ i + 1 := by first | omega | (rw [List.length_append]; simp only [List.length_singleton]; omega)
    have hLi : (imgs).length ≤ i + 1 := by first | omega | (rw [List.length_append]; simp only [List.length_singleton]; omega)
    have hLo : opened ≤ i + 1 := by omega
    have hu0 : used [] (x).key = 0 := rfl
    generalize hALL : all = ALL at *
    generalize hIMG : imgs = IMG at *
    refine loop (ι := Nat) 8 (fun j => j ≤ ALL.length) (fun j => [(2, .sl (.lst 4 nl (l.map ddV))), (7, .int .i64 n), (8, .int .i64 b), (9, .ref 0 []), (11, .ref 2 []), (12, .ref 3 []), (14, .osl 6 [] 1 0 IMG.length), (15, .osl 7 [] 3 0 ALL.length), (16, .int .i64 (opened : Nat)), (17, .int .i64 i), (24, .int .i64 (used (ALL.take j) (x).key : Nat)), (25, .int .i64 j)])
      (fun j => lpO ⟨i, D2, T, t, F, x, next, IMG, ALL, opened⟩ n b) (fun j => ALL.length - j) 0 [(0, 0), (1, 1), (2, 2), (3, 3), (4, 9), (5, 10), (6, 6), (7, 7)] [] (Nat.zero_le _) rfl ?_ ?_ ?_ (fun j hj => ?_)
    · simp (implicitDefEqProofs := false) (disch := omega) only [go_sem, ↓reduceIte]
    · simp (implicitDefEqProofs := false) (disch := omega) only [go_sem, ↓reduceIte, hu0, hALL, hIMG, hu0]
    · simp (implicitDefEqProofs := false) (disch := omega) only [go_sem, ↓reduceIte, hALL, hIMG, hu0]
    simp (implicitDefEqProofs := false) (disch := omega) only [go_sem, ↓reduceIte]
    refine brd (fun g1 => ?_) (fun g1 => ?_)
    · have hj' : j < ALL.length := by omega
      have hge : ∀ K, getP (ALL.map atV) j K = K (.agg [.int .i64 (ALL[j]).1, .int .i64 (ALL[j]).2.1, .str (ALL[j]).2.2]) := fun K => getP_map (f := atV) (List.getElem?_eq_getElem hj') K
      have hsu := used_succ hj' (x).key
      have hul2 := used_le (ALL.take j) (x).key
      have htl : (ALL.take j).length ≤ 100 := by rw [List.length_take]; omega
      have hlea : (ALL.map atV).length = ALL.length := List.length_map _
      simp (implicitDefEqProofs := false) (disch := omega) only [go_sem, ↓reduceIte, ↓hge, hlea]
      refine callG false [(0, 0), (1, 1), (2, 2), (3, 3), (4, 4), (5, 5)] [(0, 0), (1, 1), (2, 2), (3, 3), (6, 8), (7, 9)] 10 hkey ?_ ?_
      · simp [keys]
      simp (implicitDefEqProofs := false) (disch := omega) only [go_sem, ↓reduceIte, ↓hge, hlea]
      refine brd (fun g2 => ?_) (fun g2 => ?_)
      · rw [if_pos g2] at hsu
        simp (implicitDefEqProofs := false) (disch := omega) only [go_sem, ↓reduceIte]
        refine ⟨j + 1, [(0, 0), (1, 1), (2, 2), (3, 3), (4, 8), (5, 9), (6, 6), (7, 7)], [], [], by dsimp only; omega, by dsimp only; omega, rfl, ?_, ?_, ?_⟩ <;> simp (implicitDefEqProofs := false) (disch := omega) only [go_sem, ↓reduceIte, hsu]
      · rw [if_neg g2] at hsu
        simp (implicitDefEqProofs := false) (disch := omega) only [go_sem, ↓reduceIte]
        refine ⟨j + 1, [(0, 0), (1, 1), (2, 2), (3, 3), (4, 8), (5, 9), (6, 6), (7, 7)], [], [], by dsimp only; omega, by dsimp only; omega, rfl, ?_, ?_, ?_⟩ <;> simp (implicitDefEqProofs := false) (disch := omega) only [go_sem, ↓reduceIte, hsu, Nat.add_zero]
    · obtain rfl : j = ALL.length := by omega
      rw [List.take_length]
      simp (implicitDefEqProofs := false) (disch := omega) only [go_sem, ↓reduceIte]
      refine callG false [(0, 0), (1, 1), (2, 2), (3, 3), (4, 4), (5, 5)] [(0, 0), (1, 1), (2, 2), (3, 3), (6, 8), (7, 9)] 10 hnext ?_ ?_
      · simp [keys]
      simp (implicitDefEqProofs := false) (disch := omega) only [go_sem, ↓reduceIte, hus]
      refine ⟨⟨i + 1, D2, T, t, F, x, next, IMG, ALL, opened⟩, [(0, 0), (1, 1), (2, 2), (3, 3), (4, 8), (5, 9), (6, 6), (7, 7)], [], [], ⟨by dsimp only; omega, hLo, hLa, hLi, _, hLm⟩, by dsimp only; omega, rfl, ?_, ?_, ?_⟩ <;> simp (implicitDefEqProofs := false) (disch := omega) only [go_sem, ↓reduceIte]
  simp (implicitDefEqProofs := false) (disch := omega) only [go_sem, ↓reduceIte]
  refine brd (fun w4 => ?_) (fun w4 => ?_)
  · subst w4
    have him := image_spec D q5.inv.d
    dsimp only [dskO, List.cons_append, List.nil_append] at him
    have hL := li_image q5
    have hlen : imgs.length + 1 = (imgs ++ [toU D.b]).length := by rw [List.length_append]; rfl
    have hmap : imgs.map imV ++ [.str (D.b.map fun x => UInt8.ofNat x.toNat)] = (imgs ++ [toU D.b]).map imV := by rw [List.map_append]; rfl
    generalize hal2 : imgs ++ [toU D.b] = im2 at *
    simp (implicitDefEqProofs := false) (disch := omega) only [go_sem, ↓reduceIte]
    refine callG false [(0, 0), (1, 4), (2, 5)] [(0, 0), (3, 9), (4, 10), (5, 11)] 12 him ?_ ?_
    · simp [keys]
    simp (implicitDefEqProofs := false) (disch := omega) only [go_sem, ↓reduceIte]
    have hLm := (hL).mono (show _ ≤ 2 * (i + 1) + 1 by omega)
    have hul := used_le all (x).key
    have hbo : 0 ≤ (b : Int) * ((opened : Nat) : Int) ∧ (b : Int) * ((opened : Nat) : Int) ≤ 976 := by
      have := Nat.mul_le_mul hb2.2 (show opened ≤ 61 by omega)
      have h2 : ((b * opened : Nat) : Int) = (b : Int) * ((opened : Nat) : Int) := by simp
      omega
    have hus : decide (((used all (x).key : Nat) : Int) + (b : Int) * ((opened : Nat) : Int) < next) = false := by
      have h1 := hLm.us
      have h2 : ((b * opened : Nat) : Int) = (b : Int) * ((opened : Nat) : Int) := by simp
      exact decide_eq_false (by omega)
    have hkey := key_spec D ⟨T, t, false⟩ F x n b next false
    have hnext := next_spec D ⟨T, t, false⟩ F x n b next false
    have hLa : (all).length ≤ i + 1 := by first | omega | (rw [List.length_append]; simp only [List.length_singleton]; omega)
    have hLi : (im2).length ≤ i + 1 := by first | omega | (rw [List.length_append]; simp only [List.length_singleton]; omega)
    have hLo : opened ≤ i + 1 := by omega
    have hu0 : used [] (x).key = 0 := rfl
    generalize hALL : all = ALL at *
    generalize hIMG : im2 = IMG at *
    refine loop (ι := Nat) 8 (fun j => j ≤ ALL.length) (fun j => [(2, .sl (.lst 4 nl (l.map ddV))), (7, .int .i64 n), (8, .int .i64 b), (9, .ref 0 []), (11, .ref 2 []), (12, .ref 3 []), (14, .osl 6 [] 1 0 IMG.length), (15, .osl 7 [] 3 0 ALL.length), (16, .int .i64 (opened : Nat)), (17, .int .i64 i), (24, .int .i64 (used (ALL.take j) (x).key : Nat)), (25, .int .i64 j)])
      (fun j => lpO ⟨i, D, T, t, F, x, next, IMG, ALL, opened⟩ n b) (fun j => ALL.length - j) 0 [(0, 0), (1, 1), (2, 2), (3, 3), (4, 9), (5, 10), (6, 13), (7, 7)] [] (Nat.zero_le _) rfl ?_ ?_ ?_ (fun j hj => ?_)
    · simp (implicitDefEqProofs := false) (disch := omega) only [go_sem, ↓reduceIte]
    · simp (implicitDefEqProofs := false) (disch := omega) only [go_sem, ↓reduceIte, hu0, hALL, hIMG, hlen, hmap]
    · simp (implicitDefEqProofs := false) (disch := omega) only [go_sem, ↓reduceIte, hALL, hIMG, hlen, hmap]
    simp (implicitDefEqProofs := false) (disch := omega) only [go_sem, ↓reduceIte]
    refine brd (fun g1 => ?_) (fun g1 => ?_)
    · have hj' : j < ALL.length := by omega
      have hge : ∀ K, getP (ALL.map atV) j K = K (.agg [.int .i64 (ALL[j]).1, .int .i64 (ALL[j]).2.1, .str (ALL[j]).2.2]) := fun K => getP_map (f := atV) (List.getElem?_eq_getElem hj') K
      have hsu := used_succ hj' (x).key
      have hul2 := used_le (ALL.take j) (x).key
      have htl : (ALL.take j).length ≤ 100 := by rw [List.length_take]; omega
      have hlea : (ALL.map atV).length = ALL.length := List.length_map _
      simp (implicitDefEqProofs := false) (disch := omega) only [go_sem, ↓reduceIte, ↓hge, hlea]
      refine callG false [(0, 0), (1, 1), (2, 2), (3, 3), (4, 4), (5, 5)] [(0, 0), (1, 1), (2, 2), (3, 3), (6, 8), (7, 9)] 10 hkey ?_ ?_
      · simp [keys]
      simp (implicitDefEqProofs := false) (disch := omega) only [go_sem, ↓reduceIte, ↓hge, hlea]
      refine brd (fun g2 => ?_) (fun g2 => ?_)
      · rw [if_pos g2] at hsu
        simp (implicitDefEqProofs := false) (disch := omega) only [go_sem, ↓reduceIte]
        refine ⟨j + 1, [(0, 0), (1, 1), (2, 2), (3, 3), (4, 8), (5, 9), (6, 6), (7, 7)], [], [], by dsimp only; omega, by dsimp only; omega, rfl, ?_, ?_, ?_⟩ <;> simp (implicitDefEqProofs := false) (disch := omega) only [go_sem, ↓reduceIte, hsu]
      · rw [if_neg g2] at hsu
        simp (implicitDefEqProofs := false) (disch := omega) only [go_sem, ↓reduceIte]
        refine ⟨j + 1, [(0, 0), (1, 1), (2, 2), (3, 3), (4, 8), (5, 9), (6, 6), (7, 7)], [], [], by dsimp only; omega, by dsimp only; omega, rfl, ?_, ?_, ?_⟩ <;> simp (implicitDefEqProofs := false) (disch := omega) only [go_sem, ↓reduceIte, hsu, Nat.add_zero]
    · obtain rfl : j = ALL.length := by omega
      rw [List.take_length]
      simp (implicitDefEqProofs := false) (disch := omega) only [go_sem, ↓reduceIte]
      refine callG false [(0, 0), (1, 1), (2, 2), (3, 3), (4, 4), (5, 5)] [(0, 0), (1, 1), (2, 2), (3, 3), (6, 8), (7, 9)] 10 hnext ?_ ?_
      · simp [keys]
      simp (implicitDefEqProofs := false) (disch := omega) only [go_sem, ↓reduceIte, hus]
      refine ⟨⟨i + 1, D, T, t, F, x, next, IMG, ALL, opened⟩, [(0, 0), (1, 1), (2, 2), (3, 3), (4, 8), (5, 9), (6, 6), (7, 7)], [], [], ⟨by dsimp only; omega, hLo, hLa, hLi, _, hLm⟩, by dsimp only; omega, rfl, ?_, ?_, ?_⟩ <;> simp (implicitDefEqProofs := false) (disch := omega) only [go_sem, ↓reduceIte]
  simp (implicitDefEqProofs := false) (disch := omega) only [go_sem, ↓reduceIte]
  have hcr := crash_spec D q5.inv.d ks ks.length rfl (by omega)
  refine brd (fun w3 => ?_) (fun w3 => ?_)
  · have hP := pre_boot q5 ks
    have hbo2 := boot_spec (crashD D ks)
    obtain ⟨D5, T5, t5, F5, x5, next5, r5, l5⟩ := reopen hn2 hb2 (by omega) hP
    have d5 : decide (w = 5) = false := decide_eq_false (by omega)
    generalize bootD (crashD D ks) = D4 at *
    generalize crashD D ks = D3 at *
    simp (implicitDefEqProofs := false) (disch := omega) only [go_sem, ↓reduceIte]
    refine callG false [(0, 0), (1, 4), (2, 5)] [(0, 0), (3, 9), (4, 10)] 11 hcr ?_ ?_
    · simp [keys]
    simp (implicitDefEqProofs := false) (disch := omega) only [go_sem, ↓reduceIte, d5]
    refine callG false [(0, 0), (1, 9), (2, 10)] [(0, 0), (3, 11), (4, 12)] 13 hbo2 ?_ ?_
    · simp [keys]
    simp (implicitDefEqProofs := false) (disch := omega) only [go_sem, ↓reduceIte]
    refine callG false [(0, 0), (1, 2), (2, 11), (3, 12)] [(0, 0), (1, 2), (6, 13), (7, 14), (4, 15), (5, 16)] 17 r5 ?_ ?_
    · simp [keys]
    simp (implicitDefEqProofs := false) (disch := omega) only [go_sem, ↓reduceIte]
    obtain ⟨op, hop⟩ : ∃ op, op = opened + 1 := ⟨_, rfl⟩
    have hop2 : (opened : Int) + 1 = (op : Int) := by omega
    rw [← hop] at l5
    have hLm := (l5).mono (show _ ≤ 2 * (i + 1) + 1 by omega)
    have hul := used_le all (x5).key
    have hbo : 0 ≤ (b : Int) * ((op : Nat) : Int) ∧ (b : Int) * ((op : Nat) : Int) ≤ 976 := by
      have := Nat.mul_le_mul hb2.2 (show op ≤ 61 by omega)
      have h2 : ((b * op : Nat) : Int) = (b : Int) * ((op : Nat) : Int) := by simp
      omega
    have hus : decide (((used all (x5).key : Nat) : Int) + (b : Int) * ((op : Nat) : Int) < next5) = false := by
      have h1 := hLm.us
      have h2 : ((b * op : Nat) : Int) = (b : Int) * ((op : Nat) : Int) := by simp
      exact decide_eq_false (by omega)
    have hkey := key_spec D5 ⟨T5, t5, false⟩ F5 x5 n b next5 false
    have hnext := next_spec D5 ⟨T5, t5, false⟩ F5 x5 n b next5 false
    have hLa : (all).length ≤ i + 1 := by first | omega | (rw [List.length_append]; simp only [List.length_singleton]; omega)
    have hLi : (imgs).length ≤ i + 1 := by first | omega | (rw [List.length_append]; simp only [List.length_singleton]; omega)
    have hLo : op ≤ i + 1 := by omega
    have hu0 : used [] (x5).key = 0 := rfl
    generalize hALL : all = ALL at *
    generalize hIMG : imgs = IMG at *
    refine loop (ι := Nat) 8 (fun j => j ≤ ALL.length) (fun j => [(2, .sl (.lst 4 nl (l.map ddV))), (7, .int .i64 n), (8, .int .i64 b), (9, .ref 0 []), (11, .ref 2 []), (12, .ref 3 []), (14, .osl 6 [] 1 0 IMG.length), (15, .osl 7 [] 3 0 ALL.length), (16, .int .i64 (op : Nat)), (17, .int .i64 i), (24, .int .i64 (used (ALL.take j) (x5).key : Nat)), (25, .int .i64 j)])
      (fun j => lpO ⟨i, D5, T5, t5, F5, x5, next5, IMG, ALL, op⟩ n b) (fun j => ALL.length - j) 0 [(0, 0), (1, 13), (2, 2), (3, 14), (4, 15), (5, 16), (6, 6), (7, 7)] [] (Nat.zero_le _) rfl ?_ ?_ ?_ (fun j hj => ?_)
    · simp (implicitDefEqProofs := false) (disch := omega) only [go_sem, ↓reduceIte]
    · simp (implicitDefEqProofs := false) (disch := omega) only [go_sem, ↓reduceIte, hu0, hALL, hIMG, hop2]
    · simp (implicitDefEqProofs := false) (disch := omega) only [go_sem, ↓reduceIte, hALL, hIMG, hop2]
    simp (implicitDefEqProofs := false) (disch := omega) only [go_sem, ↓reduceIte]
    refine brd (fun g1 => ?_) (fun g1 => ?_)
    · have hj' : j < ALL.length := by omega
      have hge : ∀ K, getP (ALL.map atV) j K = K (.agg [.int .i64 (ALL[j]).1, .int .i64 (ALL[j]).2.1, .str (ALL[j]).2.2]) := fun K => getP_map (f := atV) (List.getElem?_eq_getElem hj') K
      have hsu := used_succ hj' (x5).key
      have hul2 := used_le (ALL.take j) (x5).key
      have htl : (ALL.take j).length ≤ 100 := by rw [List.length_take]; omega
      have hlea : (ALL.map atV).length = ALL.length := List.length_map _
      simp (implicitDefEqProofs := false) (disch := omega) only [go_sem, ↓reduceIte, ↓hge, hlea]
      refine callG false [(0, 0), (1, 1), (2, 2), (3, 3), (4, 4), (5, 5)] [(0, 0), (1, 1), (2, 2), (3, 3), (6, 8), (7, 9)] 10 hkey ?_ ?_
      · simp [keys]
      simp (implicitDefEqProofs := false) (disch := omega) only [go_sem, ↓reduceIte, ↓hge, hlea]
      refine brd (fun g2 => ?_) (fun g2 => ?_)
      · rw [if_pos g2] at hsu
        simp (implicitDefEqProofs := false) (disch := omega) only [go_sem, ↓reduceIte]
        refine ⟨j + 1, [(0, 0), (1, 1), (2, 2), (3, 3), (4, 8), (5, 9), (6, 6), (7, 7)], [], [], by dsimp only; omega, by dsimp only; omega, rfl, ?_, ?_, ?_⟩ <;> simp (implicitDefEqProofs := false) (disch := omega) only [go_sem, ↓reduceIte, hsu]
      · rw [if_neg g2] at hsu
        simp (implicitDefEqProofs := false) (disch := omega) only [go_sem, ↓reduceIte]
        refine ⟨j + 1, [(0, 0), (1, 1), (2, 2), (3, 3), (4, 8), (5, 9), (6, 6), (7, 7)], [], [], by dsimp only; omega, by dsimp only; omega, rfl, ?_, ?_, ?_⟩ <;> simp (implicitDefEqProofs := false) (disch := omega) only [go_sem, ↓reduceIte, hsu, Nat.add_zero]
    · obtain rfl : j = ALL.length := by omega
      rw [List.take_length]
      simp (implicitDefEqProofs := false) (disch := omega) only [go_sem, ↓reduceIte]
      refine callG false [(0, 0), (1, 1), (2, 2), (3, 3), (4, 4), (5, 5)] [(0, 0), (1, 1), (2, 2), (3, 3), (6, 8), (7, 9)] 10 hnext ?_ ?_
      · simp [keys]
      simp (implicitDefEqProofs := false) (disch := omega) only [go_sem, ↓reduceIte, hus]
      refine ⟨⟨i + 1, D5, T5, t5, F5, x5, next5, IMG, ALL, op⟩, [(0, 0), (1, 1), (2, 2), (3, 3), (4, 8), (5, 9), (6, 6), (7, 7)], [], [], ⟨by dsimp only; omega, hLo, hLa, hLi, _, hLm⟩, by dsimp only; omega, rfl, ?_, ?_, ?_⟩ <;> simp (implicitDefEqProofs := false) (disch := omega) only [go_sem, ↓reduceIte]
  simp (implicitDefEqProofs := false) (disch := omega) only [go_sem, ↓reduceIte]
  refine brd (fun w5 => ?_) (fun w5 => ?_)
  case' refine_2 =>
    simp (implicitDefEqProofs := false) (disch := omega) only [go_sem, ↓reduceIte]
    have hLm := (q5).mono (show _ ≤ 2 * (i + 1) + 1 by omega)
    have hul := used_le all (x).key
    have hbo : 0 ≤ (b : Int) * ((opened : Nat) : Int) ∧ (b : Int) * ((opened : Nat) : Int) ≤ 976 := by
      have := Nat.mul_le_mul hb2.2 (show opened ≤ 61 by omega)
      have h2 : ((b * opened : Nat) : Int) = (b : Int) * ((opened : Nat) : Int) := by simp
      omega
    have hus : decide (((used all (x).key : Nat) : Int) + (b : Int) * ((opened : Nat) : Int) < next) = false := by
      have h1 := hLm.us
      have h2 : ((b * opened : Nat) : Int) = (b : Int) * ((opened : Nat) : Int) := by simp
      exact decide_eq_false (by omega)
    have hkey := key_spec D ⟨T, t, false⟩ F x n b next false
    have hnext := next_spec D ⟨T, t, false⟩ F x n b next false
    have hLa : (all).length ≤ i + 1 := by first | omega | (rw [List.length_append]; simp only [List.length_singleton]; omega)
    have hLi : (imgs).length ≤ i + 1 := by first | omega | (rw [List.length_append]; simp only [List.length_singleton]; omega)
    have hLo : opened ≤ i + 1 := by omega
    have hu0 : used [] (x).key = 0 := rfl
    generalize hALL : all = ALL at *
    generalize hIMG : imgs = IMG at *
    refine loop (ι := Nat) 8 (fun j => j ≤ ALL.length) (fun j => [(2, .sl (.lst 4 nl (l.map ddV))), (7, .int .i64 n), (8, .int .i64 b), (9, .ref 0 []), (11, .ref 2 []), (12, .ref 3 []), (14, .osl 6 [] 1 0 IMG.length), (15, .osl 7 [] 3 0 ALL.length), (16, .int .i64 (opened : Nat)), (17, .int .i64 i), (24, .int .i64 (used (ALL.take j) (x).key : Nat)), (25, .int .i64 j)])
      (fun j => lpO ⟨i, D, T, t, F, x, next, IMG, ALL, opened⟩ n b) (fun j => ALL.length - j) 0 [(0, 0), (1, 1), (2, 2), (3, 3), (4, 4), (5, 5), (6, 6), (7, 7)] [] (Nat.zero_le _) rfl ?_ ?_ ?_ (fun j hj => ?_)
    · simp (implicitDefEqProofs := false) (disch := omega) only [go_sem, ↓reduceIte]
    · simp (implicitDefEqProofs := false) (disch := omega) only [go_sem, ↓reduceIte, hu0, hALL, hIMG, hu0]
    · simp (implicitDefEqProofs := false) (disch := omega) only [go_sem, ↓reduceIte, hALL, hIMG, hu0]
    simp (implicitDefEqProofs := false) (disch := omega) only [go_sem, ↓reduceIte]
    refine brd (fun g1 => ?_) (fun g1 => ?_)
    · have hj' : j < ALL.length := by omega
      have hge : ∀ K, getP (ALL.map atV) j K = K (.agg [.int .i64 (ALL[j]).1, .int .i64 (ALL[j]).2.1, .str (ALL[j]).2.2]) := fun K => getP_map (f := atV) (List.getElem?_eq_getElem hj') K
      have hsu := used_succ hj' (x).key
      have hul2 := used_le (ALL.take j) (x).key
      have htl : (ALL.take j).length ≤ 100 := by rw [List.length_take]; omega
      have hlea : (ALL.map atV).length = ALL.length := List.length_map _
      simp (implicitDefEqProofs := false) (disch := omega) only [go_sem, ↓reduceIte, ↓hge, hlea]
      refine callG false [(0, 0), (1, 1), (2, 2), (3, 3), (4, 4), (5, 5)] [(0, 0), (1, 1), (2, 2), (3, 3), (6, 8), (7, 9)] 10 hkey ?_ ?_
      · simp [keys]
      simp (implicitDefEqProofs := false) (disch := omega) only [go_sem, ↓reduceIte, ↓hge, hlea]
      refine brd (fun g2 => ?_) (fun g2 => ?_)
      · rw [if_pos g2] at hsu
        simp (implicitDefEqProofs := false) (disch := omega) only [go_sem, ↓reduceIte]
        refine ⟨j + 1, [(0, 0), (1, 1), (2, 2), (3, 3), (4, 8), (5, 9), (6, 6), (7, 7)], [], [], by dsimp only; omega, by dsimp only; omega, rfl, ?_, ?_, ?_⟩ <;> simp (implicitDefEqProofs := false) (disch := omega) only [go_sem, ↓reduceIte, hsu]
      · rw [if_neg g2] at hsu
        simp (implicitDefEqProofs := false) (disch := omega) only [go_sem, ↓reduceIte]
        refine ⟨j + 1, [(0, 0), (1, 1), (2, 2), (3, 3), (4, 8), (5, 9), (6, 6), (7, 7)], [], [], by dsimp only; omega, by dsimp only; omega, rfl, ?_, ?_, ?_⟩ <;> simp (implicitDefEqProofs := false) (disch := omega) only [go_sem, ↓reduceIte, hsu, Nat.add_zero]
    · obtain rfl : j = ALL.length := by omega
      rw [List.take_length]
      simp (implicitDefEqProofs := false) (disch := omega) only [go_sem, ↓reduceIte]
      refine callG false [(0, 0), (1, 1), (2, 2), (3, 3), (4, 4), (5, 5)] [(0, 0), (1, 1), (2, 2), (3, 3), (6, 8), (7, 9)] 10 hnext ?_ ?_
      · simp [keys]
      simp (implicitDefEqProofs := false) (disch := omega) only [go_sem, ↓reduceIte, hus]
      refine ⟨⟨i + 1, D, T, t, F, x, next, IMG, ALL, opened⟩, [(0, 0), (1, 1), (2, 2), (3, 3), (4, 8), (5, 9), (6, 6), (7, 7)], [], [], ⟨by dsimp only; omega, hLo, hLa, hLi, _, hLm⟩, by dsimp only; omega, rfl, ?_, ?_, ?_⟩ <;> simp (implicitDefEqProofs := false) (disch := omega) only [go_sem, ↓reduceIte]
  subst w5
  have hd3 := crashD_ok q5.inv.d ks
  have hbl : (crashD D ks).b.length = 800 := (inv_boot q5.inv ks).c.bl
  have hP := pre_boot q5 ks
  have hR := fun (s : List UInt8) (hs : s ∈ imgs) => pre_rest q5 ks hs
  have hbo2 := boot_spec (crashD D ks)
  generalize crashD D ks = D3 at *
  simp (implicitDefEqProofs := false) (disch := omega) only [go_sem, ↓reduceIte]
  refine callG false [(0, 0), (1, 4), (2, 5)] [(0, 0), (3, 9), (4, 10)] 11 hcr ?_ ?_
  · simp [keys]
  simp (implicitDefEqProofs := false) (disch := omega) only [go_sem, ↓reduceIte]
  refine brd (fun n0 => ?_) (fun n0 => ?_)
  case' refine_2 =>
    obtain ⟨D5, T5, t5, F5, x5, next5, r5, l5⟩ := reopen hn2 hb2 (by omega) hP
    generalize bootD D3 = D4 at *
    simp (implicitDefEqProofs := false) (disch := omega) only [go_sem, ↓reduceIte]
    refine callG false [(0, 0), (1, 9), (2, 10)] [(0, 0), (3, 11), (4, 12)] 13 hbo2 ?_ ?_
    · simp [keys]
    simp (implicitDefEqProofs := false) (disch := omega) only [go_sem, ↓reduceIte]
    refine callG false [(0, 0), (1, 2), (2, 11), (3, 12)] [(0, 0), (1, 2), (6, 13), (7, 14), (4, 15), (5, 16)] 17 r5 ?_ ?_
    · simp [keys]
    simp (implicitDefEqProofs := false) (disch := omega) only [go_sem, ↓reduceIte]
    obtain ⟨op, hop⟩ : ∃ op, op = opened + 1 := ⟨_, rfl⟩
    have hop2 : (opened : Int) + 1 = (op : Int) := by omega
    rw [← hop] at l5
    have hLm := (l5).mono (show _ ≤ 2 * (i + 1) + 1 by omega)
    have hul := used_le all (x5).key
    have hbo : 0 ≤ (b : Int) * ((op : Nat) : Int) ∧ (b : Int) * ((op : Nat) : Int) ≤ 976 := by
      have := Nat.mul_le_mul hb2.2 (show op ≤ 61 by omega)
      have h2 : ((b * op : Nat) : Int) = (b : Int) * ((op : Nat) : Int) := by simp
      omega
    have hus : decide (((used all (x5).key : Nat) : Int) + (b : Int) * ((op : Nat) : Int) < next5) = false := by
      have h1 := hLm.us
      have h2 : ((b * op : Nat) : Int) = (b : Int) * ((op : Nat) : Int) := by simp
      exact decide_eq_false (by omega)
    have hkey := key_spec D5 ⟨T5, t5, false⟩ F5 x5 n b next5 false
    have hnext := next_spec D5 ⟨T5, t5, false⟩ F5 x5 n b next5 false
    have hLa : (all).length ≤ i + 1 := by first | omega | (rw [List.length_append]; simp only [List.length_singleton]; omega)
    have hLi : (imgs).length ≤ i + 1 := by first | omega | (rw [List.length_append]; simp only [List.length_singleton]; omega)
    have hLo : op ≤ i + 1 := by omega
    have hu0 : used [] (x5).key = 0 := rfl
    generalize hALL : all = ALL at *
    generalize hIMG : imgs = IMG at *
    refine loop (ι := Nat) 8 (fun j => j ≤ ALL.length) (fun j => [(2, .sl (.lst 4 nl (l.map ddV))), (7, .int .i64 n), (8, .int .i64 b), (9, .ref 0 []), (11, .ref 2 []), (12, .ref 3 []), (14, .osl 6 [] 1 0 IMG.length), (15, .osl 7 [] 3 0 ALL.length), (16, .int .i64 (op : Nat)), (17, .int .i64 i), (24, .int .i64 (used (ALL.take j) (x5).key : Nat)), (25, .int .i64 j)])
      (fun j => lpO ⟨i, D5, T5, t5, F5, x5, next5, IMG, ALL, op⟩ n b) (fun j => ALL.length - j) 0 [(0, 0), (1, 13), (2, 2), (3, 14), (4, 15), (5, 16), (6, 6), (7, 7)] [] (Nat.zero_le _) rfl ?_ ?_ ?_ (fun j hj => ?_)
    · simp (implicitDefEqProofs := false) (disch := omega) only [go_sem, ↓reduceIte]
    · simp (implicitDefEqProofs := false) (disch := omega) only [go_sem, ↓reduceIte, hu0, hALL, hIMG, hop2]
    · simp (implicitDefEqProofs := false) (disch := omega) only [go_sem, ↓reduceIte, hALL, hIMG, hop2]
    simp (implicitDefEqProofs := false) (disch := omega) only [go_sem, ↓reduceIte]
    refine brd (fun g1 => ?_) (fun g1 => ?_)
    · have hj' : j < ALL.length := by omega
      have hge : ∀ K, getP (ALL.map atV) j K = K (.agg [.int .i64 (ALL[j]).1, .int .i64 (ALL[j]).2.1, .str (ALL[j]).2.2]) := fun K => getP_map (f := atV) (List.getElem?_eq_getElem hj') K
      have hsu := used_succ hj' (x5).key
      have hul2 := used_le (ALL.take j) (x5).key
      have htl : (ALL.take j).length ≤ 100 := by rw [List.length_take]; omega
      have hlea : (ALL.map atV).length = ALL.length := List.length_map _
      simp (implicitDefEqProofs := false) (disch := omega) only [go_sem, ↓reduceIte, ↓hge, hlea]
      refine callG false [(0, 0), (1, 1), (2, 2), (3, 3), (4, 4), (5, 5)] [(0, 0), (1, 1), (2, 2), (3, 3), (6, 8), (7, 9)] 10 hkey ?_ ?_
      · simp [keys]
      simp (implicitDefEqProofs := false) (disch := omega) only [go_sem, ↓reduceIte, ↓hge, hlea]
      refine brd (fun g2 => ?_) (fun g2 => ?_)
      · rw [if_pos g2] at hsu
        simp (implicitDefEqProofs := false) (disch := omega) only [go_sem, ↓reduceIte]
        refine ⟨j + 1, [(0, 0), (1, 1), (2, 2), (3, 3), (4, 8), (5, 9), (6, 6), (7, 7)], [], [], by dsimp only; omega, by dsimp only; omega, rfl, ?_, ?_, ?_⟩ <;> simp (implicitDefEqProofs := false) (disch := omega) only [go_sem, ↓reduceIte, hsu]
      · rw [if_neg g2] at hsu
        simp (implicitDefEqProofs := false) (disch := omega) only [go_sem, ↓reduceIte]
        refine ⟨j + 1, [(0, 0), (1, 1), (2, 2), (3, 3), (4, 8), (5, 9), (6, 6), (7, 7)], [], [], by dsimp only; omega, by dsimp only; omega, rfl, ?_, ?_, ?_⟩ <;> simp (implicitDefEqProofs := false) (disch := omega) only [go_sem, ↓reduceIte, hsu, Nat.add_zero]
    · obtain rfl : j = ALL.length := by omega
      rw [List.take_length]
      simp (implicitDefEqProofs := false) (disch := omega) only [go_sem, ↓reduceIte]
      refine callG false [(0, 0), (1, 1), (2, 2), (3, 3), (4, 4), (5, 5)] [(0, 0), (1, 1), (2, 2), (3, 3), (6, 8), (7, 9)] 10 hnext ?_ ?_
      · simp [keys]
      simp (implicitDefEqProofs := false) (disch := omega) only [go_sem, ↓reduceIte, hus]
      refine ⟨⟨i + 1, D5, T5, t5, F5, x5, next5, IMG, ALL, op⟩, [(0, 0), (1, 1), (2, 2), (3, 3), (4, 8), (5, 9), (6, 6), (7, 7)], [], [], ⟨by dsimp only; omega, hLo, hLa, hLi, _, hLm⟩, by dsimp only; omega, rfl, ?_, ?_, ?_⟩ <;> simp (implicitDefEqProofs := false) (disch := omega) only [go_sem, ↓reduceIte]
  obtain ⟨q, rfl⟩ := Int.eq_ofNat_of_zero_le n0
  simp (implicitDefEqProofs := false) (disch := omega) only [go_sem, ↓reduceIte]
  refine brd (fun n1 => ?_) (fun n1 => ?_)
  case' refine_2 =>
    obtain ⟨D5, T5, t5, F5, x5, next5, r5, l5⟩ := reopen hn2 hb2 (by omega) hP
    generalize bootD D3 = D4 at *
    simp (implicitDefEqProofs := false) (disch := omega) only [go_sem, ↓reduceIte]
    refine callG false [(0, 0), (1, 9), (2, 10)] [(0, 0), (3, 11), (4, 12)] 13 hbo2 ?_ ?_
    · simp [keys]
    simp (implicitDefEqProofs := false) (disch := omega) only [go_sem, ↓reduceIte]
    refine callG false [(0, 0), (1, 2), (2, 11), (3, 12)] [(0, 0), (1, 2), (6, 13), (7, 14), (4, 15), (5, 16)] 17 r5 ?_ ?_
    · simp [keys]
    simp (implicitDefEqProofs := false) (disch := omega) only [go_sem, ↓reduceIte]
    obtain ⟨op, hop⟩ : ∃ op, op = opened + 1 := ⟨_, rfl⟩
    have hop2 : (opened : Int) + 1 = (op : Int) := by omega
    rw [← hop] at l5
    have hLm := (l5).mono (show _ ≤ 2 * (i + 1) + 1 by omega)
    have hul := used_le all (x5).key
    have hbo : 0 ≤ (b : Int) * ((op : Nat) : Int) ∧ (b : Int) * ((op : Nat) : Int) ≤ 976 := by
      have := Nat.mul_le_mul hb2.2 (show op ≤ 61 by omega)
      have h2 : ((b * op : Nat) : Int) = (b : Int) * ((op : Nat) : Int) := by simp
      omega
    have hus : decide (((used all (x5).key : Nat) : Int) + (b : Int) * ((op : Nat) : Int) < next5) = false := by
      have h1 := hLm.us
      have h2 : ((b * op : Nat) : Int) = (b : Int) * ((op : Nat) : Int) := by simp
      exact decide_eq_false (by omega)
    have hkey := key_spec D5 ⟨T5, t5, false⟩ F5 x5 n b next5 false
    have hnext := next_spec D5 ⟨T5, t5, false⟩ F5 x5 n b next5 false
    have hLa : (all).length ≤ i + 1 := by first | omega | (rw [List.length_append]; simp only [List.length_singleton]; omega)
    have hLi : (imgs).length ≤ i + 1 := by first | omega | (rw [List.length_append]; simp only [List.length_singleton]; omega)
    have hLo : op ≤ i + 1 := by omega
    have hu0 : used [] (x5).key = 0 := rfl
    generalize hALL : all = ALL at *
    generalize hIMG : imgs = IMG at *
    refine loop (ι := Nat) 8 (fun j => j ≤ ALL.length) (fun j => [(2, .sl (.lst 4 nl (l.map ddV))), (7, .int .i64 n), (8, .int .i64 b), (9, .ref 0 []), (11, .ref 2 []), (12, .ref 3 []), (14, .osl 6 [] 1 0 IMG.length), (15, .osl 7 [] 3 0 ALL.length), (16, .int .i64 (op : Nat)), (17, .int .i64 i), (24, .int .i64 (used (ALL.take j) (x5).key : Nat)), (25, .int .i64 j)])
      (fun j => lpO ⟨i, D5, T5, t5, F5, x5, next5, IMG, ALL, op⟩ n b) (fun j => ALL.length - j) 0 [(0, 0), (1, 13), (2, 2), (3, 14), (4, 15), (5, 16), (6, 6), (7, 7)] [] (Nat.zero_le _) rfl ?_ ?_ ?_ (fun j hj => ?_)
    · simp (implicitDefEqProofs := false) (disch := omega) only [go_sem, ↓reduceIte]
    · simp (implicitDefEqProofs := false) (disch := omega) only [go_sem, ↓reduceIte, hu0, hALL, hIMG, hop2]
    · simp (implicitDefEqProofs := false) (disch := omega) only [go_sem, ↓reduceIte, hALL, hIMG, hop2]
    simp (implicitDefEqProofs := false) (disch := omega) only [go_sem, ↓reduceIte]
    refine brd (fun g1 => ?_) (fun g1 => ?_)
    · have hj' : j < ALL.length := by omega
      have hge : ∀ K, getP (ALL.map atV) j K = K (.agg [.int .i64 (ALL[j]).1, .int .i64 (ALL[j]).2.1, .str (ALL[j]).2.2]) := fun K => getP_map (f := atV) (List.getElem?_eq_getElem hj') K
      have hsu := used_succ hj' (x5).key
      have hul2 := used_le (ALL.take j) (x5).key
      have htl : (ALL.take j).length ≤ 100 := by rw [List.length_take]; omega
      have hlea : (ALL.map atV).length = ALL.length := List.length_map _
      simp (implicitDefEqProofs := false) (disch := omega) only [go_sem, ↓reduceIte, ↓hge, hlea]
      refine callG false [(0, 0), (1, 1), (2, 2), (3, 3), (4, 4), (5, 5)] [(0, 0), (1, 1), (2, 2), (3, 3), (6, 8), (7, 9)] 10 hkey ?_ ?_
      · simp [keys]
      simp (implicitDefEqProofs := false) (disch := omega) only [go_sem, ↓reduceIte, ↓hge, hlea]
      refine brd (fun g2 => ?_) (fun g2 => ?_)
      · rw [if_pos g2] at hsu
        simp (implicitDefEqProofs := false) (disch := omega) only [go_sem, ↓reduceIte]
        refine ⟨j + 1, [(0, 0), (1, 1), (2, 2), (3, 3), (4, 8), (5, 9), (6, 6), (7, 7)], [], [], by dsimp only; omega, by dsimp only; omega, rfl, ?_, ?_, ?_⟩ <;> simp (implicitDefEqProofs := false) (disch := omega) only [go_sem, ↓reduceIte, hsu]
      · rw [if_neg g2] at hsu
        simp (implicitDefEqProofs := false) (disch := omega) only [go_sem, ↓reduceIte]
        refine ⟨j + 1, [(0, 0), (1, 1), (2, 2), (3, 3), (4, 8), (5, 9), (6, 6), (7, 7)], [], [], by dsimp only; omega, by dsimp only; omega, rfl, ?_, ?_, ?_⟩ <;> simp (implicitDefEqProofs := false) (disch := omega) only [go_sem, ↓reduceIte, hsu, Nat.add_zero]
    · obtain rfl : j = ALL.length := by omega
      rw [List.take_length]
      simp (implicitDefEqProofs := false) (disch := omega) only [go_sem, ↓reduceIte]
      refine callG false [(0, 0), (1, 1), (2, 2), (3, 3), (4, 4), (5, 5)] [(0, 0), (1, 1), (2, 2), (3, 3), (6, 8), (7, 9)] 10 hnext ?_ ?_
      · simp [keys]
      simp (implicitDefEqProofs := false) (disch := omega) only [go_sem, ↓reduceIte, hus]
      refine ⟨⟨i + 1, D5, T5, t5, F5, x5, next5, IMG, ALL, op⟩, [(0, 0), (1, 1), (2, 2), (3, 3), (4, 8), (5, 9), (6, 6), (7, 7)], [], [], ⟨by dsimp only; omega, hLo, hLa, hLi, _, hLm⟩, by dsimp only; omega, rfl, ?_, ?_, ?_⟩ <;> simp (implicitDefEqProofs := false) (disch := omega) only [go_sem, ↓reduceIte]
  have hqi : q < imgs.length := by omega
  have hgi : ∀ K, getP (imgs.map imV) q K = K (.str (imgs[q])) := fun K => getP_map (f := imV) (List.getElem?_eq_getElem hqi) K
  have hlei : (imgs.map imV).length = imgs.length := List.length_map _
  obtain ⟨h8, T4, t4, hP4⟩ := hR _ (List.getElem_mem hqi)
  generalize imgs[q] = s at *
  have hre := restore_own D3 hd3 (bkU s) s.length (bkU_len s) (by rw [h8, hbl])
  have ebk : s.map (fun x => (x.toNat : Int)) = bkU s := rfl
  have hbo3 := boot_spec (restD D3 (bkU s))
  generalize restD D3 (bkU s) = D6 at *
  generalize bkU s = bs at *
  obtain ⟨D5, T5, t5, F5, x5, next5, r5, l5⟩ := reopen hn2 hb2 (by omega) hP4
  generalize bootD D6 = D4 at *
  simp (implicitDefEqProofs := false) (disch := omega) only [go_sem, ↓reduceIte, ↓hgi, hlei, ebk]
  refine callG false [(5, 11), (0, 0), (1, 9), (2, 10)] [(0, 0), (3, 12), (4, 13)] 14 hre ?_ ?_
  · simp [keys]
  simp (implicitDefEqProofs := false) (disch := omega) only [go_sem, ↓reduceIte]
  refine callG false [(0, 0), (1, 12), (2, 13)] [(0, 0), (3, 14), (4, 15)] 16 hbo3 ?_ ?_
  · simp [keys]
  simp (implicitDefEqProofs := false) (disch := omega) only [go_sem, ↓reduceIte]
  refine callG false [(0, 0), (1, 2), (2, 14), (3, 15)] [(0, 0), (1, 2), (6, 16), (7, 17), (4, 18), (5, 19)] 20 r5 ?_ ?_
  · simp [keys]
  simp (implicitDefEqProofs := false) (disch := omega) only [go_sem, ↓reduceIte]
  obtain ⟨op, hop⟩ : ∃ op, op = opened + 1 := ⟨_, rfl⟩
  have hop2 : (opened : Int) + 1 = (op : Int) := by omega
  rw [← hop] at l5
  have hLm := (l5).mono (show _ ≤ 2 * (i + 1) + 1 by omega)
  have hul := used_le all (x5).key
  have hbo : 0 ≤ (b : Int) * ((op : Nat) : Int) ∧ (b : Int) * ((op : Nat) : Int) ≤ 976 := by
    have := Nat.mul_le_mul hb2.2 (show op ≤ 61 by omega)
    have h2 : ((b * op : Nat) : Int) = (b : Int) * ((op : Nat) : Int) := by simp
    omega
  have hus : decide (((used all (x5).key : Nat) : Int) + (b : Int) * ((op : Nat) : Int) < next5) = false := by
    have h1 := hLm.us
    have h2 : ((b * op : Nat) : Int) = (b : Int) * ((op : Nat) : Int) := by simp
    exact decide_eq_false (by omega)
  have hkey := key_spec D5 ⟨T5, t5, false⟩ F5 x5 n b next5 false
  have hnext := next_spec D5 ⟨T5, t5, false⟩ F5 x5 n b next5 false
  have hLa : (all).length ≤ i + 1 := by first | omega | (rw [List.length_append]; simp only [List.length_singleton]; omega)
  have hLi : (imgs).length ≤ i + 1 := by first | omega | (rw [List.length_append]; simp only [List.length_singleton]; omega)
  have hLo : op ≤ i + 1 := by omega
  have hu0 : used [] (x5).key = 0 := rfl
  generalize hALL : all = ALL at *
  generalize hIMG : imgs = IMG at *
  refine loop (ι := Nat) 8 (fun j => j ≤ ALL.length) (fun j => [(2, .sl (.lst 4 nl (l.map ddV))), (7, .int .i64 n), (8, .int .i64 b), (9, .ref 0 []), (11, .ref 2 []), (12, .ref 3 []), (14, .osl 6 [] 1 0 IMG.length), (15, .osl 7 [] 3 0 ALL.length), (16, .int .i64 (op : Nat)), (17, .int .i64 i), (24, .int .i64 (used (ALL.take j) (x5).key : Nat)), (25, .int .i64 j)])
    (fun j => lpO ⟨i, D5, T5, t5, F5, x5, next5, IMG, ALL, op⟩ n b) (fun j => ALL.length - j) 0 [(0, 0), (1, 16), (2, 2), (3, 17), (4, 18), (5, 19), (6, 6), (7, 7)] [] (Nat.zero_le _) rfl ?_ ?_ ?_ (fun j hj => ?_)
  · simp (implicitDefEqProofs := false) (disch := omega) only [go_sem, ↓reduceIte]
  · simp (implicitDefEqProofs := false) (disch := omega) only [go_sem, ↓reduceIte, hu0, hALL, hIMG, hop2]
  · simp (implicitDefEqProofs := false) (disch := omega) only [go_sem, ↓reduceIte, hALL, hIMG, hop2]
  simp (implicitDefEqProofs := false) (disch := omega) only [go_sem, ↓reduceIte]
  refine brd (fun g1 => ?_) (fun g1 => ?_)
  · have hj' : j < ALL.length := by omega
    have hge : ∀ K, getP (ALL.map atV) j K = K (.agg [.int .i64 (ALL[j]).1, .int .i64 (ALL[j]).2.1, .str (ALL[j]).2.2]) := fun K => getP_map (f := atV) (List.getElem?_eq_getElem hj') K
    have hsu := used_succ hj' (x5).key
    have hul2 := used_le (ALL.take j) (x5).key
    have htl : (ALL.take j).length ≤ 100 := by rw [List.length_take]; omega
    have hlea : (ALL.map atV).length = ALL.length := List.length_map _
    simp (implicitDefEqProofs := false) (disch := omega) only [go_sem, ↓reduceIte, ↓hge, hlea]
    refine callG false [(0, 0), (1, 1), (2, 2), (3, 3), (4, 4), (5, 5)] [(0, 0), (1, 1), (2, 2), (3, 3), (6, 8), (7, 9)] 10 hkey ?_ ?_
    · simp [keys]
    simp (implicitDefEqProofs := false) (disch := omega) only [go_sem, ↓reduceIte, ↓hge, hlea]
    refine brd (fun g2 => ?_) (fun g2 => ?_)
    · rw [if_pos g2] at hsu
      simp (implicitDefEqProofs := false) (disch := omega) only [go_sem, ↓reduceIte]
      refine ⟨j + 1, [(0, 0), (1, 1), (2, 2), (3, 3), (4, 8), (5, 9), (6, 6), (7, 7)], [], [], by dsimp only; omega, by dsimp only; omega, rfl, ?_, ?_, ?_⟩ <;> simp (implicitDefEqProofs := false) (disch := omega) only [go_sem, ↓reduceIte, hsu]
    · rw [if_neg g2] at hsu
      simp (implicitDefEqProofs := false) (disch := omega) only [go_sem, ↓reduceIte]
      refine ⟨j + 1, [(0, 0), (1, 1), (2, 2), (3, 3), (4, 8), (5, 9), (6, 6), (7, 7)], [], [], by dsimp only; omega, by dsimp only; omega, rfl, ?_, ?_, ?_⟩ <;> simp (implicitDefEqProofs := false) (disch := omega) only [go_sem, ↓reduceIte, hsu, Nat.add_zero]
  · obtain rfl : j = ALL.length := by omega
    rw [List.take_length]
    simp (implicitDefEqProofs := false) (disch := omega) only [go_sem, ↓reduceIte]
    refine callG false [(0, 0), (1, 1), (2, 2), (3, 3), (4, 4), (5, 5)] [(0, 0), (1, 1), (2, 2), (3, 3), (6, 8), (7, 9)] 10 hnext ?_ ?_
    · simp [keys]
    simp (implicitDefEqProofs := false) (disch := omega) only [go_sem, ↓reduceIte, hus]
    refine ⟨⟨i + 1, D5, T5, t5, F5, x5, next5, IMG, ALL, op⟩, [(0, 0), (1, 1), (2, 2), (3, 3), (4, 8), (5, 9), (6, 6), (7, 7)], [], [], ⟨by dsimp only; omega, hLo, hLa, hLi, _, hLm⟩, by dsimp only; omega, rfl, ?_, ?_, ?_⟩ <;> simp (implicitDefEqProofs := false) (disch := omega) only [go_sem, ↓reduceIte]
end Go.Proofs.Ythhlielliopegaa
