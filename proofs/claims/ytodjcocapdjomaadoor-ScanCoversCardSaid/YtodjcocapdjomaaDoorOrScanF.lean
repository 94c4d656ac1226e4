/- scan: characters, tokens. -/
import Derived.Test.YtodjcocapdjomaaDoorOrScanE
namespace Go.AL
open Go Go.RowKit Go.Proofs
set_option linter.unusedVariables false
set_option linter.unusedSimpArgs false
set_option maxRecDepth 20000
set_option maxHeartbeats 2000000
variable {E : World → Prop}
theorem mkK_rng (s : List UInt8) (first : Bool) : ∀ (f k : Nat) (r : Tok × Int × Int), f + k ≤ 4 → mkK s first f k = some r → r.2.2 = 0 → 1 ≤ r.2.1 ∧ r.2.1 ≤ s.length
  | 0, k, r, _, h, _ => by simp [mkK] at h
  | f + 1, k, r, hfk, h, he => by
    unfold mkK at h
    split at h
    · exact mkK_rng s first f (k + 1) r (by omega) h he
    · rename_i hp
      split at h
      · cases h; cases he
      · rename_i hc
        have h1 := trimPrefix_room s (kB k) (by simpa using hp)
        have h2 := cut_room (Lib.trimPrefix s (kB k)) (kE k) (by simpa using hc)
        have h3 := (kB_len k (by omega)).2.2
        dsimp only at h
        split at h
        · rename_i hr
          cases h; exact absurd he hr
        · cases h
          simp only
          omega
theorem bangL_ne (s : List UInt8) : ∀ l, bangL s l ≠ 0
  | [] => by simp [bangL]
  | x :: xs => by
    unfold bangL
    split
    · decide
    · split
      · decide
      · exact bangL_ne s xs
theorem gMarkup_rng (s : List UInt8) (first : Bool) (he : (gMarkup s first).2.2 = 0) : 1 ≤ (gMarkup s first).2.1 ∧ (gMarkup s first).2.1 ≤ s.length := by
  unfold gMarkup at he ⊢
  split at he
  · rename_i r hr
    exact mkK_rng s first 4 0 r (by omega) hr he
  · split at he
    · cases he
    · rename_i h1
      rw [if_neg h1]
      split at he
      · exact absurd he (bangL_ne s bangs)
      · rename_i h2
        rw [if_neg h2]
        unfold gStartT at he ⊢
        have hr := tagL_rng s 0 0
        change gTag s = -1 ∨ ((0 : Nat) : Int) ≤ gTag s ∧ gTag s < _ at hr
        split at he
        · cases he
        · rename_i h3
          rw [if_neg h3]
          dsimp only at he ⊢
          split at he
          · rename_i h4; exact absurd he h4
          · rename_i h4
            rw [if_neg h4]
            split at he
            · cases he
            · rename_i h5
              rw [if_neg h5]
              simp only
              omega
def gCharsT (s : List UInt8) : Tok × Int :=
  if gRight s ≠ 0 then (noTok, gRight s) else if Lib.contains s [93, 93, 62] = true then (noTok, 6) else
  if (gRead false s).2.2 ≠ 0 then (noTok, (gRead false s).2.2) else ((3, (gRead false s).1, false, Lib.trimS s blanksL == []), 0)
theorem chars_ok (hE : ∀ w, E w → LibE w) (H : AHeap) (s : List UInt8) (hS : s.length ≤ 4000000000) :
    ACalls E Tryd.prog 11 [.str s] H (fun v H' => v = .tuple [tokA (gCharsT s).1, .int .i64 (gCharsT s).2] ∧ Ext H H') := by
  refine ACalls.of_codeC (N := 32) (rs := [.cell 2 28, .tmp 3]) Tryd.func11 rfl rfl rfl rfl (by simp) ?_
  refine ACode.of_K _ ?_
  simp (maxSteps := 5000000) (implicitDefEqProofs := false) only [go_sem, Nat.reduceLT, Nat.reduceBEq, Nat.reduceBNe, Nat.reduceAdd, Nat.reduceSub, Nat.reduceMul, Nat.reduceEqDiff, Nat.reduceLeDiff, Int.reduceLT, Int.reduceLE, Int.reduceEq, Int.reduceToNat, Int.reduceBEq, Int.reduceAdd, Int.reduceSub, Int.reduceNeg, reduceCtorEq]
  refine callK_val (right_ok _ s hS) fun H1 e1 => ?_
  have h4 := e1.get (get_new0 H _)
  have s4 : ∀ x, (H1.set H.length x)[H.length]? = some x := fun x => iter_set h4
  have x1 : Ext H H1 := (Ext.app _ _).trans e1
  have hg : gCharsT s = if gRight s ≠ 0 then (noTok, gRight s) else if Lib.contains s [93, 93, 62] = true then (noTok, 6) else
    if (gRead false s).2.2 ≠ 0 then (noTok, (gRead false s).2.2) else ((3, (gRead false s).1, false, Lib.trimS s blanksL == []), 0) := rfl
  generalize gRight s = e at *
  by_cases he : e = 0
  · subst he
    rw [if_neg (by simp)] at hg
    simp (maxSteps := 5000000) (implicitDefEqProofs := false) only [go_sem, Nat.reduceLT, Nat.reduceBEq, Nat.reduceBNe, Nat.reduceAdd, Nat.reduceSub, Nat.reduceMul, Nat.reduceEqDiff, Nat.reduceLeDiff, Int.reduceLT, Int.reduceLE, Int.reduceEq, Int.reduceToNat, Int.reduceBEq, Int.reduceAdd, Int.reduceSub, Int.reduceNeg, reduceCtorEq, not_false_eq_true, true_implies]
    refine callK_same (Contains_ok E hE H1 s [93, 93, 62] (by omega)) ?_
    cases hc : Lib.contains s [93, 93, 62]
    · rw [if_neg (by rw [hc]; simp)] at hg
      simp (maxSteps := 5000000) (implicitDefEqProofs := false) only [go_sem, Nat.reduceLT, Nat.reduceBEq, Nat.reduceBNe, Nat.reduceAdd, Nat.reduceSub, Nat.reduceMul, Nat.reduceEqDiff, Nat.reduceLeDiff, Int.reduceLT, Int.reduceLE, Int.reduceEq, Int.reduceToNat, Int.reduceBEq, Int.reduceAdd, Int.reduceSub, Int.reduceNeg, reduceCtorEq, not_false_eq_true, true_implies]
      refine callK_val (Text_ok hE H1 s hS) fun H2 e2 => ?_
      have x2 := x1.trans e2
      have h5 := e2.get h4
      have s5 : ∀ x, (H2.set H.length x)[H.length]? = some x := fun x => iter_set h5
      generalize gRead false s = x at *
      obtain ⟨text, p, f⟩ := x
      simp only at hg
      by_cases hf : f = 0
      · subst hf
        rw [if_neg (by simp)] at hg
        simp (maxSteps := 5000000) (implicitDefEqProofs := false) only [go_sem, Nat.reduceLT, Nat.reduceBEq, Nat.reduceBNe, Nat.reduceAdd, Nat.reduceSub, Nat.reduceMul, Nat.reduceEqDiff, Nat.reduceLeDiff, Int.reduceLT, Int.reduceLE, Int.reduceEq, Int.reduceToNat, Int.reduceBEq, Int.reduceAdd, Int.reduceSub, Int.reduceNeg, reduceCtorEq, not_false_eq_true, true_implies]
        refine callK_same (Trim_ok E H2 s (by omega)) ?_
        rw [hg]
        simp (maxSteps := 5000000) (implicitDefEqProofs := false) only [go_sem, Nat.reduceLT, Nat.reduceBEq, Nat.reduceBNe, Nat.reduceAdd, Nat.reduceSub, Nat.reduceMul, Nat.reduceEqDiff, Nat.reduceLeDiff, Int.reduceLT, Int.reduceLE, Int.reduceEq, Int.reduceToNat, Int.reduceBEq, Int.reduceAdd, Int.reduceSub, Int.reduceNeg, reduceCtorEq, not_false_eq_true, true_implies, h5, s5]
        exact ⟨by first | rfl | exact ⟨rfl, rfl⟩ | exact ⟨rfl, rfl, rfl⟩, x2.iter _⟩
      · rw [if_pos hf] at hg
        simp (maxSteps := 5000000) (implicitDefEqProofs := false) only [go_sem, Nat.reduceLT, Nat.reduceBEq, Nat.reduceBNe, Nat.reduceAdd, Nat.reduceSub, Nat.reduceMul, Nat.reduceEqDiff, Nat.reduceLeDiff, Int.reduceLT, Int.reduceLE, Int.reduceEq, Int.reduceToNat, Int.reduceBEq, Int.reduceAdd, Int.reduceSub, Int.reduceNeg, reduceCtorEq, not_false_eq_true, true_implies, hf, h5, s5, hg]
        exact ⟨by first | rfl | exact ⟨rfl, rfl⟩ | exact ⟨rfl, rfl, rfl⟩, x2.iter _⟩
    · rw [if_pos hc] at hg
      simp (maxSteps := 5000000) (implicitDefEqProofs := false) only [go_sem, Nat.reduceLT, Nat.reduceBEq, Nat.reduceBNe, Nat.reduceAdd, Nat.reduceSub, Nat.reduceMul, Nat.reduceEqDiff, Nat.reduceLeDiff, Int.reduceLT, Int.reduceLE, Int.reduceEq, Int.reduceToNat, Int.reduceBEq, Int.reduceAdd, Int.reduceSub, Int.reduceNeg, reduceCtorEq, not_false_eq_true, true_implies, h4, s4, hg]
      exact ⟨by first | rfl | exact ⟨rfl, rfl⟩ | exact ⟨rfl, rfl, rfl⟩, x1.iter _⟩
  · rw [if_pos he] at hg
    simp (maxSteps := 5000000) (implicitDefEqProofs := false) only [go_sem, Nat.reduceLT, Nat.reduceBEq, Nat.reduceBNe, Nat.reduceAdd, Nat.reduceSub, Nat.reduceMul, Nat.reduceEqDiff, Nat.reduceLeDiff, Int.reduceLT, Int.reduceLE, Int.reduceEq, Int.reduceToNat, Int.reduceBEq, Int.reduceAdd, Int.reduceSub, Int.reduceNeg, reduceCtorEq, not_false_eq_true, true_implies, he, h4, s4, hg]
    exact ⟨by first | rfl | exact ⟨rfl, rfl⟩ | exact ⟨rfl, rfl, rfl⟩, x1.iter _⟩
def gNextT (s : List UInt8) (a : Nat) (more : Bool) : Tok × Int × Int := match s[a]? with
  | none => if more then (noTok, a, 7) else ((6, [], false, false), a, 0)
  | some b => if b.toNat = 60 then
      (if (gMarkup (s.drop a) (a == 0)).2.2 ≠ 0 then (noTok, a, (gMarkup (s.drop a) (a == 0)).2.2) else ((gMarkup (s.drop a) (a == 0)).1, (a : Int) + (gMarkup (s.drop a) (a == 0)).2.1, 0))
    else if (Lib.cut (s.drop a) [60]).2.2 = false ∧ more = true then (noTok, a, 7) else
      if (gCharsT (Lib.cut (s.drop a) [60]).1).2 ≠ 0 then (noTok, a, (gCharsT (Lib.cut (s.drop a) [60]).1).2) else ((gCharsT (Lib.cut (s.drop a) [60]).1).1, (a : Int) + ((Lib.cut (s.drop a) [60]).1.length : Int), 0)
theorem sNext_ok (hE : ∀ w, E w → LibE w) (hF : ∀ w, E w → FoldE w) (H : AHeap) (s : List UInt8) (a : Nat) (more : Bool) (hS : s.length ≤ 4000000000) (ha : a ≤ s.length) :
    ACalls E Tryd.prog 8 [.str s, .int .i64 a, .bool more] H (fun v H' => v = .tuple [tokA (gNextT s a more).1, .int .i64 (gNextT s a more).2.1, .int .i64 (gNextT s a more).2.2] ∧ Ext H H') := by
  refine ACalls.of_codeC (N := 79) (rs := [.cell 6 28, .tmp 7, .tmp 8]) Tryd.func8 rfl rfl rfl rfl (by simp) ?_
  refine ACode.of_K _ ?_
  have r0 : (H ++ [AObj.cells [AV.int IntKind.i64 0, AV.str [], AV.bool false, AV.bool false] 28 true])[H.length]? = some (.cells [.int .i64 0, .str [], .bool false, .bool false] 28 true) := get_new0 _ _
  by_cases hlt : a < s.length
  · have hne : ((a : Int) == (s.length : Int)) = false := by simp; omega
    have hne' : ¬ (a : Int) = (s.length : Int) := by omega
    have hb : s[a]? = some s[a] := List.getElem?_eq_getElem hlt
    have hle : (a : Int) ≤ (s.length : Int) := by omega
    have hdr : s.drop a = s[a] :: s.drop (a + 1) := List.drop_eq_getElem_cons hlt
    have hg : gNextT s a more = if s[a].toNat = 60 then
      (if (gMarkup (s.drop a) (a == 0)).2.2 ≠ 0 then (noTok, (a : Int), (gMarkup (s.drop a) (a == 0)).2.2) else ((gMarkup (s.drop a) (a == 0)).1, (a : Int) + (gMarkup (s.drop a) (a == 0)).2.1, 0))
      else if (Lib.cut (s.drop a) [60]).2.2 = false ∧ more = true then (noTok, (a : Int), 7) else
      if (gCharsT (Lib.cut (s.drop a) [60]).1).2 ≠ 0 then (noTok, (a : Int), (gCharsT (Lib.cut (s.drop a) [60]).1).2) else ((gCharsT (Lib.cut (s.drop a) [60]).1).1, (a : Int) + ((Lib.cut (s.drop a) [60]).1.length : Int), 0) := by
      unfold gNextT; rw [hb]
    simp (maxSteps := 5000000) (implicitDefEqProofs := false) only [go_sem, Nat.reduceLT, Nat.reduceBEq, Nat.reduceBNe, Nat.reduceAdd, Nat.reduceSub, Nat.reduceMul, Nat.reduceEqDiff, Nat.reduceLeDiff, Int.reduceLT, Int.reduceLE, Int.reduceEq, Int.reduceToNat, Int.reduceBEq, Int.reduceAdd, Int.reduceSub, Int.reduceNeg, reduceCtorEq, not_false_eq_true, true_implies, hne, hne', hb, Int.toNat_natCast, Int.natCast_nonneg]
    refine ⟨fun h60 => ?_, fun h60 => ?_⟩
    · rw [if_pos (by omega)] at hg
      simp (maxSteps := 5000000) (implicitDefEqProofs := false) only [go_sem, Nat.reduceLT, Nat.reduceBEq, Nat.reduceBNe, Nat.reduceAdd, Nat.reduceSub, Nat.reduceMul, Nat.reduceEqDiff, Nat.reduceLeDiff, Int.reduceLT, Int.reduceLE, Int.reduceEq, Int.reduceToNat, Int.reduceBEq, Int.reduceAdd, Int.reduceSub, Int.reduceNeg, reduceCtorEq, not_false_eq_true, true_implies, hle, Int.toNat_natCast, Int.natCast_nonneg, hb, hne, hne']
      refine callK_val (markup_ok hE hF _ (s.drop a) ((a : Int) == 0) (by rw [List.length_drop]; omega) ⟨_, _, hdr, by omega⟩) fun H1 e1 => ?_
      have h4 := e1.get r0
      have s4 : ∀ x, (H1.set H.length x)[H.length]? = some x := fun x => iter_set h4
      have x1 : Ext H H1 := (Ext.app _ _).trans e1
      have ha0 : ((a : Int) == 0) = (a == 0) := by rw [Bool.eq_iff_iff]; simp
      rw [ha0]
      have hrng := gMarkup_rng (s.drop a) (a == 0)
      rw [List.length_drop] at hrng
      generalize gMarkup (s.drop a) (a == 0) = x at *
      obtain ⟨⟨k1, k2, k3, k5⟩, n, e⟩ := x
      simp only at hg hrng
      by_cases he : e = 0
      · subst he
        obtain ⟨p1, p2⟩ := hrng rfl
        rw [if_neg (by simp)] at hg
        have hw : IntKind.i64.wrap ((a : Int) + n) = (a : Int) + n := wrap_ids _ (by omega) (by omega)
        have hr6 : ∀ L, (H1 ++ L)[H.length]? = _ := fun L => (get_old H1 L H.length (lt_of_get h4)).trans h4
        have s6 : ∀ L x, ((H1 ++ L).set H.length x)[H.length]? = some x := fun L x => iter_set (hr6 L)
        rw [hg]
        simp (maxSteps := 5000000) (implicitDefEqProofs := false) only [go_sem, Nat.reduceLT, Nat.reduceBEq, Nat.reduceBNe, Nat.reduceAdd, Nat.reduceSub, Nat.reduceMul, Nat.reduceEqDiff, Nat.reduceLeDiff, Int.reduceLT, Int.reduceLE, Int.reduceEq, Int.reduceToNat, Int.reduceBEq, Int.reduceAdd, Int.reduceSub, Int.reduceNeg, reduceCtorEq, not_false_eq_true, true_implies, tokA, h4, hr6, s6, hw]
        first | exact (x1.add _).set (Nat.le_refl _) _ | exact ⟨rfl, (x1.add _).set (Nat.le_refl _) _⟩ | exact ⟨⟨rfl, rfl⟩, (x1.add _).set (Nat.le_refl _) _⟩ | exact ⟨⟨rfl, rfl, rfl⟩, (x1.add _).set (Nat.le_refl _) _⟩
      · rw [if_pos he] at hg
        have hr6 : ∀ L, (H1 ++ L)[H.length]? = _ := fun L => (get_old H1 L H.length (lt_of_get h4)).trans h4
        have s6 : ∀ L x, ((H1 ++ L).set H.length x)[H.length]? = some x := fun L x => iter_set (hr6 L)
        rw [hg]
        simp (maxSteps := 5000000) (implicitDefEqProofs := false) only [go_sem, Nat.reduceLT, Nat.reduceBEq, Nat.reduceBNe, Nat.reduceAdd, Nat.reduceSub, Nat.reduceMul, Nat.reduceEqDiff, Nat.reduceLeDiff, Int.reduceLT, Int.reduceLE, Int.reduceEq, Int.reduceToNat, Int.reduceBEq, Int.reduceAdd, Int.reduceSub, Int.reduceNeg, reduceCtorEq, not_false_eq_true, true_implies, tokA, he, h4, hr6, s6]
        first | exact (x1.add _).set (Nat.le_refl _) _ | exact ⟨rfl, (x1.add _).set (Nat.le_refl _) _⟩ | exact ⟨⟨rfl, rfl⟩, (x1.add _).set (Nat.le_refl _) _⟩ | exact ⟨⟨rfl, rfl, rfl⟩, (x1.add _).set (Nat.le_refl _) _⟩
    · rw [if_neg (by omega)] at hg
      simp (maxSteps := 5000000) (implicitDefEqProofs := false) only [go_sem, Nat.reduceLT, Nat.reduceBEq, Nat.reduceBNe, Nat.reduceAdd, Nat.reduceSub, Nat.reduceMul, Nat.reduceEqDiff, Nat.reduceLeDiff, Int.reduceLT, Int.reduceLE, Int.reduceEq, Int.reduceToNat, Int.reduceBEq, Int.reduceAdd, Int.reduceSub, Int.reduceNeg, reduceCtorEq, not_false_eq_true, true_implies, hle, Int.toNat_natCast, Int.natCast_nonneg, hb, hne, hne']
      refine callK_same (SCut_ok E hE _ (s.drop a) [60] (by rw [List.length_drop]; omega)) ?_
      have hcl := cut_len (s.drop a) [60]
      rw [List.length_drop] at hcl
      generalize Lib.cut (s.drop a) [60] = x at *
      obtain ⟨text, r2, found⟩ := x
      simp only at hcl hg
      by_cases hfm : found = false ∧ more = true
      · obtain ⟨rfl, rfl⟩ := hfm
        rw [if_pos ⟨rfl, rfl⟩] at hg
        rw [hg]
        simp (maxSteps := 5000000) (implicitDefEqProofs := false) only [go_sem, Nat.reduceLT, Nat.reduceBEq, Nat.reduceBNe, Nat.reduceAdd, Nat.reduceSub, Nat.reduceMul, Nat.reduceEqDiff, Nat.reduceLeDiff, Int.reduceLT, Int.reduceLE, Int.reduceEq, Int.reduceToNat, Int.reduceBEq, Int.reduceAdd, Int.reduceSub, Int.reduceNeg, reduceCtorEq, not_false_eq_true, true_implies, r0]
        first | exact Ext.app _ _ | exact ⟨rfl, Ext.app _ _⟩ | exact ⟨⟨rfl, rfl⟩, Ext.app _ _⟩ | exact ⟨⟨rfl, rfl, rfl⟩, Ext.app _ _⟩
      · rw [if_neg hfm] at hg
        have main : True := trivial
        cases found
        · have hm : more = false := by cases more <;> simp_all
          subst hm
          simp (maxSteps := 5000000) (implicitDefEqProofs := false) only [go_sem, Nat.reduceLT, Nat.reduceBEq, Nat.reduceBNe, Nat.reduceAdd, Nat.reduceSub, Nat.reduceMul, Nat.reduceEqDiff, Nat.reduceLeDiff, Int.reduceLT, Int.reduceLE, Int.reduceEq, Int.reduceToNat, Int.reduceBEq, Int.reduceAdd, Int.reduceSub, Int.reduceNeg, reduceCtorEq, not_false_eq_true, true_implies]
          refine callK_val (chars_ok hE _ text (by omega)) fun H1 e1 => ?_
          have h4 := e1.get r0
          have x1 : Ext H H1 := (Ext.app _ _).trans e1
          generalize gCharsT text = x at *
          obtain ⟨⟨k1, k2, k3, k5⟩, e⟩ := x
          simp only at hg
          have hr6 : ∀ L, (H1 ++ L)[H.length]? = _ := fun L => (get_old H1 L H.length (lt_of_get h4)).trans h4
          have s6 : ∀ L x, ((H1 ++ L).set H.length x)[H.length]? = some x := fun L x => iter_set (hr6 L)
          have hw : IntKind.i64.wrap ((a : Int) + (text.length : Int)) = (a : Int) + (text.length : Int) := wrap_ids _ (by omega) (by omega)
          by_cases he : e = 0
          · subst he
            rw [if_neg (by simp)] at hg
            rw [hg]
            simp (maxSteps := 5000000) (implicitDefEqProofs := false) only [go_sem, Nat.reduceLT, Nat.reduceBEq, Nat.reduceBNe, Nat.reduceAdd, Nat.reduceSub, Nat.reduceMul, Nat.reduceEqDiff, Nat.reduceLeDiff, Int.reduceLT, Int.reduceLE, Int.reduceEq, Int.reduceToNat, Int.reduceBEq, Int.reduceAdd, Int.reduceSub, Int.reduceNeg, reduceCtorEq, not_false_eq_true, true_implies, tokA, h4, hr6, s6, hw]
            first | exact (x1.add _).set (Nat.le_refl _) _ | exact ⟨rfl, (x1.add _).set (Nat.le_refl _) _⟩ | exact ⟨⟨rfl, rfl⟩, (x1.add _).set (Nat.le_refl _) _⟩ | exact ⟨⟨rfl, rfl, rfl⟩, (x1.add _).set (Nat.le_refl _) _⟩
          · rw [if_pos he] at hg
            rw [hg]
            simp (maxSteps := 5000000) (implicitDefEqProofs := false) only [go_sem, Nat.reduceLT, Nat.reduceBEq, Nat.reduceBNe, Nat.reduceAdd, Nat.reduceSub, Nat.reduceMul, Nat.reduceEqDiff, Nat.reduceLeDiff, Int.reduceLT, Int.reduceLE, Int.reduceEq, Int.reduceToNat, Int.reduceBEq, Int.reduceAdd, Int.reduceSub, Int.reduceNeg, reduceCtorEq, not_false_eq_true, true_implies, tokA, he, h4, hr6, s6]
            first | exact (x1.add _).set (Nat.le_refl _) _ | exact ⟨rfl, (x1.add _).set (Nat.le_refl _) _⟩ | exact ⟨⟨rfl, rfl⟩, (x1.add _).set (Nat.le_refl _) _⟩ | exact ⟨⟨rfl, rfl, rfl⟩, (x1.add _).set (Nat.le_refl _) _⟩
        · simp (maxSteps := 5000000) (implicitDefEqProofs := false) only [go_sem, Nat.reduceLT, Nat.reduceBEq, Nat.reduceBNe, Nat.reduceAdd, Nat.reduceSub, Nat.reduceMul, Nat.reduceEqDiff, Nat.reduceLeDiff, Int.reduceLT, Int.reduceLE, Int.reduceEq, Int.reduceToNat, Int.reduceBEq, Int.reduceAdd, Int.reduceSub, Int.reduceNeg, reduceCtorEq, not_false_eq_true, true_implies]
          refine callK_val (chars_ok hE _ text (by omega)) fun H1 e1 => ?_
          have h4 := e1.get r0
          have x1 : Ext H H1 := (Ext.app _ _).trans e1
          generalize gCharsT text = x at *
          obtain ⟨⟨k1, k2, k3, k5⟩, e⟩ := x
          simp only at hg
          have hr6 : ∀ L, (H1 ++ L)[H.length]? = _ := fun L => (get_old H1 L H.length (lt_of_get h4)).trans h4
          have s6 : ∀ L x, ((H1 ++ L).set H.length x)[H.length]? = some x := fun L x => iter_set (hr6 L)
          have hw : IntKind.i64.wrap ((a : Int) + (text.length : Int)) = (a : Int) + (text.length : Int) := wrap_ids _ (by omega) (by omega)
          by_cases he : e = 0
          · subst he
            rw [if_neg (by simp)] at hg
            rw [hg]
            simp (maxSteps := 5000000) (implicitDefEqProofs := false) only [go_sem, Nat.reduceLT, Nat.reduceBEq, Nat.reduceBNe, Nat.reduceAdd, Nat.reduceSub, Nat.reduceMul, Nat.reduceEqDiff, Nat.reduceLeDiff, Int.reduceLT, Int.reduceLE, Int.reduceEq, Int.reduceToNat, Int.reduceBEq, Int.reduceAdd, Int.reduceSub, Int.reduceNeg, reduceCtorEq, not_false_eq_true, true_implies, tokA, h4, hr6, s6, hw]
            first | exact (x1.add _).set (Nat.le_refl _) _ | exact ⟨rfl, (x1.add _).set (Nat.le_refl _) _⟩ | exact ⟨⟨rfl, rfl⟩, (x1.add _).set (Nat.le_refl _) _⟩ | exact ⟨⟨rfl, rfl, rfl⟩, (x1.add _).set (Nat.le_refl _) _⟩
          · rw [if_pos he] at hg
            rw [hg]
            simp (maxSteps := 5000000) (implicitDefEqProofs := false) only [go_sem, Nat.reduceLT, Nat.reduceBEq, Nat.reduceBNe, Nat.reduceAdd, Nat.reduceSub, Nat.reduceMul, Nat.reduceEqDiff, Nat.reduceLeDiff, Int.reduceLT, Int.reduceLE, Int.reduceEq, Int.reduceToNat, Int.reduceBEq, Int.reduceAdd, Int.reduceSub, Int.reduceNeg, reduceCtorEq, not_false_eq_true, true_implies, tokA, he, h4, hr6, s6]
            first | exact (x1.add _).set (Nat.le_refl _) _ | exact ⟨rfl, (x1.add _).set (Nat.le_refl _) _⟩ | exact ⟨⟨rfl, rfl⟩, (x1.add _).set (Nat.le_refl _) _⟩ | exact ⟨⟨rfl, rfl, rfl⟩, (x1.add _).set (Nat.le_refl _) _⟩
  · have haE : a = s.length := by omega
    have hb : s[a]? = none := List.getElem?_eq_none (by omega)
    have hg : gNextT s a more = if more then (noTok, (a : Int), 7) else ((6, [], false, false), (a : Int), 0) := by unfold gNextT; rw [hb]
    have hne : ((a : Int) == (s.length : Int)) = true := by simp; omega
    have hne' : (a : Int) = (s.length : Int) := by omega
    rw [hg]
    cases more
    all_goals
      simp (maxSteps := 5000000) (implicitDefEqProofs := false) only [go_sem, Nat.reduceLT, Nat.reduceBEq, Nat.reduceBNe, Nat.reduceAdd, Nat.reduceSub, Nat.reduceMul, Nat.reduceEqDiff, Nat.reduceLeDiff, Int.reduceLT, Int.reduceLE, Int.reduceEq, Int.reduceToNat, Int.reduceBEq, Int.reduceAdd, Int.reduceSub, Int.reduceNeg, reduceCtorEq, not_false_eq_true, true_implies, hne, hne', r0]
      first | exact Ext.app _ _ | exact ⟨rfl, Ext.app _ _⟩ | exact ⟨⟨rfl, rfl⟩, Ext.app _ _⟩ | exact ⟨⟨rfl, rfl, rfl⟩, Ext.app _ _⟩
end Go.AL
