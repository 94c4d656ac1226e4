/- ScanCovers: the law, walked. -/
import Derived.Test.YtodjcocapdjomaaDoorOrLawA
namespace Go.AL
open Go Go.RowKit Go.Proofs
set_option linter.unusedVariables false
set_option linter.unusedSimpArgs false
set_option maxRecDepth 20000
set_option maxHeartbeats 2000000
variable {E : World → Prop}
theorem awake_ok (hE : ∀ w, E w → LibE w) (hF : ∀ w, E w → FoldE w) (H : AHeap) : ACalls E Tryd.prog 4 [] H (fun v H' => v = .bool true ∧ Ext H H') := by
  refine ACalls.of_code (N := 78) (ts := [0]) Tryd.func4 rfl rfl rfl rfl (by simp) ?_
  refine ACode.of_K _ ?_
  simp (maxSteps := 5000000) (implicitDefEqProofs := false) only [go_sem, Nat.reduceLT, Nat.reduceBEq, Nat.reduceBNe, Nat.reduceAdd, Nat.reduceSub, Nat.reduceMul, Nat.reduceEqDiff, Nat.reduceLeDiff, Int.reduceLT, Int.reduceLE, Int.reduceEq, Int.reduceToNat, Int.reduceBEq, Int.reduceAdd, Int.reduceSub, Int.reduceNeg, reduceCtorEq]
  refine callK_of (All_ok hE hF H awS (by decide)) ?_
  rintro r H1 ⟨w, rfl, hsl, x1⟩
  rw [aw_all] at hsl ⊢
  obtain ⟨id, rfl, hid⟩ : ∃ id, w = .slice (some (id, 0)) 3 ∧ H1[id]? = some (.cells (tokC [(1, [97, 32, 120, 61, 39, 62, 39], true, false), (3, [98], false, false), (6, [], false, false)]) 28 true) := by
    rcases hsl.isSl with ⟨-, h⟩ | ⟨j, h1, h2⟩
    · cases h
    · exact ⟨j, h1, h2⟩
  simp only [tokC] at hid
  simp (maxSteps := 5000000) (implicitDefEqProofs := false) only [go_sem, Nat.reduceLT, Nat.reduceBEq, Nat.reduceBNe, Nat.reduceAdd, Nat.reduceSub, Nat.reduceMul, Nat.reduceEqDiff, Nat.reduceLeDiff, Int.reduceLT, Int.reduceLE, Int.reduceEq, Int.reduceToNat, Int.reduceBEq, Int.reduceAdd, Int.reduceSub, Int.reduceNeg, reduceCtorEq]
  refine callK_val (More_ok hE hF H1 [98] 0 (by decide) (by decide)) fun H2 e2 => ?_
  have hm := aw_more
  generalize gNextT [98] 0 true = x at *
  obtain ⟨⟨k1, k2, k3, k5⟩, n, e⟩ := x
  simp only at hm
  subst hm
  simp (maxSteps := 5000000) (implicitDefEqProofs := false) only [go_sem, Nat.reduceLT, Nat.reduceBEq, Nat.reduceBNe, Nat.reduceAdd, Nat.reduceSub, Nat.reduceMul, Nat.reduceEqDiff, Nat.reduceLeDiff, Int.reduceLT, Int.reduceLE, Int.reduceEq, Int.reduceToNat, Int.reduceBEq, Int.reduceAdd, Int.reduceSub, Int.reduceNeg, reduceCtorEq, not_false_eq_true, true_implies, tokA]
  refine callK_val (Next_ok hE hF _ awD 0 (by decide) (by decide)) fun H3 e3 => ?_
  have hm := aw_not
  generalize gNextT awD 0 false = x at *
  obtain ⟨⟨j1, j2, j3, j5⟩, n2, e⟩ := x
  simp only at hm
  subst hm
  have h3 : ∀ L, (H3 ++ L)[id]? = _ := fun L => (get_old H3 L id (lt_of_get (e3.get ((Ext.app H2 _).get (e2.get hid))))).trans (e3.get ((Ext.app H2 _).get (e2.get hid)))
  simp (maxSteps := 5000000) (implicitDefEqProofs := false) only [go_sem, Nat.reduceLT, Nat.reduceBEq, Nat.reduceBNe, Nat.reduceAdd, Nat.reduceSub, Nat.reduceMul, Nat.reduceEqDiff, Nat.reduceLeDiff, Int.reduceLT, Int.reduceLE, Int.reduceEq, Int.reduceToNat, Int.reduceBEq, Int.reduceAdd, Int.reduceSub, Int.reduceNeg, reduceCtorEq, not_false_eq_true, true_implies, tokA, h3]
  exact (x1.trans (e2.trans ((Ext.app _ _).trans e3))).add _
theorem tokC_at : ∀ (l : List Tok) (k : Nat) (t : Tok), l[k]? = some t → ((tokC l).drop (k * 4)).take 4 = [.int .i64 t.1, .str t.2.1, .bool t.2.2.1, .bool t.2.2.2]
  | [], k, t, h => by simp at h
  | p :: r, 0, t, h => by simp at h; subst h; rfl
  | p :: r, k + 1, t, h => by
    have := tokC_at r k t (by simpa using h)
    rw [show (k + 1) * 4 = k * 4 + 4 by omega]
    simpa [tokC] using this
theorem tokC_len : ∀ (l : List Tok), (tokC l).length = l.length * 4
  | [] => rfl
  | p :: r => by simp [tokC, tokC_len r]; omega
theorem gAllT_len (s : List UInt8) : (gAllT s).1.length ≤ s.length + 1 := by
  have key : ∀ (m a : Nat) (acc : List Tok), (tL s m a acc).1.length ≤ acc.length + m := by
    intro m
    induction m with
    | zero => intro a acc; simp [tL]
    | succ m ih =>
      intro a acc
      unfold tL
      split
      · simp only; omega
      · split
        · simp only [List.length_append, List.length_singleton]; omega
        · have := ih (gNextT s a false).2.1.toNat (acc ++ [(gNextT s a false).1])
          rw [List.length_append, List.length_singleton] at this
          omega
  have := key (s.length + 1) 0 []
  simpa [gAllT] using this
theorem ScanCovers_ok (hE : ∀ w, E w → LibE w) (hF : ∀ w, E w → FoldE w) (H : AHeap) (s : List UInt8) : ACalls E Tryd.prog 3 [.str s] H (fun v H' => v = .bool true ∧ Ext H H') := by
  refine ACalls.of_code (N := 97) (ts := [2]) Tryd.func3 rfl rfl rfl rfl (by simp) ?_
  refine ACode.of_K _ ?_
  simp (maxSteps := 5000000) (implicitDefEqProofs := false) only [go_sem, Nat.reduceLT, Nat.reduceBEq, Nat.reduceBNe, Nat.reduceAdd, Nat.reduceSub, Nat.reduceMul, Nat.reduceEqDiff, Nat.reduceLeDiff, Int.reduceLT, Int.reduceLE, Int.reduceEq, Int.reduceToNat, Int.reduceBEq, Int.reduceAdd, Int.reduceSub, Int.reduceNeg, reduceCtorEq]
  refine callK_val (awake_ok hE hF H) fun H1 e1 => ?_
  by_cases hS : 400 < s.length
  · have hS' : (400 : Int) < (s.length : Int) := by omega
    simp (maxSteps := 5000000) (implicitDefEqProofs := false) only [go_sem, Nat.reduceLT, Nat.reduceBEq, Nat.reduceBNe, Nat.reduceAdd, Nat.reduceSub, Nat.reduceMul, Nat.reduceEqDiff, Nat.reduceLeDiff, Int.reduceLT, Int.reduceLE, Int.reduceEq, Int.reduceToNat, Int.reduceBEq, Int.reduceAdd, Int.reduceSub, Int.reduceNeg, reduceCtorEq, not_false_eq_true, true_implies, hS']
    refine callK_val (awake_ok hE hF H1) fun H2 e2 => ?_
    simp (maxSteps := 5000000) (implicitDefEqProofs := false) only [go_sem, Nat.reduceLT, Nat.reduceBEq, Nat.reduceBNe, Nat.reduceAdd, Nat.reduceSub, Nat.reduceMul, Nat.reduceEqDiff, Nat.reduceLeDiff, Int.reduceLT, Int.reduceLE, Int.reduceEq, Int.reduceToNat, Int.reduceBEq, Int.reduceAdd, Int.reduceSub, Int.reduceNeg, reduceCtorEq, not_false_eq_true, true_implies]
    exact e1.trans e2
  have hS' : ¬ (400 : Int) < (s.length : Int) := by omega
  simp (maxSteps := 5000000) (implicitDefEqProofs := false) only [go_sem, Nat.reduceLT, Nat.reduceBEq, Nat.reduceBNe, Nat.reduceAdd, Nat.reduceSub, Nat.reduceMul, Nat.reduceEqDiff, Nat.reduceLeDiff, Int.reduceLT, Int.reduceLE, Int.reduceEq, Int.reduceToNat, Int.reduceBEq, Int.reduceAdd, Int.reduceSub, Int.reduceNeg, reduceCtorEq, not_false_eq_true, true_implies, hS']
  refine callK_of (All_ok hE hF H1 s (by omega)) ?_
  rintro r H2 ⟨w, rfl, hsl, x2⟩
  have x12 : Ext H H2 := e1.trans x2
  simp (maxSteps := 5000000) (implicitDefEqProofs := false) only [go_sem, Nat.reduceLT, Nat.reduceBEq, Nat.reduceBNe, Nat.reduceAdd, Nat.reduceSub, Nat.reduceMul, Nat.reduceEqDiff, Nat.reduceLeDiff, Int.reduceLT, Int.reduceLE, Int.reduceEq, Int.reduceToNat, Int.reduceBEq, Int.reduceAdd, Int.reduceSub, Int.reduceNeg, reduceCtorEq, not_false_eq_true, true_implies]
  have hLl := gAllT_len s
  have hL0 : CovInv s 0 0 := ⟨by omega, by omega, .inl ⟨s.length + 1, by omega, rfl⟩⟩
  obtain ⟨so, hso⟩ : ∃ so, w = .slice so (gAllT s).1.length := by
    rcases hsl.isSl with ⟨h1, h2⟩ | ⟨j, h1, h2⟩
    · rw [h1, h2]; exact ⟨_, rfl⟩
    · exact ⟨_, h1⟩
  subst hso
  refine ACode.loopVX [(2, 2), (6, 10), (25, 83)] (fun m T H' => Ext H2 H' ∧ ∃ (i a : Nat), m = (gAllT s).1.length - i ∧ T 7 = .int .i64 i ∧ T 6 = .int .i64 a ∧ CovInv s i a) (fun T H' => Ext H2 H' ∧ ∃ a : Nat, T 6 = .int .i64 a ∧ CovInv s (gAllT s).1.length a) (gAllT s).1.length ?_ ?_ ?_
  · exact ⟨Ext.refl _, 0, 0, by omega, by simp (maxSteps := 5000000) (implicitDefEqProofs := false) only [go_sem, Nat.reduceLT, Nat.reduceBEq, Nat.reduceBNe, Nat.reduceAdd, Nat.reduceSub, Nat.reduceMul, Nat.reduceEqDiff, Nat.reduceLeDiff, Int.reduceLT, Int.reduceLE, Int.reduceEq, Int.reduceToNat, Int.reduceBEq, Int.reduceAdd, Int.reduceSub, Int.reduceNeg, reduceCtorEq], by simp (maxSteps := 5000000) (implicitDefEqProofs := false) only [go_sem, Nat.reduceLT, Nat.reduceBEq, Nat.reduceBNe, Nat.reduceAdd, Nat.reduceSub, Nat.reduceMul, Nat.reduceEqDiff, Nat.reduceLeDiff, Int.reduceLT, Int.reduceLE, Int.reduceEq, Int.reduceToNat, Int.reduceBEq, Int.reduceAdd, Int.reduceSub, Int.reduceNeg, reduceCtorEq], hL0⟩
  · rintro T0 hT0 m T H' hK ⟨hext, i, a, rfl, t7, t6, hinv⟩
    have t0 := hK 0 rfl; have t3 := hK 3 rfl; have t5 := hK 5 rfl
    simp (maxSteps := 5000000) (implicitDefEqProofs := false) only [go_sem, Nat.reduceLT, Nat.reduceBEq, Nat.reduceBNe, Nat.reduceAdd, Nat.reduceSub, Nat.reduceMul, Nat.reduceEqDiff, Nat.reduceLeDiff, Int.reduceLT, Int.reduceLE, Int.reduceEq, Int.reduceToNat, Int.reduceBEq, Int.reduceAdd, Int.reduceSub, Int.reduceNeg, reduceCtorEq, hT0] at t0 t3 t5
    clear hT0
    refine ACode.of_K _ ?_
    by_cases hlt : i < (gAllT s).1.length
    · have hlt' : (i : Int) < ((gAllT s).1.length : Int) := by omega
      simp (maxSteps := 5000000) (implicitDefEqProofs := false) only [go_sem, Nat.reduceLT, Nat.reduceBEq, Nat.reduceBNe, Nat.reduceAdd, Nat.reduceSub, Nat.reduceMul, Nat.reduceEqDiff, Nat.reduceLeDiff, Int.reduceLT, Int.reduceLE, Int.reduceEq, Int.reduceToNat, Int.reduceBEq, Int.reduceAdd, Int.reduceSub, Int.reduceNeg, reduceCtorEq, not_false_eq_true, true_implies, t0, t3, t5, t6, t7, hlt']
      obtain ⟨ci, ca, -⟩ := id hinv
      refine callK_val (Next_ok hE hF H' s a (by omega) ca) fun H3 e3 => ?_
      obtain ⟨c1, c2, c3, c4, c5, c6, c7⟩ := cov_step s i a hinv hlt
      generalize gNextT s a false = x at *
      obtain ⟨⟨k1, k2, k3, k5⟩, n, e⟩ := x
      simp only at c1 c2 c3 c4 c5 c6 c7
      subst c1
      obtain ⟨n, rfl⟩ : ∃ j : Nat, n = j := ⟨n.toNat, by omega⟩
      rw [Int.toNat_natCast] at c7
      obtain ⟨id, rfl, hid⟩ : ∃ id, so = some (id, 0) ∧ H2[id]? = some (.cells (tokC (gAllT s).1) 28 true) := by
        rcases hsl.isSl with ⟨h1, h2⟩ | ⟨j, h1, h2⟩
        · omega
        · cases h1; exact ⟨j, rfl, h2⟩
      have hid3 := e3.get (hext.get hid)
      have hrow := tokC_at _ _ _ c2
      have hrl : i * 4 + 4 ≤ (tokC (gAllT s).1).length := by rw [tokC_len]; omega
      generalize hH4 : H3 ++ [AObj.cells [.int .i64 k1, .str k2, .bool k3, .bool k5] 28 true] = H4
      have g4 : H4[H3.length]? = some (.cells [.int .i64 k1, .str k2, .bool k3, .bool k5] 28 true) := by rw [← hH4]; exact get_new0 _ _
      have hid4 : H4[id]? = some (.cells (tokC (gAllT s).1) 28 true) := by rw [← hH4]; exact (Ext.app _ _).get hid3
      have x4 : Ext H2 H4 := by rw [← hH4]; exact (hext.trans e3).add _
      have q1 : ¬ (n : Int) < (a : Int) := by omega
      have q2 : ¬ (s.length : Int) < (n : Int) := by omega
      have qw := wrap_sub1 (gAllT s).1.length (by omega) (by omega)
      have d1 : decide ((n : Int) < (a : Int)) = false := by simpa using q1
      have d2 : decide ((s.length : Int) < (n : Int)) = false := by simpa using q2
      have hst : Tryd.prog.stoodInHeld 28 = false := by kernel_rfl
      have hLp : 0 < (gAllT s).1.length := by omega
      have fin : CovInv s (i + 1) n → ∃ m, m < (gAllT s).1.length - i ∧ Ext H2 H4 ∧ ∃ (j b : Nat), m = (gAllT s).1.length - j ∧ ((i + 1 : Nat) : Int) = j ∧ (n : Int) = b ∧ CovInv s j b := fun h => ⟨_, by omega, x4, i + 1, n, rfl, rfl, rfl, h⟩
      have hw1 := wrap_add1 i (by omega)
      by_cases h6 : k1 = 6
      · subst h6
        have hna : (n : Int) = (a : Int) := c5.2 rfl
        obtain ⟨p1, p2⟩ := c6.1 rfl
        have b1 : ((n : Int) == (a : Int)) = true := by simpa using hna
        have b2 : ((i : Int) == (((gAllT s).1.length - 1 : Nat) : Int)) = true := by simp; omega
        have b3 : ((gAllT s).2.2 == 0) = true := by simpa using p2
        simp (maxSteps := 5000000) (implicitDefEqProofs := false) only [go_sem, Nat.reduceLT, Nat.reduceBEq, Nat.reduceBNe, Nat.reduceAdd, Nat.reduceSub, Nat.reduceMul, Nat.reduceEqDiff, Nat.reduceLeDiff, Int.reduceLT, Int.reduceLE, Int.reduceEq, Int.reduceToNat, Int.reduceBEq, Int.reduceAdd, Int.reduceSub, Int.reduceNeg, reduceCtorEq, not_false_eq_true, true_implies, tokA, t0, t3, t5, t6, t7, hH4]
        refine ACode.regionD [0, 1, 2, 3, 4, 5, 6, 7, 8, 9, 10, 11, 12, 13, 14, 15, 16, 17, 18, 19, 20, 21, 22, 23, 24, 25, 26, 27, 28, 29, 30, 31, 32, 33, 34, 35, 36, 37, 38, 39, 40, 41, 42, 43, 44] [] [] (fun H' => H' = H4) mixed (by kernel_rfl) rfl ?_
        have q2a : ¬ (s.length : Int) < (a : Int) := by omega
        simp (maxSteps := 5000000) (implicitDefEqProofs := false) only [go_sem, Nat.reduceLT, Nat.reduceBEq, Nat.reduceBNe, Nat.reduceAdd, Nat.reduceSub, Nat.reduceMul, Nat.reduceEqDiff, Nat.reduceLeDiff, Int.reduceLT, Int.reduceLE, Int.reduceEq, Int.reduceToNat, Int.reduceBEq, Int.reduceAdd, Int.reduceSub, Int.reduceNeg, reduceCtorEq, not_false_eq_true, true_implies, forall_eq, Nat.le_refl, tokA, t0, t3, t5, t6, t7, g4, hid4, hrow, hrl, qw, hw1, hst, hLp, String.reduceEq, beq_self_eq_true, Int.toNat_natCast, Int.natCast_nonneg, hlt', Keep_T hK, Int.lt_irrefl, b2, b3, hna, q2a]
        have := fin c7
        rw [hna] at this
        exact this
      · have b1 : ((n : Int) == (a : Int)) = false := by
          rw [beq_eq_false_iff_ne]
          exact fun h => h6 (c5.1 h)
        have b4 : (k1 == 6) = false := by simpa using h6
        by_cases b5 : i + 1 = (gAllT s).1.length
        · have b2 : ((i : Int) == (((gAllT s).1.length - 1 : Nat) : Int)) = true := by simp; omega
          have b3 : ((gAllT s).2.2 == 0) = false := by
            rw [beq_eq_false_iff_ne]
            exact fun h => h6 (c6.2 ⟨b5, h⟩)
          simp (maxSteps := 5000000) (implicitDefEqProofs := false) only [go_sem, Nat.reduceLT, Nat.reduceBEq, Nat.reduceBNe, Nat.reduceAdd, Nat.reduceSub, Nat.reduceMul, Nat.reduceEqDiff, Nat.reduceLeDiff, Int.reduceLT, Int.reduceLE, Int.reduceEq, Int.reduceToNat, Int.reduceBEq, Int.reduceAdd, Int.reduceSub, Int.reduceNeg, reduceCtorEq, not_false_eq_true, true_implies, tokA, t0, t3, t5, t6, t7, hH4]
          refine ACode.regionD [0, 1, 2, 3, 4, 5, 6, 7, 8, 9, 10, 11, 12, 13, 14, 15, 16, 17, 18, 19, 20, 21, 22, 23, 24, 25, 26, 27, 28, 29, 30, 31, 32, 33, 34, 35, 36, 37, 38, 39, 40, 41, 42, 43, 44] [] [] (fun H' => H' = H4) mixed (by kernel_rfl) rfl ?_
          simp (maxSteps := 5000000) (implicitDefEqProofs := false) only [go_sem, Nat.reduceLT, Nat.reduceBEq, Nat.reduceBNe, Nat.reduceAdd, Nat.reduceSub, Nat.reduceMul, Nat.reduceEqDiff, Nat.reduceLeDiff, Int.reduceLT, Int.reduceLE, Int.reduceEq, Int.reduceToNat, Int.reduceBEq, Int.reduceAdd, Int.reduceSub, Int.reduceNeg, reduceCtorEq, not_false_eq_true, true_implies, forall_eq, Nat.le_refl, tokA, t0, t3, t5, t6, t7, g4, hid4, hrow, hrl, qw, hw1, hst, hLp, String.reduceEq, beq_self_eq_true, Int.toNat_natCast, Int.natCast_nonneg, hlt', Keep_T hK, q1, q2, b1, b2, b3, b4]
          exact fin c7
        · have b2 : ((i : Int) == (((gAllT s).1.length - 1 : Nat) : Int)) = false := by
            rw [beq_eq_false_iff_ne]; omega
          simp (maxSteps := 5000000) (implicitDefEqProofs := false) only [go_sem, Nat.reduceLT, Nat.reduceBEq, Nat.reduceBNe, Nat.reduceAdd, Nat.reduceSub, Nat.reduceMul, Nat.reduceEqDiff, Nat.reduceLeDiff, Int.reduceLT, Int.reduceLE, Int.reduceEq, Int.reduceToNat, Int.reduceBEq, Int.reduceAdd, Int.reduceSub, Int.reduceNeg, reduceCtorEq, not_false_eq_true, true_implies, tokA, t0, t3, t5, t6, t7, hH4]
          refine ACode.regionD [0, 1, 2, 3, 4, 5, 6, 7, 8, 9, 10, 11, 12, 13, 14, 15, 16, 17, 18, 19, 20, 21, 22, 23, 24, 25, 26, 27, 28, 29, 30, 31, 32, 33, 34, 35, 36, 37, 38, 39, 40, 41, 42, 43, 44] [] [] (fun H' => H' = H4) mixed (by kernel_rfl) rfl ?_
          simp (maxSteps := 5000000) (implicitDefEqProofs := false) only [go_sem, Nat.reduceLT, Nat.reduceBEq, Nat.reduceBNe, Nat.reduceAdd, Nat.reduceSub, Nat.reduceMul, Nat.reduceEqDiff, Nat.reduceLeDiff, Int.reduceLT, Int.reduceLE, Int.reduceEq, Int.reduceToNat, Int.reduceBEq, Int.reduceAdd, Int.reduceSub, Int.reduceNeg, reduceCtorEq, not_false_eq_true, true_implies, forall_eq, Nat.le_refl, tokA, t0, t3, t5, t6, t7, g4, hid4, hrow, hrl, qw, hw1, hst, hLp, String.reduceEq, beq_self_eq_true, Int.toNat_natCast, Int.natCast_nonneg, hlt', Keep_T hK, q1, q2, b1, b2, b4]
          exact fin c7
    · have hi : i = (gAllT s).1.length := by obtain ⟨ci, -, -⟩ := id hinv; omega
      have hlt' : ¬ (i : Int) < ((gAllT s).1.length : Int) := by omega
      subst hi
      simp (maxSteps := 5000000) (implicitDefEqProofs := false) only [go_sem, Nat.reduceLT, Nat.reduceBEq, Nat.reduceBNe, Nat.reduceAdd, Nat.reduceSub, Nat.reduceMul, Nat.reduceEqDiff, Nat.reduceLeDiff, Int.reduceLT, Int.reduceLE, Int.reduceEq, Int.reduceToNat, Int.reduceBEq, Int.reduceAdd, Int.reduceSub, Int.reduceNeg, reduceCtorEq, not_false_eq_true, true_implies, t0, t3, t5, t6, t7, hlt', Keep_T hK]
      exact ⟨hext, a, rfl, hinv⟩
  · rintro T0 hT0 T H' hK ⟨hext, a, t6, hinv⟩
    have t0 := hK 0 rfl; have t4 := hK 4 rfl; have t5 := hK 5 rfl
    simp (maxSteps := 5000000) (implicitDefEqProofs := false) only [go_sem, Nat.reduceLT, Nat.reduceBEq, Nat.reduceBNe, Nat.reduceAdd, Nat.reduceSub, Nat.reduceMul, Nat.reduceEqDiff, Nat.reduceLeDiff, Int.reduceLT, Int.reduceLE, Int.reduceEq, Int.reduceToNat, Int.reduceBEq, Int.reduceAdd, Int.reduceSub, Int.reduceNeg, reduceCtorEq, hT0] at t0 t4 t5
    clear hT0
    obtain ⟨c1, c2⟩ := cov_end s a hinv
    have b1 : ((a : Int) == ((gAllT s).2.1 : Int)) = true := by simp; omega
    rcases c2 with c2 | c2
    · have b2 : ((gAllT s).2.2 == 0) = false := by simpa using c2
      simp (maxSteps := 5000000) (implicitDefEqProofs := false) only [go_sem, Nat.reduceLT, Nat.reduceBEq, Nat.reduceBNe, Nat.reduceAdd, Nat.reduceSub, Nat.reduceMul, Nat.reduceEqDiff, Nat.reduceLeDiff, Int.reduceLT, Int.reduceLE, Int.reduceEq, Int.reduceToNat, Int.reduceBEq, Int.reduceAdd, Int.reduceSub, Int.reduceNeg, reduceCtorEq, not_false_eq_true, true_implies, t0, t4, t5, t6, b1, b2]
      exact x12.trans hext
    · have b2 : ((a : Int) == (s.length : Int)) = true := by simp; omega
      cases b3 : ((gAllT s).2.2 == 0)
      all_goals
        simp (maxSteps := 5000000) (implicitDefEqProofs := false) only [go_sem, Nat.reduceLT, Nat.reduceBEq, Nat.reduceBNe, Nat.reduceAdd, Nat.reduceSub, Nat.reduceMul, Nat.reduceEqDiff, Nat.reduceLeDiff, Int.reduceLT, Int.reduceLE, Int.reduceEq, Int.reduceToNat, Int.reduceBEq, Int.reduceAdd, Int.reduceSub, Int.reduceNeg, reduceCtorEq, not_false_eq_true, true_implies, t0, t4, t5, t6, b1, b2, b3]
        exact x12.trans hext
end Go.AL
