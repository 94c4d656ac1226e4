/- scan: declarations, instructions, what may stand. -/
import Derived.Test.YtodjcocapdjomaaDoorOrScanC
namespace Go.AL
open Go Go.RowKit Go.Proofs
set_option linter.unusedVariables false
set_option linter.unusedSimpArgs false
set_option maxRecDepth 20000
set_option maxHeartbeats 2000000
variable {E : World → Prop}
theorem gField_len (s word : List UInt8) (vs : List (List UInt8)) : (gField s word vs).1.length ≤ s.length := by
  unfold gField
  dsimp only
  split
  · exact Nat.le_refl _
  · split
    · exact Nat.le_refl _
    · rename_i q tl h
      have h1 := trimPrefix_len (Lib.trimLeftS s blanksL) (word ++ [61])
      have h2 := trimLeft_len s blanksL
      rw [h] at h1
      have h3 := cut2_len tl [q]
      simp only [List.length_cons] at h1
      repeat' split
      all_goals first | exact Nat.le_refl _ | (simp only; omega)
def wVersion : List UInt8 := [118, 101, 114, 115, 105, 111, 110]
def wEncoding : List UInt8 := [101, 110, 99, 111, 100, 105, 110, 103]
def wStandalone : List UInt8 := [115, 116, 97, 110, 100, 97, 108, 111, 110, 101]
def gDeclared (s : List UInt8) : Bool :=
  let a := gField s wVersion [[49, 46, 48]]
  let b := gField a.1 wEncoding [[117, 116, 102, 45, 56]]
  let c := gField b.1 wStandalone [[121, 101, 115], [110, 111]]
  a.2 && (Lib.trimS c.1 blanksL == [])
theorem declared_ok (hE : ∀ w, E w → LibE w) (hF : ∀ w, E w → FoldE w) (H : AHeap) (s : List UInt8) (hS : s.length ≤ 4000000000) : ACalls E Tryd.prog 47 [.str s] H (fun v H' => v = .bool (gDeclared s) ∧ Ext H H') := by
  refine ACalls.of_code (N := 28) (ts := [2]) Tryd.func47 rfl rfl rfl rfl (by simp) ?_
  refine ACode.of_K _ ?_
  simp (maxSteps := 5000000) (implicitDefEqProofs := false) only [go_sem, Nat.reduceLT, Nat.reduceBEq, Nat.reduceBNe, Nat.reduceAdd, Nat.reduceSub, Nat.reduceMul, Nat.reduceEqDiff, Nat.reduceLeDiff, Int.reduceLT, Int.reduceLE, Int.reduceEq, Int.reduceToNat, Int.reduceBEq, Int.reduceAdd, Int.reduceSub, Int.reduceNeg, reduceCtorEq]
  refine callK_val (sField_ok hE hF _ s wVersion [[49, 46, 48]] H.length _ _ (get_new0 H _) hS (by decide) (by decide) (by decide)) fun H1 e1 => ?_
  have x1 : Ext H H1 := (Ext.app _ _).trans e1
  have l1 := gField_len s wVersion [[49, 46, 48]]
  have hg : gDeclared s = ((gField s wVersion [[49, 46, 48]]).2 && (Lib.trimS (gField (gField (gField s wVersion [[49, 46, 48]]).1 wEncoding [[117, 116, 102, 45, 56]]).1 wStandalone [[121, 101, 115], [110, 111]]).1 blanksL == [])) := rfl
  generalize gField s wVersion [[49, 46, 48]] = a at *
  simp (maxSteps := 5000000) (implicitDefEqProofs := false) only [go_sem, Nat.reduceLT, Nat.reduceBEq, Nat.reduceBNe, Nat.reduceAdd, Nat.reduceSub, Nat.reduceMul, Nat.reduceEqDiff, Nat.reduceLeDiff, Int.reduceLT, Int.reduceLE, Int.reduceEq, Int.reduceToNat, Int.reduceBEq, Int.reduceAdd, Int.reduceSub, Int.reduceNeg, reduceCtorEq]
  refine callK_val (sField_ok hE hF _ a.1 wEncoding [[117, 116, 102, 45, 56]] H1.length _ _ (get_new0 H1 _) (by omega) (by decide) (by decide) (by decide)) fun H2 e2 => ?_
  have x2 : Ext H H2 := x1.trans ((Ext.app _ _).trans e2)
  have l2 := gField_len a.1 wEncoding [[117, 116, 102, 45, 56]]
  generalize gField a.1 wEncoding [[117, 116, 102, 45, 56]] = b at *
  simp (maxSteps := 5000000) (implicitDefEqProofs := false) only [go_sem, Nat.reduceLT, Nat.reduceBEq, Nat.reduceBNe, Nat.reduceAdd, Nat.reduceSub, Nat.reduceMul, Nat.reduceEqDiff, Nat.reduceLeDiff, Int.reduceLT, Int.reduceLE, Int.reduceEq, Int.reduceToNat, Int.reduceBEq, Int.reduceAdd, Int.reduceSub, Int.reduceNeg, reduceCtorEq]
  refine callK_val (sField_ok hE hF _ b.1 wStandalone [[121, 101, 115], [110, 111]] H2.length _ _ (get_new0 H2 _) (by omega) (by decide) (by decide) (by decide)) fun H3 e3 => ?_
  have x3 : Ext H H3 := x2.trans ((Ext.app _ _).trans e3)
  have l3 := gField_len b.1 wStandalone [[121, 101, 115], [110, 111]]
  generalize gField b.1 wStandalone [[121, 101, 115], [110, 111]] = c at *
  rw [hg]
  obtain ⟨a1, a2⟩ := a
  cases a2
  · simp (maxSteps := 5000000) (implicitDefEqProofs := false) only [go_sem, Nat.reduceLT, Nat.reduceBEq, Nat.reduceBNe, Nat.reduceAdd, Nat.reduceSub, Nat.reduceMul, Nat.reduceEqDiff, Nat.reduceLeDiff, Int.reduceLT, Int.reduceLE, Int.reduceEq, Int.reduceToNat, Int.reduceBEq, Int.reduceAdd, Int.reduceSub, Int.reduceNeg, reduceCtorEq]
    exact x3
  · simp (maxSteps := 5000000) (implicitDefEqProofs := false) only [go_sem, Nat.reduceLT, Nat.reduceBEq, Nat.reduceBNe, Nat.reduceAdd, Nat.reduceSub, Nat.reduceMul, Nat.reduceEqDiff, Nat.reduceLeDiff, Int.reduceLT, Int.reduceLE, Int.reduceEq, Int.reduceToNat, Int.reduceBEq, Int.reduceAdd, Int.reduceSub, Int.reduceNeg, reduceCtorEq]
    refine callK_same (Trim_ok E H3 c.1 (by simp only at *; omega)) ?_
    simp (maxSteps := 5000000) (implicitDefEqProofs := false) only [go_sem, Nat.reduceLT, Nat.reduceBEq, Nat.reduceBNe, Nat.reduceAdd, Nat.reduceSub, Nat.reduceMul, Nat.reduceEqDiff, Nat.reduceLeDiff, Int.reduceLT, Int.reduceLE, Int.reduceEq, Int.reduceToNat, Int.reduceBEq, Int.reduceAdd, Int.reduceSub, Int.reduceNeg, reduceCtorEq]
    exact x3
def gInstr (s : List UInt8) (first : Bool) : Tok × Int :=
  let target := (gCut s 0).1
  let at_ := (gCut s 0).2
  if gPlain target = false ∨ (at_ < s.length ∧ Lib.contains blanksL ((s.take (at_ + 1)).drop at_) = false) then (noTok, 4)
  else if efA target [120, 109, 108] = true ∧ (first = false ∨ target ≠ [120, 109, 108] ∨ gDeclared (s.drop at_) = false) then (noTok, 12) else ((5, s, false, false), 0)
theorem cutL_le (n : Nat) : ∀ (l : List (Nat × Int)), (∀ p ∈ l, p.1 ≤ n) → cutL n l ≤ n
  | [], _ => Nat.le_refl _
  | (i, r) :: l, h => by
    unfold cutL
    split
    · exact h _ (List.mem_cons_self ..)
    · exact cutL_le n l fun p hp => h p (List.mem_cons_of_mem _ hp)
theorem runesFrom_le (s : List UInt8) : ∀ (m p : Nat), ∀ q ∈ runesFrom s m p, q.1 ≤ s.length
  | 0, p, q, h => by simp [runesFrom] at h
  | m + 1, p, q, h => by
    rw [runesFrom] at h
    split at h
    · simp only [List.mem_cons] at h
      rcases h with rfl | h
      · simp only; omega
      · exact runesFrom_le s m _ q h
    · simp at h
theorem gCut_le (s : List UInt8) (a : Nat) (h : a ≤ s.length) : (gCut s a).2 ≤ s.length ∧ (gCut s a).1.length ≤ s.length := by
  have : cutL (s.length - a) (runesP (s.drop a)) ≤ s.length - a := cutL_le _ _ fun p hp => by
    have := runesFrom_le (s.drop a) _ _ p hp
    rw [List.length_drop] at this
    exact this
  unfold gCut
  simp only [List.length_take, List.length_drop]
  omega
theorem instr_ok (hE : ∀ w, E w → LibE w) (hF : ∀ w, E w → FoldE w) (H : AHeap) (s : List UInt8) (b : Bool) (hS : s.length ≤ 4000000000) : ACalls E Tryd.prog 23 [.str s, .bool b] H (fun v H' => v = .tuple [tokA (gInstr s b).1, .int .i64 (gInstr s b).2] ∧ Ext H H') := by
  refine ACalls.of_codeC (N := 54) (rs := [.cell 4 28, .tmp 5]) Tryd.func23 rfl rfl rfl rfl (by simp) ?_
  refine ACode.of_K _ ?_
  simp (maxSteps := 5000000) (implicitDefEqProofs := false) only [go_sem, Nat.reduceLT, Nat.reduceBEq, Nat.reduceBNe, Nat.reduceAdd, Nat.reduceSub, Nat.reduceMul, Nat.reduceEqDiff, Nat.reduceLeDiff, Int.reduceLT, Int.reduceLE, Int.reduceEq, Int.reduceToNat, Int.reduceBEq, Int.reduceAdd, Int.reduceSub, Int.reduceNeg, reduceCtorEq]
  refine callK_val (Cut_ok _ s 0 (by omega) (Nat.zero_le _)) fun H1 e1 => ?_
  have h4 := e1.get (get_new0 H _)
  have x1 : Ext H H1 := (Ext.app _ _).trans e1
  obtain ⟨hc1, hc2⟩ := gCut_le s 0 (Nat.zero_le _)
  have hg : gInstr s b = if gPlain (gCut s 0).1 = false ∨ ((gCut s 0).2 < s.length ∧ Lib.contains blanksL ((s.take ((gCut s 0).2 + 1)).drop (gCut s 0).2) = false) then (noTok, 4)
    else if efA (gCut s 0).1 [120, 109, 108] = true ∧ (b = false ∨ (gCut s 0).1 ≠ [120, 109, 108] ∨ gDeclared (s.drop (gCut s 0).2) = false) then (noTok, 12) else ((5, s, false, false), 0) := rfl
  generalize gCut s 0 = x at *
  obtain ⟨target, a⟩ := x
  simp only at hc1 hc2 hg
  simp (maxSteps := 5000000) (implicitDefEqProofs := false) only [go_sem, Nat.reduceLT, Nat.reduceBEq, Nat.reduceBNe, Nat.reduceAdd, Nat.reduceSub, Nat.reduceMul, Nat.reduceEqDiff, Nat.reduceLeDiff, Int.reduceLT, Int.reduceLE, Int.reduceEq, Int.reduceToNat, Int.reduceBEq, Int.reduceAdd, Int.reduceSub, Int.reduceNeg, reduceCtorEq]
  refine callK_val (Plain_ok H1 target (by omega)) fun H2 e2 => ?_
  have x2 := x1.trans e2
  have h5 := e2.get h4
  have s5 : ∀ x, (H2.set H.length x)[H.length]? = some x := fun x => iter_set h5
  cases hp : gPlain target
  · rw [if_pos (.inl hp)] at hg
    rw [hg]
    simp (maxSteps := 5000000) (implicitDefEqProofs := false) only [go_sem, Nat.reduceLT, Nat.reduceBEq, Nat.reduceBNe, Nat.reduceAdd, Nat.reduceSub, Nat.reduceMul, Nat.reduceEqDiff, Nat.reduceLeDiff, Int.reduceLT, Int.reduceLE, Int.reduceEq, Int.reduceToNat, Int.reduceBEq, Int.reduceAdd, Int.reduceSub, Int.reduceNeg, reduceCtorEq, not_false_eq_true, true_implies, h5, s5]
    exact ⟨by first | rfl | exact ⟨rfl, rfl⟩ | exact ⟨rfl, rfl, rfl⟩, x2.iter _⟩
  have ha2 : (a : Int) ≤ (s.length : Int) := by omega
  by_cases ha : a < s.length
  · have ha' : (a : Int) < (s.length : Int) := by omega
    have hw := wrap_add1 a (by omega)
    have hle : ((a + 1 : Nat) : Int) ≤ (s.length : Int) := by omega
    have hle2 : (a : Int) ≤ ((a + 1 : Nat) : Int) := by omega
    simp (maxSteps := 5000000) (implicitDefEqProofs := false) only [go_sem, Nat.reduceLT, Nat.reduceBEq, Nat.reduceBNe, Nat.reduceAdd, Nat.reduceSub, Nat.reduceMul, Nat.reduceEqDiff, Nat.reduceLeDiff, Int.reduceLT, Int.reduceLE, Int.reduceEq, Int.reduceToNat, Int.reduceBEq, Int.reduceAdd, Int.reduceSub, Int.reduceNeg, reduceCtorEq, not_false_eq_true, true_implies, ha', hw, hle, hle2, Int.toNat_natCast, Int.natCast_nonneg]
    refine callK_same (Contains_ok E hE H2 blanksL ((s.take (a + 1)).drop a) (by decide)) ?_
    cases hc : Lib.contains blanksL ((s.take (a + 1)).drop a)
    · rw [if_pos (.inr ⟨ha, hc⟩)] at hg
      simp (maxSteps := 5000000) (implicitDefEqProofs := false) only [go_sem, Nat.reduceLT, Nat.reduceBEq, Nat.reduceBNe, Nat.reduceAdd, Nat.reduceSub, Nat.reduceMul, Nat.reduceEqDiff, Nat.reduceLeDiff, Int.reduceLT, Int.reduceLE, Int.reduceEq, Int.reduceToNat, Int.reduceBEq, Int.reduceAdd, Int.reduceSub, Int.reduceNeg, reduceCtorEq, not_false_eq_true, true_implies, h5, s5, hg]
      exact ⟨by first | rfl | exact ⟨rfl, rfl⟩ | exact ⟨rfl, rfl, rfl⟩, x2.iter _⟩
    · rw [if_neg (fun h => h.elim (fun h => by rw [hp] at h; cases h) (fun h => by rw [hc] at h; cases h.2))] at hg
      simp (maxSteps := 5000000) (implicitDefEqProofs := false) only [go_sem, Nat.reduceLT, Nat.reduceBEq, Nat.reduceBNe, Nat.reduceAdd, Nat.reduceSub, Nat.reduceMul, Nat.reduceEqDiff, Nat.reduceLeDiff, Int.reduceLT, Int.reduceLE, Int.reduceEq, Int.reduceToNat, Int.reduceBEq, Int.reduceAdd, Int.reduceSub, Int.reduceNeg, reduceCtorEq, not_false_eq_true, true_implies]
      refine callK_val (EqualFold_ok E hF H2 target [120, 109, 108] (by omega) (by decide) (by decide)) fun H3 e3 => ?_
      have h6 := e3.get h5
      have s6 : ∀ x, (H3.set H.length x)[H.length]? = some x := fun x => iter_set h6
      have x3 := x2.trans e3
      cases hef : efA target [120, 109, 108]
      · rw [if_neg (by rw [hef]; simp)] at hg
        simp (maxSteps := 5000000) (implicitDefEqProofs := false) only [go_sem, Nat.reduceLT, Nat.reduceBEq, Nat.reduceBNe, Nat.reduceAdd, Nat.reduceSub, Nat.reduceMul, Nat.reduceEqDiff, Nat.reduceLeDiff, Int.reduceLT, Int.reduceLE, Int.reduceEq, Int.reduceToNat, Int.reduceBEq, Int.reduceAdd, Int.reduceSub, Int.reduceNeg, reduceCtorEq, not_false_eq_true, true_implies, h6, s6, hg]
        exact ⟨by first | rfl | exact ⟨rfl, rfl⟩ | exact ⟨rfl, rfl, rfl⟩, x3.iter _⟩
      · cases b
        · rw [if_pos ⟨hef, .inl rfl⟩] at hg
          simp (maxSteps := 5000000) (implicitDefEqProofs := false) only [go_sem, Nat.reduceLT, Nat.reduceBEq, Nat.reduceBNe, Nat.reduceAdd, Nat.reduceSub, Nat.reduceMul, Nat.reduceEqDiff, Nat.reduceLeDiff, Int.reduceLT, Int.reduceLE, Int.reduceEq, Int.reduceToNat, Int.reduceBEq, Int.reduceAdd, Int.reduceSub, Int.reduceNeg, reduceCtorEq, not_false_eq_true, true_implies, h6, s6, hg]
          exact ⟨by first | rfl | exact ⟨rfl, rfl⟩ | exact ⟨rfl, rfl, rfl⟩, x3.iter _⟩
        · by_cases hx : target = [120, 109, 108]
          · simp (maxSteps := 5000000) (implicitDefEqProofs := false) only [go_sem, Nat.reduceLT, Nat.reduceBEq, Nat.reduceBNe, Nat.reduceAdd, Nat.reduceSub, Nat.reduceMul, Nat.reduceEqDiff, Nat.reduceLeDiff, Int.reduceLT, Int.reduceLE, Int.reduceEq, Int.reduceToNat, Int.reduceBEq, Int.reduceAdd, Int.reduceSub, Int.reduceNeg, reduceCtorEq, not_false_eq_true, true_implies, hx, ha2, Int.toNat_natCast, Int.natCast_nonneg]
            refine callK_val (declared_ok hE hF H3 (s.drop a) (by rw [List.length_drop]; omega)) fun H4 e4 => ?_
            have h7 := e4.get h6
            have s7 : ∀ x, (H4.set H.length x)[H.length]? = some x := fun x => iter_set h7
            have x4 := x3.trans e4
            cases hd : gDeclared (s.drop a)
            · rw [if_pos ⟨hef, .inr (.inr hd)⟩] at hg
              simp (maxSteps := 5000000) (implicitDefEqProofs := false) only [go_sem, Nat.reduceLT, Nat.reduceBEq, Nat.reduceBNe, Nat.reduceAdd, Nat.reduceSub, Nat.reduceMul, Nat.reduceEqDiff, Nat.reduceLeDiff, Int.reduceLT, Int.reduceLE, Int.reduceEq, Int.reduceToNat, Int.reduceBEq, Int.reduceAdd, Int.reduceSub, Int.reduceNeg, reduceCtorEq, not_false_eq_true, true_implies, h7, s7, hg]
              exact ⟨by first | rfl | exact ⟨rfl, rfl⟩ | exact ⟨rfl, rfl, rfl⟩, x4.iter _⟩
            · rw [if_neg (fun h => h.2.elim (by simp) (fun h => h.elim (fun h => h hx) (fun h => by rw [hd] at h; cases h)))] at hg
              simp (maxSteps := 5000000) (implicitDefEqProofs := false) only [go_sem, Nat.reduceLT, Nat.reduceBEq, Nat.reduceBNe, Nat.reduceAdd, Nat.reduceSub, Nat.reduceMul, Nat.reduceEqDiff, Nat.reduceLeDiff, Int.reduceLT, Int.reduceLE, Int.reduceEq, Int.reduceToNat, Int.reduceBEq, Int.reduceAdd, Int.reduceSub, Int.reduceNeg, reduceCtorEq, not_false_eq_true, true_implies, h7, s7, hg]
              exact ⟨by first | rfl | exact ⟨rfl, rfl⟩ | exact ⟨rfl, rfl, rfl⟩, x4.iter _⟩
          · rw [if_pos ⟨hef, .inr (.inl hx)⟩] at hg
            have hxb : (target == [120, 109, 108]) = false := by simpa using hx
            simp (maxSteps := 5000000) (implicitDefEqProofs := false) only [go_sem, Nat.reduceLT, Nat.reduceBEq, Nat.reduceBNe, Nat.reduceAdd, Nat.reduceSub, Nat.reduceMul, Nat.reduceEqDiff, Nat.reduceLeDiff, Int.reduceLT, Int.reduceLE, Int.reduceEq, Int.reduceToNat, Int.reduceBEq, Int.reduceAdd, Int.reduceSub, Int.reduceNeg, reduceCtorEq, not_false_eq_true, true_implies, hxb, h6, s6, hg]
            exact ⟨by first | rfl | exact ⟨rfl, rfl⟩ | exact ⟨rfl, rfl, rfl⟩, x3.iter _⟩
  · have ha' : ¬ (a : Int) < (s.length : Int) := by omega
    rw [if_neg (fun h => h.elim (fun h => by rw [hp] at h; cases h) (fun h => ha h.1))] at hg
    simp (maxSteps := 5000000) (implicitDefEqProofs := false) only [go_sem, Nat.reduceLT, Nat.reduceBEq, Nat.reduceBNe, Nat.reduceAdd, Nat.reduceSub, Nat.reduceMul, Nat.reduceEqDiff, Nat.reduceLeDiff, Int.reduceLT, Int.reduceLE, Int.reduceEq, Int.reduceToNat, Int.reduceBEq, Int.reduceAdd, Int.reduceSub, Int.reduceNeg, reduceCtorEq, not_false_eq_true, true_implies, ha']
    refine callK_val (EqualFold_ok E hF H2 target [120, 109, 108] (by omega) (by decide) (by decide)) fun H3 e3 => ?_
    have h6 := e3.get h5
    have s6 : ∀ x, (H3.set H.length x)[H.length]? = some x := fun x => iter_set h6
    have x3 := x2.trans e3
    cases hef : efA target [120, 109, 108]
    · rw [if_neg (by rw [hef]; simp)] at hg
      simp (maxSteps := 5000000) (implicitDefEqProofs := false) only [go_sem, Nat.reduceLT, Nat.reduceBEq, Nat.reduceBNe, Nat.reduceAdd, Nat.reduceSub, Nat.reduceMul, Nat.reduceEqDiff, Nat.reduceLeDiff, Int.reduceLT, Int.reduceLE, Int.reduceEq, Int.reduceToNat, Int.reduceBEq, Int.reduceAdd, Int.reduceSub, Int.reduceNeg, reduceCtorEq, not_false_eq_true, true_implies, h6, s6, hg]
      exact ⟨by first | rfl | exact ⟨rfl, rfl⟩ | exact ⟨rfl, rfl, rfl⟩, x3.iter _⟩
    · cases b
      · rw [if_pos ⟨hef, .inl rfl⟩] at hg
        simp (maxSteps := 5000000) (implicitDefEqProofs := false) only [go_sem, Nat.reduceLT, Nat.reduceBEq, Nat.reduceBNe, Nat.reduceAdd, Nat.reduceSub, Nat.reduceMul, Nat.reduceEqDiff, Nat.reduceLeDiff, Int.reduceLT, Int.reduceLE, Int.reduceEq, Int.reduceToNat, Int.reduceBEq, Int.reduceAdd, Int.reduceSub, Int.reduceNeg, reduceCtorEq, not_false_eq_true, true_implies, h6, s6, hg]
        exact ⟨by first | rfl | exact ⟨rfl, rfl⟩ | exact ⟨rfl, rfl, rfl⟩, x3.iter _⟩
      · by_cases hx : target = [120, 109, 108]
        · simp (maxSteps := 5000000) (implicitDefEqProofs := false) only [go_sem, Nat.reduceLT, Nat.reduceBEq, Nat.reduceBNe, Nat.reduceAdd, Nat.reduceSub, Nat.reduceMul, Nat.reduceEqDiff, Nat.reduceLeDiff, Int.reduceLT, Int.reduceLE, Int.reduceEq, Int.reduceToNat, Int.reduceBEq, Int.reduceAdd, Int.reduceSub, Int.reduceNeg, reduceCtorEq, not_false_eq_true, true_implies, hx, ha2, Int.toNat_natCast, Int.natCast_nonneg]
          refine callK_val (declared_ok hE hF H3 (s.drop a) (by rw [List.length_drop]; omega)) fun H4 e4 => ?_
          have h7 := e4.get h6
          have s7 : ∀ x, (H4.set H.length x)[H.length]? = some x := fun x => iter_set h7
          have x4 := x3.trans e4
          cases hd : gDeclared (s.drop a)
          · rw [if_pos ⟨hef, .inr (.inr hd)⟩] at hg
            simp (maxSteps := 5000000) (implicitDefEqProofs := false) only [go_sem, Nat.reduceLT, Nat.reduceBEq, Nat.reduceBNe, Nat.reduceAdd, Nat.reduceSub, Nat.reduceMul, Nat.reduceEqDiff, Nat.reduceLeDiff, Int.reduceLT, Int.reduceLE, Int.reduceEq, Int.reduceToNat, Int.reduceBEq, Int.reduceAdd, Int.reduceSub, Int.reduceNeg, reduceCtorEq, not_false_eq_true, true_implies, h7, s7, hg]
            exact ⟨by first | rfl | exact ⟨rfl, rfl⟩ | exact ⟨rfl, rfl, rfl⟩, x4.iter _⟩
          · rw [if_neg (fun h => h.2.elim (by simp) (fun h => h.elim (fun h => h hx) (fun h => by rw [hd] at h; cases h)))] at hg
            simp (maxSteps := 5000000) (implicitDefEqProofs := false) only [go_sem, Nat.reduceLT, Nat.reduceBEq, Nat.reduceBNe, Nat.reduceAdd, Nat.reduceSub, Nat.reduceMul, Nat.reduceEqDiff, Nat.reduceLeDiff, Int.reduceLT, Int.reduceLE, Int.reduceEq, Int.reduceToNat, Int.reduceBEq, Int.reduceAdd, Int.reduceSub, Int.reduceNeg, reduceCtorEq, not_false_eq_true, true_implies, h7, s7, hg]
            exact ⟨by first | rfl | exact ⟨rfl, rfl⟩ | exact ⟨rfl, rfl, rfl⟩, x4.iter _⟩
        · rw [if_pos ⟨hef, .inr (.inl hx)⟩] at hg
          have hxb : (target == [120, 109, 108]) = false := by simpa using hx
          simp (maxSteps := 5000000) (implicitDefEqProofs := false) only [go_sem, Nat.reduceLT, Nat.reduceBEq, Nat.reduceBNe, Nat.reduceAdd, Nat.reduceSub, Nat.reduceMul, Nat.reduceEqDiff, Nat.reduceLeDiff, Int.reduceLT, Int.reduceLE, Int.reduceEq, Int.reduceToNat, Int.reduceBEq, Int.reduceAdd, Int.reduceSub, Int.reduceNeg, reduceCtorEq, not_false_eq_true, true_implies, hxb, h6, s6, hg]
          exact ⟨by first | rfl | exact ⟨rfl, rfl⟩ | exact ⟨rfl, rfl, rfl⟩, x3.iter _⟩
theorem runeCells_runeC : ∀ (l : List Int), runeCells? (runeC l) = some l
  | [] => rfl
  | b :: l => by
    have := runeCells_runeC l
    simp only [runeC, List.map_cons, runeCells?, runeCell] at this ⊢
    rw [this]
theorem encR_len (n : Int) : (encR n).length ≤ 4 := by
  unfold encR Utf8.encode
  dsimp only
  generalize (if Utf8.valid n = true then n.toNat else Utf8.runeError) = c
  split
  · simp
  · split
    · simp
    · split <;> simp
theorem uAll_len (s : List UInt8) : ∀ (m a : Nat) (acc : List Int), (uAll s m a acc).1.length ≤ acc.length + m
  | 0, a, acc => by simp [uAll]
  | m + 1, a, acc => by
    unfold uAll
    repeat' split
    · have := uAll_len s m (a + (gRune s a).2.1.toNat) (acc ++ [(gRune s a).1])
      rw [List.length_append, List.length_singleton] at this
      omega
    · simp only; omega
    · simp only; omega
theorem flat_len (l : List Int) : (l.flatMap encR).length ≤ 4 * l.length := by
  induction l with
  | nil => simp
  | cons a l ih => have := encR_len a; rw [List.flatMap_cons, List.length_append, List.length_cons]; omega
def gRight (s : List UInt8) : Int := if (gAll s).2.2 ≠ 0 then 2 else if gChars ((gAll s).1.flatMap encR) = false then 3 else 0
theorem right_ok (H : AHeap) (s : List UInt8) (hS : s.length ≤ 4000000000) : ACalls E Tryd.prog 14 [.str s] H (fun v H' => v = .int .i64 (gRight s) ∧ Ext H H') := by
  refine ACalls.of_code (N := 21) (ts := [2]) Tryd.func14 rfl rfl rfl rfl (by simp) ?_
  refine ACode.of_K _ ?_
  simp (maxSteps := 5000000) (implicitDefEqProofs := false) only [go_sem, Nat.reduceLT, Nat.reduceBEq, Nat.reduceBNe, Nat.reduceAdd, Nat.reduceSub, Nat.reduceMul, Nat.reduceEqDiff, Nat.reduceLeDiff, Int.reduceLT, Int.reduceLE, Int.reduceEq, Int.reduceToNat, Int.reduceBEq, Int.reduceAdd, Int.reduceSub, Int.reduceNeg, reduceCtorEq]
  refine callK_of (uAll_ok H s (by omega)) ?_
  rintro r H1 ⟨w, rfl, hsl, x1⟩
  have hg : gRight s = if (gAll s).2.2 ≠ 0 then 2 else if gChars ((gAll s).1.flatMap encR) = false then 3 else 0 := rfl
  have hlen : ((gAll s).1.flatMap encR).length ≤ 1000000000000 := by
    have h1 := flat_len (gAll s).1
    have h2 := uAll_len s s.length 0 []
    change (gAll s).1.length ≤ _ at h2
    simp only [List.length_nil] at h2
    omega
  generalize gAll s = x at *
  obtain ⟨l, n, e⟩ := x
  simp only at hsl hg hlen
  by_cases he : e = 0
  · subst he
    rw [if_neg (by simp)] at hg
    rcases hsl.isSl with ⟨rfl, e2⟩ | ⟨j, rfl, e2⟩
    · have hl0 : l = [] := List.eq_nil_of_length_eq_zero e2
      simp (maxSteps := 5000000) (implicitDefEqProofs := false) only [go_sem, Nat.reduceLT, Nat.reduceBEq, Nat.reduceBNe, Nat.reduceAdd, Nat.reduceSub, Nat.reduceMul, Nat.reduceEqDiff, Nat.reduceLeDiff, Int.reduceLT, Int.reduceLE, Int.reduceEq, Int.reduceToNat, Int.reduceBEq, Int.reduceAdd, Int.reduceSub, Int.reduceNeg, reduceCtorEq, not_false_eq_true, true_implies]
      rw [show ([] : List UInt8) = l.flatMap encR by rw [hl0]; rfl]
      refine callK_val (CharAll_ok _ (l.flatMap encR) H1.length _ _ (get_new0 H1 _) (by omega)) fun H2 e2 => ?_
      have x2 : Ext H H2 := x1.trans ((Ext.app _ _).trans e2)
      cases hc : gChars (l.flatMap encR)
      · rw [if_pos hc] at hg
        simp (maxSteps := 5000000) (implicitDefEqProofs := false) only [go_sem, Nat.reduceLT, Nat.reduceBEq, Nat.reduceBNe, Nat.reduceAdd, Nat.reduceSub, Nat.reduceMul, Nat.reduceEqDiff, Nat.reduceLeDiff, Int.reduceLT, Int.reduceLE, Int.reduceEq, Int.reduceToNat, Int.reduceBEq, Int.reduceAdd, Int.reduceSub, Int.reduceNeg, reduceCtorEq, not_false_eq_true, true_implies, hg]
        exact x2
      · rw [if_neg (by rw [hc]; simp)] at hg
        simp (maxSteps := 5000000) (implicitDefEqProofs := false) only [go_sem, Nat.reduceLT, Nat.reduceBEq, Nat.reduceBNe, Nat.reduceAdd, Nat.reduceSub, Nat.reduceMul, Nat.reduceEqDiff, Nat.reduceLeDiff, Int.reduceLT, Int.reduceLE, Int.reduceEq, Int.reduceToNat, Int.reduceBEq, Int.reduceAdd, Int.reduceSub, Int.reduceNeg, reduceCtorEq, not_false_eq_true, true_implies, hg]
        exact x2
    · have hrl : (runeC l).length = l.length := by simp [runeC]
      have hrt : (runeC l).take l.length = runeC l := by rw [← hrl, List.take_length]
      simp (maxSteps := 5000000) (implicitDefEqProofs := false) only [go_sem, Nat.reduceLT, Nat.reduceBEq, Nat.reduceBNe, Nat.reduceAdd, Nat.reduceSub, Nat.reduceMul, Nat.reduceEqDiff, Nat.reduceLeDiff, Int.reduceLT, Int.reduceLE, Int.reduceEq, Int.reduceToNat, Int.reduceBEq, Int.reduceAdd, Int.reduceSub, Int.reduceNeg, reduceCtorEq, not_false_eq_true, true_implies, e2, hrl, Nat.le_refl, hrt, runeCells_runeC]
      refine callK_val (CharAll_ok _ (l.flatMap encR) H1.length _ _ (get_new0 H1 _) (by omega)) fun H2 e2 => ?_
      have x2 : Ext H H2 := x1.trans ((Ext.app _ _).trans e2)
      cases hc : gChars (l.flatMap encR)
      · rw [if_pos hc] at hg
        simp (maxSteps := 5000000) (implicitDefEqProofs := false) only [go_sem, Nat.reduceLT, Nat.reduceBEq, Nat.reduceBNe, Nat.reduceAdd, Nat.reduceSub, Nat.reduceMul, Nat.reduceEqDiff, Nat.reduceLeDiff, Int.reduceLT, Int.reduceLE, Int.reduceEq, Int.reduceToNat, Int.reduceBEq, Int.reduceAdd, Int.reduceSub, Int.reduceNeg, reduceCtorEq, not_false_eq_true, true_implies, hg]
        exact x2
      · rw [if_neg (by rw [hc]; simp)] at hg
        simp (maxSteps := 5000000) (implicitDefEqProofs := false) only [go_sem, Nat.reduceLT, Nat.reduceBEq, Nat.reduceBNe, Nat.reduceAdd, Nat.reduceSub, Nat.reduceMul, Nat.reduceEqDiff, Nat.reduceLeDiff, Int.reduceLT, Int.reduceLE, Int.reduceEq, Int.reduceToNat, Int.reduceBEq, Int.reduceAdd, Int.reduceSub, Int.reduceNeg, reduceCtorEq, not_false_eq_true, true_implies, hg]
        exact x2
  · rw [if_pos he] at hg
    simp (maxSteps := 5000000) (implicitDefEqProofs := false) only [go_sem, Nat.reduceLT, Nat.reduceBEq, Nat.reduceBNe, Nat.reduceAdd, Nat.reduceSub, Nat.reduceMul, Nat.reduceEqDiff, Nat.reduceLeDiff, Int.reduceLT, Int.reduceLE, Int.reduceEq, Int.reduceToNat, Int.reduceBEq, Int.reduceAdd, Int.reduceSub, Int.reduceNeg, reduceCtorEq, not_false_eq_true, true_implies, he, hg]
    exact x1
end Go.AL
