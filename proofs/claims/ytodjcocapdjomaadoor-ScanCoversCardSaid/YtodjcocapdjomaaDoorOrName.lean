/- name: plain names, and stretches that may be names. -/
import Derived.Test.YtodjcocapdjomaaDoorOrChar
namespace Go.AL
open Go Go.RowKit Go.Proofs
set_option linter.unusedVariables false
set_option linter.unusedSimpArgs false
set_option maxRecDepth 20000
set_option maxHeartbeats 2000000
variable {E : World → Prop}
def plainL (l : List (Nat × Int)) : Bool := l.all fun p => !((p.1 == 0 && !gStart p.2) || !gPart p.2)
def gPlain (s : List UInt8) : Bool := plainL (runesP s) && !(s == [])
theorem Plain_ok (H : AHeap) (s : List UInt8) (hS : s.length ≤ 1000000000000) : ACalls E Tryd.prog 45 [.str s] H (fun v H' => v = .bool (gPlain s) ∧ Ext H H') := by
  refine ACalls.of_code (N := 25) (ts := [2]) Tryd.func45 rfl rfl rfl rfl (by simp) ?_
  refine ACode.of_K _ ?_
  simp (maxSteps := 5000000) (implicitDefEqProofs := false) only [go_sem, Nat.reduceLT, Nat.reduceBEq, Nat.reduceBNe, Nat.reduceAdd, Nat.reduceSub, Nat.reduceMul, Nat.reduceEqDiff, Nat.reduceLeDiff, Int.reduceLT, Int.reduceLE, Int.reduceEq, Int.reduceToNat, Int.reduceBEq, Int.reduceAdd, Int.reduceSub, Int.reduceNeg, reduceCtorEq]
  refine ACode.loop (fun m T H' => ∃ p : Nat, s.length ≤ p + m ∧ T 0 = .str s ∧ T 6 = .ptr (some (H.length, 0)) ∧ H'[H.length]? = some (.iter s p) ∧ Ext H H' ∧ gPlain s = (plainL (runesFrom s m p) && !(s == []))) s.length
    ⟨0, by omega, by simp (maxSteps := 5000000) (implicitDefEqProofs := false) only [go_sem, Nat.reduceLT, Nat.reduceBEq, Nat.reduceBNe, Nat.reduceAdd, Nat.reduceSub, Nat.reduceMul, Nat.reduceEqDiff, Nat.reduceLeDiff, Int.reduceLT, Int.reduceLE, Int.reduceEq, Int.reduceToNat, Int.reduceBEq, Int.reduceAdd, Int.reduceSub, Int.reduceNeg, reduceCtorEq], by simp (maxSteps := 5000000) (implicitDefEqProofs := false) only [go_sem, Nat.reduceLT, Nat.reduceBEq, Nat.reduceBNe, Nat.reduceAdd, Nat.reduceSub, Nat.reduceMul, Nat.reduceEqDiff, Nat.reduceLeDiff, Int.reduceLT, Int.reduceLE, Int.reduceEq, Int.reduceToNat, Int.reduceBEq, Int.reduceAdd, Int.reduceSub, Int.reduceNeg, reduceCtorEq], get_new0 H _, Ext.app _ _, rfl⟩ ?_
  rintro m T H' ⟨p, hm, t0, t6, hit, hext, hg⟩
  refine ACode.of_K _ ?_
  by_cases hlt : p < s.length
  · obtain ⟨m, rfl⟩ : ∃ k, m = k + 1 := ⟨m - 1, by omega⟩
    rw [runesFrom_cons hlt, plainL, List.all_cons] at hg
    have hpos := dec_pos s p
    simp (maxSteps := 5000000) (implicitDefEqProofs := false) only [go_sem, Nat.reduceLT, Nat.reduceBEq, Nat.reduceBNe, Nat.reduceAdd, Nat.reduceSub, Nat.reduceMul, Nat.reduceEqDiff, Nat.reduceLeDiff, Int.reduceLT, Int.reduceLE, Int.reduceEq, Int.reduceToNat, Int.reduceBEq, Int.reduceAdd, Int.reduceSub, Int.reduceNeg, reduceCtorEq, t0, t6, anext_t hit hlt]
    have hx1 : Ext H (H'.set H.length (.iter s (p + (dec s p).2))) := hext.iter _
    have hi1 : (H'.set H.length (.iter s (p + (dec s p).2)))[H.length]? = some (.iter s (p + (dec s p).2)) := iter_set hit
    generalize H'.set H.length (.iter s (p + (dec s p).2)) = H1 at hx1 hi1 ⊢
    generalize ((dec s p).1 : Int) = r at hg ⊢
    change gPlain s = (!((p == 0 && !gStart r) || !gPart r) && plainL (runesFrom s m (p + (dec s p).2)) && !(s == [])) at hg
    refine ⟨fun h0 => ?_, fun h0 => ?_⟩
    · have hp0 : p = 0 := by omega
      refine callK_val (Start_ok H1 r) fun H2 e2 => ?_
      simp (maxSteps := 5000000) (implicitDefEqProofs := false) only [go_sem, Nat.reduceLT, Nat.reduceBEq, Nat.reduceBNe, Nat.reduceAdd, Nat.reduceSub, Nat.reduceMul, Nat.reduceEqDiff, Nat.reduceLeDiff, Int.reduceLT, Int.reduceLE, Int.reduceEq, Int.reduceToNat, Int.reduceBEq, Int.reduceAdd, Int.reduceSub, Int.reduceNeg, reduceCtorEq, t0, t6]
      refine ⟨fun hs0 => ⟨?_, hx1.trans e2⟩, fun hs1 => ?_⟩
      · rw [hg]; simp [hp0, hs0]
      refine callK_val (Part_ok H2 r) fun H3 e3 => ?_
      simp (maxSteps := 5000000) (implicitDefEqProofs := false) only [go_sem, Nat.reduceLT, Nat.reduceBEq, Nat.reduceBNe, Nat.reduceAdd, Nat.reduceSub, Nat.reduceMul, Nat.reduceEqDiff, Nat.reduceLeDiff, Int.reduceLT, Int.reduceLE, Int.reduceEq, Int.reduceToNat, Int.reduceBEq, Int.reduceAdd, Int.reduceSub, Int.reduceNeg, reduceCtorEq, t0, t6]
      refine ⟨fun hq => ⟨?_, (hx1.trans e2).trans e3⟩, fun hq => ⟨m, by omega, p + (dec s p).2, by omega, e3.get (e2.get hi1), (hx1.trans e2).trans e3, ?_⟩⟩
      · rw [hg]; simp [hq]
      · rw [hg]; simp [hs1, hq]
    · have hp0 : (p == 0) = false := by simp; omega
      refine callK_val (Part_ok H1 r) fun H3 e3 => ?_
      simp (maxSteps := 5000000) (implicitDefEqProofs := false) only [go_sem, Nat.reduceLT, Nat.reduceBEq, Nat.reduceBNe, Nat.reduceAdd, Nat.reduceSub, Nat.reduceMul, Nat.reduceEqDiff, Nat.reduceLeDiff, Int.reduceLT, Int.reduceLE, Int.reduceEq, Int.reduceToNat, Int.reduceBEq, Int.reduceAdd, Int.reduceSub, Int.reduceNeg, reduceCtorEq, t0, t6]
      refine ⟨fun hq => ⟨?_, hx1.trans e3⟩, fun hq => ⟨m, by omega, p + (dec s p).2, by omega, e3.get hi1, hx1.trans e3, ?_⟩⟩
      · rw [hg]; simp [hq]
      · rw [hg]; simp [hp0, hq]
  · simp (maxSteps := 5000000) (implicitDefEqProofs := false) only [go_sem, Nat.reduceLT, Nat.reduceBEq, Nat.reduceBNe, Nat.reduceAdd, Nat.reduceSub, Nat.reduceMul, Nat.reduceEqDiff, Nat.reduceLeDiff, Int.reduceLT, Int.reduceLE, Int.reduceEq, Int.reduceToNat, Int.reduceBEq, Int.reduceAdd, Int.reduceSub, Int.reduceNeg, reduceCtorEq, t0, t6, anext_f hit hlt]
    rw [runesFrom_nil hlt] at hg
    refine ⟨?_, hext⟩
    rw [hg]
    simp [plainL]
/-- how long a stretch is of which each rune may stand in a name, or is a colon -/
def cutL (n : Nat) : List (Nat × Int) → Nat
  | [] => n
  | (i, r) :: l => if (!(r == 58) && !gPart r) then i else cutL n l
def gCut (s : List UInt8) (a : Nat) : List UInt8 × Nat := ((s.drop a).take (cutL (s.length - a) (runesP (s.drop a))), a + cutL (s.length - a) (runesP (s.drop a)))
theorem Cut_ok (H : AHeap) (s : List UInt8) (a : Nat) (hS : s.length ≤ 1000000000000) (ha : a ≤ s.length) : ACalls E Tryd.prog 44 [.str s, .int .i64 a] H (fun v H' => v = .tuple [.str (gCut s a).1, .int .i64 (gCut s a).2] ∧ Ext H H') := by
  refine ACalls.of_code (N := 46) (ts := [4, 5]) Tryd.func44 rfl rfl rfl rfl (by simp) ?_
  refine ACode.of_K _ ?_
  have h1 : ¬ (a : Int) < 0 := by omega
  have h2 : ¬ (s.length : Int) < (a : Int) := by omega
  have h3 : (a : Int) ≤ (s.length : Int) := by omega
  simp (maxSteps := 5000000) (implicitDefEqProofs := false) only [go_sem, Nat.reduceLT, Nat.reduceBEq, Nat.reduceBNe, Nat.reduceAdd, Nat.reduceSub, Nat.reduceMul, Nat.reduceEqDiff, Nat.reduceLeDiff, Int.reduceLT, Int.reduceLE, Int.reduceEq, Int.reduceToNat, Int.reduceBEq, Int.reduceAdd, Int.reduceSub, Int.reduceNeg, reduceCtorEq, h1, h2, h3]
  refine ACode.loop (fun m T H' => ∃ p : Nat, (s.drop a).length ≤ p + m ∧ T 0 = .str s ∧ T 1 = .int .i64 a ∧ T 20 = .ptr (some (H.length, 0)) ∧ H'[H.length]? = some (.iter (s.drop a) p) ∧ Ext H H' ∧
      cutL (s.length - a) (runesP (s.drop a)) = cutL (s.length - a) (runesFrom (s.drop a) m p)) (s.drop a).length
    ⟨0, by omega, by simp (maxSteps := 5000000) (implicitDefEqProofs := false) only [go_sem, Nat.reduceLT, Nat.reduceBEq, Nat.reduceBNe, Nat.reduceAdd, Nat.reduceSub, Nat.reduceMul, Nat.reduceEqDiff, Nat.reduceLeDiff, Int.reduceLT, Int.reduceLE, Int.reduceEq, Int.reduceToNat, Int.reduceBEq, Int.reduceAdd, Int.reduceSub, Int.reduceNeg, reduceCtorEq], by simp (maxSteps := 5000000) (implicitDefEqProofs := false) only [go_sem, Nat.reduceLT, Nat.reduceBEq, Nat.reduceBNe, Nat.reduceAdd, Nat.reduceSub, Nat.reduceMul, Nat.reduceEqDiff, Nat.reduceLeDiff, Int.reduceLT, Int.reduceLE, Int.reduceEq, Int.reduceToNat, Int.reduceBEq, Int.reduceAdd, Int.reduceSub, Int.reduceNeg, reduceCtorEq], by simp (maxSteps := 5000000) (implicitDefEqProofs := false) only [go_sem, Nat.reduceLT, Nat.reduceBEq, Nat.reduceBNe, Nat.reduceAdd, Nat.reduceSub, Nat.reduceMul, Nat.reduceEqDiff, Nat.reduceLeDiff, Int.reduceLT, Int.reduceLE, Int.reduceEq, Int.reduceToNat, Int.reduceBEq, Int.reduceAdd, Int.reduceSub, Int.reduceNeg, reduceCtorEq], get_new0 H _, Ext.app _ _, rfl⟩ ?_
  rintro m T H' ⟨p, hm, t0, t1, t20, hit, hext, hg⟩
  refine ACode.of_K _ ?_
  have hld : (s.drop a).length = s.length - a := by simp
  by_cases hlt : p < (s.drop a).length
  · obtain ⟨m, rfl⟩ : ∃ k, m = k + 1 := ⟨m - 1, by omega⟩
    rw [runesFrom_cons hlt, cutL] at hg
    have hpos := dec_pos (s.drop a) p
    have hw : IntKind.i64.wrap ((a : Int) + (p : Int)) = ((a + p : Nat) : Int) := by rw [wrap64_id (by omega) (by omega)]; rfl
    have h4 : ((a + p : Nat) : Int) ≤ (s.length : Int) := by omega
    have h5 : (a : Int) ≤ ((a + p : Nat) : Int) := by omega
    simp (maxSteps := 5000000) (implicitDefEqProofs := false) only [go_sem, Nat.reduceLT, Nat.reduceBEq, Nat.reduceBNe, Nat.reduceAdd, Nat.reduceSub, Nat.reduceMul, Nat.reduceEqDiff, Nat.reduceLeDiff, Int.reduceLT, Int.reduceLE, Int.reduceEq, Int.reduceToNat, Int.reduceBEq, Int.reduceAdd, Int.reduceSub, Int.reduceNeg, reduceCtorEq, t0, t1, t20, anext_t hit hlt, hw, h4, h5]
    have hx1 : Ext H (H'.set H.length (.iter (s.drop a) (p + (dec (s.drop a) p).2))) := hext.iter _
    have hi1 : (H'.set H.length (.iter (s.drop a) (p + (dec (s.drop a) p).2)))[H.length]? = some (.iter (s.drop a) (p + (dec (s.drop a) p).2)) := iter_set hit
    generalize H'.set H.length (.iter (s.drop a) (p + (dec (s.drop a) p).2)) = H1 at hx1 hi1 ⊢
    generalize ((dec (s.drop a) p).1 : Int) = r at hg ⊢
    refine ⟨fun h58 => ?_, fun h58 => ⟨m, by omega, p + (dec (s.drop a) p).2, by omega, hi1, hx1, ?_⟩⟩
    · refine callK_val (Part_ok H1 r) fun H3 e3 => ?_
      simp (maxSteps := 5000000) (implicitDefEqProofs := false) only [go_sem, Nat.reduceLT, Nat.reduceBEq, Nat.reduceBNe, Nat.reduceAdd, Nat.reduceSub, Nat.reduceMul, Nat.reduceEqDiff, Nat.reduceLeDiff, Int.reduceLT, Int.reduceLE, Int.reduceEq, Int.reduceToNat, Int.reduceBEq, Int.reduceAdd, Int.reduceSub, Int.reduceNeg, reduceCtorEq, t0, t1, t20, hw, h3, h4, h5]
      refine ⟨fun hq => ⟨⟨?_, ?_⟩, hx1.trans e3⟩, fun hq => ⟨m, by omega, p + (dec (s.drop a) p).2, by omega, e3.get hi1, hx1.trans e3, ?_⟩⟩
      · have : cutL (s.length - a) (runesP (s.drop a)) = p := by rw [hg]; simp [h58, hq]
        simp only [gCut, this]
        rw [List.drop_take]
        congr 1
        omega
      · have : cutL (s.length - a) (runesP (s.drop a)) = p := by rw [hg]; simp [h58, hq]
        simp only [gCut, this]
      · rw [hg]; simp [hq]
    · rw [hg]; simp [h58]
  · simp (maxSteps := 5000000) (implicitDefEqProofs := false) only [go_sem, Nat.reduceLT, Nat.reduceBEq, Nat.reduceBNe, Nat.reduceAdd, Nat.reduceSub, Nat.reduceMul, Nat.reduceEqDiff, Nat.reduceLeDiff, Int.reduceLT, Int.reduceLE, Int.reduceEq, Int.reduceToNat, Int.reduceBEq, Int.reduceAdd, Int.reduceSub, Int.reduceNeg, reduceCtorEq, t0, t1, t20, anext_f hit hlt, h3]
    rw [runesFrom_nil hlt] at hg
    have hc : cutL (s.length - a) (runesP (s.drop a)) = s.length - a := hg
    refine ⟨⟨?_, ?_⟩, hext⟩
    · simp only [gCut, hc]
      rw [List.take_of_length_le (by omega)]
    · simp only [gCut, hc]; omega
end Go.AL
