/- utf.All: all runes of a text. -/
import Derived.Test.YtodjcocapdjomaaDoorOrUtf
namespace Go.AL
open Go Go.RowKit Go.Proofs
set_option linter.unusedVariables false
set_option linter.unusedSimpArgs false
set_option maxRecDepth 20000
set_option maxHeartbeats 2000000
variable {E : World → Prop}
def runeC (l : List Int) : List AV := l.map (.int .i32)
/-- the runes of s from a on -/
def uAll (s : List UInt8) : Nat → Nat → List Int → List Int × Nat × Int
  | 0, a, acc => (acc, a, 0)
  | f + 1, a, acc => if a < s.length then
      if (gRune s a).2.2 = 0 then uAll s f (a + (gRune s a).2.1.toNat) (acc ++ [(gRune s a).1]) else (acc, a, (gRune s a).2.2)
    else (acc, a, 0)
def gAll (s : List UInt8) : List Int × Nat × Int := uAll s s.length 0 []
theorem gRune_pos (s : List UInt8) (a : Nat) : 0 ≤ (gRune s a).2.1 := by
  unfold gRune
  split
  · simp
  · split
    · simp
    · rename_i b hb
      suffices H : ∀ f n, 0 ≤ (rFind s (a : Int).toNat b.toNat f n).2.1 from H 4 0
      intro f
      induction f with
      | zero => intro n; simp [rFind]
      | succ f ih =>
        intro n
        unfold rFind
        split
        · unfold rOne rEnd
          repeat' split
          all_goals first | (simp; done) | (simp only; omega)
        · exact ih _
theorem uAll_ok (H : AHeap) (s : List UInt8) (hS : s.length ≤ 1000000000000) : ACalls E Tryd.prog 26 [.str s] H (fun v H' => ∃ w, v = .tuple [w, .int .i64 (gAll s).2.1, .int .i64 (gAll s).2.2] ∧ Sl Tryd.prog H.length H' 21 true w (gAll s).1.length (runeC (gAll s).1) ∧ Ext H H') := by
  refine ACalls.of_code (N := 35) (ts := [2, 3, 4]) Tryd.func26 rfl rfl rfl rfl (by simp) ?_
  refine ACode.of_K _ ?_
  simp (maxSteps := 5000000) (implicitDefEqProofs := false) only [go_sem, Nat.reduceLT, Nat.reduceBEq, Nat.reduceBNe, Nat.reduceAdd, Nat.reduceSub, Nat.reduceMul, Nat.reduceEqDiff, Nat.reduceLeDiff, Int.reduceLT, Int.reduceLE, Int.reduceEq, Int.reduceToNat, Int.reduceBEq, Int.reduceAdd, Int.reduceSub, Int.reduceNeg, reduceCtorEq]
  refine ACode.loop (fun m T H' => ∃ (a : Nat) (acc : List Int) (v : AV), s.length ≤ a + m ∧ a ≤ s.length ∧ acc.length ≤ a ∧ T 0 = .str s ∧ T 5 = v ∧ T 6 = .int .i64 a ∧ Sl Tryd.prog H.length H' 21 true v acc.length (runeC acc) ∧ Ext H H' ∧ gAll s = uAll s m a acc) s.length
    ⟨0, [], .slice none 0, by omega, by omega, by simp, by simp (maxSteps := 5000000) (implicitDefEqProofs := false) only [go_sem, Nat.reduceLT, Nat.reduceBEq, Nat.reduceBNe, Nat.reduceAdd, Nat.reduceSub, Nat.reduceMul, Nat.reduceEqDiff, Nat.reduceLeDiff, Int.reduceLT, Int.reduceLE, Int.reduceEq, Int.reduceToNat, Int.reduceBEq, Int.reduceAdd, Int.reduceSub, Int.reduceNeg, reduceCtorEq], by simp (maxSteps := 5000000) (implicitDefEqProofs := false) only [go_sem, Nat.reduceLT, Nat.reduceBEq, Nat.reduceBNe, Nat.reduceAdd, Nat.reduceSub, Nat.reduceMul, Nat.reduceEqDiff, Nat.reduceLeDiff, Int.reduceLT, Int.reduceLE, Int.reduceEq, Int.reduceToNat, Int.reduceBEq, Int.reduceAdd, Int.reduceSub, Int.reduceNeg, reduceCtorEq], by simp (maxSteps := 5000000) (implicitDefEqProofs := false) only [go_sem, Nat.reduceLT, Nat.reduceBEq, Nat.reduceBNe, Nat.reduceAdd, Nat.reduceSub, Nat.reduceMul, Nat.reduceEqDiff, Nat.reduceLeDiff, Int.reduceLT, Int.reduceLE, Int.reduceEq, Int.reduceToNat, Int.reduceBEq, Int.reduceAdd, Int.reduceSub, Int.reduceNeg, reduceCtorEq], Sl.nil _ _ _ _ _, Ext.refl H, rfl⟩ ?_
  rintro m T H' ⟨a, acc, v, hm, ha, hacc, t0, t5, t6, hsl, hext, hall⟩
  refine ACode.of_K _ ?_
  by_cases hlt : a < s.length
  · have hlt' : (a : Int) < (s.length : Int) := by omega
    obtain ⟨m, rfl⟩ : ∃ k, m = k + 1 := ⟨m - 1, by omega⟩
    unfold uAll at hall
    rw [if_pos hlt] at hall
    simp (maxSteps := 5000000) (implicitDefEqProofs := false) only [go_sem, Nat.reduceLT, Nat.reduceBEq, Nat.reduceBNe, Nat.reduceAdd, Nat.reduceSub, Nat.reduceMul, Nat.reduceEqDiff, Nat.reduceLeDiff, Int.reduceLT, Int.reduceLE, Int.reduceEq, Int.reduceToNat, Int.reduceBEq, Int.reduceAdd, Int.reduceSub, Int.reduceNeg, reduceCtorEq, t0, t5, t6, hlt']
    refine callK_val (Rune_ok H' s a hS) fun H1 e1 => ?_
    simp (maxSteps := 5000000) (implicitDefEqProofs := false) only [go_sem, Nat.reduceLT, Nat.reduceBEq, Nat.reduceBNe, Nat.reduceAdd, Nat.reduceSub, Nat.reduceMul, Nat.reduceEqDiff, Nat.reduceLeDiff, Int.reduceLT, Int.reduceLE, Int.reduceEq, Int.reduceToNat, Int.reduceBEq, Int.reduceAdd, Int.reduceSub, Int.reduceNeg, reduceCtorEq, t0, t5, t6, hlt', t3]
    have hsl1 := hsl.ext e1
    refine ⟨fun hne => ?_, fun heq => ?_⟩
    · rw [if_neg hne] at hall
      rw [hall]
      exact ⟨_, ⟨rfl, rfl, rfl⟩, hsl1, hext.trans e1⟩
    · rw [if_pos heq] at hall
      have hle := gRune_ok_le s a heq
      have hpos := gRune_pos s a
      obtain ⟨v', H2, happ, hsl2, hx2, -⟩ := append1 (t := 51) (xs := [.int .i32 (gRune s a).1]) slo_51 eld_51 hsl1 (hext.trans e1).len (by rw [sz_21]; rfl) rfl (by rw [by_21]; omega) (by omega)
      have hw : IntKind.i64.wrap ((a : Int) + (gRune s a).2.1) = ((a + (gRune s a).2.1.toNat : Nat) : Int) := by rw [wrap64_id (by omega) (by omega)]; omega
      rw [happ]
      simp (maxSteps := 5000000) (implicitDefEqProofs := false) only [go_sem, Nat.reduceLT, Nat.reduceBEq, Nat.reduceBNe, Nat.reduceAdd, Nat.reduceSub, Nat.reduceMul, Nat.reduceEqDiff, Nat.reduceLeDiff, Int.reduceLT, Int.reduceLE, Int.reduceEq, Int.reduceToNat, Int.reduceBEq, Int.reduceAdd, Int.reduceSub, Int.reduceNeg, reduceCtorEq, t0, t5, t6, hlt', hw]
      refine ⟨m, by omega, _, acc ++ [(gRune s a).1], v', by omega, by omega, by simp; omega, rfl, rfl, ?_, hx2 H (hext.trans e1) (Nat.le_refl _), hall⟩
      simpa [runeC] using hsl2
  · have hlt' : ¬ (a : Int) < (s.length : Int) := by omega
    simp (maxSteps := 5000000) (implicitDefEqProofs := false) only [go_sem, Nat.reduceLT, Nat.reduceBEq, Nat.reduceBNe, Nat.reduceAdd, Nat.reduceSub, Nat.reduceMul, Nat.reduceEqDiff, Nat.reduceLeDiff, Int.reduceLT, Int.reduceLE, Int.reduceEq, Int.reduceToNat, Int.reduceBEq, Int.reduceAdd, Int.reduceSub, Int.reduceNeg, reduceCtorEq, t0, t5, t6, hlt']
    have : gAll s = (acc, a, 0) := by
      rw [hall]
      cases m <;> simp [uAll, hlt]
    rw [this]
    exact ⟨_, ⟨rfl, rfl, rfl⟩, hsl, hext⟩
end Go.AL
