/- char: the classes of runes. -/
import Derived.Test.YtodjcocapdjomaaDoorOrCharIn
namespace Go.AL
open Go Go.RowKit Go.Proofs
set_option linter.unusedVariables false
set_option linter.unusedSimpArgs false
set_option maxRecDepth 20000
set_option maxHeartbeats 2000000
variable {E : World → Prop}
def gBlank (r : Int) : Bool := r == 9 || r == 10 || r == 13 || r == 32
def charL : List (Int × Int) := [(0x20, 0xd7ff), (0xe000, 0xfffd), (0x10000, 0x10ffff)]
def startL : List (Int × Int) := [(65, 90), (97, 122), (95, 95), (0xc0, 0xd6), (0xd8, 0xf6), (0xf8, 0x2ff), (0x370, 0x37d), (0x37f, 0x1fff), (0x200c, 0x200d), (0x2070, 0x218f), (0x2c00, 0x2fef), (0x3001, 0xd7ff), (0xf900, 0xfdcf), (0xfdf0, 0xfffd), (0x10000, 0xeffff)]
def partL : List (Int × Int) := [(45, 46), (48, 57), (0xb7, 0xb7), (0x300, 0x36f), (0x203f, 0x2040)]
def gChar (r : Int) : Bool := gBlank r || inSpans r charL
def gStart (r : Int) : Bool := inSpans r startL
def gPart (r : Int) : Bool := gStart r || inSpans r partL
theorem Blank_ok (H : AHeap) (r : Int) : ACalls E Tryd.prog 52 [.int .i32 r] H (fun v H' => v = .bool (gBlank r) ∧ Ext H H') := by
  refine ACalls.of_code (N := 9) (ts := [2]) Tryd.func52 rfl rfl rfl rfl (by simp) ?_
  refine ACode.of_K _ ?_
  simp (maxSteps := 5000000) (implicitDefEqProofs := false) only [go_sem, Nat.reduceLT, Nat.reduceBEq, Nat.reduceBNe, Nat.reduceAdd, Nat.reduceSub, Nat.reduceMul, Nat.reduceEqDiff, Nat.reduceLeDiff, Int.reduceLT, Int.reduceLE, Int.reduceEq, Int.reduceToNat, Int.reduceBEq, Int.reduceAdd, Int.reduceSub, Int.reduceNeg, reduceCtorEq]
  have := Ext.refl H
  unfold gBlank
  by_cases a : r = 9 <;> by_cases b : r = 10 <;> by_cases c : r = 13 <;> by_cases d : r = 32 <;> simp [a, b, c, d, this]
theorem Char_ok (H : AHeap) (r : Int) : ACalls E Tryd.prog 28 [.int .i32 r] H (fun v H' => v = .bool (gChar r) ∧ Ext H H') := by
  refine ACalls.of_code (N := 13) (ts := [2]) Tryd.func28 rfl rfl rfl rfl (by simp) ?_
  refine ACode.of_K _ ?_
  simp (maxSteps := 5000000) (implicitDefEqProofs := false) only [go_sem, Nat.reduceLT, Nat.reduceBEq, Nat.reduceBNe, Nat.reduceAdd, Nat.reduceSub, Nat.reduceMul, Nat.reduceEqDiff, Nat.reduceLeDiff, Int.reduceLT, Int.reduceLE, Int.reduceEq, Int.reduceToNat, Int.reduceBEq, Int.reduceAdd, Int.reduceSub, Int.reduceNeg, reduceCtorEq]
  refine callK_val (Blank_ok H r) fun H1 e1 => ?_
  simp (maxSteps := 5000000) (implicitDefEqProofs := false) only [go_sem, Nat.reduceLT, Nat.reduceBEq, Nat.reduceBNe, Nat.reduceAdd, Nat.reduceSub, Nat.reduceMul, Nat.reduceEqDiff, Nat.reduceLeDiff, Int.reduceLT, Int.reduceLE, Int.reduceEq, Int.reduceToNat, Int.reduceBEq, Int.reduceAdd, Int.reduceSub, Int.reduceNeg, reduceCtorEq]
  refine ⟨fun hb => ⟨by simp [gChar, hb], e1⟩, fun hb => ?_⟩
  refine callK_val (in_ok E _ r H1.length charL _ _ (get_new0 H1 _) (by decide)) fun H2 e2 => ?_
  simp (maxSteps := 5000000) (implicitDefEqProofs := false) only [go_sem, Nat.reduceLT, Nat.reduceBEq, Nat.reduceBNe, Nat.reduceAdd, Nat.reduceSub, Nat.reduceMul, Nat.reduceEqDiff, Nat.reduceLeDiff, Int.reduceLT, Int.reduceLE, Int.reduceEq, Int.reduceToNat, Int.reduceBEq, Int.reduceAdd, Int.reduceSub, Int.reduceNeg, reduceCtorEq]
  exact ⟨by simp [gChar, hb], e1.trans ((Ext.app _ _).trans e2)⟩
theorem Start_ok (H : AHeap) (r : Int) : ACalls E Tryd.prog 71 [.int .i32 r] H (fun v H' => v = .bool (gStart r) ∧ Ext H H') := by
  refine ACalls.of_code (N := 21) (ts := [2]) Tryd.func71 rfl rfl rfl rfl (by simp) ?_
  refine ACode.of_K _ ?_
  simp (maxSteps := 5000000) (implicitDefEqProofs := false) only [go_sem, Nat.reduceLT, Nat.reduceBEq, Nat.reduceBNe, Nat.reduceAdd, Nat.reduceSub, Nat.reduceMul, Nat.reduceEqDiff, Nat.reduceLeDiff, Int.reduceLT, Int.reduceLE, Int.reduceEq, Int.reduceToNat, Int.reduceBEq, Int.reduceAdd, Int.reduceSub, Int.reduceNeg, reduceCtorEq]
  refine callK_val (in_ok E _ r H.length startL _ _ (get_new0 H _) (by decide)) fun H2 e2 => ?_
  simp (maxSteps := 5000000) (implicitDefEqProofs := false) only [go_sem, Nat.reduceLT, Nat.reduceBEq, Nat.reduceBNe, Nat.reduceAdd, Nat.reduceSub, Nat.reduceMul, Nat.reduceEqDiff, Nat.reduceLeDiff, Int.reduceLT, Int.reduceLE, Int.reduceEq, Int.reduceToNat, Int.reduceBEq, Int.reduceAdd, Int.reduceSub, Int.reduceNeg, reduceCtorEq]
  exact ⟨by simp [gStart], (Ext.app _ _).trans e2⟩
theorem Part_ok (H : AHeap) (r : Int) : ACalls E Tryd.prog 70 [.int .i32 r] H (fun v H' => v = .bool (gPart r) ∧ Ext H H') := by
  refine ACalls.of_code (N := 15) (ts := [2]) Tryd.func70 rfl rfl rfl rfl (by simp) ?_
  refine ACode.of_K _ ?_
  simp (maxSteps := 5000000) (implicitDefEqProofs := false) only [go_sem, Nat.reduceLT, Nat.reduceBEq, Nat.reduceBNe, Nat.reduceAdd, Nat.reduceSub, Nat.reduceMul, Nat.reduceEqDiff, Nat.reduceLeDiff, Int.reduceLT, Int.reduceLE, Int.reduceEq, Int.reduceToNat, Int.reduceBEq, Int.reduceAdd, Int.reduceSub, Int.reduceNeg, reduceCtorEq]
  refine callK_val (Start_ok H r) fun H1 e1 => ?_
  simp (maxSteps := 5000000) (implicitDefEqProofs := false) only [go_sem, Nat.reduceLT, Nat.reduceBEq, Nat.reduceBNe, Nat.reduceAdd, Nat.reduceSub, Nat.reduceMul, Nat.reduceEqDiff, Nat.reduceLeDiff, Int.reduceLT, Int.reduceLE, Int.reduceEq, Int.reduceToNat, Int.reduceBEq, Int.reduceAdd, Int.reduceSub, Int.reduceNeg, reduceCtorEq]
  refine ⟨fun hb => ⟨by simp [gPart, hb], e1⟩, fun hb => ?_⟩
  refine callK_val (in_ok E _ r H1.length partL _ _ (get_new0 H1 _) (by decide)) fun H2 e2 => ?_
  simp (maxSteps := 5000000) (implicitDefEqProofs := false) only [go_sem, Nat.reduceLT, Nat.reduceBEq, Nat.reduceBNe, Nat.reduceAdd, Nat.reduceSub, Nat.reduceMul, Nat.reduceEqDiff, Nat.reduceLeDiff, Int.reduceLT, Int.reduceLE, Int.reduceEq, Int.reduceToNat, Int.reduceBEq, Int.reduceAdd, Int.reduceSub, Int.reduceNeg, reduceCtorEq]
  exact ⟨by simp [gPart, hb], e1.trans ((Ext.app _ _).trans e2)⟩
end Go.AL
