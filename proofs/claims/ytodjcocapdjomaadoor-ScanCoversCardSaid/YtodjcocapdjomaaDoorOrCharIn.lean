/- char.in: whether a rune is in one of some spans. -/
import Derived.Test.YtodjcocapdjomaaDoorOrTy
namespace Go.AL
open Go Go.RowKit Go.Proofs
set_option linter.unusedVariables false
set_option linter.unusedSimpArgs false
set_option maxRecDepth 20000
set_option maxHeartbeats 2000000
def spanCells : List (Int × Int) → List AV
  | [] => []
  | (a, b) :: r => .int .i32 a :: .int .i32 b :: spanCells r
theorem spanCells_get : ∀ (l : List (Int × Int)) (k : Nat) (a b : Int), l[k]? = some (a, b) → ((spanCells l).drop (k * 2)).take 2 = [.int .i32 a, .int .i32 b]
  | [], k, a, b, h => by simp at h
  | p :: r, 0, a, b, h => by simp at h; subst h; rfl
  | p :: r, k + 1, a, b, h => by
    have := spanCells_get r k a b (by simpa using h)
    rw [show (k + 1) * 2 = k * 2 + 2 by omega]
    simpa [spanCells] using this
theorem spanCells_len : ∀ (l : List (Int × Int)), (spanCells l).length = l.length * 2
  | [] => rfl
  | p :: r => by simp [spanCells, spanCells_len r]; omega
def inSpans (r : Int) (l : List (Int × Int)) : Bool := l.any fun p => decide (p.1 ≤ r) && decide (r ≤ p.2)

theorem in_ok (E : World → Prop) (H : AHeap) (r : Int) (id : Nat) (l : List (Int × Int)) (e : TypeId) (rw : Bool) (hH : H[id]? = some (.cells (spanCells l) e rw)) (hl : l.length ≤ 1000) :
    ACalls E Tryd.prog 53 [.int .i32 r, .slice (some (id, 0)) l.length] H (fun v H' => v = .bool (inSpans r l) ∧ Ext H H') := by
  refine ACalls.of_code (N := 24) (ts := [4]) Tryd.func53 rfl rfl rfl rfl (by simp) ?_
  refine ACode.of_K _ ?_
  simp (maxSteps := 5000000) (implicitDefEqProofs := false) only [go_sem, Nat.reduceLT, Nat.reduceBEq, Nat.reduceBNe, Nat.reduceAdd, Nat.reduceSub, Nat.reduceMul, Nat.reduceEqDiff, Nat.reduceLeDiff, Int.reduceLT, Int.reduceLE, Int.reduceEq, Int.reduceToNat, Int.reduceBEq, Int.reduceAdd, Int.reduceSub, Int.reduceNeg, reduceCtorEq]
  refine ACode.loop (fun m T H' => ∃ k, m = l.length - k ∧ k ≤ l.length ∧ T 0 = .int .i32 r ∧ T 7 = .slice (some (id, 0)) l.length ∧ T 8 = .int .i64 l.length ∧ T 9 = .int .i64 k ∧ Ext H H' ∧ inSpans r (l.take k) = false) l.length
    ⟨0, by omega, by omega, by simp (maxSteps := 5000000) (implicitDefEqProofs := false) only [go_sem, Nat.reduceLT, Nat.reduceBEq, Nat.reduceBNe, Nat.reduceAdd, Nat.reduceSub, Nat.reduceMul, Nat.reduceEqDiff, Nat.reduceLeDiff, Int.reduceLT, Int.reduceLE, Int.reduceEq, Int.reduceToNat, Int.reduceBEq, Int.reduceAdd, Int.reduceSub, Int.reduceNeg, reduceCtorEq], by simp (maxSteps := 5000000) (implicitDefEqProofs := false) only [go_sem, Nat.reduceLT, Nat.reduceBEq, Nat.reduceBNe, Nat.reduceAdd, Nat.reduceSub, Nat.reduceMul, Nat.reduceEqDiff, Nat.reduceLeDiff, Int.reduceLT, Int.reduceLE, Int.reduceEq, Int.reduceToNat, Int.reduceBEq, Int.reduceAdd, Int.reduceSub, Int.reduceNeg, reduceCtorEq], by simp (maxSteps := 5000000) (implicitDefEqProofs := false) only [go_sem, Nat.reduceLT, Nat.reduceBEq, Nat.reduceBNe, Nat.reduceAdd, Nat.reduceSub, Nat.reduceMul, Nat.reduceEqDiff, Nat.reduceLeDiff, Int.reduceLT, Int.reduceLE, Int.reduceEq, Int.reduceToNat, Int.reduceBEq, Int.reduceAdd, Int.reduceSub, Int.reduceNeg, reduceCtorEq], by simp (maxSteps := 5000000) (implicitDefEqProofs := false) only [go_sem, Nat.reduceLT, Nat.reduceBEq, Nat.reduceBNe, Nat.reduceAdd, Nat.reduceSub, Nat.reduceMul, Nat.reduceEqDiff, Nat.reduceLeDiff, Int.reduceLT, Int.reduceLE, Int.reduceEq, Int.reduceToNat, Int.reduceBEq, Int.reduceAdd, Int.reduceSub, Int.reduceNeg, reduceCtorEq], Ext.refl H, rfl⟩ ?_
  rintro m T H' ⟨k, rfl, hk, h0, h7, h8, h9, hext, hall⟩
  refine ACode.of_K _ ?_
  have hH' := hext.get hH
  rcases Nat.lt_or_ge k l.length with hlt | hge
  · have hlt' : (k : Int) < (l.length : Int) := by omega
    obtain ⟨a, b, hp⟩ : ∃ a b, l[k]? = some (a, b) := ⟨_, _, List.getElem?_eq_getElem hlt⟩
    have hg := spanCells_get l k a b hp
    have hle : k * 2 + 2 ≤ (spanCells l).length := by rw [spanCells_len]; omega
    simp (maxSteps := 5000000) (implicitDefEqProofs := false) only [go_sem, Nat.reduceLT, Nat.reduceBEq, Nat.reduceBNe, Nat.reduceAdd, Nat.reduceSub, Nat.reduceMul, Nat.reduceEqDiff, Nat.reduceLeDiff, Int.reduceLT, Int.reduceLE, Int.reduceEq, Int.reduceToNat, Int.reduceBEq, Int.reduceAdd, Int.reduceSub, Int.reduceNeg, reduceCtorEq, h0, h7, h8, h9, hH', hlt', hg, hle, Int.natCast_nonneg]
    have hnext : inSpans r (l.take (k + 1)) = (decide (a ≤ r) && decide (r ≤ b)) := by
      rw [List.take_add_one, hp, inSpans, List.any_append, ← inSpans, hall]; simp
    have hw : IntKind.i64.wrap ((k : Int) + 1) = ((k + 1 : Nat) : Int) := by rw [wrap64_id (by omega) (by omega)]; rfl
    have hend : (decide (a ≤ r) && decide (r ≤ b)) = false → ∃ m, m < l.length - k ∧ ∃ k_1, m = l.length - k_1 ∧ k_1 ≤ l.length ∧ IntKind.i64.wrap (↑k + 1) = ↑k_1 ∧ Ext H (H' ++ [AObj.cells [AV.int IntKind.i32 a, AV.int IntKind.i32 b] 82 true]) ∧ inSpans r (List.take k_1 l) = false :=
      fun hf => ⟨_, by omega, k + 1, rfl, by omega, hw, hext.add _, hnext.trans hf⟩
    refine ⟨fun ha => ⟨fun hb => ⟨?_, hext.add _⟩, fun hb => hend (by simp [hb])⟩, fun ha => hend (by simp [ha])⟩
    symm
    refine List.any_eq_true.2 ⟨(a, b), List.mem_of_getElem? hp, by simp [ha, hb]⟩
  · have hk' : k = l.length := by omega
    subst hk'
    simp (maxSteps := 5000000) (implicitDefEqProofs := false) only [go_sem, Nat.reduceLT, Nat.reduceBEq, Nat.reduceBNe, Nat.reduceAdd, Nat.reduceSub, Nat.reduceMul, Nat.reduceEqDiff, Nat.reduceLeDiff, Int.reduceLT, Int.reduceLE, Int.reduceEq, Int.reduceToNat, Int.reduceBEq, Int.reduceAdd, Int.reduceSub, Int.reduceNeg, reduceCtorEq, h0, h7, h8, h9, Int.lt_irrefl]
    rw [List.take_length] at hall
    exact ⟨hall.symm, hext⟩
end Go.AL
