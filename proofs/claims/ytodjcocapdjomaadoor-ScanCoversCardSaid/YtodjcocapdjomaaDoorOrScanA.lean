/- scan: small parts. -/
import Derived.Test.YtodjcocapdjomaaDoorOrRead
import Derived.Test.YtodjcocapdjomaaDoorOrName
namespace Go.AL
open Go Go.RowKit Go.Proofs
set_option linter.unusedVariables false
set_option linter.unusedSimpArgs false
set_option maxRecDepth 20000
set_option maxHeartbeats 2000000
variable {E : World → Prop}
theorem Text_ok (hE : ∀ w, E w → LibE w) (H : AHeap) (s : List UInt8) (hS : s.length ≤ 4000000000) :
    ACalls E Tryd.prog 19 [.str s] H (fun v H' => v = .tuple [.str (gRead false s).1, .int .i64 (gRead false s).2.1, .int .i64 (gRead false s).2.2] ∧ Ext H H') := by
  refine ACalls.of_code (N := 11) (ts := [2, 3, 4]) Tryd.func19 rfl rfl rfl rfl (by simp) ?_
  refine ACode.of_K _ ?_
  simp (maxSteps := 5000000) (implicitDefEqProofs := false) only [go_sem, Nat.reduceLT, Nat.reduceBEq, Nat.reduceBNe, Nat.reduceAdd, Nat.reduceSub, Nat.reduceMul, Nat.reduceEqDiff, Nat.reduceLeDiff, Int.reduceLT, Int.reduceLE, Int.reduceEq, Int.reduceToNat, Int.reduceBEq, Int.reduceAdd, Int.reduceSub, Int.reduceNeg, reduceCtorEq]
  have ho : OutC H.length (H ++ [.cells [.ptr none, .slice none 0, .bool false] 65 true]) H.length false [] := ⟨_, ⟨get_new0 _ _, _, _, rfl, rfl, .inl rfl, .inl ⟨rfl, rfl⟩⟩, rfl⟩
  refine callK_of (read_ok hE H _ H.length false s ho (Ext.app _ _) (Nat.le_refl _) hS) ?_
  rintro v H1 ⟨rfl, hx⟩
  simp (maxSteps := 5000000) (implicitDefEqProofs := false) only [go_sem, Nat.reduceLT, Nat.reduceBEq, Nat.reduceBNe, Nat.reduceAdd, Nat.reduceSub, Nat.reduceMul, Nat.reduceEqDiff, Nat.reduceLeDiff, Int.reduceLT, Int.reduceLE, Int.reduceEq, Int.reduceToNat, Int.reduceBEq, Int.reduceAdd, Int.reduceSub, Int.reduceNeg, reduceCtorEq]
  exact hx
/-- whether each rune of a text may stand in one -/
def gChars (s : List UInt8) : Bool := (runesP s).all fun p => gChar p.2
theorem CharAll_ok (H : AHeap) (s : List UInt8) (id : Nat) (e : TypeId) (rw : Bool) (hH : H[id]? = some (.cells [.func 28 [] []] e rw)) (hS : s.length ≤ 1000000000000) :
    ACalls E Tryd.prog 27 [.str s, .slice (some (id, 0)) 1] H (fun v H' => v = .bool (gChars s) ∧ Ext H H') := by
  refine ACalls.of_code (N := 30) (ts := [4]) Tryd.func27 rfl rfl rfl rfl (by simp) ?_
  refine ACode.of_K _ ?_
  simp (maxSteps := 5000000) (implicitDefEqProofs := false) only [go_sem, Nat.reduceLT, Nat.reduceBEq, Nat.reduceBNe, Nat.reduceAdd, Nat.reduceSub, Nat.reduceMul, Nat.reduceEqDiff, Nat.reduceLeDiff, Int.reduceLT, Int.reduceLE, Int.reduceEq, Int.reduceToNat, Int.reduceBEq, Int.reduceAdd, Int.reduceSub, Int.reduceNeg, reduceCtorEq]
  refine ACode.loopVX [(4, 4), (6, 7), (9, 9), (12, 29)] (fun m T H' => ∃ p : Nat, s.length ≤ p + m ∧ H'[H.length]? = some (.iter s p) ∧ Ext H H' ∧ gChars s = (runesFrom s m p).all fun p => gChar p.2) (fun T H' => Ext H H' ∧ gChars s = true) s.length ?_ ?_ ?_
  · exact ⟨0, by omega, get_new0 H _, Ext.app _ _, rfl⟩
  · rintro T0 hT0 m T H' hK ⟨p, hm, hit, hext, hg⟩
    have t0 := hK 0 rfl; have t1 := hK 1 rfl; have t11 := hK 11 rfl
    simp (maxSteps := 5000000) (implicitDefEqProofs := false) only [go_sem, Nat.reduceLT, Nat.reduceBEq, Nat.reduceBNe, Nat.reduceAdd, Nat.reduceSub, Nat.reduceMul, Nat.reduceEqDiff, Nat.reduceLeDiff, Int.reduceLT, Int.reduceLE, Int.reduceEq, Int.reduceToNat, Int.reduceBEq, Int.reduceAdd, Int.reduceSub, Int.reduceNeg, reduceCtorEq, hT0] at t0 t1 t11
    clear hT0
    refine ACode.of_K _ ?_
    by_cases hlt : p < s.length
    · obtain ⟨m, rfl⟩ : ∃ k, m = k + 1 := ⟨m - 1, by omega⟩
      rw [runesFrom_cons hlt, List.all_cons] at hg
      have hpos := dec_pos s p
      simp (maxSteps := 5000000) (implicitDefEqProofs := false) only [go_sem, Nat.reduceLT, Nat.reduceBEq, Nat.reduceBNe, Nat.reduceAdd, Nat.reduceSub, Nat.reduceMul, Nat.reduceEqDiff, Nat.reduceLeDiff, Int.reduceLT, Int.reduceLE, Int.reduceEq, Int.reduceToNat, Int.reduceBEq, Int.reduceAdd, Int.reduceSub, Int.reduceNeg, reduceCtorEq, t0, t1, t11, anext_t hit hlt]
      have hx1 : Ext H (H'.set H.length (.iter s (p + (dec s p).2))) := hext.iter _
      have hi1 : (H'.set H.length (.iter s (p + (dec s p).2)))[H.length]? = some (.iter s (p + (dec s p).2)) := iter_set hit
      generalize H'.set H.length (.iter s (p + (dec s p).2)) = H1 at hx1 hi1 ⊢
      generalize ((dec s p).1 : Int) = r at hg ⊢
      refine ACode.loopVX [(7, 7), (9, 9), (17, 27)] (fun m T H2 => Ext H1 H2 ∧ ((m = 1 ∧ T 17 = .int .i64 0 ∧ T 7 = .bool false) ∨ (m = 0 ∧ T 17 = .int .i64 1 ∧ T 7 = .bool (gChar r)))) (fun T H2 => Ext H1 H2 ∧ T 7 = .bool (gChar r)) 1 ?_ ?_ ?_
      · exact ⟨Ext.refl _, .inl ⟨rfl, by simp (maxSteps := 5000000) (implicitDefEqProofs := false) only [go_sem, Nat.reduceLT, Nat.reduceBEq, Nat.reduceBNe, Nat.reduceAdd, Nat.reduceSub, Nat.reduceMul, Nat.reduceEqDiff, Nat.reduceLeDiff, Int.reduceLT, Int.reduceLE, Int.reduceEq, Int.reduceToNat, Int.reduceBEq, Int.reduceAdd, Int.reduceSub, Int.reduceNeg, reduceCtorEq], by simp (maxSteps := 5000000) (implicitDefEqProofs := false) only [go_sem, Nat.reduceLT, Nat.reduceBEq, Nat.reduceBNe, Nat.reduceAdd, Nat.reduceSub, Nat.reduceMul, Nat.reduceEqDiff, Nat.reduceLeDiff, Int.reduceLT, Int.reduceLE, Int.reduceEq, Int.reduceToNat, Int.reduceBEq, Int.reduceAdd, Int.reduceSub, Int.reduceNeg, reduceCtorEq]⟩⟩
      · rintro T3 hT3 m2 T2 H2 hK2 ⟨hx2, h⟩
        have u15 := hK2 15 rfl; have u16 := hK2 16 rfl; have u6 := hK2 6 rfl
        simp (maxSteps := 5000000) (implicitDefEqProofs := false) only [go_sem, Nat.reduceLT, Nat.reduceBEq, Nat.reduceBNe, Nat.reduceAdd, Nat.reduceSub, Nat.reduceMul, Nat.reduceEqDiff, Nat.reduceLeDiff, Int.reduceLT, Int.reduceLE, Int.reduceEq, Int.reduceToNat, Int.reduceBEq, Int.reduceAdd, Int.reduceSub, Int.reduceNeg, reduceCtorEq, hT3] at u15 u16 u6
        clear hT3
        refine ACode.of_K _ ?_
        have hf := hx2.get (hx1.get hH)
        have hw : IntKind.i64.wrap 1 = 1 := by decide
        rcases h with ⟨rfl, u17, u7⟩ | ⟨rfl, u17, u7⟩
        · simp (maxSteps := 5000000) (implicitDefEqProofs := false) only [go_sem, Nat.reduceLT, Nat.reduceBEq, Nat.reduceBNe, Nat.reduceAdd, Nat.reduceSub, Nat.reduceMul, Nat.reduceEqDiff, Nat.reduceLeDiff, Int.reduceLT, Int.reduceLE, Int.reduceEq, Int.reduceToNat, Int.reduceBEq, Int.reduceAdd, Int.reduceSub, Int.reduceNeg, reduceCtorEq, u15, u16, u17, u7, u6, hf, List.getElem?_cons_zero]
          refine callK_val (Char_ok H2 r) fun H3 e3 => ?_
          simp (maxSteps := 5000000) (implicitDefEqProofs := false) only [go_sem, Nat.reduceLT, Nat.reduceBEq, Nat.reduceBNe, Nat.reduceAdd, Nat.reduceSub, Nat.reduceMul, Nat.reduceEqDiff, Nat.reduceLeDiff, Int.reduceLT, Int.reduceLE, Int.reduceEq, Int.reduceToNat, Int.reduceBEq, Int.reduceAdd, Int.reduceSub, Int.reduceNeg, reduceCtorEq, u15, u16, u17, u7, u6, hw, Keep_T hK2]
          exact ⟨0, by omega, hx2.trans e3, by simp⟩
        · simp (maxSteps := 5000000) (implicitDefEqProofs := false) only [go_sem, Nat.reduceLT, Nat.reduceBEq, Nat.reduceBNe, Nat.reduceAdd, Nat.reduceSub, Nat.reduceMul, Nat.reduceEqDiff, Nat.reduceLeDiff, Int.reduceLT, Int.reduceLE, Int.reduceEq, Int.reduceToNat, Int.reduceBEq, Int.reduceAdd, Int.reduceSub, Int.reduceNeg, reduceCtorEq, u15, u16, u17, u7, Keep_T hK2]
          exact hx2
      · rintro T3 hT3 T2 H2 hK2 ⟨hx2, u7⟩
        have hK4 := Keep.after hK hK2 rfl (by rw [hT3]; simp (maxSteps := 5000000) (implicitDefEqProofs := false) only [go_sem, Nat.reduceLT, Nat.reduceBEq, Nat.reduceBNe, Nat.reduceAdd, Nat.reduceSub, Nat.reduceMul, Nat.reduceEqDiff, Nat.reduceLeDiff, Int.reduceLT, Int.reduceLE, Int.reduceEq, Int.reduceToNat, Int.reduceBEq, Int.reduceAdd, Int.reduceSub, Int.reduceNeg, reduceCtorEq])
        simp (maxSteps := 5000000) (implicitDefEqProofs := false) only [go_sem, Nat.reduceLT, Nat.reduceBEq, Nat.reduceBNe, Nat.reduceAdd, Nat.reduceSub, Nat.reduceMul, Nat.reduceEqDiff, Nat.reduceLeDiff, Int.reduceLT, Int.reduceLE, Int.reduceEq, Int.reduceToNat, Int.reduceBEq, Int.reduceAdd, Int.reduceSub, Int.reduceNeg, reduceCtorEq, u7, Keep_T hK4]
        refine ⟨fun h => ⟨?_, hx1.trans hx2⟩, fun h => ⟨m, by omega, p + (dec s p).2, by omega, hx2.get hi1, hx1.trans hx2, ?_⟩⟩
        · rw [hg, h]; rfl
        · rw [hg, h]; rfl
    · simp (maxSteps := 5000000) (implicitDefEqProofs := false) only [go_sem, Nat.reduceLT, Nat.reduceBEq, Nat.reduceBNe, Nat.reduceAdd, Nat.reduceSub, Nat.reduceMul, Nat.reduceEqDiff, Nat.reduceLeDiff, Int.reduceLT, Int.reduceLE, Int.reduceEq, Int.reduceToNat, Int.reduceBEq, Int.reduceAdd, Int.reduceSub, Int.reduceNeg, reduceCtorEq, t11, anext_f hit hlt, Keep_T hK]
      rw [runesFrom_nil hlt] at hg
      exact ⟨hext, hg⟩
  · rintro T0 hT0 T H' hK ⟨hext, hg⟩
    simp (maxSteps := 5000000) (implicitDefEqProofs := false) only [go_sem, Nat.reduceLT, Nat.reduceBEq, Nat.reduceBNe, Nat.reduceAdd, Nat.reduceSub, Nat.reduceMul, Nat.reduceEqDiff, Nat.reduceLeDiff, Int.reduceLT, Int.reduceLE, Int.reduceEq, Int.reduceToNat, Int.reduceBEq, Int.reduceAdd, Int.reduceSub, Int.reduceNeg, reduceCtorEq, hg]
    exact hext
def gSplit (s : List UInt8) : List UInt8 × List UInt8 × Bool :=
  let two := (Lib.cut s [58]).2.2
  let prefix_ := if two then (Lib.cut s [58]).1 else []
  let loc := if two then (Lib.cut s [58]).2.1 else s
  if !gPlain loc || (two && !gPlain prefix_) then ([], [], false) else (prefix_, loc, true)
theorem cut2_len (s p : List UInt8) : (Lib.cut s p).2.1.length ≤ s.length := by
  unfold Lib.cut
  split
  · rw [List.length_drop]; omega
  · simp
theorem Split_ok (hE : ∀ w, E w → LibE w) (H : AHeap) (s : List UInt8) (hS : s.length ≤ 4000000000) :
    ACalls E Tryd.prog 49 [.str s] H (fun v H' => v = .tuple [.str (gSplit s).1, .str (gSplit s).2.1, .bool (gSplit s).2.2] ∧ Ext H H') := by
  refine ACalls.of_code (N := 30) (ts := [2, 3, 4]) Tryd.func49 rfl rfl rfl rfl (by simp) ?_
  refine ACode.of_K _ ?_
  simp (maxSteps := 5000000) (implicitDefEqProofs := false) only [go_sem, Nat.reduceLT, Nat.reduceBEq, Nat.reduceBNe, Nat.reduceAdd, Nat.reduceSub, Nat.reduceMul, Nat.reduceEqDiff, Nat.reduceLeDiff, Int.reduceLT, Int.reduceLE, Int.reduceEq, Int.reduceToNat, Int.reduceBEq, Int.reduceAdd, Int.reduceSub, Int.reduceNeg, reduceCtorEq]
  refine callK_same (SCut_ok E hE H s [58] (by omega)) ?_
  have h1 := cut_len s [58]
  have h2 := cut2_len s [58]
  have hg : gSplit s = (let two := (Lib.cut s [58]).2.2
    let prefix_ := if two then (Lib.cut s [58]).1 else []
    let loc := if two then (Lib.cut s [58]).2.1 else s
    if !gPlain loc || (two && !gPlain prefix_) then ([], [], false) else (prefix_, loc, true)) := rfl
  generalize gSplit s = G at *
  generalize Lib.cut s [58] = x at *
  obtain ⟨x1, x2, x3⟩ := x
  cases x3
  · simp (maxSteps := 5000000) (implicitDefEqProofs := false) only [go_sem, Nat.reduceLT, Nat.reduceBEq, Nat.reduceBNe, Nat.reduceAdd, Nat.reduceSub, Nat.reduceMul, Nat.reduceEqDiff, Nat.reduceLeDiff, Int.reduceLT, Int.reduceLE, Int.reduceEq, Int.reduceToNat, Int.reduceBEq, Int.reduceAdd, Int.reduceSub, Int.reduceNeg, reduceCtorEq]
    refine callK_val (Plain_ok H s (by omega)) fun H1 e1 => ?_
    cases hp : gPlain s
    all_goals simp (maxSteps := 5000000) (implicitDefEqProofs := false) only [go_sem, Nat.reduceLT, Nat.reduceBEq, Nat.reduceBNe, Nat.reduceAdd, Nat.reduceSub, Nat.reduceMul, Nat.reduceEqDiff, Nat.reduceLeDiff, Int.reduceLT, Int.reduceLE, Int.reduceEq, Int.reduceToNat, Int.reduceBEq, Int.reduceAdd, Int.reduceSub, Int.reduceNeg, reduceCtorEq]
    · rw [hg]; simp [hp]; exact e1
    · rw [hg]; simp [hp]; exact e1
  · simp (maxSteps := 5000000) (implicitDefEqProofs := false) only [go_sem, Nat.reduceLT, Nat.reduceBEq, Nat.reduceBNe, Nat.reduceAdd, Nat.reduceSub, Nat.reduceMul, Nat.reduceEqDiff, Nat.reduceLeDiff, Int.reduceLT, Int.reduceLE, Int.reduceEq, Int.reduceToNat, Int.reduceBEq, Int.reduceAdd, Int.reduceSub, Int.reduceNeg, reduceCtorEq]
    refine callK_val (Plain_ok H x2 (by simp only at h2; omega)) fun H1 e1 => ?_
    cases hp : gPlain x2
    all_goals simp (maxSteps := 5000000) (implicitDefEqProofs := false) only [go_sem, Nat.reduceLT, Nat.reduceBEq, Nat.reduceBNe, Nat.reduceAdd, Nat.reduceSub, Nat.reduceMul, Nat.reduceEqDiff, Nat.reduceLeDiff, Int.reduceLT, Int.reduceLE, Int.reduceEq, Int.reduceToNat, Int.reduceBEq, Int.reduceAdd, Int.reduceSub, Int.reduceNeg, reduceCtorEq]
    · rw [hg]; simp [hp]; exact e1
    · refine callK_val (Plain_ok H1 x1 (by simp only at h1; omega)) fun H2 e2 => ?_
      cases hq : gPlain x1
      all_goals simp (maxSteps := 5000000) (implicitDefEqProofs := false) only [go_sem, Nat.reduceLT, Nat.reduceBEq, Nat.reduceBNe, Nat.reduceAdd, Nat.reduceSub, Nat.reduceMul, Nat.reduceEqDiff, Nat.reduceLeDiff, Int.reduceLT, Int.reduceLE, Int.reduceEq, Int.reduceToNat, Int.reduceBEq, Int.reduceAdd, Int.reduceSub, Int.reduceNeg, reduceCtorEq]
      · rw [hg]; simp [hp, hq]; exact e1.trans e2
      · rw [hg]; simp [hp, hq]; exact e1.trans e2
end Go.AL
