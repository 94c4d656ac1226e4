/- scan: declarations, instructions, what may stand. -/
import Derived.Test.YtodjcocapdjomaaDoorOrScanB
namespace Go.AL
open Go Go.RowKit Go.Proofs
set_option linter.unusedVariables false
set_option linter.unusedSimpArgs false
set_option maxRecDepth 20000
set_option maxHeartbeats 2000000
variable {E : World → Prop}
/-- whether a value is one of some -/
def valL (value : List UInt8) (enc : Bool) : List (List UInt8) → Bool
  | [] => false
  | v :: vs => if efA value v = true ∧ (enc = true ∨ value = v) then true else valL value enc vs
def gField (s word : List UInt8) (vs : List (List UInt8)) : List UInt8 × Bool :=
  let rest := Lib.trimLeftS s blanksL
  let after := Lib.trimPrefix rest (word ++ [61])
  if rest.length = s.length ∨ Lib.hasPrefix rest (word ++ [61]) = false then (s, false) else
  match after with
  | [] => (s, false)
  | q :: tl => if q.toNat ≠ 34 ∧ q.toNat ≠ 39 then (s, false) else
    if (Lib.cut tl [q]).2.2 = false then (s, false) else
    if valL (Lib.cut tl [q]).1 (word == [101, 110, 99, 111, 100, 105, 110, 103]) vs then ((Lib.cut tl [q]).2.1, true) else (s, false)
theorem trimLeft_len (s cs : List UInt8) : (Lib.trimLeftS s cs).length ≤ s.length := (List.dropWhile_sublist (fun x => cs.contains x)).length_le
theorem trimPrefix_len (s p : List UInt8) : (Lib.trimPrefix s p).length ≤ s.length := by
  unfold Lib.trimPrefix
  split
  · rw [List.length_drop]; omega
  · exact Nat.le_refl _
theorem sField_ok (hE : ∀ w, E w → LibE w) (hF : ∀ w, E w → FoldE w) (H : AHeap) (s word : List UInt8) (vs : List (List UInt8)) (id : Nat) (e : TypeId) (rw : Bool) (hH : H[id]? = some (.cells (vs.map .str) e rw)) (hS : s.length ≤ 4000000000) (hw : word.length ≤ 100) (hvs : vs.length ≤ 10) (hv : ∀ v ∈ vs, v.length ≤ 100 ∧ v.all smallB = true) :
    ACalls E Tryd.prog 73 [.str s, .str word, .slice (some (id, 0)) vs.length] H (fun v H' => v = .tuple [.str (gField s word vs).1, .bool (gField s word vs).2] ∧ Ext H H') := by
  refine ACalls.of_code (N := 80) (ts := [6, 7]) Tryd.func73 rfl rfl rfl rfl (by simp) ?_
  refine ACode.of_K _ ?_
  simp (maxSteps := 5000000) (implicitDefEqProofs := false) only [go_sem, Nat.reduceLT, Nat.reduceBEq, Nat.reduceBNe, Nat.reduceAdd, Nat.reduceSub, Nat.reduceMul, Nat.reduceEqDiff, Nat.reduceLeDiff, Int.reduceLT, Int.reduceLE, Int.reduceEq, Int.reduceToNat, Int.reduceBEq, Int.reduceAdd, Int.reduceSub, Int.reduceNeg, reduceCtorEq]
  refine callK_same (TrimLeft_ok E H s) ?_
  have h1 := trimLeft_len s blanksL
  have hwl : word.length + 1 ≤ 9223372036854775807 := by omega
  simp (maxSteps := 5000000) (implicitDefEqProofs := false) only [go_sem, Nat.reduceLT, Nat.reduceBEq, Nat.reduceBNe, Nat.reduceAdd, Nat.reduceSub, Nat.reduceMul, Nat.reduceEqDiff, Nat.reduceLeDiff, Int.reduceLT, Int.reduceLE, Int.reduceEq, Int.reduceToNat, Int.reduceBEq, Int.reduceAdd, Int.reduceSub, Int.reduceNeg, reduceCtorEq, hwl, List.length_singleton]
  have h2 := trimPrefix_len (Lib.trimLeftS s blanksL) (word ++ [61])
  refine callK_same (CutPrefix_ok E H (Lib.trimLeftS s blanksL) (word ++ [61])) ?_
  have hg : gField s word vs = (let rest := Lib.trimLeftS s blanksL
    let after := Lib.trimPrefix rest (word ++ [61])
    if rest.length = s.length ∨ Lib.hasPrefix rest (word ++ [61]) = false then (s, false) else
    match after with
    | [] => (s, false)
    | q :: tl => if q.toNat ≠ 34 ∧ q.toNat ≠ 39 then (s, false) else
      if (Lib.cut tl [q]).2.2 = false then (s, false) else
      if valL (Lib.cut tl [q]).1 (word == [101, 110, 99, 111, 100, 105, 110, 103]) vs then ((Lib.cut tl [q]).2.1, true) else (s, false)) := rfl
  dsimp only at hg
  generalize gField s word vs = G at *
  generalize Lib.trimPrefix (Lib.trimLeftS s blanksL) (word ++ [61]) = after at *
  generalize Lib.hasPrefix (Lib.trimLeftS s blanksL) (word ++ [61]) = ok at *
  generalize Lib.trimLeftS s blanksL = rest at *
  by_cases hl : rest.length = s.length
  · have hl' : (rest.length : Int) = (s.length : Int) := by omega
    rw [if_pos (.inl hl)] at hg
    simp (maxSteps := 5000000) (implicitDefEqProofs := false) only [go_sem, Nat.reduceLT, Nat.reduceBEq, Nat.reduceBNe, Nat.reduceAdd, Nat.reduceSub, Nat.reduceMul, Nat.reduceEqDiff, Nat.reduceLeDiff, Int.reduceLT, Int.reduceLE, Int.reduceEq, Int.reduceToNat, Int.reduceBEq, Int.reduceAdd, Int.reduceSub, Int.reduceNeg, reduceCtorEq, not_false_eq_true, true_implies, hl', hg]
    exact Ext.refl _
  have hl' : ¬ (rest.length : Int) = (s.length : Int) := by omega
  cases ok
  · rw [if_pos (.inr rfl)] at hg
    simp (maxSteps := 5000000) (implicitDefEqProofs := false) only [go_sem, Nat.reduceLT, Nat.reduceBEq, Nat.reduceBNe, Nat.reduceAdd, Nat.reduceSub, Nat.reduceMul, Nat.reduceEqDiff, Nat.reduceLeDiff, Int.reduceLT, Int.reduceLE, Int.reduceEq, Int.reduceToNat, Int.reduceBEq, Int.reduceAdd, Int.reduceSub, Int.reduceNeg, reduceCtorEq, not_false_eq_true, true_implies, hl', hg]
    exact Ext.refl _
  rw [if_neg (fun h => h.elim hl (by simp))] at hg
  cases after with
  | nil =>
    simp only at hg
    simp (maxSteps := 5000000) (implicitDefEqProofs := false) only [go_sem, Nat.reduceLT, Nat.reduceBEq, Nat.reduceBNe, Nat.reduceAdd, Nat.reduceSub, Nat.reduceMul, Nat.reduceEqDiff, Nat.reduceLeDiff, Int.reduceLT, Int.reduceLE, Int.reduceEq, Int.reduceToNat, Int.reduceBEq, Int.reduceAdd, Int.reduceSub, Int.reduceNeg, reduceCtorEq, not_false_eq_true, true_implies, hl', hg]
    exact Ext.refl _
  | cons q tl =>
    simp only at hg
    by_cases hq : q.toNat ≠ 34 ∧ q.toNat ≠ 39
    · have hq1 : ¬ (q.toNat : Int) = 34 := by omega
      have hq2 : ¬ (q.toNat : Int) = 39 := by omega
      rw [if_pos hq] at hg
      simp (maxSteps := 5000000) (implicitDefEqProofs := false) only [go_sem, Nat.reduceLT, Nat.reduceBEq, Nat.reduceBNe, Nat.reduceAdd, Nat.reduceSub, Nat.reduceMul, Nat.reduceEqDiff, Nat.reduceLeDiff, Int.reduceLT, Int.reduceLE, Int.reduceEq, Int.reduceToNat, Int.reduceBEq, Int.reduceAdd, Int.reduceSub, Int.reduceNeg, reduceCtorEq, not_false_eq_true, true_implies, hl', hg, hq1, hq2, Int.toNat_zero, List.getElem?_cons_zero]
      exact Ext.refl _
    · rw [if_neg hq] at hg
      have hq' : (q.toNat : Int) = 34 ∨ (q.toNat : Int) = 39 := by omega
      have hl1 : (1 : Int) ≤ ((tl.length + 1 : Nat) : Int) := by omega
      have hn39 : ¬ (34 : Int) = 39 := by decide
      have hcl := cut_len tl [q]
      have hcl2 := cut2_len tl [q]
      simp only [List.length_cons] at h2
      have hd1 : (q :: tl).drop 1 = tl := rfl
      have ht1 : (q :: tl).take 1 = [q] := rfl
      have hstr : ∀ v : List UInt8, (tl.length : Int) = tl.length := fun _ => rfl
      generalize hx : Lib.cut tl [q] = x at *
      obtain ⟨value, rest2, found⟩ := x
      simp only at hcl hcl2 hg
      rcases hq' with h34 | h34
      all_goals
        simp (maxSteps := 5000000) (implicitDefEqProofs := false) only [go_sem, Nat.reduceLT, Nat.reduceBEq, Nat.reduceBNe, Nat.reduceAdd, Nat.reduceSub, Nat.reduceMul, Nat.reduceEqDiff, Nat.reduceLeDiff, Int.reduceLT, Int.reduceLE, Int.reduceEq, Int.reduceToNat, Int.reduceBEq, Int.reduceAdd, Int.reduceSub, Int.reduceNeg, reduceCtorEq, not_false_eq_true, true_implies, hl', h34, Int.toNat_zero, List.getElem?_cons_zero]
        refine ACode.regionD [0, 1, 2, 3, 4, 5, 6, 7, 8, 9, 10, 11] [] [] (fun _ => True) mixed (by kernel_rfl) trivial ?_
        simp (maxSteps := 5000000) (implicitDefEqProofs := false) only [go_sem, Nat.reduceLT, Nat.reduceBEq, Nat.reduceBNe, Nat.reduceAdd, Nat.reduceSub, Nat.reduceMul, Nat.reduceEqDiff, Nat.reduceLeDiff, Int.reduceLT, Int.reduceLE, Int.reduceEq, Int.reduceToNat, Int.reduceBEq, Int.reduceAdd, Int.reduceSub, Int.reduceNeg, reduceCtorEq, not_false_eq_true, true_implies, true_and, hl1, hd1, ht1, List.length_cons]
        refine callK_same (SCut_ok E hE H tl [q] (by omega)) ?_
        rw [hx]
        cases found
        · rw [if_pos rfl] at hg
          simp (maxSteps := 5000000) (implicitDefEqProofs := false) only [go_sem, Nat.reduceLT, Nat.reduceBEq, Nat.reduceBNe, Nat.reduceAdd, Nat.reduceSub, Nat.reduceMul, Nat.reduceEqDiff, Nat.reduceLeDiff, Int.reduceLT, Int.reduceLE, Int.reduceEq, Int.reduceToNat, Int.reduceBEq, Int.reduceAdd, Int.reduceSub, Int.reduceNeg, reduceCtorEq, not_false_eq_true, true_implies, true_and, hg]
          exact Ext.refl _
        · rw [if_neg (by simp)] at hg
          simp (maxSteps := 5000000) (implicitDefEqProofs := false) only [go_sem, Nat.reduceLT, Nat.reduceBEq, Nat.reduceBNe, Nat.reduceAdd, Nat.reduceSub, Nat.reduceMul, Nat.reduceEqDiff, Nat.reduceLeDiff, Int.reduceLT, Int.reduceLE, Int.reduceEq, Int.reduceToNat, Int.reduceBEq, Int.reduceAdd, Int.reduceSub, Int.reduceNeg, reduceCtorEq, not_false_eq_true, true_implies, true_and]
          refine ACode.loopVX [(6, 7), (13, 13), (61, 78)] (fun m T H' => Ext H H' ∧ ∃ k : Nat, m = vs.length - k ∧ k ≤ vs.length ∧ T 61 = .int .i64 k ∧ valL value (word == [101, 110, 99, 111, 100, 105, 110, 103]) vs = valL value (word == [101, 110, 99, 111, 100, 105, 110, 103]) (vs.drop k)) (fun T H' => Ext H H' ∧ valL value (word == [101, 110, 99, 111, 100, 105, 110, 103]) vs = false) vs.length ?_ ?_ ?_
          · exact ⟨Ext.refl _, 0, by omega, by omega, by simp (maxSteps := 5000000) (implicitDefEqProofs := false) only [go_sem, Nat.reduceLT, Nat.reduceBEq, Nat.reduceBNe, Nat.reduceAdd, Nat.reduceSub, Nat.reduceMul, Nat.reduceEqDiff, Nat.reduceLeDiff, Int.reduceLT, Int.reduceLE, Int.reduceEq, Int.reduceToNat, Int.reduceBEq, Int.reduceAdd, Int.reduceSub, Int.reduceNeg, reduceCtorEq], rfl⟩
          · rintro T0 hT0 m T H' hK ⟨hext, k, rfl, hk, t61, hv2⟩
            have u0 := hK 0 rfl; have u1 := hK 1 rfl; have u59 := hK 59 rfl; have u60 := hK 60 rfl; have u11 := hK 11 rfl; have u8 := hK 8 rfl
            simp (maxSteps := 5000000) (implicitDefEqProofs := false) only [go_sem, Nat.reduceLT, Nat.reduceBEq, Nat.reduceBNe, Nat.reduceAdd, Nat.reduceSub, Nat.reduceMul, Nat.reduceEqDiff, Nat.reduceLeDiff, Int.reduceLT, Int.reduceLE, Int.reduceEq, Int.reduceToNat, Int.reduceBEq, Int.reduceAdd, Int.reduceSub, Int.reduceNeg, reduceCtorEq, hT0] at u0 u1 u59 u60 u11 u8
            clear hT0
            refine ACode.of_K _ ?_
            by_cases hlt : k < vs.length
            · have hlt' : (k : Int) < (vs.length : Int) := by omega
              have hw3 := wrap_add1 k (by omega)
              have hf := hext.get hH
              have hdr : vs.drop k = vs[k] :: vs.drop (k + 1) := List.drop_eq_getElem_cons hlt
              have hmem : vs[k] ∈ vs := List.getElem_mem hlt
              obtain ⟨hv3, hv4⟩ := hv _ hmem
              have hc : (vs.map AV.str)[k]? = some (.str vs[k]) := by rw [List.getElem?_map, List.getElem?_eq_getElem hlt]; rfl
              rw [hdr, valL] at hv2
              generalize vs[k] = v at *
              simp (maxSteps := 5000000) (implicitDefEqProofs := false) only [go_sem, Nat.reduceLT, Nat.reduceBEq, Nat.reduceBNe, Nat.reduceAdd, Nat.reduceSub, Nat.reduceMul, Nat.reduceEqDiff, Nat.reduceLeDiff, Int.reduceLT, Int.reduceLE, Int.reduceEq, Int.reduceToNat, Int.reduceBEq, Int.reduceAdd, Int.reduceSub, Int.reduceNeg, reduceCtorEq, u0, u1, u59, u60, u11, u8, t61, hlt', hf, hc, Int.natCast_nonneg, Int.toNat_natCast]
              refine callK_val (EqualFold_ok E hF H' value v (by omega) (by omega) hv4) fun H1 e1 => ?_
              have hcont : valL value (word == [101, 110, 99, 111, 100, 105, 110, 103]) vs = valL value (word == [101, 110, 99, 111, 100, 105, 110, 103]) (vs.drop (k + 1)) → ∃ m, m < vs.length - k ∧ Ext H H1 ∧ ∃ j : Nat, m = vs.length - j ∧ j ≤ vs.length ∧ ((k + 1 : Nat) : Int) = j ∧ valL value (word == [101, 110, 99, 111, 100, 105, 110, 103]) vs = valL value (word == [101, 110, 99, 111, 100, 105, 110, 103]) (vs.drop j) :=
                fun h => ⟨_, by omega, hext.trans e1, k + 1, rfl, by omega, rfl, h⟩
              cases hef : efA value v
              · rw [if_neg (by rw [hef]; simp)] at hv2
                simp (maxSteps := 5000000) (implicitDefEqProofs := false) only [go_sem, Nat.reduceLT, Nat.reduceBEq, Nat.reduceBNe, Nat.reduceAdd, Nat.reduceSub, Nat.reduceMul, Nat.reduceEqDiff, Nat.reduceLeDiff, Int.reduceLT, Int.reduceLE, Int.reduceEq, Int.reduceToNat, Int.reduceBEq, Int.reduceAdd, Int.reduceSub, Int.reduceNeg, reduceCtorEq, not_false_eq_true, true_implies, u0, u1, u59, u60, u11, u8, t61, hw3, Keep_T hK]
                exact hcont hv2
              · by_cases henc : word = [101, 110, 99, 111, 100, 105, 110, 103]
                · rw [if_pos ⟨hef, .inl (by simpa using henc)⟩] at hv2
                  rw [hv2, if_pos rfl] at hg
                  simp (maxSteps := 5000000) (implicitDefEqProofs := false) only [go_sem, Nat.reduceLT, Nat.reduceBEq, Nat.reduceBNe, Nat.reduceAdd, Nat.reduceSub, Nat.reduceMul, Nat.reduceEqDiff, Nat.reduceLeDiff, Int.reduceLT, Int.reduceLE, Int.reduceEq, Int.reduceToNat, Int.reduceBEq, Int.reduceAdd, Int.reduceSub, Int.reduceNeg, reduceCtorEq, not_false_eq_true, true_implies, u0, u1, u59, u60, u11, u8, t61, hw3, henc, Keep_T hK, hg]
                  exact hext.trans e1
                · by_cases hval : value = v
                  · rw [if_pos ⟨hef, .inr hval⟩] at hv2
                    rw [hv2, if_pos rfl] at hg
                    simp (maxSteps := 5000000) (implicitDefEqProofs := false) only [go_sem, Nat.reduceLT, Nat.reduceBEq, Nat.reduceBNe, Nat.reduceAdd, Nat.reduceSub, Nat.reduceMul, Nat.reduceEqDiff, Nat.reduceLeDiff, Int.reduceLT, Int.reduceLE, Int.reduceEq, Int.reduceToNat, Int.reduceBEq, Int.reduceAdd, Int.reduceSub, Int.reduceNeg, reduceCtorEq, not_false_eq_true, true_implies, u0, u1, u59, u60, u11, u8, t61, hw3, henc, hval, Keep_T hK, hg]
                    exact hext.trans e1
                  · rw [if_neg (fun h => h.2.elim (fun h => henc (by simpa using h)) hval)] at hv2
                    simp (maxSteps := 5000000) (implicitDefEqProofs := false) only [go_sem, Nat.reduceLT, Nat.reduceBEq, Nat.reduceBNe, Nat.reduceAdd, Nat.reduceSub, Nat.reduceMul, Nat.reduceEqDiff, Nat.reduceLeDiff, Int.reduceLT, Int.reduceLE, Int.reduceEq, Int.reduceToNat, Int.reduceBEq, Int.reduceAdd, Int.reduceSub, Int.reduceNeg, reduceCtorEq, not_false_eq_true, true_implies, u0, u1, u59, u60, u11, u8, t61, hw3, henc, hval, Keep_T hK]
                    exact hcont hv2
            · have hlt' : ¬ (k : Int) < (vs.length : Int) := by omega
              rw [List.drop_of_length_le (by omega), valL] at hv2
              simp (maxSteps := 5000000) (implicitDefEqProofs := false) only [go_sem, Nat.reduceLT, Nat.reduceBEq, Nat.reduceBNe, Nat.reduceAdd, Nat.reduceSub, Nat.reduceMul, Nat.reduceEqDiff, Nat.reduceLeDiff, Int.reduceLT, Int.reduceLE, Int.reduceEq, Int.reduceToNat, Int.reduceBEq, Int.reduceAdd, Int.reduceSub, Int.reduceNeg, reduceCtorEq, u60, t61, hlt', Keep_T hK]
              exact ⟨hext, hv2⟩
          · rintro T0 hT0 T H' hK ⟨hext, hv2⟩
            have u0 := hK 0 rfl
            simp (maxSteps := 5000000) (implicitDefEqProofs := false) only [go_sem, Nat.reduceLT, Nat.reduceBEq, Nat.reduceBNe, Nat.reduceAdd, Nat.reduceSub, Nat.reduceMul, Nat.reduceEqDiff, Nat.reduceLeDiff, Int.reduceLT, Int.reduceLE, Int.reduceEq, Int.reduceToNat, Int.reduceBEq, Int.reduceAdd, Int.reduceSub, Int.reduceNeg, reduceCtorEq, hT0] at u0
            rw [hv2, if_neg (by simp)] at hg
            simp (maxSteps := 5000000) (implicitDefEqProofs := false) only [go_sem, Nat.reduceLT, Nat.reduceBEq, Nat.reduceBNe, Nat.reduceAdd, Nat.reduceSub, Nat.reduceMul, Nat.reduceEqDiff, Nat.reduceLeDiff, Int.reduceLT, Int.reduceLE, Int.reduceEq, Int.reduceToNat, Int.reduceBEq, Int.reduceAdd, Int.reduceSub, Int.reduceNeg, reduceCtorEq, not_false_eq_true, true_implies, u0, hg]
            exact hext
end Go.AL
