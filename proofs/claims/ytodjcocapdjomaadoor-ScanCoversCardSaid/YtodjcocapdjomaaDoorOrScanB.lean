/- scan: tag, bang, the readers of the kinds. -/
import Derived.Test.YtodjcocapdjomaaDoorOrScanA
namespace Go.AL
open Go Go.RowKit Go.Proofs
set_option linter.unusedVariables false
set_option linter.unusedSimpArgs false
set_option maxRecDepth 20000
set_option maxHeartbeats 2000000
variable {E : World → Prop}
def tagL : List UInt8 → Int → Nat → Int
  | [], _, _ => -1
  | b :: s, q, i => if q ≠ 0 then tagL s (if (b.toNat : Int) = q then 0 else q) (i + 1) else if (b.toNat : Int) = 62 then i else tagL s (if (b.toNat : Int) = 34 ∨ (b.toNat : Int) = 39 then b.toNat else 0) (i + 1)
def gTag (s : List UInt8) : Int := tagL s 0 0
theorem tag_ok (H : AHeap) (s : List UInt8) (hS : s.length ≤ 1000000000000) : ACalls E Tryd.prog 30 [.str s] H (fun v H' => v = .int .i64 (gTag s) ∧ Ext H H') := by
  refine ACalls.of_code (N := 33) (ts := [2]) Tryd.func30 rfl rfl rfl rfl (by simp) ?_
  refine ACode.of_K _ ?_
  simp (maxSteps := 5000000) (implicitDefEqProofs := false) only [go_sem, Nat.reduceLT, Nat.reduceBEq, Nat.reduceBNe, Nat.reduceAdd, Nat.reduceSub, Nat.reduceMul, Nat.reduceEqDiff, Nat.reduceLeDiff, Int.reduceLT, Int.reduceLE, Int.reduceEq, Int.reduceToNat, Int.reduceBEq, Int.reduceAdd, Int.reduceSub, Int.reduceNeg, reduceCtorEq]
  refine ACode.loopVX [(2, 5), (8, 32)] (fun m T H' => H' = H ∧ ∃ (k : Nat) (q : Int), m = s.length - k ∧ k ≤ s.length ∧ T 3 = .int .u8 q ∧ T 8 = .int .i64 k ∧ gTag s = tagL (s.drop k) q k) (fun T H' => H' = H ∧ gTag s = -1) s.length ?_ ?_ ?_
  · exact ⟨rfl, 0, 0, by omega, by omega, by simp (maxSteps := 5000000) (implicitDefEqProofs := false) only [go_sem, Nat.reduceLT, Nat.reduceBEq, Nat.reduceBNe, Nat.reduceAdd, Nat.reduceSub, Nat.reduceMul, Nat.reduceEqDiff, Nat.reduceLeDiff, Int.reduceLT, Int.reduceLE, Int.reduceEq, Int.reduceToNat, Int.reduceBEq, Int.reduceAdd, Int.reduceSub, Int.reduceNeg, reduceCtorEq], by simp (maxSteps := 5000000) (implicitDefEqProofs := false) only [go_sem, Nat.reduceLT, Nat.reduceBEq, Nat.reduceBNe, Nat.reduceAdd, Nat.reduceSub, Nat.reduceMul, Nat.reduceEqDiff, Nat.reduceLeDiff, Int.reduceLT, Int.reduceLE, Int.reduceEq, Int.reduceToNat, Int.reduceBEq, Int.reduceAdd, Int.reduceSub, Int.reduceNeg, reduceCtorEq], rfl⟩
  · rintro T0 hT0 m T H' hK ⟨rfl, k, q, rfl, hk, t3, t8, hg⟩
    have t0 := hK 0 rfl; have t7 := hK 7 rfl
    simp (maxSteps := 5000000) (implicitDefEqProofs := false) only [go_sem, Nat.reduceLT, Nat.reduceBEq, Nat.reduceBNe, Nat.reduceAdd, Nat.reduceSub, Nat.reduceMul, Nat.reduceEqDiff, Nat.reduceLeDiff, Int.reduceLT, Int.reduceLE, Int.reduceEq, Int.reduceToNat, Int.reduceBEq, Int.reduceAdd, Int.reduceSub, Int.reduceNeg, reduceCtorEq, hT0] at t0 t7
    clear hT0
    refine ACode.of_K _ ?_
    by_cases hlt : k < s.length
    · have hlt' : (k : Int) < (s.length : Int) := by omega
      have hb : s[k]? = some s[k] := List.getElem?_eq_getElem hlt
      rw [List.drop_eq_getElem_cons hlt, tagL] at hg
      have hw := wrap_add1 k (by omega)
      have hcont : ∀ q', gTag s = tagL (s.drop (k + 1)) q' (k + 1) → ∃ m, m < s.length - k ∧ ∃ (j : Nat) (q2 : Int), m = s.length - j ∧ j ≤ s.length ∧ q' = q2 ∧ ((k + 1 : Nat) : Int) = j ∧ gTag s = tagL (s.drop j) q2 j :=
        fun q' h => ⟨_, by omega, k + 1, q', rfl, by omega, rfl, rfl, h⟩
      simp (contextual := true) (maxSteps := 5000000) (implicitDefEqProofs := false) only [go_sem, Nat.reduceLT, Nat.reduceBEq, Nat.reduceBNe, Nat.reduceAdd, Nat.reduceSub, Nat.reduceMul, Nat.reduceEqDiff, Nat.reduceLeDiff, Int.reduceLT, Int.reduceLE, Int.reduceEq, Int.reduceToNat, Int.reduceBEq, Int.reduceAdd, Int.reduceSub, Int.reduceNeg, reduceCtorEq, t0, t3, t7, t8, hlt', hb, Int.natCast_nonneg, Int.toNat_natCast, hw, Keep_T hK]
      refine ⟨fun h => ⟨fun h1 => hcont _ ?_, fun h1 => hcont _ ?_⟩, fun h => ⟨fun h1 => ⟨?_, Ext.refl _⟩, fun h1 => ⟨fun h2 => hcont _ ?_, fun h2 => ⟨fun h3 => hcont _ ?_, fun h3 => hcont _ ?_⟩⟩⟩⟩
      · rw [hg, if_pos h, if_pos h1]
      · rw [hg, if_pos h, if_neg h1]
      · rw [hg, if_neg (by simpa using h), if_pos h1]
      · rw [hg, if_neg (by simpa using h), if_neg h1, if_pos (.inl h2), h2]
      · rw [hg, if_neg (by simpa using h), if_neg h1, if_pos (.inr h3), h3]
      · rw [hg, if_neg (by simpa using h), if_neg h1, if_neg (by omega)]
    · have hlt' : ¬ (k : Int) < (s.length : Int) := by omega
      rw [List.drop_of_length_le (by omega), tagL] at hg
      simp (maxSteps := 5000000) (implicitDefEqProofs := false) only [go_sem, Nat.reduceLT, Nat.reduceBEq, Nat.reduceBNe, Nat.reduceAdd, Nat.reduceSub, Nat.reduceMul, Nat.reduceEqDiff, Nat.reduceLeDiff, Int.reduceLT, Int.reduceLE, Int.reduceEq, Int.reduceToNat, Int.reduceBEq, Int.reduceAdd, Int.reduceSub, Int.reduceNeg, reduceCtorEq, t7, t8, hlt', Keep_T hK]
      exact hg
  · rintro T0 hT0 T H' hK ⟨rfl, hg⟩
    simp (maxSteps := 5000000) (implicitDefEqProofs := false) only [go_sem, Nat.reduceLT, Nat.reduceBEq, Nat.reduceBNe, Nat.reduceAdd, Nat.reduceSub, Nat.reduceMul, Nat.reduceEqDiff, Nat.reduceLeDiff, Int.reduceLT, Int.reduceLE, Int.reduceEq, Int.reduceToNat, Int.reduceBEq, Int.reduceAdd, Int.reduceSub, Int.reduceNeg, reduceCtorEq, hg]
    exact Ext.refl _
def bangL (s : List UInt8) : List (List UInt8) → Int
  | [] => 6
  | x :: xs => if s.length < x.length ∧ Lib.hasPrefix x s = true then 7 else if Lib.hasPrefix s x = true then 12 else bangL s xs
def bangs : List (List UInt8) := [[60, 33, 91, 67, 68, 65, 84, 65, 91], [60, 33, 45, 45], [60, 33, 68, 79, 67, 84, 89, 80, 69]]
def gBang (s : List UInt8) : Int := bangL s bangs
theorem bang_ok (H : AHeap) (s : List UInt8) (hS : s.length ≤ 1000000000000) : ACalls E Tryd.prog 15 [.str s] H (fun v H' => v = .int .i64 (gBang s) ∧ Ext H H') := by
  refine ACalls.of_code (N := 27) (ts := [2]) Tryd.func15 rfl rfl rfl rfl (by simp) ?_
  refine ACode.of_K _ ?_
  simp (maxSteps := 5000000) (implicitDefEqProofs := false) only [go_sem, Nat.reduceLT, Nat.reduceBEq, Nat.reduceBNe, Nat.reduceAdd, Nat.reduceSub, Nat.reduceMul, Nat.reduceEqDiff, Nat.reduceLeDiff, Int.reduceLT, Int.reduceLE, Int.reduceEq, Int.reduceToNat, Int.reduceBEq, Int.reduceAdd, Int.reduceSub, Int.reduceNeg, reduceCtorEq]
  refine ACode.loopVX [(2, 2), (4, 4), (7, 26)] (fun m T H' => Ext H H' ∧ ∃ k : Nat, m = 3 - k ∧ k ≤ 3 ∧ H'[H.length]? = some (.cells (bangs.map .str) 9 true) ∧ T 7 = .int .i64 k ∧ gBang s = bangL s (bangs.drop k)) (fun T H' => Ext H H' ∧ gBang s = 6) 3 ?_ ?_ ?_
  · exact ⟨Ext.app _ _, 0, by omega, by omega, get_new0 _ _, by simp (maxSteps := 5000000) (implicitDefEqProofs := false) only [go_sem, Nat.reduceLT, Nat.reduceBEq, Nat.reduceBNe, Nat.reduceAdd, Nat.reduceSub, Nat.reduceMul, Nat.reduceEqDiff, Nat.reduceLeDiff, Int.reduceLT, Int.reduceLE, Int.reduceEq, Int.reduceToNat, Int.reduceBEq, Int.reduceAdd, Int.reduceSub, Int.reduceNeg, reduceCtorEq], rfl⟩
  · rintro T0 hT0 m T H' hK ⟨hext, k, rfl, hk, hH, t7, hg⟩
    have t0 := hK 0 rfl; have t5 := hK 5 rfl; have t6 := hK 6 rfl
    simp (maxSteps := 5000000) (implicitDefEqProofs := false) only [go_sem, Nat.reduceLT, Nat.reduceBEq, Nat.reduceBNe, Nat.reduceAdd, Nat.reduceSub, Nat.reduceMul, Nat.reduceEqDiff, Nat.reduceLeDiff, Int.reduceLT, Int.reduceLE, Int.reduceEq, Int.reduceToNat, Int.reduceBEq, Int.reduceAdd, Int.reduceSub, Int.reduceNeg, reduceCtorEq, hT0] at t0 t5 t6
    clear hT0
    refine ACode.of_K _ ?_
    by_cases hlt : k < 3
    · have hlt' : (k : Int) < 3 := by omega
      have hw := wrap_add1 k (by omega)
      obtain ⟨x, hx⟩ : ∃ x, bangs[k]? = some x := ⟨_, List.getElem?_eq_getElem (by show k < 3; exact hlt)⟩
      have hxl : x.length ≤ 100 := by
        have : ∀ y ∈ bangs, y.length ≤ 100 := by decide
        exact this x (List.mem_of_getElem? hx)
      have hdr : bangs.drop k = x :: bangs.drop (k + 1) := by
        obtain ⟨h1, h2⟩ := List.getElem?_eq_some_iff.1 hx
        rw [List.drop_eq_getElem_cons h1, h2]
      rw [hdr, bangL] at hg
      have hc : (bangs.map AV.str)[k * 1]? = some (.str x) := by rw [Nat.mul_one, List.getElem?_map, hx]; rfl
      have hc' : (bangs.map AV.str)[k]? = some (.str x) := by rw [List.getElem?_map, hx]; rfl
      by_cases hl : s.length < x.length
      · have hl' : (s.length : Int) < (x.length : Int) := by omega
        simp (maxSteps := 5000000) (implicitDefEqProofs := false) only [go_sem, Nat.reduceLT, Nat.reduceBEq, Nat.reduceBNe, Nat.reduceAdd, Nat.reduceSub, Nat.reduceMul, Nat.reduceEqDiff, Nat.reduceLeDiff, Int.reduceLT, Int.reduceLE, Int.reduceEq, Int.reduceToNat, Int.reduceBEq, Int.reduceAdd, Int.reduceSub, Int.reduceNeg, reduceCtorEq, t0, t5, t6, t7, hlt', hH, hc, hc', hl', Int.natCast_nonneg, Int.toNat_natCast]
        refine callK_same (HasPrefix_ok E H' x s) ?_
        cases hp : Lib.hasPrefix x s
        all_goals simp (maxSteps := 5000000) (implicitDefEqProofs := false) only [go_sem, Nat.reduceLT, Nat.reduceBEq, Nat.reduceBNe, Nat.reduceAdd, Nat.reduceSub, Nat.reduceMul, Nat.reduceEqDiff, Nat.reduceLeDiff, Int.reduceLT, Int.reduceLE, Int.reduceEq, Int.reduceToNat, Int.reduceBEq, Int.reduceAdd, Int.reduceSub, Int.reduceNeg, reduceCtorEq, t0, t5, t6, t7, hw, Keep_T hK]
        · rw [if_neg (by rw [hp]; simp)] at hg
          refine callK_same (HasPrefix_ok E H' s x) ?_
          cases hq : Lib.hasPrefix s x
          all_goals simp (maxSteps := 5000000) (implicitDefEqProofs := false) only [go_sem, Nat.reduceLT, Nat.reduceBEq, Nat.reduceBNe, Nat.reduceAdd, Nat.reduceSub, Nat.reduceMul, Nat.reduceEqDiff, Nat.reduceLeDiff, Int.reduceLT, Int.reduceLE, Int.reduceEq, Int.reduceToNat, Int.reduceBEq, Int.reduceAdd, Int.reduceSub, Int.reduceNeg, reduceCtorEq, t0, t5, t6, t7, hw, Keep_T hK]
          · rw [hq, if_neg (by simp)] at hg
            exact ⟨_, by omega, hext, k + 1, rfl, by omega, hH, rfl, hg⟩
          · rw [hq, if_pos rfl] at hg
            exact ⟨hg.symm, hext⟩
        · rw [if_pos ⟨hl, hp⟩] at hg
          exact ⟨hg.symm, hext⟩
      · have hl' : ¬ (s.length : Int) < (x.length : Int) := by omega
        rw [if_neg (fun h => hl h.1)] at hg
        simp (maxSteps := 5000000) (implicitDefEqProofs := false) only [go_sem, Nat.reduceLT, Nat.reduceBEq, Nat.reduceBNe, Nat.reduceAdd, Nat.reduceSub, Nat.reduceMul, Nat.reduceEqDiff, Nat.reduceLeDiff, Int.reduceLT, Int.reduceLE, Int.reduceEq, Int.reduceToNat, Int.reduceBEq, Int.reduceAdd, Int.reduceSub, Int.reduceNeg, reduceCtorEq, t0, t5, t6, t7, hlt', hH, hc, hc', hl', Int.natCast_nonneg, Int.toNat_natCast]
        refine callK_same (HasPrefix_ok E H' s x) ?_
        cases hq : Lib.hasPrefix s x
        all_goals simp (maxSteps := 5000000) (implicitDefEqProofs := false) only [go_sem, Nat.reduceLT, Nat.reduceBEq, Nat.reduceBNe, Nat.reduceAdd, Nat.reduceSub, Nat.reduceMul, Nat.reduceEqDiff, Nat.reduceLeDiff, Int.reduceLT, Int.reduceLE, Int.reduceEq, Int.reduceToNat, Int.reduceBEq, Int.reduceAdd, Int.reduceSub, Int.reduceNeg, reduceCtorEq, t0, t5, t6, t7, hw, Keep_T hK]
        · rw [hq, if_neg (by simp)] at hg
          exact ⟨_, by omega, hext, k + 1, rfl, by omega, hH, rfl, hg⟩
        · rw [hq, if_pos rfl] at hg
          exact ⟨hg.symm, hext⟩
    · have hk3 : k = 3 := by omega
      subst hk3
      simp (maxSteps := 5000000) (implicitDefEqProofs := false) only [go_sem, Nat.reduceLT, Nat.reduceBEq, Nat.reduceBNe, Nat.reduceAdd, Nat.reduceSub, Nat.reduceMul, Nat.reduceEqDiff, Nat.reduceLeDiff, Int.reduceLT, Int.reduceLE, Int.reduceEq, Int.reduceToNat, Int.reduceBEq, Int.reduceAdd, Int.reduceSub, Int.reduceNeg, reduceCtorEq, t6, t7, Keep_T hK]
      exact ⟨hext, hg⟩
  · rintro T0 hT0 T H' hK ⟨hext, hg⟩
    simp (maxSteps := 5000000) (implicitDefEqProofs := false) only [go_sem, Nat.reduceLT, Nat.reduceBEq, Nat.reduceBNe, Nat.reduceAdd, Nat.reduceSub, Nat.reduceMul, Nat.reduceEqDiff, Nat.reduceLeDiff, Int.reduceLT, Int.reduceLE, Int.reduceEq, Int.reduceToNat, Int.reduceBEq, Int.reduceAdd, Int.reduceSub, Int.reduceNeg, reduceCtorEq, hg]
    exact hext
abbrev Tok : Type := Int × List UInt8 × Bool × Bool
def tokA (t : Tok) : AV := .agg [.int .i64 t.1, .str t.2.1, .bool t.2.2.1, .bool t.2.2.2]
def noTok : Tok := (0, [], false, false)
theorem replaceK_len (old new : List UInt8) (hn : new.length ≤ old.length) : ∀ (k : Nat) (s : List UInt8), (Lib.replaceK old new k s).length ≤ s.length
  | 0, s => Nat.le_refl _
  | k + 1, s => by
    unfold Lib.replaceK
    split
    · exact Nat.le_refl _
    · rename_i h
      have h1 := Lib.index_ge s old
      have h0 : 0 ≤ Lib.index s old := by
        have : Lib.index s old ≠ -1 := by simpa using h
        omega
      have h2 := Lib.index_room s old h0
      have ih := replaceK_len old new hn k (s.drop ((Lib.index s old).toNat + old.length))
      rw [List.length_drop] at ih
      rw [List.length_append, List.length_append, List.length_take]
      omega
theorem replaceAll_len (s old new : List UInt8) (hn : new.length ≤ old.length) : (Lib.replaceAll s old new).length ≤ s.length := by
  unfold Lib.replaceAll Lib.replace
  split
  · exact Nat.le_refl _
  · exact replaceK_len _ _ hn _ _
def gCdata (s : List UInt8) : Tok := (3, Lib.replaceAll (Lib.replaceAll s [13, 10] [10]) [13] [10], false, false)
theorem cdata_ok (hE : ∀ w, E w → LibE w) (H : AHeap) (s : List UInt8) (b : Bool) (hS : s.length ≤ 4000000000) : ACalls E Tryd.prog 21 [.str s, .bool b] H (fun v H' => v = .tuple [tokA (gCdata s), .int .i64 0] ∧ Ext H H') := by
  refine ACalls.of_codeC (N := 11) (rs := [.cell 4 28, .tmp 5]) Tryd.func21 rfl rfl rfl rfl (by simp) ?_
  refine ACode.of_K _ ?_
  simp (maxSteps := 5000000) (implicitDefEqProofs := false) only [go_sem, Nat.reduceLT, Nat.reduceBEq, Nat.reduceBNe, Nat.reduceAdd, Nat.reduceSub, Nat.reduceMul, Nat.reduceEqDiff, Nat.reduceLeDiff, Int.reduceLT, Int.reduceLE, Int.reduceEq, Int.reduceToNat, Int.reduceBEq, Int.reduceAdd, Int.reduceSub, Int.reduceNeg, reduceCtorEq]
  have c1 := Lib.countB_le ⟨#[13, 10]⟩ (by decide) s.length ⟨s.toArray⟩ (by simp [ByteArray.size])
  have l1 := replaceAll_len s [13, 10] [10] (by decide)
  refine callK_same (ReplaceAll_ok E hE _ s [13, 10] [10] (by omega) (by decide) (by simp [ByteArray.size] at c1 ⊢; omega)) ?_
  simp (maxSteps := 5000000) (implicitDefEqProofs := false) only [go_sem, Nat.reduceLT, Nat.reduceBEq, Nat.reduceBNe, Nat.reduceAdd, Nat.reduceSub, Nat.reduceMul, Nat.reduceEqDiff, Nat.reduceLeDiff, Int.reduceLT, Int.reduceLE, Int.reduceEq, Int.reduceToNat, Int.reduceBEq, Int.reduceAdd, Int.reduceSub, Int.reduceNeg, reduceCtorEq]
  generalize hu : Lib.replaceAll s [13, 10] [10] = u at *
  have c2 := Lib.countB_le ⟨#[13]⟩ (by decide) u.length ⟨u.toArray⟩ (by simp [ByteArray.size])
  refine callK_same (ReplaceAll_ok E hE _ u [13] [10] (by omega) (by decide) (by simp [ByteArray.size] at c2 ⊢; omega)) ?_
  simp (maxSteps := 5000000) (implicitDefEqProofs := false) only [go_sem, Nat.reduceLT, Nat.reduceBEq, Nat.reduceBNe, Nat.reduceAdd, Nat.reduceSub, Nat.reduceMul, Nat.reduceEqDiff, Nat.reduceLeDiff, Int.reduceLT, Int.reduceLE, Int.reduceEq, Int.reduceToNat, Int.reduceBEq, Int.reduceAdd, Int.reduceSub, Int.reduceNeg, reduceCtorEq]
  refine ⟨?_, Ext.app _ _⟩
  simp only [tokA, gCdata, hu]
def gComment (s : List UInt8) : Tok × Int := if Lib.contains s [45, 45] = true ∨ Lib.hasSuffix s [45] = true then (noTok, 6) else ((4, s, false, false), 0)
theorem comment_ok (hE : ∀ w, E w → LibE w) (H : AHeap) (s : List UInt8) (b : Bool) (hS : s.length ≤ 4000000000) : ACalls E Tryd.prog 22 [.str s, .bool b] H (fun v H' => v = .tuple [tokA (gComment s).1, .int .i64 (gComment s).2] ∧ Ext H H') := by
  refine ACalls.of_codeC (N := 15) (rs := [.cell 4 28, .tmp 5]) Tryd.func22 rfl rfl rfl rfl (by simp) ?_
  refine ACode.of_K _ ?_
  simp (maxSteps := 5000000) (implicitDefEqProofs := false) only [go_sem, Nat.reduceLT, Nat.reduceBEq, Nat.reduceBNe, Nat.reduceAdd, Nat.reduceSub, Nat.reduceMul, Nat.reduceEqDiff, Nat.reduceLeDiff, Int.reduceLT, Int.reduceLE, Int.reduceEq, Int.reduceToNat, Int.reduceBEq, Int.reduceAdd, Int.reduceSub, Int.reduceNeg, reduceCtorEq]
  refine callK_same (Contains_ok E hE _ s [45, 45] (by omega)) ?_
  cases hc : Lib.contains s [45, 45]
  all_goals simp (maxSteps := 5000000) (implicitDefEqProofs := false) only [go_sem, Nat.reduceLT, Nat.reduceBEq, Nat.reduceBNe, Nat.reduceAdd, Nat.reduceSub, Nat.reduceMul, Nat.reduceEqDiff, Nat.reduceLeDiff, Int.reduceLT, Int.reduceLE, Int.reduceEq, Int.reduceToNat, Int.reduceBEq, Int.reduceAdd, Int.reduceSub, Int.reduceNeg, reduceCtorEq]
  · refine callK_same (HasSuffix_ok E _ s [45] (by omega)) ?_
    cases hh : Lib.hasSuffix s [45]
    all_goals simp (maxSteps := 5000000) (implicitDefEqProofs := false) only [go_sem, Nat.reduceLT, Nat.reduceBEq, Nat.reduceBNe, Nat.reduceAdd, Nat.reduceSub, Nat.reduceMul, Nat.reduceEqDiff, Nat.reduceLeDiff, Int.reduceLT, Int.reduceLE, Int.reduceEq, Int.reduceToNat, Int.reduceBEq, Int.reduceAdd, Int.reduceSub, Int.reduceNeg, reduceCtorEq]
    · simp [gComment, hc, hh, tokA, Ext.app]
    · simp [gComment, hc, hh, tokA, noTok, Ext.app]
  · simp [gComment, hc, tokA, noTok, Ext.app]
def gEnd (s : List UInt8) : Tok × Int := if (gSplit (Lib.trimRightS s blanksL)).2.2 = false then (noTok, 4) else ((2, Lib.trimRightS s blanksL, false, false), 0)
theorem trimRight_len (s cs : List UInt8) : (Lib.trimRightS s cs).length ≤ s.length := by
  unfold Lib.trimRightS
  rw [List.length_reverse]
  have := (List.dropWhile_sublist (fun x => cs.contains x) (l := s.reverse)).length_le
  rw [List.length_reverse] at this
  exact this
theorem end_ok (hE : ∀ w, E w → LibE w) (H : AHeap) (s : List UInt8) (b : Bool) (hS : s.length ≤ 4000000000) : ACalls E Tryd.prog 24 [.str s, .bool b] H (fun v H' => v = .tuple [tokA (gEnd s).1, .int .i64 (gEnd s).2] ∧ Ext H H') := by
  refine ACalls.of_codeC (N := 22) (rs := [.cell 4 28, .tmp 5]) Tryd.func24 rfl rfl rfl rfl (by simp) ?_
  refine ACode.of_K _ ?_
  simp (maxSteps := 5000000) (implicitDefEqProofs := false) only [go_sem, Nat.reduceLT, Nat.reduceBEq, Nat.reduceBNe, Nat.reduceAdd, Nat.reduceSub, Nat.reduceMul, Nat.reduceEqDiff, Nat.reduceLeDiff, Int.reduceLT, Int.reduceLE, Int.reduceEq, Int.reduceToNat, Int.reduceBEq, Int.reduceAdd, Int.reduceSub, Int.reduceNeg, reduceCtorEq]
  refine callK_same (TrimRight_ok E _ s (by omega)) ?_
  simp (maxSteps := 5000000) (implicitDefEqProofs := false) only [go_sem, Nat.reduceLT, Nat.reduceBEq, Nat.reduceBNe, Nat.reduceAdd, Nat.reduceSub, Nat.reduceMul, Nat.reduceEqDiff, Nat.reduceLeDiff, Int.reduceLT, Int.reduceLE, Int.reduceEq, Int.reduceToNat, Int.reduceBEq, Int.reduceAdd, Int.reduceSub, Int.reduceNeg, reduceCtorEq]
  have hl := trimRight_len s blanksL
  refine callK_val (Split_ok hE _ (Lib.trimRightS s blanksL) (by omega)) fun H1 e1 => ?_
  have he : Ext H H1 := (Ext.app _ _).trans e1
  have hg : gEnd s = if (gSplit (Lib.trimRightS s blanksL)).2.2 = false then (noTok, 4) else ((2, Lib.trimRightS s blanksL, false, false), 0) := rfl
  have h4 := e1.get (get_new0 H _)
  have s4 : ∀ x, (H1.set H.length x)[H.length]? = some x := fun x => iter_set h4
  cases hc : (gSplit (Lib.trimRightS s blanksL)).2.2
  all_goals simp (maxSteps := 5000000) (implicitDefEqProofs := false) only [go_sem, Nat.reduceLT, Nat.reduceBEq, Nat.reduceBNe, Nat.reduceAdd, Nat.reduceSub, Nat.reduceMul, Nat.reduceEqDiff, Nat.reduceLeDiff, Int.reduceLT, Int.reduceLE, Int.reduceEq, Int.reduceToNat, Int.reduceBEq, Int.reduceAdd, Int.reduceSub, Int.reduceNeg, reduceCtorEq, h4, s4]
  · rw [hg, if_pos hc]
    exact ⟨⟨rfl, rfl⟩, he.iter _⟩
  · rw [hg, if_neg (by rw [hc]; simp)]
    exact ⟨⟨rfl, rfl⟩, he.iter _⟩
end Go.AL
