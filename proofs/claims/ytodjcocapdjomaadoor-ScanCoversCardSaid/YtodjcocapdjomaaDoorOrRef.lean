/- ref: references. -/
import Derived.Test.YtodjcocapdjomaaDoorOrPut
import Derived.Test.YtodjcocapdjomaaDoorOrChar
namespace Go.AL
open Go Go.RowKit Go.Proofs
set_option linter.unusedVariables false
set_option linter.unusedSimpArgs false
set_option maxRecDepth 20000
set_option maxHeartbeats 2000000
variable {E : World → Prop}
def gNamed (s : List UInt8) : Int × Bool :=
  if s = [108, 116] then (60, true) else if s = [103, 116] then (62, true) else if s = [97, 109, 112] then (38, true) else if s = [97, 112, 111, 115] then (39, true) else if s = [113, 117, 111, 116] then (34, true) else (0, false)
theorem named_ok (H : AHeap) (s : List UInt8) : ACalls E Tryd.prog 78 [.str s] H (fun v H' => v = .tuple [.int .i32 (gNamed s).1, .bool (gNamed s).2] ∧ Ext H H') := by
  refine ACalls.of_code (N := 15) (ts := [2, 3]) Tryd.func78 rfl rfl rfl rfl (by simp) ?_
  refine ACode.of_K _ ?_
  simp (contextual := true) (maxSteps := 5000000) (implicitDefEqProofs := false) only [go_sem, Nat.reduceLT, Nat.reduceBEq, Nat.reduceBNe, Nat.reduceAdd, Nat.reduceSub, Nat.reduceMul, Nat.reduceEqDiff, Nat.reduceLeDiff, Int.reduceLT, Int.reduceLE, Int.reduceEq, Int.reduceToNat, Int.reduceBEq, Int.reduceAdd, Int.reduceSub, Int.reduceNeg, reduceCtorEq, gNamed, if_true, if_false, Ext.refl, and_self, implies_true, if_pos, if_neg]
  simp
def gDigit (c : Int) (base : Int) : Int × Bool :=
  if 48 ≤ c ∧ c ≤ 57 then (c - 48, true) else if base = 16 ∧ 97 ≤ c ∧ c ≤ 102 then (c - 87, true) else if base = 16 ∧ 65 ≤ c ∧ c ≤ 70 then (c - 55, true) else (0, false)
theorem digit_ok (H : AHeap) (c : Int) (base : Int) (h0 : 0 ≤ c) (h1 : c < 256) : ACalls E Tryd.prog 90 [.int .u8 c, .int .i32 base] H (fun v H' => v = .tuple [.int .i32 (gDigit c base).1, .bool (gDigit c base).2] ∧ Ext H H') := by
  refine ACalls.of_code (N := 46) (ts := [4, 5]) Tryd.func90 rfl rfl rfl rfl (by simp) ?_
  refine ACode.of_K _ ?_
  have w1 : 48 ≤ c → IntKind.i32.wrap (IntKind.u8.wrap (c - 48)) = c - 48 := fun h => by simp [IntKind.wrap, IntKind.bits, IntKind.signed]; omega
  have w2 : 97 ≤ c → IntKind.i32.wrap (IntKind.i32.wrap (IntKind.u8.wrap (c - 97)) + 10) = c - 87 := fun h => by simp [IntKind.wrap, IntKind.bits, IntKind.signed]; omega
  have w3 : 65 ≤ c → IntKind.i32.wrap (IntKind.i32.wrap (IntKind.u8.wrap (c - 65)) + 10) = c - 55 := fun h => by simp [IntKind.wrap, IntKind.bits, IntKind.signed]; omega
  simp (maxSteps := 5000000) (implicitDefEqProofs := false) only [go_sem, Nat.reduceLT, Nat.reduceBEq, Nat.reduceBNe, Nat.reduceAdd, Nat.reduceSub, Nat.reduceMul, Nat.reduceEqDiff, Nat.reduceLeDiff, Int.reduceLT, Int.reduceLE, Int.reduceEq, Int.reduceToNat, Int.reduceBEq, Int.reduceAdd, Int.reduceSub, Int.reduceNeg, reduceCtorEq]
  unfold gDigit
  repeat' (first | apply And.intro | intro _)
  all_goals first
    | exact Ext.refl _
    | (exfalso; omega)
    | (rw [if_pos (by omega)]; done)
    | (rw [if_pos (by omega)]; exact w1 (by omega))
    | (rw [if_neg (by omega), if_pos (by omega)]; done)
    | (rw [if_neg (by omega), if_pos (by omega)]; exact w2 (by omega))
    | (rw [if_neg (by omega), if_neg (by omega), if_pos (by omega)]; done)
    | (rw [if_neg (by omega), if_neg (by omega), if_pos (by omega)]; exact w3 (by omega))
    | (rw [if_neg (by omega), if_neg (by omega), if_neg (by omega)]; done)
def numL (base : Int) : List UInt8 → Int → Option Int
  | [], n => some n
  | b :: s, n => if (gDigit b.toNat base).2 then numL base s (IntKind.i64.wrap (IntKind.i64.wrap (n * IntKind.i64.wrap base) + IntKind.i64.wrap (gDigit b.toNat base).1)) else none
def gNumB (s : List UInt8) (base : Int) : Int × Bool := if s = [] ∨ 8 < s.length then (0, false) else match numL base s 0 with
  | none => (0, false)
  | some n => if 1114111 < n ∨ gChar (IntKind.i32.wrap n) = false then (0, false) else (IntKind.i32.wrap n, true)
def gNumbered (s : List UInt8) : Int × Bool := if Lib.hasPrefix s [120] then gNumB (Lib.trimPrefix s [120]) 16 else gNumB s 10
theorem numbered_ok (H : AHeap) (s : List UInt8) : ACalls E Tryd.prog 79 [.str s] H (fun v H' => v = .tuple [.int .i32 (gNumbered s).1, .bool (gNumbered s).2] ∧ Ext H H') := by
  refine ACalls.of_code (N := 58) (ts := [2, 3]) Tryd.func79 rfl rfl rfl rfl (by simp) ?_
  refine ACode.of_K _ ?_
  simp (maxSteps := 5000000) (implicitDefEqProofs := false) only [go_sem, Nat.reduceLT, Nat.reduceBEq, Nat.reduceBNe, Nat.reduceAdd, Nat.reduceSub, Nat.reduceMul, Nat.reduceEqDiff, Nat.reduceLeDiff, Int.reduceLT, Int.reduceLE, Int.reduceEq, Int.reduceToNat, Int.reduceBEq, Int.reduceAdd, Int.reduceSub, Int.reduceNeg, reduceCtorEq]
  refine callK_same (CutPrefix_ok E H s [120]) ?_
  cases hp : Lib.hasPrefix s [120]
  all_goals simp (maxSteps := 5000000) (implicitDefEqProofs := false) only [go_sem, Nat.reduceLT, Nat.reduceBEq, Nat.reduceBNe, Nat.reduceAdd, Nat.reduceSub, Nat.reduceMul, Nat.reduceEqDiff, Nat.reduceLeDiff, Int.reduceLT, Int.reduceLE, Int.reduceEq, Int.reduceToNat, Int.reduceBEq, Int.reduceAdd, Int.reduceSub, Int.reduceNeg, reduceCtorEq, hp]
  · have hg : gNumbered s = gNumB s 10 := by unfold gNumbered; rw [hp]; rfl
    generalize gNumbered s = G at *
    obtain ⟨base, hbase, hb⟩ : ∃ b : Int, b = 10 ∧ (b = 10 ∨ b = 16) := ⟨_, rfl, .inl rfl⟩
    rw [← hbase] at hg
    generalize s = u at *
    refine ⟨fun h => ⟨by rw [hg, gNumB, if_pos (.inl h)]; exact ⟨rfl, rfl⟩, Ext.refl _⟩, fun hne => ⟨fun h => ⟨by rw [hg, gNumB, if_pos (.inr (by omega))]; exact ⟨rfl, rfl⟩, Ext.refl _⟩, fun hle => ?_⟩⟩
    rw [gNumB, if_neg (fun h => h.elim hne (fun h => hle (by omega)))] at hg
    refine ACode.loopVX [(2, 3), (7, 10), (27, 47)] (fun m T H' => Ext H H' ∧ ∃ k : Nat, ∃ n : Int, m = u.length - k ∧ k ≤ u.length ∧ T 7 = .int .i64 n ∧ T 27 = .int .i64 k ∧ numL base u 0 = numL base (u.drop k) n) (fun T H' => Ext H H' ∧ ∃ n : Int, T 7 = .int .i64 n ∧ numL base u 0 = some n) u.length ?_ ?_ ?_
    · exact ⟨Ext.refl _, 0, 0, by omega, by omega, by simp (maxSteps := 5000000) (implicitDefEqProofs := false) only [go_sem, Nat.reduceLT, Nat.reduceBEq, Nat.reduceBNe, Nat.reduceAdd, Nat.reduceSub, Nat.reduceMul, Nat.reduceEqDiff, Nat.reduceLeDiff, Int.reduceLT, Int.reduceLE, Int.reduceEq, Int.reduceToNat, Int.reduceBEq, Int.reduceAdd, Int.reduceSub, Int.reduceNeg, reduceCtorEq], by simp (maxSteps := 5000000) (implicitDefEqProofs := false) only [go_sem, Nat.reduceLT, Nat.reduceBEq, Nat.reduceBNe, Nat.reduceAdd, Nat.reduceSub, Nat.reduceMul, Nat.reduceEqDiff, Nat.reduceLeDiff, Int.reduceLT, Int.reduceLE, Int.reduceEq, Int.reduceToNat, Int.reduceBEq, Int.reduceAdd, Int.reduceSub, Int.reduceNeg, reduceCtorEq], rfl⟩
    · rintro T0 hT0 m T H' hK ⟨hext, k, n, rfl, hk, t7, t27, hn⟩
      have t0 := hK 0 rfl; have t4 := hK 4 rfl; have t26 := hK 26 rfl
      simp (maxSteps := 5000000) (implicitDefEqProofs := false) only [go_sem, Nat.reduceLT, Nat.reduceBEq, Nat.reduceBNe, Nat.reduceAdd, Nat.reduceSub, Nat.reduceMul, Nat.reduceEqDiff, Nat.reduceLeDiff, Int.reduceLT, Int.reduceLE, Int.reduceEq, Int.reduceToNat, Int.reduceBEq, Int.reduceAdd, Int.reduceSub, Int.reduceNeg, reduceCtorEq, hT0] at t0 t4 t26
      rw [← hbase] at t4
      refine ACode.of_K _ ?_
      by_cases hlt : k < u.length
      · have hlt' : (k : Int) < (u.length : Int) := by omega
        have hbk : u[k]? = some u[k] := List.getElem?_eq_getElem hlt
        rw [List.drop_eq_getElem_cons hlt, numL] at hn
        have hw := wrap_add1 k (by omega)
        simp (maxSteps := 5000000) (implicitDefEqProofs := false) only [go_sem, Nat.reduceLT, Nat.reduceBEq, Nat.reduceBNe, Nat.reduceAdd, Nat.reduceSub, Nat.reduceMul, Nat.reduceEqDiff, Nat.reduceLeDiff, Int.reduceLT, Int.reduceLE, Int.reduceEq, Int.reduceToNat, Int.reduceBEq, Int.reduceAdd, Int.reduceSub, Int.reduceNeg, reduceCtorEq, t0, t4, t7, t26, t27, hlt', hbk, Int.natCast_nonneg, Int.toNat_natCast]
        refine callK_val (digit_ok H' (u[k].toNat : Int) base (by omega) (by have := u[k].toNat_lt; omega)) fun H1 e1 => ?_
        generalize hd : gDigit (u[k].toNat : Int) base = d at *
        simp (maxSteps := 5000000) (implicitDefEqProofs := false) only [go_sem, Nat.reduceLT, Nat.reduceBEq, Nat.reduceBNe, Nat.reduceAdd, Nat.reduceSub, Nat.reduceMul, Nat.reduceEqDiff, Nat.reduceLeDiff, Int.reduceLT, Int.reduceLE, Int.reduceEq, Int.reduceToNat, Int.reduceBEq, Int.reduceAdd, Int.reduceSub, Int.reduceNeg, reduceCtorEq, t0, t4, t7, t26, t27, hw, Keep_T hK]
        refine ⟨fun h => ?_, fun h => ?_⟩
        · rw [h] at hn
          rw [hn] at hg
          exact ⟨by rw [hg]; exact ⟨rfl, rfl⟩, hext.trans e1⟩
        · rw [h] at hn
          exact ⟨_, by omega, hext.trans e1, k + 1, _, rfl, by omega, rfl, rfl, hn⟩
      · have hlt' : ¬ (k : Int) < (u.length : Int) := by omega
        rw [List.drop_of_length_le (by omega), numL] at hn
        simp (maxSteps := 5000000) (implicitDefEqProofs := false) only [go_sem, Nat.reduceLT, Nat.reduceBEq, Nat.reduceBNe, Nat.reduceAdd, Nat.reduceSub, Nat.reduceMul, Nat.reduceEqDiff, Nat.reduceLeDiff, Int.reduceLT, Int.reduceLE, Int.reduceEq, Int.reduceToNat, Int.reduceBEq, Int.reduceAdd, Int.reduceSub, Int.reduceNeg, reduceCtorEq, t7, t26, t27, hlt', Keep_T hK]
        exact ⟨hext, n, rfl, hn⟩
    · rintro T0 hT0 T H' hK ⟨hext, n, t7, hn⟩
      rw [hn] at hg
      simp only at hg
      by_cases hbig : 1114111 < n
      · simp (maxSteps := 5000000) (implicitDefEqProofs := false) only [go_sem, Nat.reduceLT, Nat.reduceBEq, Nat.reduceBNe, Nat.reduceAdd, Nat.reduceSub, Nat.reduceMul, Nat.reduceEqDiff, Nat.reduceLeDiff, Int.reduceLT, Int.reduceLE, Int.reduceEq, Int.reduceToNat, Int.reduceBEq, Int.reduceAdd, Int.reduceSub, Int.reduceNeg, reduceCtorEq, t7, hbig]
        rw [if_pos (.inl hbig)] at hg
        exact ⟨by rw [hg]; exact ⟨rfl, rfl⟩, hext⟩
      · simp (maxSteps := 5000000) (implicitDefEqProofs := false) only [go_sem, Nat.reduceLT, Nat.reduceBEq, Nat.reduceBNe, Nat.reduceAdd, Nat.reduceSub, Nat.reduceMul, Nat.reduceEqDiff, Nat.reduceLeDiff, Int.reduceLT, Int.reduceLE, Int.reduceEq, Int.reduceToNat, Int.reduceBEq, Int.reduceAdd, Int.reduceSub, Int.reduceNeg, reduceCtorEq, t7, hbig]
        refine callK_val (Char_ok H' _) fun H1 e1 => ?_
        cases hc : gChar (IntKind.i32.wrap n)
        all_goals simp (maxSteps := 5000000) (implicitDefEqProofs := false) only [go_sem, Nat.reduceLT, Nat.reduceBEq, Nat.reduceBNe, Nat.reduceAdd, Nat.reduceSub, Nat.reduceMul, Nat.reduceEqDiff, Nat.reduceLeDiff, Int.reduceLT, Int.reduceLE, Int.reduceEq, Int.reduceToNat, Int.reduceBEq, Int.reduceAdd, Int.reduceSub, Int.reduceNeg, reduceCtorEq, t7, hbig]
        · rw [if_pos (.inr hc)] at hg
          exact ⟨by rw [hg]; exact ⟨rfl, rfl⟩, hext.trans e1⟩
        · rw [if_neg (fun h => h.elim hbig (fun h => by rw [hc] at h; cases h))] at hg
          exact ⟨by rw [hg]; exact ⟨rfl, rfl⟩, hext.trans e1⟩
  · have hg : gNumbered s = gNumB (Lib.trimPrefix s [120]) 16 := by unfold gNumbered; rw [hp]; rfl
    generalize gNumbered s = G at *
    obtain ⟨base, hbase, hb⟩ : ∃ b : Int, b = 16 ∧ (b = 10 ∨ b = 16) := ⟨_, rfl, .inr rfl⟩
    rw [← hbase] at hg
    generalize Lib.trimPrefix s [120] = u at *
    refine ⟨fun h => ⟨by rw [hg, gNumB, if_pos (.inl h)]; exact ⟨rfl, rfl⟩, Ext.refl _⟩, fun hne => ⟨fun h => ⟨by rw [hg, gNumB, if_pos (.inr (by omega))]; exact ⟨rfl, rfl⟩, Ext.refl _⟩, fun hle => ?_⟩⟩
    rw [gNumB, if_neg (fun h => h.elim hne (fun h => hle (by omega)))] at hg
    refine ACode.loopVX [(2, 3), (7, 10), (27, 47)] (fun m T H' => Ext H H' ∧ ∃ k : Nat, ∃ n : Int, m = u.length - k ∧ k ≤ u.length ∧ T 7 = .int .i64 n ∧ T 27 = .int .i64 k ∧ numL base u 0 = numL base (u.drop k) n) (fun T H' => Ext H H' ∧ ∃ n : Int, T 7 = .int .i64 n ∧ numL base u 0 = some n) u.length ?_ ?_ ?_
    · exact ⟨Ext.refl _, 0, 0, by omega, by omega, by simp (maxSteps := 5000000) (implicitDefEqProofs := false) only [go_sem, Nat.reduceLT, Nat.reduceBEq, Nat.reduceBNe, Nat.reduceAdd, Nat.reduceSub, Nat.reduceMul, Nat.reduceEqDiff, Nat.reduceLeDiff, Int.reduceLT, Int.reduceLE, Int.reduceEq, Int.reduceToNat, Int.reduceBEq, Int.reduceAdd, Int.reduceSub, Int.reduceNeg, reduceCtorEq], by simp (maxSteps := 5000000) (implicitDefEqProofs := false) only [go_sem, Nat.reduceLT, Nat.reduceBEq, Nat.reduceBNe, Nat.reduceAdd, Nat.reduceSub, Nat.reduceMul, Nat.reduceEqDiff, Nat.reduceLeDiff, Int.reduceLT, Int.reduceLE, Int.reduceEq, Int.reduceToNat, Int.reduceBEq, Int.reduceAdd, Int.reduceSub, Int.reduceNeg, reduceCtorEq], rfl⟩
    · rintro T0 hT0 m T H' hK ⟨hext, k, n, rfl, hk, t7, t27, hn⟩
      have t0 := hK 0 rfl; have t4 := hK 4 rfl; have t26 := hK 26 rfl
      simp (maxSteps := 5000000) (implicitDefEqProofs := false) only [go_sem, Nat.reduceLT, Nat.reduceBEq, Nat.reduceBNe, Nat.reduceAdd, Nat.reduceSub, Nat.reduceMul, Nat.reduceEqDiff, Nat.reduceLeDiff, Int.reduceLT, Int.reduceLE, Int.reduceEq, Int.reduceToNat, Int.reduceBEq, Int.reduceAdd, Int.reduceSub, Int.reduceNeg, reduceCtorEq, hT0] at t0 t4 t26
      rw [← hbase] at t4
      refine ACode.of_K _ ?_
      by_cases hlt : k < u.length
      · have hlt' : (k : Int) < (u.length : Int) := by omega
        have hbk : u[k]? = some u[k] := List.getElem?_eq_getElem hlt
        rw [List.drop_eq_getElem_cons hlt, numL] at hn
        have hw := wrap_add1 k (by omega)
        simp (maxSteps := 5000000) (implicitDefEqProofs := false) only [go_sem, Nat.reduceLT, Nat.reduceBEq, Nat.reduceBNe, Nat.reduceAdd, Nat.reduceSub, Nat.reduceMul, Nat.reduceEqDiff, Nat.reduceLeDiff, Int.reduceLT, Int.reduceLE, Int.reduceEq, Int.reduceToNat, Int.reduceBEq, Int.reduceAdd, Int.reduceSub, Int.reduceNeg, reduceCtorEq, t0, t4, t7, t26, t27, hlt', hbk, Int.natCast_nonneg, Int.toNat_natCast]
        refine callK_val (digit_ok H' (u[k].toNat : Int) base (by omega) (by have := u[k].toNat_lt; omega)) fun H1 e1 => ?_
        generalize hd : gDigit (u[k].toNat : Int) base = d at *
        simp (maxSteps := 5000000) (implicitDefEqProofs := false) only [go_sem, Nat.reduceLT, Nat.reduceBEq, Nat.reduceBNe, Nat.reduceAdd, Nat.reduceSub, Nat.reduceMul, Nat.reduceEqDiff, Nat.reduceLeDiff, Int.reduceLT, Int.reduceLE, Int.reduceEq, Int.reduceToNat, Int.reduceBEq, Int.reduceAdd, Int.reduceSub, Int.reduceNeg, reduceCtorEq, t0, t4, t7, t26, t27, hw, Keep_T hK]
        refine ⟨fun h => ?_, fun h => ?_⟩
        · rw [h] at hn
          rw [hn] at hg
          exact ⟨by rw [hg]; exact ⟨rfl, rfl⟩, hext.trans e1⟩
        · rw [h] at hn
          exact ⟨_, by omega, hext.trans e1, k + 1, _, rfl, by omega, rfl, rfl, hn⟩
      · have hlt' : ¬ (k : Int) < (u.length : Int) := by omega
        rw [List.drop_of_length_le (by omega), numL] at hn
        simp (maxSteps := 5000000) (implicitDefEqProofs := false) only [go_sem, Nat.reduceLT, Nat.reduceBEq, Nat.reduceBNe, Nat.reduceAdd, Nat.reduceSub, Nat.reduceMul, Nat.reduceEqDiff, Nat.reduceLeDiff, Int.reduceLT, Int.reduceLE, Int.reduceEq, Int.reduceToNat, Int.reduceBEq, Int.reduceAdd, Int.reduceSub, Int.reduceNeg, reduceCtorEq, t7, t26, t27, hlt', Keep_T hK]
        exact ⟨hext, n, rfl, hn⟩
    · rintro T0 hT0 T H' hK ⟨hext, n, t7, hn⟩
      rw [hn] at hg
      simp only at hg
      by_cases hbig : 1114111 < n
      · simp (maxSteps := 5000000) (implicitDefEqProofs := false) only [go_sem, Nat.reduceLT, Nat.reduceBEq, Nat.reduceBNe, Nat.reduceAdd, Nat.reduceSub, Nat.reduceMul, Nat.reduceEqDiff, Nat.reduceLeDiff, Int.reduceLT, Int.reduceLE, Int.reduceEq, Int.reduceToNat, Int.reduceBEq, Int.reduceAdd, Int.reduceSub, Int.reduceNeg, reduceCtorEq, t7, hbig]
        rw [if_pos (.inl hbig)] at hg
        exact ⟨by rw [hg]; exact ⟨rfl, rfl⟩, hext⟩
      · simp (maxSteps := 5000000) (implicitDefEqProofs := false) only [go_sem, Nat.reduceLT, Nat.reduceBEq, Nat.reduceBNe, Nat.reduceAdd, Nat.reduceSub, Nat.reduceMul, Nat.reduceEqDiff, Nat.reduceLeDiff, Int.reduceLT, Int.reduceLE, Int.reduceEq, Int.reduceToNat, Int.reduceBEq, Int.reduceAdd, Int.reduceSub, Int.reduceNeg, reduceCtorEq, t7, hbig]
        refine callK_val (Char_ok H' _) fun H1 e1 => ?_
        cases hc : gChar (IntKind.i32.wrap n)
        all_goals simp (maxSteps := 5000000) (implicitDefEqProofs := false) only [go_sem, Nat.reduceLT, Nat.reduceBEq, Nat.reduceBNe, Nat.reduceAdd, Nat.reduceSub, Nat.reduceMul, Nat.reduceEqDiff, Nat.reduceLeDiff, Int.reduceLT, Int.reduceLE, Int.reduceEq, Int.reduceToNat, Int.reduceBEq, Int.reduceAdd, Int.reduceSub, Int.reduceNeg, reduceCtorEq, t7, hbig]
        · rw [if_pos (.inr hc)] at hg
          exact ⟨by rw [hg]; exact ⟨rfl, rfl⟩, hext.trans e1⟩
        · rw [if_neg (fun h => h.elim hbig (fun h => by rw [hc] at h; cases h))] at hg
          exact ⟨by rw [hg]; exact ⟨rfl, rfl⟩, hext.trans e1⟩
end Go.AL
