/- utf: runes of bytes. -/
import Derived.Test.YtodjcocapdjomaaDoorOrTy
namespace Go.AL
open Go Go.RowKit Go.Proofs
set_option linter.unusedVariables false
set_option linter.unusedSimpArgs false
set_option maxRecDepth 20000
set_option maxHeartbeats 2000000
variable {E : World → Prop}
def formCells : List AV := [.int .u8 128, .int .u8 0, .int .i32 0, .int .u8 224, .int .u8 192, .int .i32 128, .int .u8 240, .int .u8 224, .int .i32 2048, .int .u8 248, .int .u8 240, .int .i32 65536]
theorem forms_ok (H : AHeap) : ACalls E Tryd.prog 74 [] H (fun v H' => v = .agg formCells ∧ Ext H H') := by
  refine ACalls.of_codeC (N := 6) (rs := [.cell 0 105]) Tryd.func74 rfl rfl rfl rfl (by simp) ?_
  refine ACode.of_K _ ?_
  simp (maxSteps := 5000000) (implicitDefEqProofs := false) only [go_sem, Nat.reduceLT, Nat.reduceBEq, Nat.reduceBNe, Nat.reduceAdd, Nat.reduceSub, Nat.reduceMul, Nat.reduceEqDiff, Nat.reduceLeDiff, Int.reduceLT, Int.reduceLE, Int.reduceEq, Int.reduceToNat, Int.reduceBEq, Int.reduceAdd, Int.reduceSub, Int.reduceNeg, reduceCtorEq]
  exact ⟨rfl, Ext.app _ _⟩
def gMay (r : Int) : Bool := decide (0 ≤ r) && decide (r ≤ 0x10ffff) && (decide (r < 0xd800) || decide (0xdfff < r))
theorem may_ok (H : AHeap) (r : Int) : ACalls E Tryd.prog 81 [.int .i32 r] H (fun v H' => v = .bool (gMay r) ∧ Ext H H') := by
  refine ACalls.of_code (N := 17) (ts := [2]) Tryd.func81 rfl rfl rfl rfl (by simp) ?_
  refine ACode.of_K _ ?_
  simp (maxSteps := 5000000) (implicitDefEqProofs := false) only [go_sem, Nat.reduceLT, Nat.reduceBEq, Nat.reduceBNe, Nat.reduceAdd, Nat.reduceSub, Nat.reduceMul, Nat.reduceEqDiff, Nat.reduceLeDiff, Int.reduceLT, Int.reduceLE, Int.reduceEq, Int.reduceToNat, Int.reduceBEq, Int.reduceAdd, Int.reduceSub, Int.reduceNeg, reduceCtorEq]
  unfold gMay
  by_cases a : 0 ≤ r <;> by_cases b : r ≤ 1114111 <;> by_cases c : r < 55296 <;> simp [a, b, c, Ext.refl]
/-- the least and the greatest rune that v begins -/
def gLow (v : Int) (t : Nat) : Int := IntKind.i32.wrap (v * 2 ^ min (6 * t) 32)
def gHigh (v : Int) (t : Nat) : Int := ior .i32 (gLow v t) (IntKind.i32.wrap (IntKind.i32.wrap (2 ^ min (6 * t) 32) - 1))
theorem span_ok (H : AHeap) (r : Int) (t : Nat) (ht : t ≤ 4) : ACalls E Tryd.prog 75 [.int .i32 r, .int .i64 t] H (fun v H' => v = .tuple [.int .i32 (gLow r t), .int .i32 (gHigh r t)] ∧ Ext H H') := by
  refine ACalls.of_code (N := 18) (ts := [4, 5]) Tryd.func75 rfl rfl rfl rfl (by simp) ?_
  refine ACode.of_K _ ?_
  have hw : IntKind.i64.wrap (6 * (t : Int)) = ((6 * t : Nat) : Int) := by rw [wrap64_id (by omega) (by omega)]; rfl
  have h0 : ¬ ((6 * t : Nat) : Int) < 0 := by omega
  simp (maxSteps := 5000000) (implicitDefEqProofs := false) only [go_sem, Nat.reduceLT, Nat.reduceBEq, Nat.reduceBNe, Nat.reduceAdd, Nat.reduceSub, Nat.reduceMul, Nat.reduceEqDiff, Nat.reduceLeDiff, Int.reduceLT, Int.reduceLE, Int.reduceEq, Int.reduceToNat, Int.reduceBEq, Int.reduceAdd, Int.reduceSub, Int.reduceNeg, reduceCtorEq, hw, h0]
  refine ACode.regionD [0, 1, 2, 3, 4, 5, 6, 7, 8] [] [] (fun _ => True) mixed (by kernel_rfl) trivial ?_
  simp (maxSteps := 5000000) (implicitDefEqProofs := false) only [go_sem, Nat.reduceLT, Nat.reduceBEq, Nat.reduceBNe, Nat.reduceAdd, Nat.reduceSub, Nat.reduceMul, Nat.reduceEqDiff, Nat.reduceLeDiff, Int.reduceLT, Int.reduceLE, Int.reduceEq, Int.reduceToNat, Int.reduceBEq, Int.reduceAdd, Int.reduceSub, Int.reduceNeg, reduceCtorEq, hw, h0]
  refine ⟨⟨rfl, ?_⟩, Ext.refl _⟩
  simp only [gHigh, gLow, IntKind.bits, Int.one_mul]
def fMask (n : Nat) : Int := [(0x80 : Int), 0xe0, 0xf0, 0xf8].getD n 0
def fMark (n : Nat) : Int := [(0 : Int), 0xc0, 0xe0, 0xf0].getD n 0
def fLeast (n : Nat) : Int := [(0 : Int), 0x80, 0x800, 0x10000].getD n 0
theorem form_at (n : Nat) (h : n < 4) : (formCells.drop (n * 3)).take 3 = [.int .u8 (fMask n), .int .u8 (fMark n), .int .i32 (fLeast n)] := by
  match n, h with
  | 0, _ => rfl
  | 1, _ => rfl
  | 2, _ => rfl
  | 3, _ => rfl
  | n + 4, h => omega
/-- the tails of a rune: its value, how many bytes -/
def rTail (s : List UInt8) (a : Nat) : Nat → Int → Nat → Int × Nat
  | 0, v, h => (v, h)
  | f + 1, v, h => match s[a + h]? with
    | none => (v, h)
    | some b => if iand .u8 b.toNat 192 = 128 then rTail s a f (ior .i32 (IntKind.i32.wrap (v * 2 ^ min 6 32)) (IntKind.i32.wrap (iand .u8 b.toNat 63))) (h + 1) else (v, h)
theorem rTail_le (s : List UInt8) (a : Nat) : ∀ (f : Nat) (v : Int) (h : Nat), h ≤ (rTail s a f v h).2 ∧ (rTail s a f v h).2 ≤ h + f ∧ (a + h ≤ s.length → a + (rTail s a f v h).2 ≤ s.length)
  | 0, v, h => by simp [rTail]
  | f + 1, v, h => by
    unfold rTail
    split
    · exact ⟨Nat.le_refl _, by omega, id⟩
    · rename_i b hb
      have := (List.getElem?_eq_some_iff.1 hb).1
      split
      · have := rTail_le s a f (ior .i32 (IntKind.i32.wrap (v * 2 ^ min 6 32)) (IntKind.i32.wrap (iand .u8 b.toNat 63))) (h + 1)
        exact ⟨by omega, by omega, fun _ => this.2.2 (by omega)⟩
      · exact ⟨Nat.le_refl _, by omega, id⟩
/-- what a rune's bytes say -/
def rEnd (s : List UInt8) (a n : Nat) (v : Int) (h : Nat) : Int × Int × Int :=
  if gHigh v (n + 1 - h) < fLeast n ∨ 1114111 < gLow v (n + 1 - h) ∨ (55296 ≤ gLow v (n + 1 - h) ∧ gHigh v (n + 1 - h) ≤ 57343) then (0, 0, 2)
  else if h = n + 1 then (v, h, 0) else if a + h = s.length then (0, 0, 7) else (0, 0, 2)
def rOne (s : List UInt8) (a : Nat) (b : Int) (n : Nat) : Int × Int × Int :=
  rEnd s a n (rTail s a n (IntKind.i32.wrap (ianot .u8 b (fMask n))) 1).1 (rTail s a n (IntKind.i32.wrap (ianot .u8 b (fMask n))) 1).2
def rFind (s : List UInt8) (a : Nat) (b : Int) : Nat → Nat → Int × Int × Int
  | 0, _ => (0, 0, 2)
  | f + 1, n => if iand .u8 b (fMask n) == fMark n then rOne s a b n else rFind s a b f (n + 1)
def gRune (s : List UInt8) (i : Int) : Int × Int × Int :=
  if i < 0 then (0, 0, 7) else match s[i.toNat]? with
  | none => (0, 0, 7)
  | some b => rFind s i.toNat b.toNat 4 0
def t3 (x : Int × Int × Int) : AV := .tuple [.int .i32 x.1, .int .i64 x.2.1, .int .i64 x.2.2]
theorem Rune_ok (H : AHeap) (s : List UInt8) (at_ : Int) (hS : s.length ≤ 1000000000000) : ACalls E Tryd.prog 51 [.str s, .int .i64 at_] H (fun v H' => v = t3 (gRune s at_) ∧ Ext H H') := by
  refine ACalls.of_code (N := 115) (ts := [4, 5, 6]) Tryd.func51 rfl rfl rfl rfl (by simp) ?_
  refine ACode.of_K _ ?_
  simp (maxSteps := 5000000) (implicitDefEqProofs := false) only [go_sem, Nat.reduceLT, Nat.reduceBEq, Nat.reduceBNe, Nat.reduceAdd, Nat.reduceSub, Nat.reduceMul, Nat.reduceEqDiff, Nat.reduceLeDiff, Int.reduceLT, Int.reduceLE, Int.reduceEq, Int.reduceToNat, Int.reduceBEq, Int.reduceAdd, Int.reduceSub, Int.reduceNeg, reduceCtorEq]
  refine ⟨fun h1 => ⟨by simp [gRune, h1, t3], Ext.refl _⟩, fun h1 => ⟨fun h2 => ⟨?_, Ext.refl _⟩, fun h2 => callK_val (forms_ok H) fun H1 e1 => ?_⟩⟩
  · have : s[at_.toNat]? = none := List.getElem?_eq_none (by omega)
    simp [gRune, h1, this, t3]
  simp (maxSteps := 5000000) (implicitDefEqProofs := false) only [go_sem, Nat.reduceLT, Nat.reduceBEq, Nat.reduceBNe, Nat.reduceAdd, Nat.reduceSub, Nat.reduceMul, Nat.reduceEqDiff, Nat.reduceLeDiff, Int.reduceLT, Int.reduceLE, Int.reduceEq, Int.reduceToNat, Int.reduceBEq, Int.reduceAdd, Int.reduceSub, Int.reduceNeg, reduceCtorEq]
  obtain ⟨a, rfl⟩ : ∃ a : Nat, at_ = a := ⟨at_.toNat, by omega⟩
  have ha : a < s.length := by omega
  have hs : s[a]? = some s[a] := List.getElem?_eq_getElem ha
  have hg : gRune s a = rFind s a (s[a].toNat : Int) 4 0 := by
    unfold gRune
    rw [if_neg h1, Int.toNat_natCast, hs]
  refine ACode.loop (fun m T H' => ∃ n : Nat, m = 4 - n ∧ n ≤ 4 ∧ T 0 = .str s ∧ T 1 = .int .i64 a ∧ T 21 = .agg formCells ∧ T 22 = .int .i64 n ∧ Ext H H' ∧ gRune s a = rFind s a (s[a].toNat : Int) (4 - n) n) 4 ⟨0, rfl, by omega, by simp (maxSteps := 5000000) (implicitDefEqProofs := false) only [go_sem, Nat.reduceLT, Nat.reduceBEq, Nat.reduceBNe, Nat.reduceAdd, Nat.reduceSub, Nat.reduceMul, Nat.reduceEqDiff, Nat.reduceLeDiff, Int.reduceLT, Int.reduceLE, Int.reduceEq, Int.reduceToNat, Int.reduceBEq, Int.reduceAdd, Int.reduceSub, Int.reduceNeg, reduceCtorEq], by simp (maxSteps := 5000000) (implicitDefEqProofs := false) only [go_sem, Nat.reduceLT, Nat.reduceBEq, Nat.reduceBNe, Nat.reduceAdd, Nat.reduceSub, Nat.reduceMul, Nat.reduceEqDiff, Nat.reduceLeDiff, Int.reduceLT, Int.reduceLE, Int.reduceEq, Int.reduceToNat, Int.reduceBEq, Int.reduceAdd, Int.reduceSub, Int.reduceNeg, reduceCtorEq], by simp (maxSteps := 5000000) (implicitDefEqProofs := false) only [go_sem, Nat.reduceLT, Nat.reduceBEq, Nat.reduceBNe, Nat.reduceAdd, Nat.reduceSub, Nat.reduceMul, Nat.reduceEqDiff, Nat.reduceLeDiff, Int.reduceLT, Int.reduceLE, Int.reduceEq, Int.reduceToNat, Int.reduceBEq, Int.reduceAdd, Int.reduceSub, Int.reduceNeg, reduceCtorEq], by simp (maxSteps := 5000000) (implicitDefEqProofs := false) only [go_sem, Nat.reduceLT, Nat.reduceBEq, Nat.reduceBNe, Nat.reduceAdd, Nat.reduceSub, Nat.reduceMul, Nat.reduceEqDiff, Nat.reduceLeDiff, Int.reduceLT, Int.reduceLE, Int.reduceEq, Int.reduceToNat, Int.reduceBEq, Int.reduceAdd, Int.reduceSub, Int.reduceNeg, reduceCtorEq], e1, hg⟩ ?_
  rintro m T H' ⟨n, rfl, hn, t0, t1, t21, t22, hext, hrn⟩
  refine ACode.of_K _ ?_
  rcases Nat.lt_or_ge n 4 with hlt | hge
  · have hlt' : (n : Int) < 4 := by omega
    have hlt2 : (n : Int) < ((4 : Nat) : Int) := by omega
    have hf := form_at n hlt
    have hle : n * 3 + 3 ≤ formCells.length := by show _ ≤ 12; omega
    rw [show 4 - n = (4 - (n + 1)) + 1 by omega, rFind] at hrn
    simp (maxSteps := 5000000) (implicitDefEqProofs := false) only [go_sem, Nat.reduceLT, Nat.reduceBEq, Nat.reduceBNe, Nat.reduceAdd, Nat.reduceSub, Nat.reduceMul, Nat.reduceEqDiff, Nat.reduceLeDiff, Int.reduceLT, Int.reduceLE, Int.reduceEq, Int.reduceToNat, Int.reduceBEq, Int.reduceAdd, Int.reduceSub, Int.reduceNeg, reduceCtorEq, t0, t1, t21, t22, hlt', hlt2, hf, hle, Int.natCast_nonneg]
    refine ACode.regionD [0, 1, 2, 3, 4, 5, 6, 7, 8] [] [] (fun H2 => H2[H'.length]? = some (.cells [.int .u8 (fMask n), .int .u8 (fMark n), .int .i32 (fLeast n)] 104 true)) mixed (by kernel_rfl) (get_new0 H' _) ?_
    simp (contextual := true) (maxSteps := 5000000) (implicitDefEqProofs := false) only [go_sem, Nat.reduceLT, Nat.reduceBEq, Nat.reduceBNe, Nat.reduceAdd, Nat.reduceSub, Nat.reduceMul, Nat.reduceEqDiff, Nat.reduceLeDiff, Int.reduceLT, Int.reduceLE, Int.reduceEq, Int.reduceToNat, Int.reduceBEq, Int.reduceAdd, Int.reduceSub, Int.reduceNeg, reduceCtorEq, t0, t1, t21, t22, hlt', hlt2, hf, hle, Int.natCast_nonneg, hs]
    have hE : Ext H (H' ++ [AObj.cells [AV.int IntKind.u8 (fMask n), AV.int IntKind.u8 (fMark n), AV.int IntKind.i32 (fLeast n)] 104 true]) := hext.add _
    have hw : IntKind.i64.wrap ((n : Int) + 1) = ((n + 1 : Nat) : Int) := by rw [wrap64_id (by omega) (by omega)]; rfl
    refine ⟨fun hne => ⟨_, by omega, n + 1, rfl, by omega, hw, hE, ?_⟩, fun heq => ?_⟩
    · rw [if_neg (by simpa only [beq_iff_eq] using hne)] at hrn; exact hrn
    rw [if_pos (by simpa only [beq_iff_eq] using heq)] at hrn
    refine ACode.regionD [0, 1, 2, 3, 4, 5, 6, 7] [] [] (fun H2 => H2[H'.length]? = some (.cells [.int .u8 (fMask n), .int .u8 (fMark n), .int .i32 (fLeast n)] 104 true)) mixed (by kernel_rfl) (get_new0 H' _) ?_
    simp (contextual := true) (maxSteps := 5000000) (implicitDefEqProofs := false) only [go_sem, Nat.reduceLT, Nat.reduceBEq, Nat.reduceBNe, Nat.reduceAdd, Nat.reduceSub, Nat.reduceMul, Nat.reduceEqDiff, Nat.reduceLeDiff, Int.reduceLT, Int.reduceLE, Int.reduceEq, Int.reduceToNat, Int.reduceBEq, Int.reduceAdd, Int.reduceSub, Int.reduceNeg, reduceCtorEq, t0, t1, t21, t22, hlt', hlt2, hf, hle, Int.natCast_nonneg, hs]
    generalize hH2 : H' ++ [AObj.cells [AV.int IntKind.u8 (fMask n), AV.int IntKind.u8 (fMark n), AV.int IntKind.i32 (fLeast n)] 104 true] = H2 at hE ⊢
    have hw1 : ∀ h : Nat, h ≤ 5 → IntKind.i64.wrap ((a : Int) + (h : Int)) = ((a + h : Nat) : Int) := fun h hh => by rw [wrap64_id (by omega) (by omega)]; rfl
    have hw2 : ∀ h : Nat, h ≤ 5 → IntKind.i64.wrap ((h : Int) + 1) = ((h + 1 : Nat) : Int) := fun h hh => by rw [wrap64_id (by omega) (by omega)]; rfl
    refine ACode.loopX (fun m T H3 => ∃ (v : Int) (h : Nat), m = n + 1 - h ∧ 1 ≤ h ∧ h ≤ n + 1 ∧ T 0 = .str s ∧ T 1 = .int .i64 a ∧ T 7 = .int .i64 n ∧ T 8 = .ptr (some (H'.length, 0)) ∧ T 9 = .int .i32 v ∧ T 10 = .int .i64 h ∧ H3 = H2 ∧
      a + h ≤ s.length ∧ gRune s a = rEnd s a n (rTail s a (n + 1 - h) v h).1 (rTail s a (n + 1 - h) v h).2)
      (fun T H3 => ∃ (v : Int) (h : Nat), 1 ≤ h ∧ h ≤ n + 1 ∧ T 0 = .str s ∧ T 1 = .int .i64 a ∧ T 7 = .int .i64 n ∧ T 8 = .ptr (some (H'.length, 0)) ∧ T 9 = .int .i32 v ∧ T 10 = .int .i64 h ∧ H3 = H2 ∧ a + h ≤ s.length ∧ gRune s a = rEnd s a n v h)
      n ⟨IntKind.i32.wrap (ianot .u8 s[a].toNat (fMask n)), 1, by omega, by omega, by omega, by simp (maxSteps := 5000000) (implicitDefEqProofs := false) only [go_sem, Nat.reduceLT, Nat.reduceBEq, Nat.reduceBNe, Nat.reduceAdd, Nat.reduceSub, Nat.reduceMul, Nat.reduceEqDiff, Nat.reduceLeDiff, Int.reduceLT, Int.reduceLE, Int.reduceEq, Int.reduceToNat, Int.reduceBEq, Int.reduceAdd, Int.reduceSub, Int.reduceNeg, reduceCtorEq, t0], by simp (maxSteps := 5000000) (implicitDefEqProofs := false) only [go_sem, Nat.reduceLT, Nat.reduceBEq, Nat.reduceBNe, Nat.reduceAdd, Nat.reduceSub, Nat.reduceMul, Nat.reduceEqDiff, Nat.reduceLeDiff, Int.reduceLT, Int.reduceLE, Int.reduceEq, Int.reduceToNat, Int.reduceBEq, Int.reduceAdd, Int.reduceSub, Int.reduceNeg, reduceCtorEq, t1], by simp (maxSteps := 5000000) (implicitDefEqProofs := false) only [go_sem, Nat.reduceLT, Nat.reduceBEq, Nat.reduceBNe, Nat.reduceAdd, Nat.reduceSub, Nat.reduceMul, Nat.reduceEqDiff, Nat.reduceLeDiff, Int.reduceLT, Int.reduceLE, Int.reduceEq, Int.reduceToNat, Int.reduceBEq, Int.reduceAdd, Int.reduceSub, Int.reduceNeg, reduceCtorEq], by simp (maxSteps := 5000000) (implicitDefEqProofs := false) only [go_sem, Nat.reduceLT, Nat.reduceBEq, Nat.reduceBNe, Nat.reduceAdd, Nat.reduceSub, Nat.reduceMul, Nat.reduceEqDiff, Nat.reduceLeDiff, Int.reduceLT, Int.reduceLE, Int.reduceEq, Int.reduceToNat, Int.reduceBEq, Int.reduceAdd, Int.reduceSub, Int.reduceNeg, reduceCtorEq], by simp (maxSteps := 5000000) (implicitDefEqProofs := false) only [go_sem, Nat.reduceLT, Nat.reduceBEq, Nat.reduceBNe, Nat.reduceAdd, Nat.reduceSub, Nat.reduceMul, Nat.reduceEqDiff, Nat.reduceLeDiff, Int.reduceLT, Int.reduceLE, Int.reduceEq, Int.reduceToNat, Int.reduceBEq, Int.reduceAdd, Int.reduceSub, Int.reduceNeg, reduceCtorEq], by simp (maxSteps := 5000000) (implicitDefEqProofs := false) only [go_sem, Nat.reduceLT, Nat.reduceBEq, Nat.reduceBNe, Nat.reduceAdd, Nat.reduceSub, Nat.reduceMul, Nat.reduceEqDiff, Nat.reduceLeDiff, Int.reduceLT, Int.reduceLE, Int.reduceEq, Int.reduceToNat, Int.reduceBEq, Int.reduceAdd, Int.reduceSub, Int.reduceNeg, reduceCtorEq], rfl, by omega, hrn⟩ ?_ ?_
    · rintro m T3 H3 ⟨v, h, rfl, hh1, hh2, u0, u1, u7, u8, u9, u10, rfl, hah, hrv⟩
      refine ACode.of_K _ ?_
      by_cases hc : h ≤ n
      · have hc' : (h : Int) ≤ (n : Int) := by omega
        rw [show n + 1 - h = (n - h) + 1 by omega, rTail] at hrv
        by_cases hd : a + h < s.length
        · have hd' : ((a + h : Nat) : Int) < (s.length : Int) := by omega
          have hb : s[a + h]? = some s[a + h] := List.getElem?_eq_getElem hd
          rw [hb] at hrv
          simp (maxSteps := 5000000) (implicitDefEqProofs := false) only [go_sem, Nat.reduceLT, Nat.reduceBEq, Nat.reduceBNe, Nat.reduceAdd, Nat.reduceSub, Nat.reduceMul, Nat.reduceEqDiff, Nat.reduceLeDiff, Int.reduceLT, Int.reduceLE, Int.reduceEq, Int.reduceToNat, Int.reduceBEq, Int.reduceAdd, Int.reduceSub, Int.reduceNeg, reduceCtorEq, u0, u1, u7, u8, u9, u10, hc', hd', hw1 h (by omega), hw2 h (by omega), hb, Int.natCast_nonneg]
          refine ⟨fun hx => ⟨_, by omega, _, h + 1, rfl, by omega, by omega, rfl, rfl, by omega, ?_⟩, fun hx => ⟨v, h, hh1, hh2, rfl, rfl, hah, ?_⟩⟩
          · rw [show n + 1 - (h + 1) = n - h by omega]
            simp only [hx, if_true] at hrv
            exact hrv
          · simp only [hx, if_false] at hrv
            exact hrv
        · have hd' : ¬ ((a + h : Nat) : Int) < (s.length : Int) := by omega
          have hb : s[a + h]? = none := List.getElem?_eq_none (by omega)
          rw [hb] at hrv
          simp (maxSteps := 5000000) (implicitDefEqProofs := false) only [go_sem, Nat.reduceLT, Nat.reduceBEq, Nat.reduceBNe, Nat.reduceAdd, Nat.reduceSub, Nat.reduceMul, Nat.reduceEqDiff, Nat.reduceLeDiff, Int.reduceLT, Int.reduceLE, Int.reduceEq, Int.reduceToNat, Int.reduceBEq, Int.reduceAdd, Int.reduceSub, Int.reduceNeg, reduceCtorEq, u0, u1, u7, u8, u9, u10, hc', hd', hw1 h (by omega), hw2 h (by omega), hb, Int.natCast_nonneg]
          exact ⟨v, h, hh1, hh2, rfl, rfl, hah, hrv⟩
      · have hc' : ¬ (h : Int) ≤ (n : Int) := by omega
        rw [show n + 1 - h = 0 by omega, rTail] at hrv
        simp (maxSteps := 5000000) (implicitDefEqProofs := false) only [go_sem, Nat.reduceLT, Nat.reduceBEq, Nat.reduceBNe, Nat.reduceAdd, Nat.reduceSub, Nat.reduceMul, Nat.reduceEqDiff, Nat.reduceLeDiff, Int.reduceLT, Int.reduceLE, Int.reduceEq, Int.reduceToNat, Int.reduceBEq, Int.reduceAdd, Int.reduceSub, Int.reduceNeg, reduceCtorEq, u0, u1, u7, u8, u9, u10, hc', hw1 h (by omega), hw2 h (by omega), Int.natCast_nonneg]
        exact ⟨v, h, hh1, hh2, rfl, rfl, hah, hrv⟩
    · rintro T3 H3 ⟨v, h, hh1, hh2, u0, u1, u7, u8, u9, u10, rfl, hah, hrv⟩
      have hobj : H3[H'.length]? = some (.cells [.int .u8 (fMask n), .int .u8 (fMark n), .int .i32 (fLeast n)] 104 true) := by rw [← hH2]; exact get_new0 H' _
      have ht : IntKind.i64.wrap (((n + 1 : Nat) : Int) - (h : Int)) = ((n + 1 - h : Nat) : Int) := by rw [wrap64_id (by omega) (by omega)]; omega
      simp (maxSteps := 5000000) (implicitDefEqProofs := false) only [go_sem, Nat.reduceLT, Nat.reduceBEq, Nat.reduceBNe, Nat.reduceAdd, Nat.reduceSub, Nat.reduceMul, Nat.reduceEqDiff, Nat.reduceLeDiff, Int.reduceLT, Int.reduceLE, Int.reduceEq, Int.reduceToNat, Int.reduceBEq, Int.reduceAdd, Int.reduceSub, Int.reduceNeg, reduceCtorEq, u0, u1, u7, u8, u9, u10, hw, ht]
      refine callK_val (span_ok _ _ _ (by omega)) fun H4 e4 => ?_
      have hobj4 := e4.get hobj
      simp (maxSteps := 5000000) (implicitDefEqProofs := false) only [go_sem, Nat.reduceLT, Nat.reduceBEq, Nat.reduceBNe, Nat.reduceAdd, Nat.reduceSub, Nat.reduceMul, Nat.reduceEqDiff, Nat.reduceLeDiff, Int.reduceLT, Int.reduceLE, Int.reduceEq, Int.reduceToNat, Int.reduceBEq, Int.reduceAdd, Int.reduceSub, Int.reduceNeg, reduceCtorEq, u0, u1, u7, u8, u9, u10, hw, hobj4, hw1 h (by omega)]
      rw [hrv]
      unfold rEnd
      have hEE := hE.trans e4
      have c1 : ((h : Int) = ((n + 1 : Nat) : Int)) = (h = n + 1) := propext ⟨fun _ => by omega, fun _ => by omega⟩
      have c2 : (((a + h : Nat) : Int) = (s.length : Int)) = (a + h = s.length) := propext ⟨fun _ => by omega, fun _ => by omega⟩
      simp only [c1, c2, hEE, and_true]
      generalize gHigh v (n + 1 - h) = hi, gLow v (n + 1 - h) = lo
      by_cases p1 : hi < fLeast n <;> by_cases p2 : 1114111 < lo <;> by_cases p3 : 55296 ≤ lo <;> by_cases p4 : hi ≤ 57343 <;> by_cases p5 : h = n + 1 <;> by_cases p6 : a + h = s.length <;> simp [p1, p2, p3, p4, p5, p6, t3]
  · have : n = 4 := by omega
    subst this
    simp (maxSteps := 5000000) (implicitDefEqProofs := false) only [go_sem, Nat.reduceLT, Nat.reduceBEq, Nat.reduceBNe, Nat.reduceAdd, Nat.reduceSub, Nat.reduceMul, Nat.reduceEqDiff, Nat.reduceLeDiff, Int.reduceLT, Int.reduceLE, Int.reduceEq, Int.reduceToNat, Int.reduceBEq, Int.reduceAdd, Int.reduceSub, Int.reduceNeg, reduceCtorEq, t22]
    exact ⟨by rw [hrn]; rfl, hext⟩
theorem gRune_ok_le (s : List UInt8) (a : Nat) (h : (gRune s a).2.2 = 0) : 1 ≤ (gRune s a).2.1 ∧ (gRune s a).2.1 ≤ 4 ∧ a + (gRune s a).2.1.toNat ≤ s.length := by
  unfold gRune at *
  rw [if_neg (by omega)] at *
  simp only [Int.toNat_natCast] at *
  cases hs : s[a]? with
  | none => rw [hs] at h; simp at h
  | some b =>
    rw [hs] at h
    simp only at h ⊢
    have ha := (List.getElem?_eq_some_iff.1 hs).1
    suffices H : ∀ f n, n + f = 4 → (rFind s a b.toNat f n).2.2 = 0 → 1 ≤ (rFind s a b.toNat f n).2.1 ∧ (rFind s a b.toNat f n).2.1 ≤ 4 ∧ a + (rFind s a b.toNat f n).2.1.toNat ≤ s.length from H 4 0 rfl h
    intro f
    induction f with
    | zero => intro n hn h0; simp [rFind] at h0
    | succ f ih =>
      intro n hn h0
      unfold rFind at h0 ⊢
      split at h0
      · rename_i hm
        rw [if_pos hm]
        unfold rOne rEnd at h0 ⊢
        have hle := rTail_le s a n (IntKind.i32.wrap (ianot .u8 b.toNat (fMask n))) 1
        generalize rTail s a n (IntKind.i32.wrap (ianot .u8 b.toNat (fMask n))) 1 = vh at *
        split at h0
        · simp at h0
        · rename_i hx
          rw [if_neg hx]
          split at h0
          · rename_i hy
            rw [if_pos hy]
            simp only
            have := hle.2.2 (by omega)
            omega
          · split at h0 <;> simp at h0
      · rename_i hm
        rw [if_neg hm]
        exact ih (n + 1) (by omega) h0
end Go.AL
