/- ref.Text: a text, read. -/
import Derived.Test.YtodjcocapdjomaaDoorOrRef
import Derived.Test.YtodjcocapdjomaaDoorOrUtfAll
namespace Go.AL
open Go Go.RowKit Go.Proofs
set_option linter.unusedVariables false
set_option linter.unusedSimpArgs false
set_option maxRecDepth 20000
set_option maxHeartbeats 2000000
variable {E : World → Prop}
def gOne (s : List UInt8) : Int × Int × Bool :=
  if (Lib.cut (s.drop 1) [59]).2.2 = false then (0, 0, false) else
  let body := (Lib.cut (s.drop 1) [59]).1
  let x := if Lib.hasPrefix body [35] then gNumbered (Lib.trimPrefix body [35]) else gNamed body
  (x.1, (body.length : Int) + 2, x.2)
theorem cut_len (s p : List UInt8) : (Lib.cut s p).1.length ≤ s.length := by
  unfold Lib.cut
  split
  · rw [List.length_take]; exact Nat.min_le_right _ _
  · exact Nat.le_refl _
theorem one_ok (hE : ∀ w, E w → LibE w) (H : AHeap) (s : List UInt8) (hs : 1 ≤ s.length) (hS : s.length ≤ 4000000000) : ACalls E Tryd.prog 59 [.str s] H (fun v H' => v = .tuple [.int .i32 (gOne s).1, .int .i64 (gOne s).2.1, .bool (gOne s).2.2] ∧ Ext H H') := by
  refine ACalls.of_code (N := 42) (ts := [2, 3, 4]) Tryd.func59 rfl rfl rfl rfl (by simp) ?_
  refine ACode.of_K _ ?_
  have h1 : (1 : Int) ≤ (s.length : Int) := by omega
  simp (maxSteps := 5000000) (implicitDefEqProofs := false) only [go_sem, Nat.reduceLT, Nat.reduceBEq, Nat.reduceBNe, Nat.reduceAdd, Nat.reduceSub, Nat.reduceMul, Nat.reduceEqDiff, Nat.reduceLeDiff, Int.reduceLT, Int.reduceLE, Int.reduceEq, Int.reduceToNat, Int.reduceBEq, Int.reduceAdd, Int.reduceSub, Int.reduceNeg, reduceCtorEq, h1]
  refine callK_same (SCut_ok E hE H (s.drop 1) [59] (by simp; omega)) ?_
  have hbl := cut_len (s.drop 1) [59]
  rw [List.length_drop] at hbl
  have hw : IntKind.i64.wrap (((Lib.cut (s.drop 1) [59]).1.length : Int) + 2) = ((Lib.cut (s.drop 1) [59]).1.length : Int) + 2 := wrap_ids _ (by omega) (by omega)
  cases hc : (Lib.cut (s.drop 1) [59]).2.2
  · simp (maxSteps := 5000000) (implicitDefEqProofs := false) only [go_sem, Nat.reduceLT, Nat.reduceBEq, Nat.reduceBNe, Nat.reduceAdd, Nat.reduceSub, Nat.reduceMul, Nat.reduceEqDiff, Nat.reduceLeDiff, Int.reduceLT, Int.reduceLE, Int.reduceEq, Int.reduceToNat, Int.reduceBEq, Int.reduceAdd, Int.reduceSub, Int.reduceNeg, reduceCtorEq, hc]
    unfold gOne
    rw [if_pos hc]
    exact ⟨⟨rfl, rfl, rfl⟩, Ext.refl _⟩
  · have hg : gOne s = (let x := if Lib.hasPrefix (Lib.cut (s.drop 1) [59]).1 [35] then gNumbered (Lib.trimPrefix (Lib.cut (s.drop 1) [59]).1 [35]) else gNamed (Lib.cut (s.drop 1) [59]).1
      (x.1, ((Lib.cut (s.drop 1) [59]).1.length : Int) + 2, x.2)) := by unfold gOne; rw [if_neg (by rw [hc]; simp)]
    generalize (Lib.cut (s.drop 1) [59]).1 = body at *
    simp (maxSteps := 5000000) (implicitDefEqProofs := false) only [go_sem, Nat.reduceLT, Nat.reduceBEq, Nat.reduceBNe, Nat.reduceAdd, Nat.reduceSub, Nat.reduceMul, Nat.reduceEqDiff, Nat.reduceLeDiff, Int.reduceLT, Int.reduceLE, Int.reduceEq, Int.reduceToNat, Int.reduceBEq, Int.reduceAdd, Int.reduceSub, Int.reduceNeg, reduceCtorEq, hc]
    refine callK_val (named_ok H body) fun H1 e1 => ?_
    simp (maxSteps := 5000000) (implicitDefEqProofs := false) only [go_sem, Nat.reduceLT, Nat.reduceBEq, Nat.reduceBNe, Nat.reduceAdd, Nat.reduceSub, Nat.reduceMul, Nat.reduceEqDiff, Nat.reduceLeDiff, Int.reduceLT, Int.reduceLE, Int.reduceEq, Int.reduceToNat, Int.reduceBEq, Int.reduceAdd, Int.reduceSub, Int.reduceNeg, reduceCtorEq]
    refine callK_same (CutPrefix_ok E H1 body [35]) ?_
    cases hp : Lib.hasPrefix body [35]
    all_goals simp (maxSteps := 5000000) (implicitDefEqProofs := false) only [go_sem, Nat.reduceLT, Nat.reduceBEq, Nat.reduceBNe, Nat.reduceAdd, Nat.reduceSub, Nat.reduceMul, Nat.reduceEqDiff, Nat.reduceLeDiff, Int.reduceLT, Int.reduceLE, Int.reduceEq, Int.reduceToNat, Int.reduceBEq, Int.reduceAdd, Int.reduceSub, Int.reduceNeg, reduceCtorEq, hp, hw]
    · rw [hg, hp]
      exact ⟨⟨rfl, rfl, rfl⟩, e1⟩
    · refine callK_val (numbered_ok H1 _) fun H2 e2 => ?_
      simp (maxSteps := 5000000) (implicitDefEqProofs := false) only [go_sem, Nat.reduceLT, Nat.reduceBEq, Nat.reduceBNe, Nat.reduceAdd, Nat.reduceSub, Nat.reduceMul, Nat.reduceEqDiff, Nat.reduceLeDiff, Int.reduceLT, Int.reduceLE, Int.reduceEq, Int.reduceToNat, Int.reduceBEq, Int.reduceAdd, Int.reduceSub, Int.reduceNeg, reduceCtorEq, hw]
      rw [hg, hp]
      exact ⟨⟨rfl, rfl, rfl⟩, e1.trans e2⟩
/-- a builder with a bit behind it -/
def OutC (lo : Nat) (H : AHeap) (i : Nat) (val : Bool) (bs : List UInt8) : Prop := ∃ c, BldC lo H i 0 65 c bs ∧ c[2]? = some (.bool val)
theorem OutC.ext {lo : Nat} {H H' : AHeap} {i : Nat} {val : Bool} {bs : List UInt8} (h : OutC lo H i val bs) (hx : Ext H H') : OutC lo H' i val bs := by
  obtain ⟨c, ⟨h1, a0, buf, h2, h3, h4, h5⟩, h6⟩ := h
  exact ⟨c, ⟨hx.get h1, a0, buf, h2, h3, h4, h5.imp id fun ⟨hb, j, k1, k2, k3, k4⟩ => ⟨hb, j, k1, k2, k3, hx.get k4⟩⟩, h6⟩
theorem outLies : rowAt Tryd.prog (sameLayout Tryd.prog Tryd.prog.depth · 63) Tryd.prog.depth 65 1 0 1 = true := by kernel_rfl
theorem outSize : 0 < Tryd.prog.cellsOf 65 := by decide +kernel
theorem OutWrite_ok (H0 H : AHeap) (i : Nat) (val : Bool) (bs s : List UInt8) (h : OutC H0.length H i val bs) (hx : Ext H0 H) (hi : H0.length ≤ i) (hn : bs.length + s.length ≤ 140737488355328) :
    ACalls E Tryd.prog 60 [.ptr (some (i, 0)), .str s] H (fun v H' => v = .tuple [.int .i64 s.length, .nilIface] ∧ OutC H0.length H' i val (bs ++ s) ∧ Ext H0 H' ∧ H.length ≤ H'.length) := by
  obtain ⟨c, hb, hv⟩ := h
  refine (WriteString_ok E H0.length H i 0 c 65 bs s hb hn hx.len outSize outLies).mono ?_
  rintro v H' ⟨rfl, c', h1, h2, h3, h4, h5⟩
  exact ⟨rfl, ⟨c', h1, by rw [h3 2 (by decide) (by decide)]; exact hv⟩, h5 H0 hx (Nat.le_refl _) hi, h4⟩
def gPlainR (val : Bool) (r : Int) : Int := if val = true ∧ (r = 9 ∨ r = 10) then 32 else r
theorem gPut_len (r : Int) : (gPut r).length ≤ 4 := by
  have h3 : putN (putR r) ≤ 3 := by unfold putN; (repeat' split) <;> omega
  simp [gPut, putU, putI, putT_len]; omega
theorem plain_ok (H0 H : AHeap) (i : Nat) (val : Bool) (bs : List UInt8) (r : Int) (h : OutC H0.length H i val bs) (hx : Ext H0 H) (hi : H0.length ≤ i) (hn : bs.length + 4 ≤ 140737488355328) :
    ACalls E Tryd.prog 62 [.ptr (some (i, 0)), .int .i32 r] H (fun v H' => OutC H0.length H' i val (bs ++ gPut (gPlainR val r)) ∧ Ext H0 H' ∧ H.length ≤ H'.length) := by
  refine ACalls.of_code (N := 23) (ts := []) Tryd.func62 rfl rfl rfl rfl (by simp) ?_
  refine ACode.of_K _ ?_
  obtain ⟨c, ⟨h1, hb2⟩, hv⟩ := id h
  cases val
  · have hq : gPlainR false r = r := by unfold gPlainR; rw [if_neg (by simp)]
    simp (maxSteps := 5000000) (implicitDefEqProofs := false) only [go_sem, Nat.reduceLT, Nat.reduceBEq, Nat.reduceBNe, Nat.reduceAdd, Nat.reduceSub, Nat.reduceMul, Nat.reduceEqDiff, Nat.reduceLeDiff, Int.reduceLT, Int.reduceLE, Int.reduceEq, Int.reduceToNat, Int.reduceBEq, Int.reduceAdd, Int.reduceSub, Int.reduceNeg, reduceCtorEq, h1, hv]
    refine ACode.regionD [0, 1, 2, 3, 4, 5, 6] [] [] (fun _ => True) mixed (by kernel_rfl) trivial ?_
    simp (maxSteps := 5000000) (implicitDefEqProofs := false) only [go_sem, Nat.reduceLT, Nat.reduceBEq, Nat.reduceBNe, Nat.reduceAdd, Nat.reduceSub, Nat.reduceMul, Nat.reduceEqDiff, Nat.reduceLeDiff, Int.reduceLT, Int.reduceLE, Int.reduceEq, Int.reduceToNat, Int.reduceBEq, Int.reduceAdd, Int.reduceSub, Int.reduceNeg, reduceCtorEq, implies_true, true_and]
    refine callK_val (Put_ok _ r H.length _ _ (get_new0 H _)) fun H1 e1 => ?_
    have hx1 : Ext H H1 := (Ext.app _ _).trans e1
    have hput := gPut_len r
    simp (maxSteps := 5000000) (implicitDefEqProofs := false) only [go_sem, Nat.reduceLT, Nat.reduceBEq, Nat.reduceBNe, Nat.reduceAdd, Nat.reduceSub, Nat.reduceMul, Nat.reduceEqDiff, Nat.reduceLeDiff, Int.reduceLT, Int.reduceLE, Int.reduceEq, Int.reduceToNat, Int.reduceBEq, Int.reduceAdd, Int.reduceSub, Int.reduceNeg, reduceCtorEq, implies_true, true_and]
    refine callK_of (OutWrite_ok H0 H1 i false bs (gPut r) (h.ext hx1) (hx.trans hx1) hi (by omega)) ?_
    rintro v H2 ⟨rfl, q1, q2, q3⟩
    simp (maxSteps := 5000000) (implicitDefEqProofs := false) only [go_sem, Nat.reduceLT, Nat.reduceBEq, Nat.reduceBNe, Nat.reduceAdd, Nat.reduceSub, Nat.reduceMul, Nat.reduceEqDiff, Nat.reduceLeDiff, Int.reduceLT, Int.reduceLE, Int.reduceEq, Int.reduceToNat, Int.reduceBEq, Int.reduceAdd, Int.reduceSub, Int.reduceNeg, reduceCtorEq, implies_true, true_and]
    exact ⟨by rw [hq]; exact q1, q2, Nat.le_trans hx1.len q3⟩
  · by_cases h9 : r = 9
    · subst h9
      have hq : gPlainR true 9 = 32 := rfl
      simp (maxSteps := 5000000) (implicitDefEqProofs := false) only [go_sem, Nat.reduceLT, Nat.reduceBEq, Nat.reduceBNe, Nat.reduceAdd, Nat.reduceSub, Nat.reduceMul, Nat.reduceEqDiff, Nat.reduceLeDiff, Int.reduceLT, Int.reduceLE, Int.reduceEq, Int.reduceToNat, Int.reduceBEq, Int.reduceAdd, Int.reduceSub, Int.reduceNeg, reduceCtorEq, h1, hv]
      refine ACode.regionD [0, 1, 2, 3, 4, 5, 6] [] [] (fun _ => True) mixed (by kernel_rfl) trivial ?_
      simp (maxSteps := 5000000) (implicitDefEqProofs := false) only [go_sem, Nat.reduceLT, Nat.reduceBEq, Nat.reduceBNe, Nat.reduceAdd, Nat.reduceSub, Nat.reduceMul, Nat.reduceEqDiff, Nat.reduceLeDiff, Int.reduceLT, Int.reduceLE, Int.reduceEq, Int.reduceToNat, Int.reduceBEq, Int.reduceAdd, Int.reduceSub, Int.reduceNeg, reduceCtorEq, implies_true, true_and]
      refine callK_val (Put_ok _ 32 H.length _ _ (get_new0 H _)) fun H1 e1 => ?_
      have hx1 : Ext H H1 := (Ext.app _ _).trans e1
      have hput := gPut_len 32
      simp (maxSteps := 5000000) (implicitDefEqProofs := false) only [go_sem, Nat.reduceLT, Nat.reduceBEq, Nat.reduceBNe, Nat.reduceAdd, Nat.reduceSub, Nat.reduceMul, Nat.reduceEqDiff, Nat.reduceLeDiff, Int.reduceLT, Int.reduceLE, Int.reduceEq, Int.reduceToNat, Int.reduceBEq, Int.reduceAdd, Int.reduceSub, Int.reduceNeg, reduceCtorEq, implies_true, true_and]
      refine callK_of (OutWrite_ok H0 H1 i true bs (gPut 32) (h.ext hx1) (hx.trans hx1) hi (by omega)) ?_
      rintro v H2 ⟨rfl, q1, q2, q3⟩
      simp (maxSteps := 5000000) (implicitDefEqProofs := false) only [go_sem, Nat.reduceLT, Nat.reduceBEq, Nat.reduceBNe, Nat.reduceAdd, Nat.reduceSub, Nat.reduceMul, Nat.reduceEqDiff, Nat.reduceLeDiff, Int.reduceLT, Int.reduceLE, Int.reduceEq, Int.reduceToNat, Int.reduceBEq, Int.reduceAdd, Int.reduceSub, Int.reduceNeg, reduceCtorEq, implies_true, true_and]
      exact ⟨by rw [hq]; exact q1, q2, Nat.le_trans hx1.len q3⟩
    · by_cases h10 : r = 10
      · subst h10
        have hq : gPlainR true 10 = 32 := rfl
        simp (maxSteps := 5000000) (implicitDefEqProofs := false) only [go_sem, Nat.reduceLT, Nat.reduceBEq, Nat.reduceBNe, Nat.reduceAdd, Nat.reduceSub, Nat.reduceMul, Nat.reduceEqDiff, Nat.reduceLeDiff, Int.reduceLT, Int.reduceLE, Int.reduceEq, Int.reduceToNat, Int.reduceBEq, Int.reduceAdd, Int.reduceSub, Int.reduceNeg, reduceCtorEq, h1, hv]
        refine ACode.regionD [0, 1, 2, 3, 4, 5, 6] [] [] (fun _ => True) mixed (by kernel_rfl) trivial ?_
        simp (maxSteps := 5000000) (implicitDefEqProofs := false) only [go_sem, Nat.reduceLT, Nat.reduceBEq, Nat.reduceBNe, Nat.reduceAdd, Nat.reduceSub, Nat.reduceMul, Nat.reduceEqDiff, Nat.reduceLeDiff, Int.reduceLT, Int.reduceLE, Int.reduceEq, Int.reduceToNat, Int.reduceBEq, Int.reduceAdd, Int.reduceSub, Int.reduceNeg, reduceCtorEq, implies_true, true_and]
        refine callK_val (Put_ok _ 32 H.length _ _ (get_new0 H _)) fun H1 e1 => ?_
        have hx1 : Ext H H1 := (Ext.app _ _).trans e1
        have hput := gPut_len 32
        simp (maxSteps := 5000000) (implicitDefEqProofs := false) only [go_sem, Nat.reduceLT, Nat.reduceBEq, Nat.reduceBNe, Nat.reduceAdd, Nat.reduceSub, Nat.reduceMul, Nat.reduceEqDiff, Nat.reduceLeDiff, Int.reduceLT, Int.reduceLE, Int.reduceEq, Int.reduceToNat, Int.reduceBEq, Int.reduceAdd, Int.reduceSub, Int.reduceNeg, reduceCtorEq, implies_true, true_and]
        refine callK_of (OutWrite_ok H0 H1 i true bs (gPut 32) (h.ext hx1) (hx.trans hx1) hi (by omega)) ?_
        rintro v H2 ⟨rfl, q1, q2, q3⟩
        simp (maxSteps := 5000000) (implicitDefEqProofs := false) only [go_sem, Nat.reduceLT, Nat.reduceBEq, Nat.reduceBNe, Nat.reduceAdd, Nat.reduceSub, Nat.reduceMul, Nat.reduceEqDiff, Nat.reduceLeDiff, Int.reduceLT, Int.reduceLE, Int.reduceEq, Int.reduceToNat, Int.reduceBEq, Int.reduceAdd, Int.reduceSub, Int.reduceNeg, reduceCtorEq, implies_true, true_and]
        exact ⟨by rw [hq]; exact q1, q2, Nat.le_trans hx1.len q3⟩
      · have hq : gPlainR true r = r := by unfold gPlainR; rw [if_neg (by simp [h9, h10])]
        simp (maxSteps := 5000000) (implicitDefEqProofs := false) only [go_sem, Nat.reduceLT, Nat.reduceBEq, Nat.reduceBNe, Nat.reduceAdd, Nat.reduceSub, Nat.reduceMul, Nat.reduceEqDiff, Nat.reduceLeDiff, Int.reduceLT, Int.reduceLE, Int.reduceEq, Int.reduceToNat, Int.reduceBEq, Int.reduceAdd, Int.reduceSub, Int.reduceNeg, reduceCtorEq, h1, hv, h9, h10]
        refine fun _ _ => ?_
        refine ACode.regionD [0, 1, 2, 3, 4, 5, 6] [] [] (fun _ => True) mixed (by kernel_rfl) trivial ?_
        simp (maxSteps := 5000000) (implicitDefEqProofs := false) only [go_sem, Nat.reduceLT, Nat.reduceBEq, Nat.reduceBNe, Nat.reduceAdd, Nat.reduceSub, Nat.reduceMul, Nat.reduceEqDiff, Nat.reduceLeDiff, Int.reduceLT, Int.reduceLE, Int.reduceEq, Int.reduceToNat, Int.reduceBEq, Int.reduceAdd, Int.reduceSub, Int.reduceNeg, reduceCtorEq, implies_true, true_and]
        refine callK_val (Put_ok _ r H.length _ _ (get_new0 H _)) fun H1 e1 => ?_
        have hx1 : Ext H H1 := (Ext.app _ _).trans e1
        have hput := gPut_len r
        simp (maxSteps := 5000000) (implicitDefEqProofs := false) only [go_sem, Nat.reduceLT, Nat.reduceBEq, Nat.reduceBNe, Nat.reduceAdd, Nat.reduceSub, Nat.reduceMul, Nat.reduceEqDiff, Nat.reduceLeDiff, Int.reduceLT, Int.reduceLE, Int.reduceEq, Int.reduceToNat, Int.reduceBEq, Int.reduceAdd, Int.reduceSub, Int.reduceNeg, reduceCtorEq, implies_true, true_and]
        refine callK_of (OutWrite_ok H0 H1 i true bs (gPut r) (h.ext hx1) (hx.trans hx1) hi (by omega)) ?_
        rintro v H2 ⟨rfl, q1, q2, q3⟩
        simp (maxSteps := 5000000) (implicitDefEqProofs := false) only [go_sem, Nat.reduceLT, Nat.reduceBEq, Nat.reduceBNe, Nat.reduceAdd, Nat.reduceSub, Nat.reduceMul, Nat.reduceEqDiff, Nat.reduceLeDiff, Int.reduceLT, Int.reduceLE, Int.reduceEq, Int.reduceToNat, Int.reduceBEq, Int.reduceAdd, Int.reduceSub, Int.reduceNeg, reduceCtorEq, implies_true, true_and]
        exact ⟨by rw [hq]; exact q1, q2, Nat.le_trans hx1.len q3⟩

/-- what is read from a on; acc: what was read up to now -/
def rdL (val : Bool) (s : List UInt8) : Nat → Nat → List UInt8 → List UInt8 × Int × Int
  | 0, _, acc => (acc, 0, 0)
  | m + 1, a, acc => match s[a]? with
    | none => (acc, 0, 0)
    | some b => if b.toNat = 38 then
        (if (gOne (s.drop a)).2.2 = false then ([], (a : Int), 5) else rdL val s m (a + (gOne (s.drop a)).2.1.toNat) (acc ++ gPut (gOne (s.drop a)).1))
      else if (gRune s a).2.2 ≠ 0 then ([], (a : Int), (gRune s a).2.2) else if gChar (gRune s a).1 = false then ([], (a : Int), 3)
      else if (gRune s a).1 = 13 then (match s[a + (gRune s a).2.1.toNat]? with
        | none => rdL val s m (a + (gRune s a).2.1.toNat) (acc ++ gPut (gPlainR val 10))
        | some b => if b.toNat = 10 then rdL val s m (a + (gRune s a).2.1.toNat) acc else rdL val s m (a + (gRune s a).2.1.toNat) (acc ++ gPut (gPlainR val 10)))
      else rdL val s m (a + (gRune s a).2.1.toNat) (acc ++ gPut (gPlainR val (gRune s a).1))
def gRead (val : Bool) (s : List UInt8) : List UInt8 × Int × Int := rdL val s s.length 0 []
theorem gOne_pos (s : List UInt8) (h : (gOne s).2.2 = true) : 2 ≤ (gOne s).2.1 ∧ (gOne s).2.1 ≤ s.length + 1 := by
  unfold gOne at h ⊢
  split at h
  · cases h
  · rename_i hc
    rw [if_neg hc]
    have := cut_len (s.drop 1) [59]
    rw [List.length_drop] at this
    have hs : s ≠ [] := by rintro rfl; exact hc rfl
    have : 0 < s.length := List.length_pos_iff.2 hs
    simp only
    omega
theorem read_ok (hE : ∀ w, E w → LibE w) (H0 H : AHeap) (i : Nat) (val : Bool) (s : List UInt8) (h : OutC H0.length H i val []) (hx : Ext H0 H) (hi : H0.length ≤ i) (hS : s.length ≤ 4000000000) :
    ACalls E Tryd.prog 34 [.ptr (some (i, 0)), .str s] H (fun v H' => v = .tuple [.str (gRead val s).1, .int .i64 (gRead val s).2.1, .int .i64 (gRead val s).2.2] ∧ Ext H0 H') := by
  refine ACalls.of_code (N := 82) (ts := [4, 5, 6]) Tryd.func34 rfl rfl rfl rfl (by simp) ?_
  refine ACode.of_K _ ?_
  simp (maxSteps := 5000000) (implicitDefEqProofs := false) only [go_sem, Nat.reduceLT, Nat.reduceBEq, Nat.reduceBNe, Nat.reduceAdd, Nat.reduceSub, Nat.reduceMul, Nat.reduceEqDiff, Nat.reduceLeDiff, Int.reduceLT, Int.reduceLE, Int.reduceEq, Int.reduceToNat, Int.reduceBEq, Int.reduceAdd, Int.reduceSub, Int.reduceNeg, reduceCtorEq]
  refine ACode.loopVX [(4, 77)] (fun m T H' => Ext H0 H' ∧ ∃ a : Nat, ∃ acc, s.length ≤ a + m ∧ a ≤ 10000000000 ∧ acc.length ≤ 4 * a ∧ T 7 = .int .i64 a ∧ OutC H0.length H' i val acc ∧ gRead val s = rdL val s m a acc)
    (fun T H' => Ext H0 H' ∧ ∃ acc, OutC H0.length H' i val acc ∧ acc.length ≤ 100000000000 ∧ gRead val s = (acc, 0, 0)) s.length ?_ ?_ ?_
  · exact ⟨hx, 0, [], by omega, by omega, by simp, by simp (maxSteps := 5000000) (implicitDefEqProofs := false) only [go_sem, Nat.reduceLT, Nat.reduceBEq, Nat.reduceBNe, Nat.reduceAdd, Nat.reduceSub, Nat.reduceMul, Nat.reduceEqDiff, Nat.reduceLeDiff, Int.reduceLT, Int.reduceLE, Int.reduceEq, Int.reduceToNat, Int.reduceBEq, Int.reduceAdd, Int.reduceSub, Int.reduceNeg, reduceCtorEq], h, rfl⟩
  · rintro T0 hT0 m T H' hK ⟨hext, a, acc, hm, ha, hacc, t7, hout, hg⟩
    have t0 := hK 0 rfl; have t1 := hK 1 rfl
    simp (maxSteps := 5000000) (implicitDefEqProofs := false) only [go_sem, Nat.reduceLT, Nat.reduceBEq, Nat.reduceBNe, Nat.reduceAdd, Nat.reduceSub, Nat.reduceMul, Nat.reduceEqDiff, Nat.reduceLeDiff, Int.reduceLT, Int.reduceLE, Int.reduceEq, Int.reduceToNat, Int.reduceBEq, Int.reduceAdd, Int.reduceSub, Int.reduceNeg, reduceCtorEq, hT0] at t0 t1
    clear hT0
    refine ACode.of_K _ ?_
    by_cases hlt : a < s.length
    · obtain ⟨m, rfl⟩ : ∃ k, m = k + 1 := ⟨m - 1, by omega⟩
      have hlt' : (a : Int) < (s.length : Int) := by omega
      have hle' : (a : Int) ≤ (s.length : Int) := by omega
      have hb : s[a]? = some s[a] := List.getElem?_eq_getElem hlt
      rw [rdL, hb] at hg
      simp only at hg
      simp (maxSteps := 5000000) (implicitDefEqProofs := false) only [go_sem, Nat.reduceLT, Nat.reduceBEq, Nat.reduceBNe, Nat.reduceAdd, Nat.reduceSub, Nat.reduceMul, Nat.reduceEqDiff, Nat.reduceLeDiff, Int.reduceLT, Int.reduceLE, Int.reduceEq, Int.reduceToNat, Int.reduceBEq, Int.reduceAdd, Int.reduceSub, Int.reduceNeg, reduceCtorEq, t0, t1, t7, hlt', hle', hb, Int.natCast_nonneg, Int.toNat_natCast]
      refine ⟨fun hamp => ?_, fun hamp => ?_⟩
      · have hdl : 1 ≤ (s.drop a).length := by rw [List.length_drop]; omega
        rw [if_pos (by omega)] at hg
        refine callK_val (one_ok hE H' (s.drop a) hdl (by rw [List.length_drop]; omega)) fun H1 e1 => ?_
        have hpos := gOne_pos (s.drop a)
        rw [List.length_drop] at hpos
        generalize gOne (s.drop a) = x at *
        obtain ⟨x1, x2, x3⟩ := x
        cases x3
        · simp (maxSteps := 5000000) (implicitDefEqProofs := false) only [go_sem, Nat.reduceLT, Nat.reduceBEq, Nat.reduceBNe, Nat.reduceAdd, Nat.reduceSub, Nat.reduceMul, Nat.reduceEqDiff, Nat.reduceLeDiff, Int.reduceLT, Int.reduceLE, Int.reduceEq, Int.reduceToNat, Int.reduceBEq, Int.reduceAdd, Int.reduceSub, Int.reduceNeg, reduceCtorEq, t7]
          rw [if_pos rfl] at hg
          rw [hg]
          exact ⟨⟨rfl, rfl, rfl⟩, hext.trans e1⟩
        · simp (maxSteps := 5000000) (implicitDefEqProofs := false) only [go_sem, Nat.reduceLT, Nat.reduceBEq, Nat.reduceBNe, Nat.reduceAdd, Nat.reduceSub, Nat.reduceMul, Nat.reduceEqDiff, Nat.reduceLeDiff, Int.reduceLT, Int.reduceLE, Int.reduceEq, Int.reduceToNat, Int.reduceBEq, Int.reduceAdd, Int.reduceSub, Int.reduceNeg, reduceCtorEq, t0, t1, t7]
          rw [if_neg (by simp)] at hg
          obtain ⟨p1, p2⟩ := hpos rfl
          simp only at hg p1 p2
          obtain ⟨n, rfl⟩ : ∃ n : Nat, x2 = n := ⟨x2.toNat, by omega⟩
          rw [Int.toNat_natCast] at hg
          refine ACode.regionD [0, 1, 2, 3, 4, 5, 6] [] [] (fun _ => True) mixed (by kernel_rfl) trivial ?_
          simp (maxSteps := 5000000) (implicitDefEqProofs := false) only [go_sem, Nat.reduceLT, Nat.reduceBEq, Nat.reduceBNe, Nat.reduceAdd, Nat.reduceSub, Nat.reduceMul, Nat.reduceEqDiff, Nat.reduceLeDiff, Int.reduceLT, Int.reduceLE, Int.reduceEq, Int.reduceToNat, Int.reduceBEq, Int.reduceAdd, Int.reduceSub, Int.reduceNeg, reduceCtorEq, t0, t1, t7, implies_true, true_and]
          refine callK_val (Put_ok _ x1 H1.length _ _ (get_new0 H1 _)) fun H2 e2 => ?_
          have hx2 : Ext H' H2 := e1.trans ((Ext.app _ _).trans e2)
          have hput := gPut_len x1
          simp (maxSteps := 5000000) (implicitDefEqProofs := false) only [go_sem, Nat.reduceLT, Nat.reduceBEq, Nat.reduceBNe, Nat.reduceAdd, Nat.reduceSub, Nat.reduceMul, Nat.reduceEqDiff, Nat.reduceLeDiff, Int.reduceLT, Int.reduceLE, Int.reduceEq, Int.reduceToNat, Int.reduceBEq, Int.reduceAdd, Int.reduceSub, Int.reduceNeg, reduceCtorEq, implies_true, true_and]
          refine callK_of (OutWrite_ok H0 H2 i val acc (gPut x1) (hout.ext hx2) (hext.trans hx2) hi (by omega)) ?_
          rintro v H3 ⟨rfl, q1, q2, q3⟩
          have hw : IntKind.i64.wrap ((a : Int) + (n : Int)) = ((a + n : Nat) : Int) := wrap_add a n (by omega)
          simp (maxSteps := 5000000) (implicitDefEqProofs := false) only [go_sem, Nat.reduceLT, Nat.reduceBEq, Nat.reduceBNe, Nat.reduceAdd, Nat.reduceSub, Nat.reduceMul, Nat.reduceEqDiff, Nat.reduceLeDiff, Int.reduceLT, Int.reduceLE, Int.reduceEq, Int.reduceToNat, Int.reduceBEq, Int.reduceAdd, Int.reduceSub, Int.reduceNeg, reduceCtorEq, t0, t1, t7, hw, implies_true, true_and, Keep_T hK]
          exact ⟨m, by omega, q2, a + n, acc ++ gPut x1, by omega, by omega, by rw [List.length_append]; omega, rfl, q1, hg⟩
      · rw [if_neg (by omega)] at hg
        refine callK_val (Rune_ok H' s a (by omega)) fun H1 e1 => ?_
        have hle := gRune_ok_le s a
        generalize gRune s a = x at *
        obtain ⟨r, x2, x3⟩ := x
        simp only [t3] at *
        by_cases h3 : x3 = 0
        · subst h3
          obtain ⟨p1, p2, p3⟩ := hle rfl
          obtain ⟨n, rfl⟩ : ∃ n : Nat, x2 = n := ⟨x2.toNat, by omega⟩
          rw [Int.toNat_natCast] at hg p3
          have hw : IntKind.i64.wrap ((a : Int) + (n : Int)) = ((a + n : Nat) : Int) := wrap_add a n (by omega)
          rw [if_neg (by simp)] at hg
          simp (maxSteps := 5000000) (implicitDefEqProofs := false) only [go_sem, Nat.reduceLT, Nat.reduceBEq, Nat.reduceBNe, Nat.reduceAdd, Nat.reduceSub, Nat.reduceMul, Nat.reduceEqDiff, Nat.reduceLeDiff, Int.reduceLT, Int.reduceLE, Int.reduceEq, Int.reduceToNat, Int.reduceBEq, Int.reduceAdd, Int.reduceSub, Int.reduceNeg, reduceCtorEq, t0, t1, t7]
          refine callK_val (Char_ok H1 r) fun H2 e2 => ?_
          have hx2 : Ext H' H2 := e1.trans e2
          cases hc : gChar r
          · rw [if_pos hc] at hg
            simp (maxSteps := 5000000) (implicitDefEqProofs := false) only [go_sem, Nat.reduceLT, Nat.reduceBEq, Nat.reduceBNe, Nat.reduceAdd, Nat.reduceSub, Nat.reduceMul, Nat.reduceEqDiff, Nat.reduceLeDiff, Int.reduceLT, Int.reduceLE, Int.reduceEq, Int.reduceToNat, Int.reduceBEq, Int.reduceAdd, Int.reduceSub, Int.reduceNeg, reduceCtorEq, t0, t1, t7]
            exact ⟨by rw [hg]; exact ⟨rfl, rfl, rfl⟩, hext.trans hx2⟩
          · rw [if_neg (by rw [hc]; simp)] at hg
            by_cases h13 : r = 13
            · subst h13
              rw [if_pos rfl] at hg
              by_cases hl2 : a + n < s.length
              · have hl2' : ((a + n : Nat) : Int) < (s.length : Int) := by omega
                have hb2 : s[a + n]? = some s[a + n] := List.getElem?_eq_getElem hl2
                rw [hb2] at hg
                simp only at hg
                by_cases h10 : s[a + n].toNat = 10
                · have h10' : (s[a + n].toNat : Int) = 10 := by omega
                  rw [if_pos h10] at hg
                  simp (maxSteps := 5000000) (implicitDefEqProofs := false) only [go_sem, Nat.reduceLT, Nat.reduceBEq, Nat.reduceBNe, Nat.reduceAdd, Nat.reduceSub, Nat.reduceMul, Nat.reduceEqDiff, Nat.reduceLeDiff, Int.reduceLT, Int.reduceLE, Int.reduceEq, Int.reduceToNat, Int.reduceBEq, Int.reduceAdd, Int.reduceSub, Int.reduceNeg, reduceCtorEq, t0, t1, t7, hw, hl2', hb2, h10', Keep_T hK]
                  exact ⟨m, by omega, hext.trans hx2, a + n, acc, by omega, by omega, by omega, rfl, hout.ext hx2, hg⟩
                · have h10' : ¬ (s[a + n].toNat : Int) = 10 := by omega
                  rw [if_neg h10] at hg
                  simp (maxSteps := 5000000) (implicitDefEqProofs := false) only [go_sem, Nat.reduceLT, Nat.reduceBEq, Nat.reduceBNe, Nat.reduceAdd, Nat.reduceSub, Nat.reduceMul, Nat.reduceEqDiff, Nat.reduceLeDiff, Int.reduceLT, Int.reduceLE, Int.reduceEq, Int.reduceToNat, Int.reduceBEq, Int.reduceAdd, Int.reduceSub, Int.reduceNeg, reduceCtorEq, t0, t1, t7, hw, hl2', hb2, h10']
                  refine fun _ => ?_
                  refine callK_of (plain_ok H0 H2 i val acc 10 (hout.ext hx2) (hext.trans hx2) hi (by omega)) ?_
                  rintro v H3 ⟨q1, q2, q3⟩
                  have hput := gPut_len (gPlainR val 10)
                  simp (maxSteps := 5000000) (implicitDefEqProofs := false) only [go_sem, Nat.reduceLT, Nat.reduceBEq, Nat.reduceBNe, Nat.reduceAdd, Nat.reduceSub, Nat.reduceMul, Nat.reduceEqDiff, Nat.reduceLeDiff, Int.reduceLT, Int.reduceLE, Int.reduceEq, Int.reduceToNat, Int.reduceBEq, Int.reduceAdd, Int.reduceSub, Int.reduceNeg, reduceCtorEq, implies_true, true_and, Keep_T hK]
                  exact ⟨m, by omega, q2, a + n, acc ++ gPut (gPlainR val 10), by omega, by omega, by rw [List.length_append]; omega, rfl, q1, hg⟩
              · have hl2' : ¬ ((a + n : Nat) : Int) < (s.length : Int) := by omega
                have hb2 : s[a + n]? = none := List.getElem?_eq_none (by omega)
                rw [hb2] at hg
                simp only at hg
                simp (maxSteps := 5000000) (implicitDefEqProofs := false) only [go_sem, Nat.reduceLT, Nat.reduceBEq, Nat.reduceBNe, Nat.reduceAdd, Nat.reduceSub, Nat.reduceMul, Nat.reduceEqDiff, Nat.reduceLeDiff, Int.reduceLT, Int.reduceLE, Int.reduceEq, Int.reduceToNat, Int.reduceBEq, Int.reduceAdd, Int.reduceSub, Int.reduceNeg, reduceCtorEq, t0, t1, t7, hw, hl2']
                refine callK_of (plain_ok H0 H2 i val acc 10 (hout.ext hx2) (hext.trans hx2) hi (by omega)) ?_
                rintro v H3 ⟨q1, q2, q3⟩
                have hput := gPut_len (gPlainR val 10)
                simp (maxSteps := 5000000) (implicitDefEqProofs := false) only [go_sem, Nat.reduceLT, Nat.reduceBEq, Nat.reduceBNe, Nat.reduceAdd, Nat.reduceSub, Nat.reduceMul, Nat.reduceEqDiff, Nat.reduceLeDiff, Int.reduceLT, Int.reduceLE, Int.reduceEq, Int.reduceToNat, Int.reduceBEq, Int.reduceAdd, Int.reduceSub, Int.reduceNeg, reduceCtorEq, implies_true, true_and, Keep_T hK]
                exact ⟨m, by omega, q2, a + n, acc ++ gPut (gPlainR val 10), by omega, by omega, by rw [List.length_append]; omega, rfl, q1, hg⟩
            · rw [if_neg h13] at hg
              simp (maxSteps := 5000000) (implicitDefEqProofs := false) only [go_sem, Nat.reduceLT, Nat.reduceBEq, Nat.reduceBNe, Nat.reduceAdd, Nat.reduceSub, Nat.reduceMul, Nat.reduceEqDiff, Nat.reduceLeDiff, Int.reduceLT, Int.reduceLE, Int.reduceEq, Int.reduceToNat, Int.reduceBEq, Int.reduceAdd, Int.reduceSub, Int.reduceNeg, reduceCtorEq, t0, t1, t7, hw, h13]
              refine fun _ => ?_
              refine callK_of (plain_ok H0 H2 i val acc r (hout.ext hx2) (hext.trans hx2) hi (by omega)) ?_
              rintro v H3 ⟨q1, q2, q3⟩
              have hput := gPut_len (gPlainR val r)
              simp (maxSteps := 5000000) (implicitDefEqProofs := false) only [go_sem, Nat.reduceLT, Nat.reduceBEq, Nat.reduceBNe, Nat.reduceAdd, Nat.reduceSub, Nat.reduceMul, Nat.reduceEqDiff, Nat.reduceLeDiff, Int.reduceLT, Int.reduceLE, Int.reduceEq, Int.reduceToNat, Int.reduceBEq, Int.reduceAdd, Int.reduceSub, Int.reduceNeg, reduceCtorEq, implies_true, true_and, Keep_T hK]
              exact ⟨m, by omega, q2, a + n, acc ++ gPut (gPlainR val r), by omega, by omega, by rw [List.length_append]; omega, rfl, q1, hg⟩
        · rw [if_pos h3] at hg
          simp (maxSteps := 5000000) (implicitDefEqProofs := false) only [go_sem, Nat.reduceLT, Nat.reduceBEq, Nat.reduceBNe, Nat.reduceAdd, Nat.reduceSub, Nat.reduceMul, Nat.reduceEqDiff, Nat.reduceLeDiff, Int.reduceLT, Int.reduceLE, Int.reduceEq, Int.reduceToNat, Int.reduceBEq, Int.reduceAdd, Int.reduceSub, Int.reduceNeg, reduceCtorEq, t0, t1, t7, h3]
          exact fun _ => ⟨by rw [hg]; exact ⟨rfl, rfl, rfl⟩, hext.trans e1⟩
    · have hlt' : ¬ (a : Int) < (s.length : Int) := by omega
      have hb : s[a]? = none := List.getElem?_eq_none (by omega)
      simp (maxSteps := 5000000) (implicitDefEqProofs := false) only [go_sem, Nat.reduceLT, Nat.reduceBEq, Nat.reduceBNe, Nat.reduceAdd, Nat.reduceSub, Nat.reduceMul, Nat.reduceEqDiff, Nat.reduceLeDiff, Int.reduceLT, Int.reduceLE, Int.reduceEq, Int.reduceToNat, Int.reduceBEq, Int.reduceAdd, Int.reduceSub, Int.reduceNeg, reduceCtorEq, t0, t1, t7, hlt', Keep_T hK]
      refine ⟨hext, acc, hout, by omega, ?_⟩
      rw [hg]
      cases m <;> simp [rdL, hb]
  · rintro T0 hT0 T H' hK ⟨hext, acc, hout, hacc, hg⟩
    have t0 := hK 0 rfl
    simp (maxSteps := 5000000) (implicitDefEqProofs := false) only [go_sem, Nat.reduceLT, Nat.reduceBEq, Nat.reduceBNe, Nat.reduceAdd, Nat.reduceSub, Nat.reduceMul, Nat.reduceEqDiff, Nat.reduceLeDiff, Int.reduceLT, Int.reduceLE, Int.reduceEq, Int.reduceToNat, Int.reduceBEq, Int.reduceAdd, Int.reduceSub, Int.reduceNeg, reduceCtorEq, hT0] at t0
    obtain ⟨c, hb, hv⟩ := hout
    simp (maxSteps := 5000000) (implicitDefEqProofs := false) only [go_sem, Nat.reduceLT, Nat.reduceBEq, Nat.reduceBNe, Nat.reduceAdd, Nat.reduceSub, Nat.reduceMul, Nat.reduceEqDiff, Nat.reduceLeDiff, Int.reduceLT, Int.reduceLE, Int.reduceEq, Int.reduceToNat, Int.reduceBEq, Int.reduceAdd, Int.reduceSub, Int.reduceNeg, reduceCtorEq, t0]
    refine callK_of (String_ok E H0.length H' i 0 c _ acc hb (by omega) H0 hext (Nat.le_refl _)) ?_
    rintro v H2 ⟨rfl, hx2⟩
    simp (maxSteps := 5000000) (implicitDefEqProofs := false) only [go_sem, Nat.reduceLT, Nat.reduceBEq, Nat.reduceBNe, Nat.reduceAdd, Nat.reduceSub, Nat.reduceMul, Nat.reduceEqDiff, Nat.reduceLeDiff, Int.reduceLT, Int.reduceLE, Int.reduceEq, Int.reduceToNat, Int.reduceBEq, Int.reduceAdd, Int.reduceSub, Int.reduceNeg, reduceCtorEq]
    rw [hg]
    exact ⟨⟨rfl, rfl, rfl⟩, hx2⟩
end Go.AL
