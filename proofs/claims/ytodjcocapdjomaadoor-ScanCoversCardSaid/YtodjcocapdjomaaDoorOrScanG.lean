/- scan: all tokens. -/
import Derived.Test.YtodjcocapdjomaaDoorOrScanF
namespace Go.AL
open Go Go.RowKit Go.Proofs
set_option linter.unusedVariables false
set_option linter.unusedSimpArgs false
set_option maxRecDepth 20000
set_option maxHeartbeats 2000000
variable {E : World → Prop}
theorem Next_ok (hE : ∀ w, E w → LibE w) (hF : ∀ w, E w → FoldE w) (H : AHeap) (s : List UInt8) (a : Nat) (hS : s.length ≤ 4000000000) (ha : a ≤ s.length) :
    ACalls E Tryd.prog 6 [.str s, .int .i64 a] H (fun v H' => v = .tuple [tokA (gNextT s a false).1, .int .i64 (gNextT s a false).2.1, .int .i64 (gNextT s a false).2.2] ∧ Ext H H') := by
  refine ACalls.of_codeC (N := 13) (rs := [.cell 4 28, .tmp 5, .tmp 6]) Tryd.func6 rfl rfl rfl rfl (by simp) ?_
  refine ACode.of_K _ ?_
  simp (maxSteps := 5000000) (implicitDefEqProofs := false) only [go_sem, Nat.reduceLT, Nat.reduceBEq, Nat.reduceBNe, Nat.reduceAdd, Nat.reduceSub, Nat.reduceMul, Nat.reduceEqDiff, Nat.reduceLeDiff, Int.reduceLT, Int.reduceLE, Int.reduceEq, Int.reduceToNat, Int.reduceBEq, Int.reduceAdd, Int.reduceSub, Int.reduceNeg, reduceCtorEq]
  refine callK_val (sNext_ok hE hF _ s a false hS ha) fun H1 e1 => ?_
  have h4 := e1.get (get_new0 H _)
  have s4 : ∀ x, (H1.set H.length x)[H.length]? = some x := fun x => iter_set h4
  have x1 : Ext H H1 := (Ext.app _ _).trans e1
  generalize gNextT s a false = x at *
  obtain ⟨⟨k1, k2, k3, k5⟩, n, e⟩ := x
  simp (maxSteps := 5000000) (implicitDefEqProofs := false) only [go_sem, Nat.reduceLT, Nat.reduceBEq, Nat.reduceBNe, Nat.reduceAdd, Nat.reduceSub, Nat.reduceMul, Nat.reduceEqDiff, Nat.reduceLeDiff, Int.reduceLT, Int.reduceLE, Int.reduceEq, Int.reduceToNat, Int.reduceBEq, Int.reduceAdd, Int.reduceSub, Int.reduceNeg, reduceCtorEq, not_false_eq_true, true_implies, tokA, h4, s4]
  exact x1.iter _
theorem More_ok (hE : ∀ w, E w → LibE w) (hF : ∀ w, E w → FoldE w) (H : AHeap) (s : List UInt8) (a : Nat) (hS : s.length ≤ 4000000000) (ha : a ≤ s.length) :
    ACalls E Tryd.prog 7 [.str s, .int .i64 a] H (fun v H' => v = .tuple [tokA (gNextT s a true).1, .int .i64 (gNextT s a true).2.1, .int .i64 (gNextT s a true).2.2] ∧ Ext H H') := by
  refine ACalls.of_codeC (N := 13) (rs := [.cell 4 28, .tmp 5, .tmp 6]) Tryd.func7 rfl rfl rfl rfl (by simp) ?_
  refine ACode.of_K _ ?_
  simp (maxSteps := 5000000) (implicitDefEqProofs := false) only [go_sem, Nat.reduceLT, Nat.reduceBEq, Nat.reduceBNe, Nat.reduceAdd, Nat.reduceSub, Nat.reduceMul, Nat.reduceEqDiff, Nat.reduceLeDiff, Int.reduceLT, Int.reduceLE, Int.reduceEq, Int.reduceToNat, Int.reduceBEq, Int.reduceAdd, Int.reduceSub, Int.reduceNeg, reduceCtorEq]
  refine callK_val (sNext_ok hE hF _ s a true hS ha) fun H1 e1 => ?_
  have h4 := e1.get (get_new0 H _)
  have s4 : ∀ x, (H1.set H.length x)[H.length]? = some x := fun x => iter_set h4
  have x1 : Ext H H1 := (Ext.app _ _).trans e1
  generalize gNextT s a true = x at *
  obtain ⟨⟨k1, k2, k3, k5⟩, n, e⟩ := x
  simp (maxSteps := 5000000) (implicitDefEqProofs := false) only [go_sem, Nat.reduceLT, Nat.reduceBEq, Nat.reduceBNe, Nat.reduceAdd, Nat.reduceSub, Nat.reduceMul, Nat.reduceEqDiff, Nat.reduceLeDiff, Int.reduceLT, Int.reduceLE, Int.reduceEq, Int.reduceToNat, Int.reduceBEq, Int.reduceAdd, Int.reduceSub, Int.reduceNeg, reduceCtorEq, not_false_eq_true, true_implies, tokA, h4, s4]
  exact x1.iter _
theorem cut_pos (b : UInt8) (t : List UInt8) (hb : b.toNat ≠ 60) : 1 ≤ (Lib.cut (b :: t) [60]).1.length := by
  unfold Lib.cut
  split
  · rename_i h0
    have hr := Lib.index_room (b :: t) [60] h0
    have hne : Lib.index (b :: t) [60] ≠ 0 := by
      rw [Lib.index_one]
      unfold Lib.indexByte
      have hbne : (b == (60 : UInt8)) = false := by
        rw [beq_eq_false_iff_ne]
        rintro rfl
        exact hb rfl
      rw [hbne]
      simp only [Bool.false_eq_true, if_false]
      have := Lib.indexByte_ge t 60
      split
      · decide
      · rename_i h
        have : Lib.indexByte t 60 ≠ -1 := by simpa using h
        omega
    simp only [List.length_take, List.length_cons, List.length_nil] at hr ⊢
    omega
  · simp
theorem kind_ne (k : Nat) (s : List UInt8) (first : Bool) (h : (gKind k s first).2 = 0) : (gKind k s first).1.1 ≠ 6 := by
  unfold gKind at h ⊢
  split
  · simp [gCdata]
  · rename_i h0
    rw [if_neg h0] at h
    split
    · rename_i h1
      rw [if_pos h1] at h
      unfold gComment at h ⊢
      split
      · rename_i h2; rw [if_pos h2] at h; cases h
      · simp
    · rename_i h1
      rw [if_neg h1] at h
      split
      · rename_i h2
        rw [if_pos h2] at h
        unfold gInstr at h ⊢
        dsimp only at h ⊢
        split
        · rename_i h3; rw [if_pos h3] at h; cases h
        · rename_i h3
          rw [if_neg h3] at h
          split
          · rename_i h4; rw [if_pos h4] at h; cases h
          · simp
      · rename_i h2
        rw [if_neg h2] at h
        unfold gEnd at h ⊢
        split
        · rename_i h3; rw [if_pos h3] at h; cases h
        · simp
theorem mkK_kind (s : List UInt8) (first : Bool) : ∀ (f k : Nat) (r : Tok × Int × Int), mkK s first f k = some r → r.2.2 = 0 → r.1.1 ≠ 6
  | 0, k, r, h, _ => by simp [mkK] at h
  | f + 1, k, r, h, he => by
    unfold mkK at h
    split at h
    · exact mkK_kind s first f (k + 1) r h he
    · split at h
      · cases h; cases he
      · dsimp only at h
        split at h
        · rename_i hr
          cases h; exact absurd he hr
        · cases h
          exact kind_ne _ _ _ he
theorem gMarkup_kind (s : List UInt8) (first : Bool) (he : (gMarkup s first).2.2 = 0) : (gMarkup s first).1.1 ≠ 6 := by
  unfold gMarkup at he ⊢
  split at he
  · rename_i r hr
    exact mkK_kind s first 4 0 r hr he
  · split at he
    · cases he
    · rename_i h1
      rw [if_neg h1]
      split at he
      · exact absurd he (bangL_ne s bangs)
      · rename_i h2
        rw [if_neg h2]
        unfold gStartT at he ⊢
        split at he
        · cases he
        · rename_i h3
          rw [if_neg h3]
          dsimp only at he ⊢
          split at he
          · rename_i h4; exact absurd he h4
          · rename_i h4
            rw [if_neg h4]
            split at he
            · cases he
            · rename_i h5
              rw [if_neg h5]
              simp
theorem gCharsT_kind (s : List UInt8) (he : (gCharsT s).2 = 0) : (gCharsT s).1.1 ≠ 6 := by
  unfold gCharsT at he ⊢
  split at he
  · rename_i h; exact absurd he h
  · rename_i h; rw [if_neg h]
    split at he
    · cases he
    · rename_i h1; rw [if_neg h1]
      split at he
      · rename_i h2; exact absurd he h2
      · rename_i h2; rw [if_neg h2]; simp
/-- where a token stands -/
theorem gNextT_rng (s : List UInt8) (a : Nat) (ha : a ≤ s.length) (he : (gNextT s a false).2.2 = 0) :
    (a = s.length ∧ (gNextT s a false).1.1 = 6 ∧ (gNextT s a false).2.1 = a) ∨ (a < s.length ∧ (gNextT s a false).1.1 ≠ 6 ∧ (a : Int) < (gNextT s a false).2.1 ∧ (gNextT s a false).2.1 ≤ s.length) := by
  unfold gNextT at he ⊢
  split at he
  · rename_i hb
    have := List.getElem?_eq_none_iff.1 hb
    exact .inl ⟨by omega, rfl, rfl⟩
  · rename_i b hb
    obtain ⟨hlt, hbe⟩ := List.getElem?_eq_some_iff.1 hb
    right
    refine ⟨hlt, ?_⟩
    split at he
    · rename_i h60
      rw [if_pos h60]
      split at he
      · rename_i h; exact absurd he h
      · rename_i h
        rw [if_neg h]
        have h0 : (gMarkup (s.drop a) (a == 0)).2.2 = 0 := by simpa using h
        have h1 := gMarkup_rng _ _ h0
        have h2 := gMarkup_kind _ _ h0
        rw [List.length_drop] at h1
        exact ⟨h2, by simp only; omega, by simp only; omega⟩
    · rename_i h60
      rw [if_neg h60]
      split at he
      · cases he
      · rename_i h1
        rw [if_neg h1]
        split at he
        · rename_i h; exact absurd he h
        · rename_i h
          rw [if_neg h]
          have h0 : (gCharsT (Lib.cut (s.drop a) [60]).1).2 = 0 := by simpa using h
          have h2 := cut_len (s.drop a) [60]
          have h3 := cut_pos s[a] (s.drop (a + 1)) (by rw [hbe]; exact h60)
          rw [← List.drop_eq_getElem_cons hlt] at h3
          rw [List.length_drop] at h2
          exact ⟨gCharsT_kind _ h0, by simp only; omega, by simp only; omega⟩
def tL (s : List UInt8) : Nat → Nat → List Tok → List Tok × Nat × Int
  | 0, a, acc => (acc, a, 0)
  | m + 1, a, acc => if (gNextT s a false).2.2 ≠ 0 then (acc, a, (gNextT s a false).2.2) else if (gNextT s a false).1.1 = 6 then (acc ++ [(gNextT s a false).1], a, 0) else tL s m (gNextT s a false).2.1.toNat (acc ++ [(gNextT s a false).1])
def gAllT (s : List UInt8) : List Tok × Nat × Int := tL s (s.length + 1) 0 []
def tokC : List Tok → List AV
  | [] => []
  | t :: l => .int .i64 t.1 :: .str t.2.1 :: .bool t.2.2.1 :: .bool t.2.2.2 :: tokC l
theorem tokC_app (l m : List Tok) : tokC (l ++ m) = tokC l ++ tokC m := by
  induction l with
  | nil => rfl
  | cons a l ih => simp [tokC, ih]
theorem All_ok (hE : ∀ w, E w → LibE w) (hF : ∀ w, E w → FoldE w) (H : AHeap) (s : List UInt8) (hS : s.length ≤ 4000000000) :
    ACalls E Tryd.prog 5 [.str s] H (fun v H' => ∃ w, v = .tuple [w, .int .i64 (gAllT s).2.1, .int .i64 (gAllT s).2.2] ∧ Sl Tryd.prog H.length H' 28 true w (gAllT s).1.length (tokC (gAllT s).1) ∧ Ext H H') := by
  refine ACalls.of_code (N := 32) (ts := [2, 3, 4]) Tryd.func5 rfl rfl rfl rfl (by simp) ?_
  refine ACode.of_K _ ?_
  simp (maxSteps := 5000000) (implicitDefEqProofs := false) only [go_sem, Nat.reduceLT, Nat.reduceBEq, Nat.reduceBNe, Nat.reduceAdd, Nat.reduceSub, Nat.reduceMul, Nat.reduceEqDiff, Nat.reduceLeDiff, Int.reduceLT, Int.reduceLE, Int.reduceEq, Int.reduceToNat, Int.reduceBEq, Int.reduceAdd, Int.reduceSub, Int.reduceNeg, reduceCtorEq]
  have hB : slOk Tryd.prog 23 = true := by kernel_rfl
  have hE5 : elD Tryd.prog 23 = 28 := by kernel_rfl
  have hb1 : bytesT Tryd.prog 28 = 32 := by kernel_rfl
  have hs1 : szT Tryd.prog 28 = 4 := by kernel_rfl
  refine ACode.loopV [(2, 31)] (fun m T H' => Ext H H' ∧ ∃ (a : Nat) (acc : List Tok), s.length + 1 ≤ a + m ∧ a ≤ s.length ∧ acc.length ≤ a ∧ T 6 = .int .i64 a ∧ Sl Tryd.prog H.length H' 28 true (T 5) acc.length (tokC acc) ∧ gAllT s = tL s m a acc) (s.length + 1) ?_ ?_
  · exact ⟨Ext.refl _, 0, [], by omega, by omega, by simp, by simp (maxSteps := 5000000) (implicitDefEqProofs := false) only [go_sem, Nat.reduceLT, Nat.reduceBEq, Nat.reduceBNe, Nat.reduceAdd, Nat.reduceSub, Nat.reduceMul, Nat.reduceEqDiff, Nat.reduceLeDiff, Int.reduceLT, Int.reduceLE, Int.reduceEq, Int.reduceToNat, Int.reduceBEq, Int.reduceAdd, Int.reduceSub, Int.reduceNeg, reduceCtorEq], by simp (maxSteps := 5000000) (implicitDefEqProofs := false) only [go_sem, Nat.reduceLT, Nat.reduceBEq, Nat.reduceBNe, Nat.reduceAdd, Nat.reduceSub, Nat.reduceMul, Nat.reduceEqDiff, Nat.reduceLeDiff, Int.reduceLT, Int.reduceLE, Int.reduceEq, Int.reduceToNat, Int.reduceBEq, Int.reduceAdd, Int.reduceSub, Int.reduceNeg, reduceCtorEq]; exact Sl.nil _ _ _ _ _, rfl⟩
  · rintro T0 hT0 m T H' hK ⟨hext, a, acc, hm, ha, hac, t6, hsl, hg⟩
    have t0 := hK 0 rfl
    simp (maxSteps := 5000000) (implicitDefEqProofs := false) only [go_sem, Nat.reduceLT, Nat.reduceBEq, Nat.reduceBNe, Nat.reduceAdd, Nat.reduceSub, Nat.reduceMul, Nat.reduceEqDiff, Nat.reduceLeDiff, Int.reduceLT, Int.reduceLE, Int.reduceEq, Int.reduceToNat, Int.reduceBEq, Int.reduceAdd, Int.reduceSub, Int.reduceNeg, reduceCtorEq, hT0] at t0
    clear hT0
    refine ACode.of_K _ ?_
    obtain ⟨m, rfl⟩ : ∃ k, m = k + 1 := ⟨m - 1, by omega⟩
    rw [tL] at hg
    simp (maxSteps := 5000000) (implicitDefEqProofs := false) only [go_sem, Nat.reduceLT, Nat.reduceBEq, Nat.reduceBNe, Nat.reduceAdd, Nat.reduceSub, Nat.reduceMul, Nat.reduceEqDiff, Nat.reduceLeDiff, Int.reduceLT, Int.reduceLE, Int.reduceEq, Int.reduceToNat, Int.reduceBEq, Int.reduceAdd, Int.reduceSub, Int.reduceNeg, reduceCtorEq, t0, t6]
    refine callK_val (Next_ok hE hF H' s a hS ha) fun H1 e1 => ?_
    have hr := gNextT_rng s a ha
    generalize gNextT s a false = x at *
    obtain ⟨⟨k1, k2, k3, k5⟩, n, e⟩ := x
    simp only at hr hg
    have hsl1 := hsl.ext e1
    generalize hv : T 5 = v at *
    by_cases he : e = 0
    · subst he
      rw [if_neg (by simp)] at hg
      obtain ⟨v', H4, a1, a2, a3, a4⟩ := append1 (P := Tryd.prog) (lo := H.length) hB hE5 (hsl1.ext (Ext.app _ [.cells [.int .i64 k1, .str k2, .bool k3, .bool k5] 28 true])) (Nat.le_trans hext.len (Nat.le_trans e1.len (by simp))) (xs := [.int .i64 k1, .str k2, .bool k3, .bool k5]) (by rw [hs1]; rfl) rfl (by rw [hb1]; omega) (by omega)
      have a1' : aappend Tryd.prog (H1 ++ [.cells [.int .i64 k1, .str k2, .bool k3, .bool k5] 28 true, .cells [.int .i64 k1, .str k2, .bool k3, .bool k5] 28 true]) 23 23 v (.slice (some (H1.length + 1, 0)) 1) = some (v', H4) := by
        have := a1
        rw [List.append_assoc, List.length_append] at this
        exact this
      have hbox : H4[H1.length]? = some (.cells [.int .i64 k1, .str k2, .bool k3, .bool k5] 28 true) := a4 _ _ (get_new0 _ _) (fun id h => by
        rcases hsl1.isSl with ⟨h1, -⟩ | ⟨j, h1, h2⟩
        · rw [h1] at h; cases h
        · rw [h1] at h
          cases h
          have := lt_of_get h2
          omega)
      have hx4 : Ext H H4 := a3 H (hext.trans (e1.trans (Ext.app _ _))) (Nat.le_refl _)
      rcases hr rfl with ⟨r1, r2, r3⟩ | ⟨r1, r2, r3, r4⟩
      · rw [if_pos r2] at hg
        have r2 : k1 = 6 := r2
        subst r2
        simp (maxSteps := 5000000) (implicitDefEqProofs := false) only [go_sem, Nat.reduceLT, Nat.reduceBEq, Nat.reduceBNe, Nat.reduceAdd, Nat.reduceSub, Nat.reduceMul, Nat.reduceEqDiff, Nat.reduceLeDiff, Int.reduceLT, Int.reduceLE, Int.reduceEq, Int.reduceToNat, Int.reduceBEq, Int.reduceAdd, Int.reduceSub, Int.reduceNeg, reduceCtorEq, not_false_eq_true, true_implies, tokA, t0, t6, hv, a1', hbox, hg]
        refine ⟨v', rfl, ?_, hx4⟩
        rw [tokC_app]
        try rw [List.length_append]
        exact a2
      · rw [if_neg r2] at hg
        obtain ⟨n, rfl⟩ : ∃ j : Nat, n = j := ⟨n.toNat, by omega⟩
        rw [Int.toNat_natCast] at hg
        simp (maxSteps := 5000000) (implicitDefEqProofs := false) only [go_sem, Nat.reduceLT, Nat.reduceBEq, Nat.reduceBNe, Nat.reduceAdd, Nat.reduceSub, Nat.reduceMul, Nat.reduceEqDiff, Nat.reduceLeDiff, Int.reduceLT, Int.reduceLE, Int.reduceEq, Int.reduceToNat, Int.reduceBEq, Int.reduceAdd, Int.reduceSub, Int.reduceNeg, reduceCtorEq, not_false_eq_true, true_implies, tokA, t0, t6, hv, a1', hbox, r2, Keep_T hK]
        refine ⟨m, by omega, hx4, n, acc ++ [((k1, k2, k3, k5) : Tok)], by omega, by omega, by simp; omega, rfl, ?_, hg⟩
        rw [List.length_append, tokC_app]
        exact a2
    · rw [if_pos he] at hg
      simp (maxSteps := 5000000) (implicitDefEqProofs := false) only [go_sem, Nat.reduceLT, Nat.reduceBEq, Nat.reduceBNe, Nat.reduceAdd, Nat.reduceSub, Nat.reduceMul, Nat.reduceEqDiff, Nat.reduceLeDiff, Int.reduceLT, Int.reduceLE, Int.reduceEq, Int.reduceToNat, Int.reduceBEq, Int.reduceAdd, Int.reduceSub, Int.reduceNeg, reduceCtorEq, not_false_eq_true, true_implies, tokA, t0, t6, hv, he, hg]
      exact ⟨v, rfl, hsl1.ext (Ext.app _ _), (hext.trans e1).add _⟩
end Go.AL
