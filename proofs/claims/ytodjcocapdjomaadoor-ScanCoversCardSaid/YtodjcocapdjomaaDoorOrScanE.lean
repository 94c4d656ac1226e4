/- scan: start tags, markup, characters, tokens. -/
import Derived.Test.YtodjcocapdjomaaDoorOrScanD
namespace Go.AL
open Go Go.RowKit Go.Proofs
set_option linter.unusedVariables false
set_option linter.unusedSimpArgs false
set_option maxRecDepth 20000
set_option maxHeartbeats 2000000
variable {E : World → Prop}
theorem tagL_rng : ∀ (s : List UInt8) (q : Int) (i : Nat), tagL s q i = -1 ∨ ((i : Int) ≤ tagL s q i ∧ tagL s q i < i + s.length)
  | [], q, i => .inl rfl
  | b :: s, q, i => by
    unfold tagL
    repeat' split
    all_goals first
      | (right; simp; omega)
      | (rcases tagL_rng s _ (i + 1) with h | ⟨h1, h2⟩
         · exact .inl h
         · right; simp only [List.length_cons]; omega)
def gStartT (s : List UInt8) : Tok × Int × Int :=
  if gTag s < 0 then (noTok, 0, 7) else
  let n := (gTag s).toNat
  if gRight (s.take (n + 1)) ≠ 0 then (noTok, 0, gRight (s.take (n + 1))) else
  let inside := Lib.trimSuffix ((s.take n).drop 1) [47]
  if Lib.contains inside [60] = true then (noTok, 0, 6) else ((1, inside, Lib.hasSuffix ((s.take n).drop 1) [47], false), (n : Int) + 1, 0)
theorem trimSuffix_len (s p : List UInt8) : (Lib.trimSuffix s p).length ≤ s.length := by
  unfold Lib.trimSuffix
  split
  · rw [List.length_take]; omega
  · exact Nat.le_refl _
/-- a start tag: s begins with < , which is no end -/
theorem start_ok (hE : ∀ w, E w → LibE w) (H : AHeap) (s : List UInt8) (hS : s.length ≤ 4000000000) (h1 : ∃ b t, s = b :: t ∧ b.toNat = 60) :
    ACalls E Tryd.prog 16 [.str s] H (fun v H' => v = .tuple [tokA (gStartT s).1, .int .i64 (gStartT s).2.1, .int .i64 (gStartT s).2.2] ∧ Ext H H') := by
  refine ACalls.of_codeC (N := 38) (rs := [.cell 2 28, .tmp 3, .tmp 4]) Tryd.func16 rfl rfl rfl rfl (by simp) ?_
  refine ACode.of_K _ ?_
  simp (maxSteps := 5000000) (implicitDefEqProofs := false) only [go_sem, Nat.reduceLT, Nat.reduceBEq, Nat.reduceBNe, Nat.reduceAdd, Nat.reduceSub, Nat.reduceMul, Nat.reduceEqDiff, Nat.reduceLeDiff, Int.reduceLT, Int.reduceLE, Int.reduceEq, Int.reduceToNat, Int.reduceBEq, Int.reduceAdd, Int.reduceSub, Int.reduceNeg, reduceCtorEq]
  refine callK_val (tag_ok _ s (by omega)) fun H1 e1 => ?_
  have h4 := e1.get (get_new0 H _)
  have s4 : ∀ x, (H1.set H.length x)[H.length]? = some x := fun x => iter_set h4
  have x1 : Ext H H1 := (Ext.app _ _).trans e1
  have hg : gStartT s = (if gTag s < 0 then (noTok, 0, 7) else
    let n := (gTag s).toNat
    if gRight (s.take (n + 1)) ≠ 0 then (noTok, 0, gRight (s.take (n + 1))) else
    let inside := Lib.trimSuffix ((s.take n).drop 1) [47]
    if Lib.contains inside [60] = true then (noTok, 0, 6) else ((1, inside, Lib.hasSuffix ((s.take n).drop 1) [47], false), (n : Int) + 1, 0)) := rfl
  dsimp only at hg
  have hr := tagL_rng s 0 0
  change gTag s = -1 ∨ _ at hr
  have h0 : gTag s ≠ 0 := by
    obtain ⟨b, t, rfl, hb⟩ := h1
    unfold gTag
    rw [tagL, if_neg (by simp), if_neg (by omega)]
    have := tagL_rng t (if (b.toNat : Int) = 34 ∨ (b.toNat : Int) = 39 then b.toNat else 0) (0 + 1)
    omega
  change gTag s = -1 ∨ ((0 : Nat) : Int) ≤ gTag s ∧ gTag s < _ at hr
  generalize gTag s = g at *
  by_cases hn : g < 0
  · rw [if_pos hn] at hg
    simp (maxSteps := 5000000) (implicitDefEqProofs := false) only [go_sem, Nat.reduceLT, Nat.reduceBEq, Nat.reduceBNe, Nat.reduceAdd, Nat.reduceSub, Nat.reduceMul, Nat.reduceEqDiff, Nat.reduceLeDiff, Int.reduceLT, Int.reduceLE, Int.reduceEq, Int.reduceToNat, Int.reduceBEq, Int.reduceAdd, Int.reduceSub, Int.reduceNeg, reduceCtorEq, not_false_eq_true, true_implies, hn, h4, s4, hg]
    exact ⟨by first | rfl | exact ⟨rfl, rfl⟩ | exact ⟨rfl, rfl, rfl⟩, x1.iter _⟩
  · obtain ⟨n, rfl⟩ : ∃ n : Nat, g = n := ⟨g.toNat, by omega⟩
    rw [if_neg hn, Int.toNat_natCast] at hg
    have hnl : n < s.length := by omega
    have hn1 : 1 ≤ n := by omega
    have hw := wrap_add1 n (by omega)
    have hl1 : ((n + 1 : Nat) : Int) ≤ (s.length : Int) := by omega
    have hl2 : (n : Int) ≤ (s.length : Int) := by omega
    have hl3 : (1 : Int) ≤ (n : Int) := by omega
    have hl0 : (0 : Int) ≤ ((n + 1 : Nat) : Int) := by omega
    simp (maxSteps := 5000000) (implicitDefEqProofs := false) only [go_sem, Nat.reduceLT, Nat.reduceBEq, Nat.reduceBNe, Nat.reduceAdd, Nat.reduceSub, Nat.reduceMul, Nat.reduceEqDiff, Nat.reduceLeDiff, Int.reduceLT, Int.reduceLE, Int.reduceEq, Int.reduceToNat, Int.reduceBEq, Int.reduceAdd, Int.reduceSub, Int.reduceNeg, reduceCtorEq, not_false_eq_true, true_implies, hn, hw, hl1, hl0, Int.toNat_natCast, Int.natCast_nonneg]
    refine callK_val (right_ok H1 (s.take (n + 1)) (by rw [List.length_take]; omega)) fun H2 e2 => ?_
    have x2 := x1.trans e2
    have h5 := e2.get h4
    have s5 : ∀ x, (H2.set H.length x)[H.length]? = some x := fun x => iter_set h5
    generalize gRight (s.take (n + 1)) = e at *
    by_cases he : e = 0
    · subst he
      rw [if_neg (by simp)] at hg
      simp (maxSteps := 5000000) (implicitDefEqProofs := false) only [go_sem, Nat.reduceLT, Nat.reduceBEq, Nat.reduceBNe, Nat.reduceAdd, Nat.reduceSub, Nat.reduceMul, Nat.reduceEqDiff, Nat.reduceLeDiff, Int.reduceLT, Int.reduceLE, Int.reduceEq, Int.reduceToNat, Int.reduceBEq, Int.reduceAdd, Int.reduceSub, Int.reduceNeg, reduceCtorEq, not_false_eq_true, true_implies, hl2, hl3, Int.toNat_natCast, Int.natCast_nonneg, Int.toNat_one]
      have hil : ((s.take n).drop 1).length ≤ s.length := by rw [List.length_drop, List.length_take]; omega
      generalize (s.take n).drop 1 = u at *
      refine callK_same (CutSuffix_ok E H2 u [47] (by omega)) ?_
      have hul := trimSuffix_len u [47]
      simp (maxSteps := 5000000) (implicitDefEqProofs := false) only [go_sem, Nat.reduceLT, Nat.reduceBEq, Nat.reduceBNe, Nat.reduceAdd, Nat.reduceSub, Nat.reduceMul, Nat.reduceEqDiff, Nat.reduceLeDiff, Int.reduceLT, Int.reduceLE, Int.reduceEq, Int.reduceToNat, Int.reduceBEq, Int.reduceAdd, Int.reduceSub, Int.reduceNeg, reduceCtorEq, not_false_eq_true, true_implies]
      refine callK_same (Contains_ok E hE H2 (Lib.trimSuffix u [47]) [60] (by omega)) ?_
      cases hc : Lib.contains (Lib.trimSuffix u [47]) [60]
      · rw [if_neg (by rw [hc]; simp)] at hg
        simp (maxSteps := 5000000) (implicitDefEqProofs := false) only [go_sem, Nat.reduceLT, Nat.reduceBEq, Nat.reduceBNe, Nat.reduceAdd, Nat.reduceSub, Nat.reduceMul, Nat.reduceEqDiff, Nat.reduceLeDiff, Int.reduceLT, Int.reduceLE, Int.reduceEq, Int.reduceToNat, Int.reduceBEq, Int.reduceAdd, Int.reduceSub, Int.reduceNeg, reduceCtorEq, not_false_eq_true, true_implies, h5, s5, hw, hg]
        exact ⟨by first | rfl | exact ⟨rfl, rfl⟩ | exact ⟨rfl, rfl, rfl⟩, x2.iter _⟩
      · rw [if_pos hc] at hg
        simp (maxSteps := 5000000) (implicitDefEqProofs := false) only [go_sem, Nat.reduceLT, Nat.reduceBEq, Nat.reduceBNe, Nat.reduceAdd, Nat.reduceSub, Nat.reduceMul, Nat.reduceEqDiff, Nat.reduceLeDiff, Int.reduceLT, Int.reduceLE, Int.reduceEq, Int.reduceToNat, Int.reduceBEq, Int.reduceAdd, Int.reduceSub, Int.reduceNeg, reduceCtorEq, not_false_eq_true, true_implies, h5, s5, hg]
        exact ⟨by first | rfl | exact ⟨rfl, rfl⟩ | exact ⟨rfl, rfl, rfl⟩, x2.iter _⟩
    · rw [if_pos he] at hg
      simp (maxSteps := 5000000) (implicitDefEqProofs := false) only [go_sem, Nat.reduceLT, Nat.reduceBEq, Nat.reduceBNe, Nat.reduceAdd, Nat.reduceSub, Nat.reduceMul, Nat.reduceEqDiff, Nat.reduceLeDiff, Int.reduceLT, Int.reduceLE, Int.reduceEq, Int.reduceToNat, Int.reduceBEq, Int.reduceAdd, Int.reduceSub, Int.reduceNeg, reduceCtorEq, not_false_eq_true, true_implies, he, h5, s5, hg]
      exact ⟨by first | rfl | exact ⟨rfl, rfl⟩ | exact ⟨rfl, rfl, rfl⟩, x2.iter _⟩
theorem kinds_ok (H : AHeap) : ACalls E Tryd.prog 12 [] H (fun v H' => v = .slice (some (H.length, 0)) 4 ∧ H' = H ++ [.cells [.str [60, 33, 91, 67, 68, 65, 84, 65, 91], .str [93, 93, 62], .func 21 [] [], .str [60, 33, 45, 45], .str [45, 45, 62], .func 22 [] [], .str [60, 63], .str [63, 62], .func 23 [] [], .str [60, 47], .str [62], .func 24 [] []] 42 true]) := by
  refine ACalls.of_code (N := 6) (ts := [0]) Tryd.func12 rfl rfl rfl rfl (by simp) ?_
  refine ACode.of_K _ ?_
  simp (maxSteps := 5000000) (implicitDefEqProofs := false) only [go_sem, Nat.reduceLT, Nat.reduceBEq, Nat.reduceBNe, Nat.reduceAdd, Nat.reduceSub, Nat.reduceMul, Nat.reduceEqDiff, Nat.reduceLeDiff, Int.reduceLT, Int.reduceLE, Int.reduceEq, Int.reduceToNat, Int.reduceBEq, Int.reduceAdd, Int.reduceSub, Int.reduceNeg, reduceCtorEq]
def kCells : List AV := [.str [60, 33, 91, 67, 68, 65, 84, 65, 91], .str [93, 93, 62], .func 21 [] [], .str [60, 33, 45, 45], .str [45, 45, 62], .func 22 [] [], .str [60, 63], .str [63, 62], .func 23 [] [], .str [60, 47], .str [62], .func 24 [] []]
def kB (k : Nat) : List UInt8 := [[60, 33, 91, 67, 68, 65, 84, 65, 91], [60, 33, 45, 45], [60, 63], [60, 47]].getD k []
def kE (k : Nat) : List UInt8 := [[93, 93, 62], [45, 45, 62], [63, 62], [62]].getD k []
def kF (k : Nat) : Nat := [21, 22, 23, 24].getD k 0
theorem kind_at (n : Nat) (h : n < 4) : (kCells.drop (n * 3)).take 3 = [.str (kB n), .str (kE n), .func (kF n) [] []] := by
  match n, h with
  | 0, _ => rfl
  | 1, _ => rfl
  | 2, _ => rfl
  | 3, _ => rfl
  | n + 4, h => omega
theorem kB_len (k : Nat) (h : k < 4) : (kB k).length ≤ 100 ∧ (kE k).length ≤ 100 ∧ 1 ≤ (kB k).length := by
  match k, h with
  | 0, _ => decide
  | 1, _ => decide
  | 2, _ => decide
  | 3, _ => decide
  | n + 4, h => omega
def gKind (k : Nat) (s : List UInt8) (first : Bool) : Tok × Int := if k = 0 then (gCdata s, 0) else if k = 1 then gComment s else if k = 2 then gInstr s first else gEnd s
theorem kind_ok (hE : ∀ w, E w → LibE w) (hF : ∀ w, E w → FoldE w) (H : AHeap) (k : Nat) (hk : k < 4) (s : List UInt8) (b : Bool) (hS : s.length ≤ 4000000000) :
    ACalls E Tryd.prog (kF k) [.str s, .bool b] H (fun v H' => v = .tuple [tokA (gKind k s b).1, .int .i64 (gKind k s b).2] ∧ Ext H H') := by
  match k, hk with
  | 0, _ => exact cdata_ok hE H s b hS
  | 1, _ => exact comment_ok hE H s b hS
  | 2, _ => exact instr_ok hE hF H s b hS
  | 3, _ => exact end_ok hE H s b hS
  | n + 4, h => omega
def mkK (s : List UInt8) (first : Bool) : Nat → Nat → Option (Tok × Int × Int)
  | 0, _ => none
  | f + 1, k => if Lib.hasPrefix s (kB k) = false then mkK s first f (k + 1) else
    if (Lib.cut (Lib.trimPrefix s (kB k)) (kE k)).2.2 = false then some (noTok, 0, 7) else
    let inside := (Lib.cut (Lib.trimPrefix s (kB k)) (kE k)).1
    let n := (kB k).length + inside.length + (kE k).length
    if gRight (s.take n) ≠ 0 then some (noTok, 0, gRight (s.take n)) else some ((gKind k inside first).1, (n : Int), (gKind k inside first).2)
def gMarkup (s : List UInt8) (first : Bool) : Tok × Int × Int := match mkK s first 4 0 with
  | some r => r
  | none => if s = [60] then (noTok, 0, 7) else if (s.getD 1 0).toNat = 33 then (noTok, 0, gBang s) else gStartT s
theorem cut_room (s p : List UInt8) (h : (Lib.cut s p).2.2 = true) : (Lib.cut s p).1.length + p.length ≤ s.length := by
  unfold Lib.cut at h ⊢
  split
  · rename_i h0
    have := Lib.index_room s p h0
    simp only [List.length_take]
    omega
  · rename_i h0
    rw [if_neg h0] at h
    cases h
theorem trimPrefix_room (s p : List UInt8) (h : Lib.hasPrefix s p = true) : (Lib.trimPrefix s p).length + p.length = s.length := by
  unfold Lib.trimPrefix
  rw [if_pos h, List.length_drop]
  have : p.length ≤ s.length := (List.isPrefixOf_iff_prefix.1 h).length_le
  omega
theorem markup_ok (hE : ∀ w, E w → LibE w) (hF : ∀ w, E w → FoldE w) (H : AHeap) (s : List UInt8) (first : Bool) (hS : s.length ≤ 4000000000) (h1 : ∃ b t, s = b :: t ∧ b.toNat = 60) :
    ACalls E Tryd.prog 9 [.str s, .bool first] H (fun v H' => v = .tuple [tokA (gMarkup s first).1, .int .i64 (gMarkup s first).2.1, .int .i64 (gMarkup s first).2.2] ∧ Ext H H') := by
  refine ACalls.of_codeC (N := 87) (rs := [.cell 4 28, .tmp 5, .tmp 6]) Tryd.func9 rfl rfl rfl rfl (by simp) ?_
  refine ACode.of_K _ ?_
  simp (maxSteps := 5000000) (implicitDefEqProofs := false) only [go_sem, Nat.reduceLT, Nat.reduceBEq, Nat.reduceBNe, Nat.reduceAdd, Nat.reduceSub, Nat.reduceMul, Nat.reduceEqDiff, Nat.reduceLeDiff, Int.reduceLT, Int.reduceLE, Int.reduceEq, Int.reduceToNat, Int.reduceBEq, Int.reduceAdd, Int.reduceSub, Int.reduceNeg, reduceCtorEq]
  refine callK_of (kinds_ok _) ?_
  rintro r H1 ⟨rfl, rfl⟩
  simp (maxSteps := 5000000) (implicitDefEqProofs := false) only [go_sem, Nat.reduceLT, Nat.reduceBEq, Nat.reduceBNe, Nat.reduceAdd, Nat.reduceSub, Nat.reduceMul, Nat.reduceEqDiff, Nat.reduceLeDiff, Int.reduceLT, Int.reduceLE, Int.reduceEq, Int.reduceToNat, Int.reduceBEq, Int.reduceAdd, Int.reduceSub, Int.reduceNeg, reduceCtorEq]
  have hgm : gMarkup s first = (match mkK s first 4 0 with
    | some r => r
    | none => if s = [60] then (noTok, 0, 7) else if (s.getD 1 0).toNat = 33 then (noTok, 0, gBang s) else gStartT s) := rfl
  generalize hM0 : mkK s first 4 0 = M0 at hgm
  refine ACode.loopVX [(5, 6), (8, 16), (19, 72)] (fun m T H' => Ext H H' ∧ H'[H.length]? = some (.cells [.int .i64 0, .str [], .bool false, .bool false] 28 true) ∧ H'[H.length + 1]? = some (.cells kCells 42 true) ∧ ∃ k : Nat, m = 4 - k ∧ k ≤ 4 ∧ T 19 = .int .i64 k ∧ M0 = mkK s first (4 - k) k)
    (fun T H' => Ext H H' ∧ H'[H.length]? = some (.cells [.int .i64 0, .str [], .bool false, .bool false] 28 true) ∧ M0 = none) 4 ?_ ?_ ?_
  · exact ⟨Ext.app _ _, get_new0 _ _, get_new _ _ 1, 0, by omega, by omega, by simp (maxSteps := 5000000) (implicitDefEqProofs := false) only [go_sem, Nat.reduceLT, Nat.reduceBEq, Nat.reduceBNe, Nat.reduceAdd, Nat.reduceSub, Nat.reduceMul, Nat.reduceEqDiff, Nat.reduceLeDiff, Int.reduceLT, Int.reduceLE, Int.reduceEq, Int.reduceToNat, Int.reduceBEq, Int.reduceAdd, Int.reduceSub, Int.reduceNeg, reduceCtorEq], hM0.symm⟩
  · rintro T0 hT0 m T H' hK ⟨hext, hr, hk, k, rfl, hk4, t19, hm⟩
    have t0 := hK 0 rfl; have t1 := hK 1 rfl; have t4 := hK 4 rfl; have t17 := hK 17 rfl; have t18 := hK 18 rfl
    simp (maxSteps := 5000000) (implicitDefEqProofs := false) only [go_sem, Nat.reduceLT, Nat.reduceBEq, Nat.reduceBNe, Nat.reduceAdd, Nat.reduceSub, Nat.reduceMul, Nat.reduceEqDiff, Nat.reduceLeDiff, Int.reduceLT, Int.reduceLE, Int.reduceEq, Int.reduceToNat, Int.reduceBEq, Int.reduceAdd, Int.reduceSub, Int.reduceNeg, reduceCtorEq, hT0] at t0 t1 t4 t17 t18
    clear hT0
    refine ACode.of_K _ ?_
    by_cases hlt : k < 4
    · have hlt' : (k : Int) < 4 := by omega
      have hw := wrap_add1 k (by omega)
      have hka := kind_at k hlt
      have hkl : k * 3 + 3 ≤ kCells.length := by show _ ≤ 12; omega
      obtain ⟨hbl, hel, hb1⟩ := kB_len k hlt
      rw [show 4 - k = (4 - (k + 1)) + 1 by omega, mkK] at hm
      simp (maxSteps := 5000000) (implicitDefEqProofs := false) only [go_sem, Nat.reduceLT, Nat.reduceBEq, Nat.reduceBNe, Nat.reduceAdd, Nat.reduceSub, Nat.reduceMul, Nat.reduceEqDiff, Nat.reduceLeDiff, Int.reduceLT, Int.reduceLE, Int.reduceEq, Int.reduceToNat, Int.reduceBEq, Int.reduceAdd, Int.reduceSub, Int.reduceNeg, reduceCtorEq, t0, t1, t4, t17, t18, t19, hlt', hk, hka, hkl, Int.natCast_nonneg, Int.toNat_natCast]
      generalize hH3 : H' ++ [AObj.cells [AV.str (kB k), AV.str (kE k), AV.func (kF k) [] []] 42 true] = H3
      have gk : H3[H'.length]? = some (.cells [.str (kB k), .str (kE k), .func (kF k) [] []] 42 true) := by rw [← hH3]; exact get_new0 _ _
      have x3 : Ext H' H3 := by rw [← hH3]; exact Ext.app _ _
      clear hH3
      refine callK_same (CutPrefix_ok E H3 s (kB k)) ?_
      cases hp : Lib.hasPrefix s (kB k)
      · rw [if_pos hp] at hm
        simp (maxSteps := 5000000) (implicitDefEqProofs := false) only [go_sem, Nat.reduceLT, Nat.reduceBEq, Nat.reduceBNe, Nat.reduceAdd, Nat.reduceSub, Nat.reduceMul, Nat.reduceEqDiff, Nat.reduceLeDiff, Int.reduceLT, Int.reduceLE, Int.reduceEq, Int.reduceToNat, Int.reduceBEq, Int.reduceAdd, Int.reduceSub, Int.reduceNeg, reduceCtorEq, not_false_eq_true, true_implies, t0, t1, t4, t17, t18, t19, hw, Keep_T hK]
        exact ⟨_, by omega, hext.trans x3, x3.get hr, x3.get hk, k + 1, rfl, by omega, rfl, hm⟩
      · rw [if_neg (by rw [hp]; simp)] at hm
        have hroom := trimPrefix_room s (kB k) hp
        simp (maxSteps := 5000000) (implicitDefEqProofs := false) only [go_sem, Nat.reduceLT, Nat.reduceBEq, Nat.reduceBNe, Nat.reduceAdd, Nat.reduceSub, Nat.reduceMul, Nat.reduceEqDiff, Nat.reduceLeDiff, Int.reduceLT, Int.reduceLE, Int.reduceEq, Int.reduceToNat, Int.reduceBEq, Int.reduceAdd, Int.reduceSub, Int.reduceNeg, reduceCtorEq, not_false_eq_true, true_implies, t0, t1, t4, t17, t18, t19, gk]
        generalize Lib.trimPrefix s (kB k) = rest at *
        refine callK_same (SCut_ok E hE H3 rest (kE k) (by omega)) ?_
        have hr3 := x3.get hr
        have s3 : ∀ x, (H3.set H.length x)[H.length]? = some x := fun x => iter_set hr3
        have hcr := cut_room rest (kE k)
        generalize Lib.cut rest (kE k) = x at *
        obtain ⟨inside, r2, found⟩ := x
        cases found
        · rw [if_pos rfl] at hm
          simp (maxSteps := 5000000) (implicitDefEqProofs := false) only [go_sem, Nat.reduceLT, Nat.reduceBEq, Nat.reduceBNe, Nat.reduceAdd, Nat.reduceSub, Nat.reduceMul, Nat.reduceEqDiff, Nat.reduceLeDiff, Int.reduceLT, Int.reduceLE, Int.reduceEq, Int.reduceToNat, Int.reduceBEq, Int.reduceAdd, Int.reduceSub, Int.reduceNeg, reduceCtorEq, not_false_eq_true, true_implies, t0, t1, t4, t17, t18, t19, gk, hr3, s3]
          rw [hgm, hm]
          exact ⟨by first | rfl | exact ⟨rfl, rfl⟩ | exact ⟨rfl, rfl, rfl⟩, (hext.trans x3).set (Nat.le_refl _) _⟩
        · rw [if_neg (by simp)] at hm
          have hcr := hcr rfl
          dsimp only at hm hcr
          have hw1 : IntKind.i64.wrap (((kB k).length : Int) + (inside.length : Int)) = (((kB k).length + inside.length : Nat) : Int) := wrap_add _ _ (by omega)
          have hw2 : IntKind.i64.wrap ((((kB k).length + inside.length : Nat) : Int) + ((kE k).length : Int)) = (((kB k).length + inside.length + (kE k).length : Nat) : Int) := wrap_add _ _ (by omega)
          generalize hn : (kB k).length + inside.length + (kE k).length = n at *
          have hnl : (n : Int) ≤ (s.length : Int) := by omega
          have hn0 : (0 : Int) ≤ (n : Int) := by omega
          simp (maxSteps := 5000000) (implicitDefEqProofs := false) only [go_sem, Nat.reduceLT, Nat.reduceBEq, Nat.reduceBNe, Nat.reduceAdd, Nat.reduceSub, Nat.reduceMul, Nat.reduceEqDiff, Nat.reduceLeDiff, Int.reduceLT, Int.reduceLE, Int.reduceEq, Int.reduceToNat, Int.reduceBEq, Int.reduceAdd, Int.reduceSub, Int.reduceNeg, reduceCtorEq, not_false_eq_true, true_implies, t0, t1, t4, t17, t18, t19, gk, hw1, hw2, hnl, hn0, Int.toNat_natCast]
          refine callK_val (right_ok H3 (s.take n) (by rw [List.length_take]; omega)) fun H4 e4 => ?_
          have hr4 := e4.get hr3
          have s4 : ∀ x, (H4.set H.length x)[H.length]? = some x := fun x => iter_set hr4
          have x4 := hext.trans (x3.trans e4)
          have gk4 := e4.get gk
          generalize gRight (s.take n) = er at *
          by_cases her : er = 0
          · subst her
            rw [if_neg (by simp)] at hm
            simp (maxSteps := 5000000) (implicitDefEqProofs := false) only [go_sem, Nat.reduceLT, Nat.reduceBEq, Nat.reduceBNe, Nat.reduceAdd, Nat.reduceSub, Nat.reduceMul, Nat.reduceEqDiff, Nat.reduceLeDiff, Int.reduceLT, Int.reduceLE, Int.reduceEq, Int.reduceToNat, Int.reduceBEq, Int.reduceAdd, Int.reduceSub, Int.reduceNeg, reduceCtorEq, not_false_eq_true, true_implies, t0, t1, t4, t17, t18, t19, gk4]
            refine callK_val (kind_ok hE hF H4 k hlt inside first (by omega)) fun H5 e5 => ?_
            have hr5 := e5.get hr4
            have s5 : ∀ x, (H5.set H.length x)[H.length]? = some x := fun x => iter_set hr5
            have x5 := x4.trans e5
            have hmm : gMarkup s first = ((gKind k inside first).1, (n : Int), (gKind k inside first).2) := by rw [hgm, hm]
            rw [hmm]
            generalize gKind k inside first = kk at *
            obtain ⟨⟨k1, k2, k3, k5⟩, ke⟩ := kk
            have hr6 : ∀ L, (H5 ++ L)[H.length]? = _ := fun L => (get_old H5 L H.length (lt_of_get hr5)).trans hr5
            have s6 : ∀ L x, ((H5 ++ L).set H.length x)[H.length]? = some x := fun L x => iter_set (hr6 L)
            simp (maxSteps := 5000000) (implicitDefEqProofs := false) only [go_sem, Nat.reduceLT, Nat.reduceBEq, Nat.reduceBNe, Nat.reduceAdd, Nat.reduceSub, Nat.reduceMul, Nat.reduceEqDiff, Nat.reduceLeDiff, Int.reduceLT, Int.reduceLE, Int.reduceEq, Int.reduceToNat, Int.reduceBEq, Int.reduceAdd, Int.reduceSub, Int.reduceNeg, reduceCtorEq, not_false_eq_true, true_implies, tokA, t0, t1, t4, t17, t18, t19, hr6, s6]
            exact (x5.add _).set (Nat.le_refl _) _
          · rw [if_pos her] at hm
            simp (maxSteps := 5000000) (implicitDefEqProofs := false) only [go_sem, Nat.reduceLT, Nat.reduceBEq, Nat.reduceBNe, Nat.reduceAdd, Nat.reduceSub, Nat.reduceMul, Nat.reduceEqDiff, Nat.reduceLeDiff, Int.reduceLT, Int.reduceLE, Int.reduceEq, Int.reduceToNat, Int.reduceBEq, Int.reduceAdd, Int.reduceSub, Int.reduceNeg, reduceCtorEq, not_false_eq_true, true_implies, t0, t1, t4, t17, t18, t19, her, hr4, s4]
            rw [hgm, hm]
            exact ⟨by first | rfl | exact ⟨rfl, rfl⟩ | exact ⟨rfl, rfl, rfl⟩, x4.set (Nat.le_refl _) _⟩
    · have hk4' : k = 4 := by omega
      subst hk4'
      simp (maxSteps := 5000000) (implicitDefEqProofs := false) only [go_sem, Nat.reduceLT, Nat.reduceBEq, Nat.reduceBNe, Nat.reduceAdd, Nat.reduceSub, Nat.reduceMul, Nat.reduceEqDiff, Nat.reduceLeDiff, Int.reduceLT, Int.reduceLE, Int.reduceEq, Int.reduceToNat, Int.reduceBEq, Int.reduceAdd, Int.reduceSub, Int.reduceNeg, reduceCtorEq, t18, t19, Keep_T hK]
      exact ⟨hext, hr, hm⟩
  · rintro T0 hT0 T H' hK ⟨hext, hr, hm⟩
    have t0 := hK 0 rfl; have t4 := hK 4 rfl
    simp (maxSteps := 5000000) (implicitDefEqProofs := false) only [go_sem, Nat.reduceLT, Nat.reduceBEq, Nat.reduceBNe, Nat.reduceAdd, Nat.reduceSub, Nat.reduceMul, Nat.reduceEqDiff, Nat.reduceLeDiff, Int.reduceLT, Int.reduceLE, Int.reduceEq, Int.reduceToNat, Int.reduceBEq, Int.reduceAdd, Int.reduceSub, Int.reduceNeg, reduceCtorEq, hT0] at t0 t4
    clear hT0
    rw [hm] at hgm
    simp only at hgm
    have s1 : ∀ x, (H'.set H.length x)[H.length]? = some x := fun x => iter_set hr
    obtain ⟨b, t, rfl, hb⟩ := h1
    have hb60 : b = 60 := UInt8.toNat_inj.1 hb
    subst hb60
    cases t with
    | nil =>
      rw [if_pos rfl] at hgm
      simp (maxSteps := 5000000) (implicitDefEqProofs := false) only [go_sem, Nat.reduceLT, Nat.reduceBEq, Nat.reduceBNe, Nat.reduceAdd, Nat.reduceSub, Nat.reduceMul, Nat.reduceEqDiff, Nat.reduceLeDiff, Int.reduceLT, Int.reduceLE, Int.reduceEq, Int.reduceToNat, Int.reduceBEq, Int.reduceAdd, Int.reduceSub, Int.reduceNeg, reduceCtorEq, not_false_eq_true, true_implies, t0, t4, hr, s1, hgm]
      exact ⟨by first | rfl | exact ⟨rfl, rfl⟩ | exact ⟨rfl, rfl, rfl⟩, hext.set (Nat.le_refl _) _⟩
    | cons c t =>
      rw [if_neg (by simp)] at hgm
      have hc1 : ((60 :: c :: t : List UInt8) == [60]) = false := rfl
      have hc2 : (60 :: c :: t : List UInt8)[1]? = some c := rfl
      by_cases h33 : c.toNat = 33
      · have h33' : (c.toNat : Int) = 33 := by omega
        rw [if_pos (by exact h33)] at hgm
        simp (maxSteps := 5000000) (implicitDefEqProofs := false) only [go_sem, Nat.reduceLT, Nat.reduceBEq, Nat.reduceBNe, Nat.reduceAdd, Nat.reduceSub, Nat.reduceMul, Nat.reduceEqDiff, Nat.reduceLeDiff, Int.reduceLT, Int.reduceLE, Int.reduceEq, Int.reduceToNat, Int.reduceBEq, Int.reduceAdd, Int.reduceSub, Int.reduceNeg, reduceCtorEq, not_false_eq_true, true_implies, t0, t4, hc1, hc2, h33', Int.toNat_one]
        refine callK_val (bang_ok _ _ (by omega)) fun H2 e2 => ?_
        have hr2 := e2.get hr
        have s2 : ∀ x, (H2.set H.length x)[H.length]? = some x := fun x => iter_set hr2
        simp (maxSteps := 5000000) (implicitDefEqProofs := false) only [go_sem, Nat.reduceLT, Nat.reduceBEq, Nat.reduceBNe, Nat.reduceAdd, Nat.reduceSub, Nat.reduceMul, Nat.reduceEqDiff, Nat.reduceLeDiff, Int.reduceLT, Int.reduceLE, Int.reduceEq, Int.reduceToNat, Int.reduceBEq, Int.reduceAdd, Int.reduceSub, Int.reduceNeg, reduceCtorEq, not_false_eq_true, true_implies, t0, t4, hr2, s2, hgm]
        exact ⟨by first | rfl | exact ⟨rfl, rfl⟩ | exact ⟨rfl, rfl, rfl⟩, (hext.trans e2).set (Nat.le_refl _) _⟩
      · have h33' : ¬ (c.toNat : Int) = 33 := by omega
        rw [if_neg (by exact h33)] at hgm
        simp (maxSteps := 5000000) (implicitDefEqProofs := false) only [go_sem, Nat.reduceLT, Nat.reduceBEq, Nat.reduceBNe, Nat.reduceAdd, Nat.reduceSub, Nat.reduceMul, Nat.reduceEqDiff, Nat.reduceLeDiff, Int.reduceLT, Int.reduceLE, Int.reduceEq, Int.reduceToNat, Int.reduceBEq, Int.reduceAdd, Int.reduceSub, Int.reduceNeg, reduceCtorEq, not_false_eq_true, true_implies, t0, t4, hc1, hc2, h33', Int.toNat_one]
        refine callK_val (start_ok hE _ _ hS ⟨_, _, rfl, rfl⟩) fun H2 e2 => ?_
        have hr2 := e2.get hr
        have s2 : ∀ x, (H2.set H.length x)[H.length]? = some x := fun x => iter_set hr2
        rw [hgm]
        generalize gStartT (60 :: c :: t) = st at *
        obtain ⟨⟨k1, k2, k3, k5⟩, st2, st3⟩ := st
        simp (maxSteps := 5000000) (implicitDefEqProofs := false) only [go_sem, Nat.reduceLT, Nat.reduceBEq, Nat.reduceBNe, Nat.reduceAdd, Nat.reduceSub, Nat.reduceMul, Nat.reduceEqDiff, Nat.reduceLeDiff, Int.reduceLT, Int.reduceLE, Int.reduceEq, Int.reduceToNat, Int.reduceBEq, Int.reduceAdd, Int.reduceSub, Int.reduceNeg, reduceCtorEq, not_false_eq_true, true_implies, tokA, t0, t4, hr2, s2]
        exact (hext.trans e2).set (Nat.le_refl _) _
end Go.AL
