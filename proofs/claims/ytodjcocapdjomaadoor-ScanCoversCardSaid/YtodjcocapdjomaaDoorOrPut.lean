/- utf.Put: the bytes of runes. -/
import Derived.Test.YtodjcocapdjomaaDoorOrUtf
import Derived.Test.YtodjcocapdjomaaDoorOrBld
namespace Go.AL
open Go Go.RowKit Go.Proofs
set_option linter.unusedVariables false
set_option linter.unusedSimpArgs false
set_option maxRecDepth 20000
set_option maxHeartbeats 2000000
variable {E : World → Prop}
def putN (r : Int) : Nat := if r < 128 then 0 else if r < 2048 then 1 else if r < 65536 then 2 else 3
def putH (r : Int) (n : Nat) : Int := ior .u8 (fMark n) (IntKind.u8.wrap (r.fdiv (2 ^ min (6 * n) 32)))
def putT (r : Int) : Nat → List Int
  | 0 => []
  | i + 1 => ior .u8 128 (iand .u8 (IntKind.u8.wrap (r.fdiv (2 ^ min (6 * i) 32))) 63) :: putT r i
def putR (r : Int) : Int := if gMay r then r else 65533
def putI (r : Int) : List Int := putH (putR r) (putN (putR r)) :: putT (putR r) (putN (putR r))
def putU (l : List Int) : List UInt8 := l.map fun n => UInt8.ofNat n.toNat
def gPut (r : Int) : List UInt8 := putU (putI r)
def u8C (l : List Int) : List AV := l.map fun n => .int .u8 n
theorem u8C_app (l m : List Int) : u8C l ++ u8C m = u8C (l ++ m) := by simp [u8C]
theorem byteCells_u8C : ∀ (l : List Int), byteCells? (u8C l) = some (putU l)
  | [] => rfl
  | b :: l => by
    have := byteCells_u8C l
    simp only [u8C, putU, List.map_cons, byteCells?, byteCell] at this ⊢
    rw [this]
theorem putT_len (r : Int) : ∀ n, (putT r n).length = n
  | 0 => rfl
  | n + 1 => by rw [putT, List.length_cons, putT_len]
theorem Put_ok (H : AHeap) (r : Int) (id : Nat) (e : TypeId) (rw : Bool) (hH : H[id]? = some (.cells [.int .i32 r] e rw)) :
    ACalls E Tryd.prog 61 [.slice (some (id, 0)) 1] H (fun v H' => v = .str (gPut r) ∧ Ext H H') := by
  refine ACalls.of_code (N := 60) (ts := [2]) Tryd.func61 rfl rfl rfl rfl (by simp) ?_
  refine ACode.of_K _ ?_
  simp (maxSteps := 5000000) (implicitDefEqProofs := false) only [go_sem, Nat.reduceLT, Nat.reduceBEq, Nat.reduceBNe, Nat.reduceAdd, Nat.reduceSub, Nat.reduceMul, Nat.reduceEqDiff, Nat.reduceLeDiff, Int.reduceLT, Int.reduceLE, Int.reduceEq, Int.reduceToNat, Int.reduceBEq, Int.reduceAdd, Int.reduceSub, Int.reduceNeg, reduceCtorEq]
  refine ACode.loopVX [(3, 3), (5, 7), (10, 57)] (fun m T H' => Ext H H' ∧ ((m = 1 ∧ T 3 = .slice none 0 ∧ T 10 = .int .i64 0) ∨ (m = 0 ∧ T 10 = .int .i64 1 ∧ ∃ n, Sl Tryd.prog H.length H' 5 true (T 3) n (u8C (putI r)))))
    (fun T H' => Ext H H' ∧ ∃ n, Sl Tryd.prog H.length H' 5 true (T 3) n (u8C (putI r))) 1 ⟨Ext.refl _, .inl ⟨rfl, by simp (maxSteps := 5000000) (implicitDefEqProofs := false) only [go_sem, Nat.reduceLT, Nat.reduceBEq, Nat.reduceBNe, Nat.reduceAdd, Nat.reduceSub, Nat.reduceMul, Nat.reduceEqDiff, Nat.reduceLeDiff, Int.reduceLT, Int.reduceLE, Int.reduceEq, Int.reduceToNat, Int.reduceBEq, Int.reduceAdd, Int.reduceSub, Int.reduceNeg, reduceCtorEq], by simp (maxSteps := 5000000) (implicitDefEqProofs := false) only [go_sem, Nat.reduceLT, Nat.reduceBEq, Nat.reduceBNe, Nat.reduceAdd, Nat.reduceSub, Nat.reduceMul, Nat.reduceEqDiff, Nat.reduceLeDiff, Int.reduceLT, Int.reduceLE, Int.reduceEq, Int.reduceToNat, Int.reduceBEq, Int.reduceAdd, Int.reduceSub, Int.reduceNeg, reduceCtorEq]⟩⟩ ?_ ?_
  · rintro T0 hT0 m T H' hK ⟨hext, h⟩
    have t8 := hK 8 rfl; have t9 := hK 9 rfl
    simp (maxSteps := 5000000) (implicitDefEqProofs := false) only [go_sem, Nat.reduceLT, Nat.reduceBEq, Nat.reduceBNe, Nat.reduceAdd, Nat.reduceSub, Nat.reduceMul, Nat.reduceEqDiff, Nat.reduceLeDiff, Int.reduceLT, Int.reduceLE, Int.reduceEq, Int.reduceToNat, Int.reduceBEq, Int.reduceAdd, Int.reduceSub, Int.reduceNeg, reduceCtorEq, hT0] at t8 t9
    clear hT0
    refine ACode.of_K _ ?_
    rcases h with ⟨rfl, t3, t10⟩ | ⟨rfl, t10, n, hsl⟩
    · have hH' := hext.get hH
      simp (maxSteps := 5000000) (implicitDefEqProofs := false) only [go_sem, Nat.reduceLT, Nat.reduceBEq, Nat.reduceBNe, Nat.reduceAdd, Nat.reduceSub, Nat.reduceMul, Nat.reduceEqDiff, Nat.reduceLeDiff, Int.reduceLT, Int.reduceLE, Int.reduceEq, Int.reduceToNat, Int.reduceBEq, Int.reduceAdd, Int.reduceSub, Int.reduceNeg, reduceCtorEq, t8, t9, t10, t3, hH', List.getElem?_cons_zero]
      refine callK_val (may_ok H' r) fun H1 e1 => ?_
      simp (maxSteps := 5000000) (implicitDefEqProofs := false) only [go_sem, Nat.reduceLT, Nat.reduceBEq, Nat.reduceBNe, Nat.reduceAdd, Nat.reduceSub, Nat.reduceMul, Nat.reduceEqDiff, Nat.reduceLeDiff, Int.reduceLT, Int.reduceLE, Int.reduceEq, Int.reduceToNat, Int.reduceBEq, Int.reduceAdd, Int.reduceSub, Int.reduceNeg, reduceCtorEq]
      refine joinT (G := fun T => ACode _ _ _ _ _ T _) fun T1 hT1 => ?_
      have hK1 : Keep [(3, 3), (5, 7), (10, 57)] T0 T1 := by rcases hT1 with ⟨-, rfl⟩ | ⟨-, rfl⟩ <;> simp (maxSteps := 5000000) (implicitDefEqProofs := false) only [go_sem, Nat.reduceLT, Nat.reduceBEq, Nat.reduceBNe, Nat.reduceAdd, Nat.reduceSub, Nat.reduceMul, Nat.reduceEqDiff, Nat.reduceLeDiff, Int.reduceLT, Int.reduceLE, Int.reduceEq, Int.reduceToNat, Int.reduceBEq, Int.reduceAdd, Int.reduceSub, Int.reduceNeg, reduceCtorEq] <;> exact hK
      have u3 : T1 3 = .slice none 0 := by rcases hT1 with ⟨-, rfl⟩ | ⟨-, rfl⟩ <;> simp (maxSteps := 5000000) (implicitDefEqProofs := false) only [go_sem, Nat.reduceLT, Nat.reduceBEq, Nat.reduceBNe, Nat.reduceAdd, Nat.reduceSub, Nat.reduceMul, Nat.reduceEqDiff, Nat.reduceLeDiff, Int.reduceLT, Int.reduceLE, Int.reduceEq, Int.reduceToNat, Int.reduceBEq, Int.reduceAdd, Int.reduceSub, Int.reduceNeg, reduceCtorEq, t3]
      have u10 : T1 10 = .int .i64 0 := by rcases hT1 with ⟨-, rfl⟩ | ⟨-, rfl⟩ <;> simp (maxSteps := 5000000) (implicitDefEqProofs := false) only [go_sem, Nat.reduceLT, Nat.reduceBEq, Nat.reduceBNe, Nat.reduceAdd, Nat.reduceSub, Nat.reduceMul, Nat.reduceEqDiff, Nat.reduceLeDiff, Int.reduceLT, Int.reduceLE, Int.reduceEq, Int.reduceToNat, Int.reduceBEq, Int.reduceAdd, Int.reduceSub, Int.reduceNeg, reduceCtorEq, t10]
      have u5 : T1 5 = .int .i32 (putR r) := by rcases hT1 with ⟨h, rfl⟩ | ⟨h, rfl⟩ <;> simp (maxSteps := 5000000) (implicitDefEqProofs := false) only [go_sem, Nat.reduceLT, Nat.reduceBEq, Nat.reduceBNe, Nat.reduceAdd, Nat.reduceSub, Nat.reduceMul, Nat.reduceEqDiff, Nat.reduceLeDiff, Int.reduceLT, Int.reduceLE, Int.reduceEq, Int.reduceToNat, Int.reduceBEq, Int.reduceAdd, Int.reduceSub, Int.reduceNeg, reduceCtorEq, putR, h] <;> rfl
      have u6 : T1 6 = .int .i64 0 := by rcases hT1 with ⟨h, rfl⟩ | ⟨h, rfl⟩ <;> simp (maxSteps := 5000000) (implicitDefEqProofs := false) only [go_sem, Nat.reduceLT, Nat.reduceBEq, Nat.reduceBNe, Nat.reduceAdd, Nat.reduceSub, Nat.reduceMul, Nat.reduceEqDiff, Nat.reduceLeDiff, Int.reduceLT, Int.reduceLE, Int.reduceEq, Int.reduceToNat, Int.reduceBEq, Int.reduceAdd, Int.reduceSub, Int.reduceNeg, reduceCtorEq, putR, h]
      clear hT1 hK t3 t10 t8 t9
      have hx1 := hext.trans e1
      generalize hr : putR r = q at *
      refine ACode.loopVX [(6, 6), (17, 27)] (fun m T H2 => H2 = H1 ∧ ∃ n : Nat, m = 3 - n ∧ n ≤ putN q ∧ T 6 = .int .i64 n) (fun T H2 => H2 = H1 ∧ T 6 = .int .i64 (putN q)) 3 ⟨rfl, 0, rfl, Nat.zero_le _, u6⟩ ?_ ?_
      · rintro _ rfl m2 T2 H2 hK2 ⟨rfl, n, rfl, hn, v6⟩
        have v5 := hK2 5 rfl
        rw [u5] at v5
        refine ACode.of_K _ ?_
        have h4 : n = 0 ∨ n = 1 ∨ n = 2 ∨ n = 3 := by
          have : putN q ≤ 3 := by unfold putN; (repeat' split) <;> omega
          omega
        have w1 : IntKind.i64.wrap (0 + 1) = 1 := by decide
        have w2 : IntKind.i64.wrap (1 + 1) = 2 := by decide
        have w3 : IntKind.i64.wrap (2 + 1) = 3 := by decide
        rcases h4 with rfl | rfl | rfl | rfl
        all_goals (unfold putN at hn ⊢; simp (contextual := true) (maxSteps := 5000000) (implicitDefEqProofs := false) only [go_sem, Nat.reduceLT, Nat.reduceBEq, Nat.reduceBNe, Nat.reduceAdd, Nat.reduceSub, Nat.reduceMul, Nat.reduceEqDiff, Nat.reduceLeDiff, Int.reduceLT, Int.reduceLE, Int.reduceEq, Int.reduceToNat, Int.reduceBEq, Int.reduceAdd, Int.reduceSub, Int.reduceNeg, reduceCtorEq, v5, v6, w1, w2, w3, Keep_T hK2, List.getElem?_cons_zero, List.getElem?_cons_succ])
        · exact ⟨fun h => ⟨2, by omega, 1, by omega, by (repeat' split) <;> omega, rfl⟩, fun h => by rw [if_pos (by omega)]; rfl⟩
        · exact ⟨fun h => ⟨1, by omega, 2, by omega, by (repeat' split) <;> omega, rfl⟩, fun h => by rw [if_neg (by split at hn <;> omega), if_pos (by omega)]; rfl⟩
        · exact ⟨fun h => ⟨0, by omega, 3, by omega, by (repeat' split) <;> omega, rfl⟩, fun h => by rw [if_neg (by (repeat' split at hn) <;> omega), if_neg (by (repeat' split at hn) <;> omega), if_pos (by omega)]; rfl⟩
        · have : (3 : Int) = ((if q < 128 then 0 else if q < 2048 then 1 else if q < 65536 then 2 else 3 : Nat) : Int) := by (repeat' split at hn) <;> (repeat' split) <;> omega
          exact this
      · rintro _ rfl T2 H2 hK2 ⟨rfl, v6⟩
        have v5 := hK2 5 rfl; have v3 := hK2 3 rfl; have v10 := hK2 10 rfl
        rw [u5] at v5; rw [u3] at v3; rw [u10] at v10
        have hK3 := Keep.after hK1 hK2 rfl (Keep.refl _ _)
        clear hK2 hK1 u3 u5 u6 u10
        have hn3 : putN q ≤ 3 := by unfold putN; (repeat' split) <;> omega
        have hI : putI r = putH q (putN q) :: putT q (putN q) := by rw [putI, hr]
        generalize hn : putN q = n at *
        have hw6 : IntKind.i64.wrap (6 * (n : Int)) = ((6 * n : Nat) : Int) := by rw [wrap_ids _ (by omega) (by omega)]; rfl
        have hw6n : ¬ ((6 * n : Nat) : Int) < 0 := by omega
        have hf := form_at n (by omega)
        have hle : n * 3 + 3 ≤ formCells.length := by show _ ≤ 12; omega
        have hn4 : (n : Int) < 4 := by omega
        simp (maxSteps := 5000000) (implicitDefEqProofs := false) only [go_sem, Nat.reduceLT, Nat.reduceBEq, Nat.reduceBNe, Nat.reduceAdd, Nat.reduceSub, Nat.reduceMul, Nat.reduceEqDiff, Nat.reduceLeDiff, Int.reduceLT, Int.reduceLE, Int.reduceEq, Int.reduceToNat, Int.reduceBEq, Int.reduceAdd, Int.reduceSub, Int.reduceNeg, reduceCtorEq, v5, v6, v3]
        refine ACode.regionD [0, 2, 5, 6, 7, 8, 9, 1, 3, 4, 10, 11, 12, 13] [] [] (fun _ => True) mixed (by kernel_rfl) trivial ?_
        simp (contextual := true) (maxSteps := 5000000) (implicitDefEqProofs := false) only [go_sem, Nat.reduceLT, Nat.reduceBEq, Nat.reduceBNe, Nat.reduceAdd, Nat.reduceSub, Nat.reduceMul, Nat.reduceEqDiff, Nat.reduceLeDiff, Int.reduceLT, Int.reduceLE, Int.reduceEq, Int.reduceToNat, Int.reduceBEq, Int.reduceAdd, Int.reduceSub, Int.reduceNeg, reduceCtorEq, v5, v6, v3, hw6, hw6n]

        refine callK_val (forms_ok H2) fun H3 e3 => ?_
        simp (contextual := true) (maxSteps := 5000000) (implicitDefEqProofs := false) only [go_sem, Nat.reduceLT, Nat.reduceBEq, Nat.reduceBNe, Nat.reduceAdd, Nat.reduceSub, Nat.reduceMul, Nat.reduceEqDiff, Nat.reduceLeDiff, Int.reduceLT, Int.reduceLE, Int.reduceEq, Int.reduceToNat, Int.reduceBEq, Int.reduceAdd, Int.reduceSub, Int.reduceNeg, reduceCtorEq, v5, v6, v3, hw6, hw6n, hf, hle, hn4, Int.toNat_natCast, Int.natCast_nonneg]
        have hB : slOk Tryd.prog 61 = true := by kernel_rfl
        have hE5 : elD Tryd.prog 61 = 5 := by kernel_rfl
        have hb1 : bytesT Tryd.prog 5 = 1 := by kernel_rfl
        have hx3 := hx1.trans e3
        obtain ⟨v', H4, a1, a2, a3, -⟩ := append1 (n := 0) (cs := []) (lo := H.length) hB hE5 (Sl.nil _ _ _ _ _) hx3.len (xs := [.int .u8 (putH q n)]) (by show 1 = szT Tryd.prog 5; kernel_rfl) rfl (by rw [hb1]; decide) (by decide)
        have a4 : aappend Tryd.prog (H3 ++ [AObj.cells [AV.int IntKind.u8 (ior IntKind.u8 (fMark n) (IntKind.u8.wrap (q.fdiv (2 ^ min (6 * n) 32))))] 5 true]) 61 61 (AV.slice none 0) (AV.slice (some (H3.length, 0)) 1) = some (v', H4) := a1
        have hx4 := a3 H hx3 (Nat.le_refl _)
        obtain ⟨j4, rfl, hj4⟩ : ∃ j4, v' = .slice (some (j4, 0)) 1 ∧ H4[j4]? = some (.cells [.int .u8 (putH q n)] 5 true) := by
          rcases a2.isSl with ⟨-, h⟩ | ⟨j, h1, h2⟩
          · cases h
          · exact ⟨j, h1, h2⟩
        have hsz5 : szT Tryd.prog 5 = 1 := by kernel_rfl
        have hwm : IntKind.i64.wrap ((n : Int) - 1) = (n : Int) - 1 := wrap_ids _ (by omega) (by omega)
        simp (maxSteps := 5000000) (implicitDefEqProofs := false) only [go_sem, Nat.reduceLT, Nat.reduceBEq, Nat.reduceBNe, Nat.reduceAdd, Nat.reduceSub, Nat.reduceMul, Nat.reduceEqDiff, Nat.reduceLeDiff, Int.reduceLT, Int.reduceLE, Int.reduceEq, Int.reduceToNat, Int.reduceBEq, Int.reduceAdd, Int.reduceSub, Int.reduceNeg, reduceCtorEq, v5, v6, v3, a4, hj4, hsz5, hwm]
        clear a1 a3 a4 v3
        refine ACode.loopV [(3, 3), (7, 7), (43, 56)] (fun m T H' => Ext H H' ∧ m ≤ 3 ∧ T 7 = .int .i64 ((m : Int) - 1) ∧ ∃ l, Sl Tryd.prog H.length H' 5 true (T 3) l.length (u8C l) ∧ l.length + m ≤ 4 ∧ l ++ putT q m = putI r) n ?_ ?_
        · exact ⟨hx4, hn3, by simp (maxSteps := 5000000) (implicitDefEqProofs := false) only [go_sem, Nat.reduceLT, Nat.reduceBEq, Nat.reduceBNe, Nat.reduceAdd, Nat.reduceSub, Nat.reduceMul, Nat.reduceEqDiff, Nat.reduceLeDiff, Int.reduceLT, Int.reduceLE, Int.reduceEq, Int.reduceToNat, Int.reduceBEq, Int.reduceAdd, Int.reduceSub, Int.reduceNeg, reduceCtorEq], [putH q n], by simp (maxSteps := 5000000) (implicitDefEqProofs := false) only [go_sem, Nat.reduceLT, Nat.reduceBEq, Nat.reduceBNe, Nat.reduceAdd, Nat.reduceSub, Nat.reduceMul, Nat.reduceEqDiff, Nat.reduceLeDiff, Int.reduceLT, Int.reduceLE, Int.reduceEq, Int.reduceToNat, Int.reduceBEq, Int.reduceAdd, Int.reduceSub, Int.reduceNeg, reduceCtorEq]; exact a2, by simp; omega, by rw [hI]; rfl⟩
        · rintro T5 hT5 m T6 H5 hK6 ⟨hx5, hm3, w7, l, hsl, hlm, hl⟩
          have w5 := hK6 5 rfl
          simp (maxSteps := 5000000) (implicitDefEqProofs := false) only [go_sem, Nat.reduceLT, Nat.reduceBEq, Nat.reduceBNe, Nat.reduceAdd, Nat.reduceSub, Nat.reduceMul, Nat.reduceEqDiff, Nat.reduceLeDiff, Int.reduceLT, Int.reduceLE, Int.reduceEq, Int.reduceToNat, Int.reduceBEq, Int.reduceAdd, Int.reduceSub, Int.reduceNeg, reduceCtorEq, hT5, v5] at w5
          refine ACode.of_K _ ?_
          rcases m with _ | m
          · rw [show putT q 0 = [] from rfl, List.append_nil] at hl
            have w10 := hK6 10 rfl
            simp (maxSteps := 5000000) (implicitDefEqProofs := false) only [go_sem, Nat.reduceLT, Nat.reduceBEq, Nat.reduceBNe, Nat.reduceAdd, Nat.reduceSub, Nat.reduceMul, Nat.reduceEqDiff, Nat.reduceLeDiff, Int.reduceLT, Int.reduceLE, Int.reduceEq, Int.reduceToNat, Int.reduceBEq, Int.reduceAdd, Int.reduceSub, Int.reduceNeg, reduceCtorEq, hT5, v10] at w10
            have hK7 := Keep.after hK3 hK6 rfl (by rw [hT5]; simp (maxSteps := 5000000) (implicitDefEqProofs := false) only [go_sem, Nat.reduceLT, Nat.reduceBEq, Nat.reduceBNe, Nat.reduceAdd, Nat.reduceSub, Nat.reduceMul, Nat.reduceEqDiff, Nat.reduceLeDiff, Int.reduceLT, Int.reduceLE, Int.reduceEq, Int.reduceToNat, Int.reduceBEq, Int.reduceAdd, Int.reduceSub, Int.reduceNeg, reduceCtorEq])
            simp (maxSteps := 5000000) (implicitDefEqProofs := false) only [go_sem, Nat.reduceLT, Nat.reduceBEq, Nat.reduceBNe, Nat.reduceAdd, Nat.reduceSub, Nat.reduceMul, Nat.reduceEqDiff, Nat.reduceLeDiff, Int.reduceLT, Int.reduceLE, Int.reduceEq, Int.reduceToNat, Int.reduceBEq, Int.reduceAdd, Int.reduceSub, Int.reduceNeg, reduceCtorEq, w7, w10, Keep_T hK7]
            exact ⟨0, by omega, hx5, .inr ⟨rfl, rfl, _, hl ▸ hsl⟩⟩
          · have g0 : (0 : Int) ≤ ((m + 1 : Nat) : Int) - 1 := by omega
            have hm6 : IntKind.i64.wrap (6 * (((m + 1 : Nat) : Int) - 1)) = ((6 * m : Nat) : Int) := by rw [wrap_ids _ (by omega) (by omega)]; omega
            have hm6n : ¬ ((6 * m : Nat) : Int) < 0 := by omega
            have hm1 : IntKind.i64.wrap (((m + 1 : Nat) : Int) - 1 - 1) = (m : Int) - 1 := by rw [wrap_ids _ (by omega) (by omega)]; omega
            obtain ⟨v2, H6, b1, b2, b3, -⟩ := append1 (lo := H.length) hB hE5 hsl hx5.len (xs := [.int .u8 (ior .u8 128 (iand .u8 (IntKind.u8.wrap (q.fdiv (2 ^ min (6 * m) 32))) 63))]) (by show 1 = szT Tryd.prog 5; kernel_rfl) rfl (by rw [hb1]; omega) (by omega)
            simp (maxSteps := 5000000) (implicitDefEqProofs := false) only [go_sem, Nat.reduceLT, Nat.reduceBEq, Nat.reduceBNe, Nat.reduceAdd, Nat.reduceSub, Nat.reduceMul, Nat.reduceEqDiff, Nat.reduceLeDiff, Int.reduceLT, Int.reduceLE, Int.reduceEq, Int.reduceToNat, Int.reduceBEq, Int.reduceAdd, Int.reduceSub, Int.reduceNeg, reduceCtorEq, w5, w7, g0, hm6, hm6n, hm1, b1, Int.toNat_natCast, Keep_T hK6]
            refine ⟨m, by omega, b3 H hx5 (Nat.le_refl _), by omega, rfl, l ++ [ior .u8 128 (iand .u8 (IntKind.u8.wrap (q.fdiv (2 ^ min (6 * m) 32))) 63)], ?_, by simp; omega, by rw [← hl, putT]; simp⟩
            rw [List.length_append]
            simpa [u8C] using b2
    · simp (maxSteps := 5000000) (implicitDefEqProofs := false) only [go_sem, Nat.reduceLT, Nat.reduceBEq, Nat.reduceBNe, Nat.reduceAdd, Nat.reduceSub, Nat.reduceMul, Nat.reduceEqDiff, Nat.reduceLeDiff, Int.reduceLT, Int.reduceLE, Int.reduceEq, Int.reduceToNat, Int.reduceBEq, Int.reduceAdd, Int.reduceSub, Int.reduceNeg, reduceCtorEq, t9, t10, Keep_T hK]
      exact ⟨hext, n, hsl⟩
  · rintro T0 hT0 T H' hK ⟨hext, n, hsl⟩
    rcases hsl.isSl with ⟨e1, e2⟩ | ⟨j, e1, e2⟩
    · have := hsl.len
      rw [e2] at this
      simp [u8C, putI] at this
    · have hn : n = (putI r).length := by
        have := hsl.len
        rw [show szT Tryd.prog 5 = 1 by kernel_rfl] at this
        simpa [u8C] using this.symm
      have htk : ((u8C (putI r)).drop 0).take n = u8C (putI r) := by rw [List.drop_zero, hn]; apply List.take_of_length_le; simp [u8C]
      have hle : n ≤ (u8C (putI r)).length := by rw [hn]; simp [u8C]
      rw [List.drop_zero] at htk
      simp (maxSteps := 5000000) (implicitDefEqProofs := false) only [go_sem, Nat.reduceLT, Nat.reduceBEq, Nat.reduceBNe, Nat.reduceAdd, Nat.reduceSub, Nat.reduceMul, Nat.reduceEqDiff, Nat.reduceLeDiff, Int.reduceLT, Int.reduceLE, Int.reduceEq, Int.reduceToNat, Int.reduceBEq, Int.reduceAdd, Int.reduceSub, Int.reduceNeg, reduceCtorEq, e1, e2, hle, htk, byteCells_u8C]
      exact ⟨rfl, hext⟩
end Go.AL
