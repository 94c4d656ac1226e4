/- strings.Builder, wherever it lies. -/
import Derived.Test.YtodjcocapdjomaaDoorAlT
import Derived.Test.YtodjcocapdjomaaDoorOrTy
import Derived.Test.YtodjcocapdjomaaDoorOrLib
namespace Go.AL
open Go Go.RowKit Go.Proofs
set_option linter.unusedVariables false
set_option linter.unusedSimpArgs false
set_option maxRecDepth 20000
set_option maxHeartbeats 2000000
theorem set_same {α : Type} {l : List α} {i : Nat} {x : α} (h : l[i]? = some x) : l.set i x = l := by
  apply List.ext_getElem?
  intro j
  by_cases hj : i = j
  · subst hj; rw [List.getElem?_set_self (List.getElem?_eq_some_iff.1 h).1, h]
  · rw [List.getElem?_set_ne hj]
theorem cc_fresh (ad : Addr) (hsp : ad.spot = none) (w : World) (e : TypeId) (cells : Nat) (h0 : w.cell? ad = some (.pointer none)) (hsh : w.shape? ad.block = some (e, cells)) (hlt : ad.off < cells) (hfz : w.frozen? ad = false) (hl : liesAt Tryd.prog Tryd.prog.depth e (cells / Tryd.prog.cellsOf e) ad.off 63 1 = true) :
    Calls Tryd.prog 80 #[.pointer (some ad)] w fun e w' => e = .returned (.tuple #[]) ∧ w' = w.setCell ad (.pointer (some ad)) := by
  obtain ⟨j, hj, hjs⟩ := Option.map_eq_some_iff.1 (show (Tryd.prog.info? 63).map (·.size) = some 2 by kernel_rfl)
  obtain ⟨b, k, sp⟩ := ad
  simp only at hsp
  subst hsp
  go_enter Tryd.func80, Tryd.ntmps80
  go_wp2
  rw [Lib.run_to_unsafe w ⟨b, k, none⟩ Tryd.underlying60 Tryd.underlying128 hj (by rw [hjs]; decide) hsh hlt]
  simp only [Result.andThen]
  rw [Oper.upon_value]
  go_wp2
  rw [run_callFunc_extern Tryd.func91 (by kernel_rfl) (by kernel_rfl) (by kernel_rfl) (e := Extern.AbiNoEscape.same) (by kernel_rfl)]
  rw [Lib.run_noEscape]
  simp only [Result.andThen]
  rw [Oper.upon_value]
  go_wp2
  rw [Lib.run_from_unsafe w ⟨b, k, none⟩ Tryd.underlying128 Tryd.underlying60 hj hsh hl]
  simp only [Result.andThen]
  rw [Oper.upon_value]
  go_wp2
  go_end0
  exact ⟨rfl, rfl⟩
theorem cc_used (ad : Addr) (hsp : ad.spot = none) (w : World) (h0 : w.cell? ad = some (.pointer (some ad))) :
    Calls Tryd.prog 80 #[.pointer (some ad)] w fun e w' => e = .returned (.tuple #[]) ∧ w' = w := by
  obtain ⟨j, hj, -⟩ := Option.map_eq_some_iff.1 (show (Tryd.prog.info? 63).map (·.size) = some 2 by kernel_rfl)
  obtain ⟨b, k, sp⟩ := ad
  simp only at hsp
  subst hsp
  have hsame := run_eql_ptr_same (P := Tryd.prog) w ⟨b, k, none⟩ Tryd.underlying60 hj
  go_enter Tryd.func80, Tryd.ntmps80
  go_wp2
  rw [Lib.run_neq_ptr_same w _ Tryd.underlying60 hj]
  go_wp2
  go_end0
  exact ⟨rfl, rfl⟩
theorem copyCheck_ok (E : World → Prop) (H : AHeap) (i o : Nat) (c : List AV) (e : TypeId) (a0 : AV) (hi : H[i]? = some (.cells c e true)) (ha : c[o]? = some a0) (h0 : a0 = .ptr none ∨ a0 = .ptr (some (i, o)))
    (hoe : o < Tryd.prog.cellsOf e) (hl : rowAt Tryd.prog (sameLayout Tryd.prog Tryd.prog.depth · 63) Tryd.prog.depth e 1 o 1 = true) :
    ACalls E Tryd.prog 80 [.ptr (some (i, o))] H (fun v H' => v = .tuple [] ∧ H' = H.set i (.cells (c.set o (.ptr (some (i, o)))) e true)) := by
  have ho : o < c.length := (List.getElem?_eq_some_iff.1 ha).1
  refine ⟨⟨_, Tryd.func80, rfl, rfl⟩, fun w0 κ0 n0 κ vs w hs hv => ?_⟩
  obtain ⟨u, rfl, hu⟩ : ∃ u, vs = [u] ∧ VR κ H.length (.ptr (some (i, o))) u := by
    obtain ⟨h1, h2⟩ := hv
    match vs, h1 with
    | [u], _ => exact ⟨u, rfl, h2 0 _ _ rfl rfl⟩
  cases hu
  rename_i hin
  obtain ⟨x, hx, hxv, -⟩ := hs.cell hi ha
  obtain ⟨cells, q, k1, k2, k3, k4, k5⟩ := hs.cellAt hi ho hoe
  rcases h0 with rfl | rfl
  · cases hxv
    refine (cc_fresh ⟨(κ i).blk, (κ i).off + o, none⟩ rfl w e cells hx k1 k2 k5 (by rw [k3]; exact lies_up hl hoe k4)).mono ?_
    rintro e' w' ⟨rfl, rfl⟩
    exact ⟨_, κ, _, _, rfl, hs.setOne hi ho (.ptr i o hin) rfl, .tuple [] [] rfl (fun i c v hc _ => by simp at hc), rfl, rfl⟩
  · cases hxv
    refine (cc_used ⟨(κ i).blk, (κ i).off + o, none⟩ rfl w hx).mono ?_
    rintro e' w' ⟨rfl, rfl⟩
    have hset : H.set i (.cells (c.set o (.ptr (some (i, o)))) e true) = H := by rw [set_same ha, set_same hi]
    exact ⟨_, κ, _, _, rfl, hs, .tuple [] [] rfl (fun i c v hc _ => by simp at hc), rfl, hset.symm⟩
/-- the bytes that a builder has got: the row is its own -/
def BufOk (lo : Nat) (H : AHeap) (i : Nat) (buf : AV) (bs : List UInt8) : Prop := (bs = [] ∧ buf = .slice none 0) ∨ (bs ≠ [] ∧ ∃ j, lo ≤ j ∧ j ≠ i ∧ buf = .slice (some (j, 0)) bs.length ∧ H[j]? = some (.cells (bytesAV bs) 5 true))
def BldC (lo : Nat) (H : AHeap) (i o : Nat) (e : TypeId) (c : List AV) (bs : List UInt8) : Prop :=
  H[i]? = some (.cells c e true) ∧ ∃ a0 buf, c[o]? = some a0 ∧ c[o + 1]? = some buf ∧ (a0 = .ptr none ∨ a0 = .ptr (some (i, o))) ∧ BufOk lo H i buf bs
theorem WriteString_ok (E : World → Prop) (lo : Nat) (H : AHeap) (i o : Nat) (c : List AV) (e : TypeId) (bs s : List UInt8) (h : BldC lo H i o e c bs) (hn : bs.length + s.length ≤ 140737488355328) (hlo : lo ≤ H.length)
    (hoe : o < Tryd.prog.cellsOf e) (hl : rowAt Tryd.prog (sameLayout Tryd.prog Tryd.prog.depth · 63) Tryd.prog.depth e 1 o 1 = true) :
    ACalls E Tryd.prog 60 [.ptr (some (i, o)), .str s] H (fun v H' => v = .tuple [.int .i64 s.length, .nilIface] ∧ ∃ c', BldC lo H' i o e c' (bs ++ s) ∧ c'.length = c.length ∧ (∀ k, k ≠ o → k ≠ o + 1 → c'[k]? = c[k]?) ∧ H.length ≤ H'.length ∧
      (∀ H0, Ext H0 H → H0.length ≤ lo → H0.length ≤ i → Ext H0 H')) := by
  obtain ⟨hi, a0, buf, h1, h2, h3, h4⟩ := h
  refine ACalls.of_code (N := 19) (ts := [4, 5]) Tryd.func60 rfl rfl rfl rfl (by simp) ?_
  refine ACode.of_K _ ?_
  simp (maxSteps := 5000000) (implicitDefEqProofs := false) only [go_sem, Nat.reduceLT, Nat.reduceBEq, Nat.reduceBNe, Nat.reduceAdd, Nat.reduceSub, Nat.reduceMul, Nat.reduceEqDiff, Nat.reduceLeDiff, Int.reduceLT, Int.reduceLE, Int.reduceEq, Int.reduceToNat, Int.reduceBEq, Int.reduceAdd, Int.reduceSub, Int.reduceNeg, reduceCtorEq]
  refine callK_of (copyCheck_ok E H i o c e a0 hi h1 h3 hoe hl) ?_
  rintro r H1 ⟨rfl, rfl⟩
  have hil := lt_of_get hi
  have hol : o + 1 < c.length := (List.getElem?_eq_some_iff.1 h2).1
  generalize hH1 : H.set i (.cells (c.set o (.ptr (some (i, o)))) e true) = H1
  have g1 : H1[i]? = some (.cells (c.set o (.ptr (some (i, o)))) e true) := by rw [← hH1, List.getElem?_set_self hil]
  have g2 : (c.set o (.ptr (some (i, o))))[o + 1]? = some buf := by rw [List.getElem?_set_ne (by omega)]; exact h2
  have gb : BufOk lo H1 i buf bs := h4.imp id fun ⟨hb, j, k1, k2, k3, k4⟩ => ⟨hb, j, k1, k2, k3, by rw [← hH1, List.getElem?_set_ne (by omega)]; exact k4⟩
  have gx : ∀ H0, Ext H0 H → H0.length ≤ i → Ext H0 H1 := fun H0 x1 x2 => by rw [← hH1]; exact x1.set x2 _
  have gl : H.length = H1.length := by rw [← hH1]; simp
  generalize hc1 : c.set o (.ptr (some (i, o))) = c1 at *
  have gcl : c1.length = c.length := by rw [← hc1]; simp
  have gck : ∀ k, k ≠ o → c1[k]? = c[k]? := fun k hk => by rw [← hc1, List.getElem?_set_ne (by omega)]
  have gc0 : c1[o]? = some (.ptr (some (i, o))) := by rw [← hc1, List.getElem?_set_self (by omega)]
  clear hH1 hc1
  simp (maxSteps := 5000000) (implicitDefEqProofs := false) only [go_sem, Nat.reduceLT, Nat.reduceBEq, Nat.reduceBNe, Nat.reduceAdd, Nat.reduceSub, Nat.reduceMul, Nat.reduceEqDiff, Nat.reduceLeDiff, Int.reduceLT, Int.reduceLE, Int.reduceEq, Int.reduceToNat, Int.reduceBEq, Int.reduceAdd, Int.reduceSub, Int.reduceNeg, reduceCtorEq, g1, g2, Nat.zero_add]
  have hb1 : bytesT Tryd.prog 5 = 1 := by kernel_rfl
  have hnew : ∀ l : List UInt8, (l.map fun b => AV.int .u8 b.toNat) = bytesAV l := fun _ => rfl
  have hi1 := lt_of_get g1
  have hd1 : ∀ (H2 : AHeap) buf', H2[i]? = some (.cells c1 e true) → BufOk lo H2 i buf' (bs ++ s) → H1.length ≤ H2.length → (∀ H0, Ext H0 H1 → H0.length ≤ lo → Ext H0 H2) → ∃ c', BldC lo (H2.set i (.cells (splice c1 (o + 1) [buf']) e true)) i o e c' (bs ++ s) ∧ c'.length = c.length ∧ (∀ k, ¬ k = o → ¬ k = o + 1 → c'[k]? = c[k]?) ∧ H.length ≤ (H2.set i (.cells (splice c1 (o + 1) [buf']) e true)).length ∧
      (∀ H0, Ext H0 H → H0.length ≤ lo → H0.length ≤ i → Ext H0 (H2.set i (.cells (splice c1 (o + 1) [buf']) e true))) := fun H2 buf' q1 q2 q3 q4 => by
    have hsp : o + 1 + [buf'].length ≤ c1.length := by simp; omega
    refine ⟨splice c1 (o + 1) [buf'], ⟨by rw [List.getElem?_set_self (lt_of_get q1)], .ptr (some (i, o)), buf', ?_, ?_, .inr rfl, ?_⟩, by rw [splice_length hsp, gcl], fun k hk1 hk2 => ?_, by simp; omega, fun H0 x1 x2 x3 => (q4 H0 (gx H0 x1 x3) x2).set x3 _⟩
    · rw [splice_get hsp, if_pos (by omega), gc0]
    · rw [splice_get hsp, if_neg (by omega), if_pos (by simp)]; simp
    · exact q2.imp id fun ⟨hb, j, k1, k2, k3, k4⟩ => ⟨hb, j, k1, k2, k3, by rw [List.getElem?_set_ne (by omega)]; exact k4⟩
    · rw [splice_get hsp]
      simp only [List.length_cons, List.length_nil]
      rw [← gck k hk1]
      split
      · rfl
      · rw [if_neg (by omega)]
  have hsp1 : o + 1 + 1 ≤ c1.length := by omega
  have hB : slOk Tryd.prog 61 = true := by kernel_rfl
  have hE5 : elD Tryd.prog 61 = 5 := by kernel_rfl
  have hS5 : szT Tryd.prog 5 = 1 := by kernel_rfl
  have hX : strT Tryd.prog 9 = true := by kernel_rfl
  have happ : ∃ buf' H2, aappend Tryd.prog H1 61 9 buf (.str s) = some (buf', H2) ∧ H2[i]? = some (.cells c1 e true) ∧ BufOk lo H2 i buf' (bs ++ s) ∧ H1.length ≤ H2.length ∧ (∀ H0, Ext H0 H1 → H0.length ≤ lo → Ext H0 H2) ∧ ∃ a n, buf' = .slice a n := by
    have hil1 : i ≠ H1.length := by omega
    rcases gb with ⟨rfl, rfl⟩ | ⟨hbn, j, k1, k2, rfl, k4⟩ <;> by_cases hs : s = []
    · subst hs
      exact ⟨_, _, app_str_nil0 hB hE5 hS5 hX, g1, .inl ⟨rfl, rfl⟩, Nat.le_refl _, fun _ h _ => h, _, _, rfl⟩
    · refine ⟨_, _, app_str_nil hB hE5 hS5 hX hs (by rw [hb1]; simp at hn; omega) (by simp at hn; omega), by rw [get_old _ _ _ hi1]; exact g1, .inr ⟨by simpa using hs, H1.length, by omega, by omega, rfl, get_new0 _ _⟩, by simp, fun H0 x1 _ => x1.add _, _, _, rfl⟩
    · subst hs
      exact ⟨_, _, app_str_some0 hB hE5 hS5 hX k4, g1, .inr ⟨by simpa using hbn, j, k1, k2, by simp, by simpa using k4⟩, Nat.le_refl _, fun _ h _ => h, _, _, rfl⟩
    · refine ⟨_, _, app_str_some hB hE5 hS5 hX k4 hs (by rw [hb1]; omega) (by omega), ?_, .inr ⟨by simp [hs], H1.length, by omega, by omega, by simp, ?_⟩, by simp, fun H0 x1 x2 => (x1.set (by omega) _).add _, _, _, rfl⟩
      · rw [get_old _ _ _ (by simpa using hi1), List.getElem?_set_ne k2]; exact g1
      · have := get_new0 (H1.set j .dead) [.cells (bytesAV (bs ++ s)) 5 true]
        rw [List.length_set] at this
        rw [this]; rfl
  obtain ⟨buf', H2, ha1, ha2, ha3, ha4, ha5, sa, sn, rfl⟩ := happ
  have q := hd1 H2 _ ha2 ha3 ha4 ha5
  simp (maxSteps := 5000000) (implicitDefEqProofs := false) only [go_sem, Nat.reduceLT, Nat.reduceBEq, Nat.reduceBNe, Nat.reduceAdd, Nat.reduceSub, Nat.reduceMul, Nat.reduceEqDiff, Nat.reduceLeDiff, Int.reduceLT, Int.reduceLE, Int.reduceEq, Int.reduceToNat, Int.reduceBEq, Int.reduceAdd, Int.reduceSub, Int.reduceNeg, reduceCtorEq, splice] at q
  simp (maxSteps := 5000000) (implicitDefEqProofs := false) only [go_sem, Nat.reduceLT, Nat.reduceBEq, Nat.reduceBNe, Nat.reduceAdd, Nat.reduceSub, Nat.reduceMul, Nat.reduceEqDiff, Nat.reduceLeDiff, Int.reduceLT, Int.reduceLE, Int.reduceEq, Int.reduceToNat, Int.reduceBEq, Int.reduceAdd, Int.reduceSub, Int.reduceNeg, reduceCtorEq, ha1, ha2, hsp1]
  exact q
theorem String_ok (E : World → Prop) (lo : Nat) (H : AHeap) (i o : Nat) (c : List AV) (e : TypeId) (bs : List UInt8) (h : BldC lo H i o e c bs) (hn : bs.length ≤ 9223372036854775807) (H0 : AHeap) (hx : Ext H0 H) (hlo : H0.length ≤ lo) :
    ACalls E Tryd.prog 63 [.ptr (some (i, o))] H (fun v H' => v = .str bs ∧ Ext H0 H') := by
  obtain ⟨hi, a0, buf, h1, h2, h3, h4⟩ := h
  refine ACalls.of_code (N := 14) (ts := [2]) Tryd.func63 rfl rfl rfl rfl (by simp) ?_
  refine ACode.of_K _ ?_
  simp (maxSteps := 5000000) (implicitDefEqProofs := false) only [go_sem, Nat.reduceLT, Nat.reduceBEq, Nat.reduceBNe, Nat.reduceAdd, Nat.reduceSub, Nat.reduceMul, Nat.reduceEqDiff, Nat.reduceLeDiff, Int.reduceLT, Int.reduceLE, Int.reduceEq, Int.reduceToNat, Int.reduceBEq, Int.reduceAdd, Int.reduceSub, Int.reduceNeg, reduceCtorEq]
  have hP : ptrT Tryd.prog 115 = some 5 := by kernel_rfl
  have hS5 : szT Tryd.prog 5 = 1 := by kernel_rfl
  rcases h4 with ⟨rfl, rfl⟩ | ⟨hb, j, k1, k2, rfl, k4⟩
  · refine ACode.regionD [0, 1, 2, 3, 5, 6, 7, 8, 9, 4, 10, 11] [] [] (fun H' => H' = H) mixed (by kernel_rfl) rfl ?_
    simp (contextual := true) (maxSteps := 5000000) (implicitDefEqProofs := false) only [go_sem, Nat.reduceLT, Nat.reduceBEq, Nat.reduceBNe, Nat.reduceAdd, Nat.reduceSub, Nat.reduceMul, Nat.reduceEqDiff, Nat.reduceLeDiff, Int.reduceLT, Int.reduceLE, Int.reduceEq, Int.reduceToNat, Int.reduceBEq, Int.reduceAdd, Int.reduceSub, Int.reduceNeg, reduceCtorEq, hi, h2, aunsafeString, hP]
    exact hx
  · refine ACode.regionD [0, 1, 2, 3, 5, 6, 7, 8, 9, 4, 10, 11] [] [] (fun H' => H'[i]? = some (.cells c e true)) mixed (by kernel_rfl) hi ?_
    obtain ⟨n, hl⟩ : ∃ n, bs.length = n + 1 := ⟨bs.length - 1, by have : 0 < bs.length := List.length_pos_iff.2 hb; omega⟩
    have hle : 0 + ((n + 1 : Nat) : Int).toNat ≤ (bytesAV bs).length := by rw [bytesAV_len, hl]; simp
    have hby : byteCells? (((bytesAV bs).drop 0).take ((n + 1 : Nat) : Int).toNat) = some bs := by
      rw [List.drop_zero, Int.toNat_natCast, ← hl, ← bytesAV_len, List.take_length, byteCells_bytesAV]
    have hus : aunsafeString Tryd.prog H 115 (.ptr (some (j, 0))) (.int .i64 ((n + 1 : Nat) : Int)) = some (.str bs, H.set j (.cells (bytesAV bs) 5 false)) := by
      unfold aunsafeString
      simp only [k4, hP]
      rw [if_pos ⟨trivial, hS5, by omega, by omega, hle⟩, hby]; rfl
    have hij : ∀ x, (H.set j x)[i]? = some (.cells c e true) := fun x => by rw [List.getElem?_set_ne k2]; exact hi
    simp (contextual := true) (maxSteps := 5000000) (implicitDefEqProofs := false) only [go_sem, Nat.reduceLT, Nat.reduceBEq, Nat.reduceBNe, Nat.reduceAdd, Nat.reduceSub, Nat.reduceMul, Nat.reduceEqDiff, Nat.reduceLeDiff, Int.reduceLT, Int.reduceLE, Int.reduceEq, Int.reduceToNat, Int.reduceBEq, Int.reduceAdd, Int.reduceSub, Int.reduceNeg, reduceCtorEq, hi, h2, hl, hus, k4, hS5, hij, Nat.zero_lt_succ, Nat.zero_lt_one]
    exact hx.set (by omega) _
end Go.AL
