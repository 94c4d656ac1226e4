/- strings.EqualFold, against a text of small ASCII bytes. -/
import Derived.Test.YtodjcocapdjomaaDoorOrFold
import Derived.Test.YtodjcocapdjomaaDoorAlS
import Derived.Test.YtodjcocapdjomaaDoorOrTy
namespace Go.AL
open Go Go.RowKit Go.Proofs
set_option linter.unusedVariables false
set_option linter.unusedSimpArgs false
set_option maxRecDepth 20000
set_option maxHeartbeats 2000000
/-- what is known of the world at the start: the tables of folding -/
def FoldE (w : World) : Prop := 3 ≤ w.heap.size ∧ (∀ k, k < 128 → w.cell? ⟨1, k, none⟩ = some (.int .u16 (cfold k))) ∧ ∃ b, b < w.heap.size ∧ ∃ (o cap : Nat), w.cell? ⟨2, 0, none⟩ = some (.slice (some ⟨b, o, none⟩) 94 cap) ∧ w.cell? ⟨b, o + 94, none⟩ = some (.int .u16 966) ∧ w.cell? ⟨b, o + 46, none⟩ = some (.int .u16 837) ∧ w.cell? ⟨b, o + 22, none⟩ = some (.int .u16 452) ∧ w.cell? ⟨b, o + 10, none⟩ = some (.int .u16 197) ∧
    w.cell? ⟨b, o + 16, none⟩ = some (.int .u16 304) ∧ w.cell? ⟨b, o + 20, none⟩ = some (.int .u16 383) ∧ w.cell? ⟨b, o + 18, none⟩ = some (.int .u16 305) ∧ w.cell? ⟨b, o + 21, none⟩ = some (.int .u16 83)
theorem afold_rng (k : Nat) : k < 128 → 0 ≤ cfold k ∧ cfold k < 65536 := by
  intro h; unfold cfold; (repeat' split) <;> omega
theorem vrs_int1 {κ : Nat → Loc} {n : Nat} {k : IntKind} {x : Int} {vs : List Value} (h : VRs κ n [.int k x] vs) : vs = [.int k x] := by
  obtain ⟨h1, h2⟩ := h
  match vs, h1 with
  | [y], _ =>
    have := h2 0 _ _ rfl rfl
    cases this
    rfl
def sfold (r : Int) : Int := if r = 383 then 83 else cfold r.toNat
theorem SimpleFold_ok (E : World → Prop) (hE : ∀ w, E w → FoldE w) (H : AHeap) (r : Int) (hr : (0 ≤ r ∧ r < 128) ∨ r = 383) : ACalls E Tryd.prog 72 [.int .i32 r] H (fun v H' => v = .int .i32 (sfold r) ∧ H' = H) :=
  ACalls.of_calls ⟨_, Tryd.func72, rfl, rfl⟩ (fun κ n vs h => vrs_int1 h)
    (fun w0 w he hb => by
      obtain ⟨hs, h1, b, hbs, o, cap, c0, c1, c2, c3, c4, c5, c6, c7, c8⟩ := hE _ he
      rcases hr with ⟨ha, hb'⟩ | rfl
      · obtain ⟨k, rfl⟩ : ∃ k : Nat, r = k := ⟨r.toNat, by omega⟩
        have hk : k < 128 := by omega
        have hne : ¬ ((k : Int) = 383) := by omega
        simp only [sfold, if_neg hne, Int.toNat_natCast]
        exact (fold_ascii k hk w ((hb.cell (by show 1 < _; omega)).trans (h1 k hk)) (afold_rng k hk).1 (afold_rng k hk).2).mono fun e w' h => ⟨h.1, h.2 ▸ Below.refl _ _⟩
      · refine (fold_383 w ⟨b, o, cap, ?_, ?_, ?_, ?_, ?_, ?_, ?_, ?_, ?_⟩).mono fun e w' h => ⟨h.1, h.2 ▸ Below.refl _ _⟩
        · exact (hb.cell (by show 2 < _; omega)).trans c0
        all_goals exact (hb.cell hbs).trans (by assumption)) (fun κ n => .int _ _)
theorem DecAscii_ok (E : World → Prop) (H : AHeap) (b : UInt8) (t : List UInt8) (hb : b.toNat < 128) : ACalls E Tryd.prog 65 [.str (b :: t)] H (fun v H' => v = .tuple [.int .i32 b.toNat, .int .i64 1] ∧ H' = H) := by
  refine ACalls.of_code (N := 19) (ts := [2, 3]) Tryd.func65 rfl rfl rfl rfl (by simp) ?_
  refine ACode.of_K _ ?_
  have h1 : ((b :: t) == ([] : List UInt8)) = false := rfl
  have h2 : (b.toNat : Int) < 128 := by omega
  have h3 : IntKind.i32.wrap (b.toNat : Int) = b.toNat := by simp [IntKind.wrap, IntKind.bits, IntKind.signed]; omega
  simp (maxSteps := 5000000) (implicitDefEqProofs := false) only [go_sem, Nat.reduceLT, Nat.reduceBEq, Nat.reduceBNe, Nat.reduceAdd, Nat.reduceSub, Nat.reduceMul, Nat.reduceEqDiff, Nat.reduceLeDiff, Int.reduceLT, Int.reduceLE, Int.reduceEq, Int.reduceToNat, Int.reduceBEq, Int.reduceAdd, Int.reduceSub, Int.reduceNeg, reduceCtorEq, h1, h2, h3, Int.toNat_zero, List.getElem?_cons_zero, Option.map_some]
def efI (a b : Int) : Bool := (b == a) || (decide (65 ≤ min a b) && decide (min a b ≤ 90) && (max a b == min a b + 32))
/-- a rune, and an ASCII byte (small) -/
def efR (r : Int) (b : UInt8) : Bool := if r < 128 then efI r b.toNat else (r == 383 && b == 115)
def efU : List (Nat × Int) → List UInt8 → Bool
  | [], t => t == []
  | _ :: _, [] => false
  | (_, r) :: l, b :: t => if efR r b then efU l t else false
def efA : List UInt8 → List UInt8 → Bool
  | a :: s, b :: t => if 128 ≤ ior .u8 a.toNat b.toNat then efU (runesP (a :: s)) (b :: t) else if efI a.toNat b.toNat then efA s t else false
  | [], t => (t == [])
  | _ :: _, [] => false
def smallB (b : UInt8) : Bool := decide (b.toNat < 128) && !(decide (65 ≤ b.toNat) && decide (b.toNat ≤ 90)) && b.toNat != 107
theorem efA_end (s t : List UInt8) (h : s = [] ∨ t = []) : efA s t = decide ((s.length : Int) = t.length) := by
  rcases h with rfl | rfl
  · cases t <;> simp [efA] <;> omega
  · cases s <;> simp [efA] <;> omega
theorem efR_big (r q bz : Int) (b : UInt8) (hr : ¬ r < 128) (hz : (b.toNat : Int) = bz) (hb : bz < 128) (hq : (q = bz ∧ (bz = 115 → 383 < r)) ∨ (q = bz - 32 ∧ (97 ≤ bz ∧ bz ≤ 122) ∧ (bz = 115 → 383 < r)) ∨ (bz = 115 ∧ (q = 383 ∨ (q = 83 ∧ 383 < r)))) (hn : q = bz ∨ ¬ q < r) : q = r ↔ efR r b = true := by
  have hbz : b = 115 ↔ bz = 115 := ⟨fun h => by rw [← hz, h]; rfl, fun h => UInt8.toNat_inj.1 (by show b.toNat = 115; omega)⟩
  unfold efR
  rw [if_neg hr]
  simp only [Bool.and_eq_true, beq_iff_eq, hbz]
  constructor <;> intro h <;> omega
theorem sfold_b (b : UInt8) (hb : b.toNat < 128) (hb2 : ¬(65 ≤ b.toNat ∧ b.toNat ≤ 90) ∧ b.toNat ≠ 107) : sfold (b.toNat : Int) = (if (b.toNat : Int) = 115 then 383 else if 97 ≤ (b.toNat : Int) ∧ (b.toNat : Int) ≤ 122 then (b.toNat : Int) - 32 else b.toNat) := by
  unfold sfold cfold; simp only [Int.toNat_natCast]; (repeat' split) <;> omega
theorem sfold_up (b : UInt8) (h : 97 ≤ (b.toNat : Int) ∧ (b.toNat : Int) ≤ 122) : sfold ((b.toNat : Int) - 32) = b.toNat := by
  obtain ⟨k, hk⟩ : ∃ k : Nat, (b.toNat : Int) - 32 = k := ⟨b.toNat - 32, by omega⟩
  rw [hk]; unfold sfold cfold; simp only [Int.toNat_natCast]; (repeat' split) <;> omega
theorem EqualFold_ok (E : World → Prop) (hE : ∀ w, E w → FoldE w) (H : AHeap) (s t : List UInt8) (hs : s.length ≤ 1000000000000) (ht : t.length ≤ 1000) (hsm : t.all smallB = true) :
    ACalls E Tryd.prog 46 [.str s, .str t] H (fun v H' => v = .bool (efA s t) ∧ Ext H H') := by
  refine ACalls.of_code (N := 123) (ts := [4]) Tryd.func46 rfl rfl rfl rfl (by simp) ?_
  refine ACode.of_K _ ?_
  simp (maxSteps := 5000000) (implicitDefEqProofs := false) only [go_sem, Nat.reduceLT, Nat.reduceBEq, Nat.reduceBNe, Nat.reduceAdd, Nat.reduceSub, Nat.reduceMul, Nat.reduceEqDiff, Nat.reduceLeDiff, Int.reduceLT, Int.reduceLE, Int.reduceEq, Int.reduceToNat, Int.reduceBEq, Int.reduceAdd, Int.reduceSub, Int.reduceNeg, reduceCtorEq]
  refine ACode.scope 0 (fun T H' => H' = H ∧ ∃ i : Nat, i ≤ s.length ∧ i ≤ t.length ∧ T 0 = .str s ∧ T 1 = .str t ∧ T 5 = .int .i64 i ∧ efA s t = efU (runesP (s.drop i)) (t.drop i)) rfl ?_ ?_
  · refine ACode.of_K _ ?_
    simp (maxSteps := 5000000) (implicitDefEqProofs := false) only [go_sem, Nat.reduceLT, Nat.reduceBEq, Nat.reduceBNe, Nat.reduceAdd, Nat.reduceSub, Nat.reduceMul, Nat.reduceEqDiff, Nat.reduceLeDiff, Int.reduceLT, Int.reduceLE, Int.reduceEq, Int.reduceToNat, Int.reduceBEq, Int.reduceAdd, Int.reduceSub, Int.reduceNeg, reduceCtorEq]
    generalize hM : (if (t.length : Int) < (s.length : Int) then (t.length : Int) else (s.length : Int)) = M
    have hM' : (M = t.length ∧ M ≤ s.length) ∨ (M = s.length ∧ M ≤ t.length) := by split at hM <;> omega
    refine ACode.loopWX [(4, 5), (7, 8), (19, 54)] (fun m T H' => H' = H ∧ ∃ i : Nat, m = t.length - i ∧ i ≤ s.length ∧ i ≤ t.length ∧ T 5 = .int .i64 i ∧ efA s t = efA (s.drop i) (t.drop i)) (fun T H' => H' = H ∧ efA s t = decide ((s.length : Int) = t.length)) t.length ⟨rfl, 0, by omega, by omega, by omega, by simp (maxSteps := 5000000) (implicitDefEqProofs := false) only [go_sem, Nat.reduceLT, Nat.reduceBEq, Nat.reduceBNe, Nat.reduceAdd, Nat.reduceSub, Nat.reduceMul, Nat.reduceEqDiff, Nat.reduceLeDiff, Int.reduceLT, Int.reduceLE, Int.reduceEq, Int.reduceToNat, Int.reduceBEq, Int.reduceAdd, Int.reduceSub, Int.reduceNeg, reduceCtorEq], rfl⟩ ?_ ?_
    · rintro m T H' hK ⟨rfl, i, rfl, hi1, hi2, t5, hinv⟩
      refine ACode.of_K _ ?_
      have t0 := hK 0 rfl; have t1 := hK 1 rfl; have t6 := hK 6 rfl
      simp (maxSteps := 5000000) (implicitDefEqProofs := false) only [go_sem, Nat.reduceLT, Nat.reduceBEq, Nat.reduceBNe, Nat.reduceAdd, Nat.reduceSub, Nat.reduceMul, Nat.reduceEqDiff, Nat.reduceLeDiff, Int.reduceLT, Int.reduceLE, Int.reduceEq, Int.reduceToNat, Int.reduceBEq, Int.reduceAdd, Int.reduceSub, Int.reduceNeg, reduceCtorEq] at t0 t1 t6
      by_cases hlt : (i : Int) < M
      · have hl1 : i < s.length := by omega
        have hl2 : i < t.length := by omega
        have ha : s[i]? = some s[i] := List.getElem?_eq_getElem hl1
        have hb : t[i]? = some t[i] := List.getElem?_eq_getElem hl2
        rw [List.drop_eq_getElem_cons hl1, List.drop_eq_getElem_cons hl2, efA] at hinv
        have hw := wrap_add1 i (by omega)
        have hcont : 128 > ior .u8 s[i].toNat t[i].toNat → efI s[i].toNat t[i].toNat = true → ∃ m, m < t.length - i ∧ ∃ j, m = t.length - j ∧ j ≤ s.length ∧ j ≤ t.length ∧ ((i + 1 : Nat) : Int) = (j : Int) ∧ efA s t = efA (s.drop j) (t.drop j) :=
          fun h1 h2 => ⟨_, by omega, i + 1, rfl, by omega, by omega, rfl, by rw [hinv, if_neg (by omega), if_pos h2]⟩
        have hstop : 128 > ior .u8 s[i].toNat t[i].toNat → efI s[i].toNat t[i].toNat = false → efA s t = false := fun h1 h2 => by rw [hinv, if_neg (by omega), h2]; rfl
        have hw8 : ∀ x : Int, 65 ≤ x → x ≤ 90 → IntKind.u8.wrap (IntKind.u8.wrap (x + 97) - 65) = x + 32 := fun x h1 h2 => by simp [IntKind.wrap, IntKind.bits, IntKind.signed]; omega
        simp (contextual := true) (maxSteps := 5000000) (implicitDefEqProofs := false) only [go_sem, Nat.reduceLT, Nat.reduceBEq, Nat.reduceBNe, Nat.reduceAdd, Nat.reduceSub, Nat.reduceMul, Nat.reduceEqDiff, Nat.reduceLeDiff, Int.reduceLT, Int.reduceLE, Int.reduceEq, Int.reduceToNat, Int.reduceBEq, Int.reduceAdd, Int.reduceSub, Int.reduceNeg, reduceCtorEq, t0, t1, t5, t6, hlt, ha, hb, Int.natCast_nonneg, Int.toNat_natCast, hw, Keep_T hK, hw8]
        generalize (s[i].toNat : Int) = a at *
        generalize (t[i].toNat : Int) = b at *
        repeat' (first | apply And.intro | intro _)
        all_goals first
          | exact Ext.refl _
          | exact ⟨i, by omega, by omega, rfl, by rw [hinv, if_pos (by assumption), ← List.drop_eq_getElem_cons hl1, ← List.drop_eq_getElem_cons hl2]⟩
          | exact hcont (by omega) (by unfold efI; simp; omega)
          | exact (hstop (by omega) (by unfold efI; simp; omega)).symm
      · simp (maxSteps := 5000000) (implicitDefEqProofs := false) only [go_sem, Nat.reduceLT, Nat.reduceBEq, Nat.reduceBNe, Nat.reduceAdd, Nat.reduceSub, Nat.reduceMul, Nat.reduceEqDiff, Nat.reduceLeDiff, Int.reduceLT, Int.reduceLE, Int.reduceEq, Int.reduceToNat, Int.reduceBEq, Int.reduceAdd, Int.reduceSub, Int.reduceNeg, reduceCtorEq, t0, t1, t5, t6, hlt, Keep_T hK]
        rw [hinv, efA_end]
        · simp; omega
        · simp; omega
    · intro T H' hK ⟨hH, hr⟩
      subst hH
      have t0 := hK 0 rfl; have t1 := hK 1 rfl
      simp (maxSteps := 5000000) (implicitDefEqProofs := false) only [go_sem, Nat.reduceLT, Nat.reduceBEq, Nat.reduceBNe, Nat.reduceAdd, Nat.reduceSub, Nat.reduceMul, Nat.reduceEqDiff, Nat.reduceLeDiff, Int.reduceLT, Int.reduceLE, Int.reduceEq, Int.reduceToNat, Int.reduceBEq, Int.reduceAdd, Int.reduceSub, Int.reduceNeg, reduceCtorEq] at t0 t1
      simp (maxSteps := 5000000) (implicitDefEqProofs := false) only [go_sem, Nat.reduceLT, Nat.reduceBEq, Nat.reduceBNe, Nat.reduceAdd, Nat.reduceSub, Nat.reduceMul, Nat.reduceEqDiff, Nat.reduceLeDiff, Int.reduceLT, Int.reduceLE, Int.reduceEq, Int.reduceToNat, Int.reduceBEq, Int.reduceAdd, Int.reduceSub, Int.reduceNeg, reduceCtorEq, t0, t1, hr]
      exact ⟨by rw [Bool.eq_iff_iff]; simp, Ext.refl _⟩
  · rintro T H' ⟨rfl, i, hi1, hi2, t0, t1, t5, hinv⟩
    refine ACode.of_K _ ?_
    have h1 : (i : Int) ≤ (s.length : Int) := by omega
    have h2 : (i : Int) ≤ (t.length : Int) := by omega
    simp (maxSteps := 5000000) (implicitDefEqProofs := false) only [go_sem, Nat.reduceLT, Nat.reduceBEq, Nat.reduceBNe, Nat.reduceAdd, Nat.reduceSub, Nat.reduceMul, Nat.reduceEqDiff, Nat.reduceLeDiff, Int.reduceLT, Int.reduceLE, Int.reduceEq, Int.reduceToNat, Int.reduceBEq, Int.reduceAdd, Int.reduceSub, Int.reduceNeg, reduceCtorEq, t0, t1, t5, h1, h2, Int.toNat_natCast]
    generalize hs' : s.drop i = s' at *
    generalize ht' : t.drop i = t' at *
    have hsl : s'.length ≤ 1000000000000 := by rw [← hs']; simp; omega
    have hts : t'.all smallB = true := by rw [← ht']; exact List.all_eq_true.2 fun x hx => List.all_eq_true.1 hsm x (List.mem_of_mem_drop hx)
    refine ACode.loopWX [(1, 1), (4, 4), (10, 13), (68, 119)] (fun m T H2 => ∃ (p : Nat) (u : List UInt8), s'.length ≤ p + m ∧ T 1 = .str u ∧ H2[H'.length]? = some (.iter s' p) ∧ Ext H' H2 ∧ u.all smallB = true ∧ efA s t = efU (runesFrom s' m p) u) (fun T H2 => ∃ u, T 1 = .str u ∧ Ext H' H2 ∧ efA s t = (u == [])) s'.length
      ⟨0, t', by omega, by simp (maxSteps := 5000000) (implicitDefEqProofs := false) only [go_sem, Nat.reduceLT, Nat.reduceBEq, Nat.reduceBNe, Nat.reduceAdd, Nat.reduceSub, Nat.reduceMul, Nat.reduceEqDiff, Nat.reduceLeDiff, Int.reduceLT, Int.reduceLE, Int.reduceEq, Int.reduceToNat, Int.reduceBEq, Int.reduceAdd, Int.reduceSub, Int.reduceNeg, reduceCtorEq], get_new0 H' _, Ext.app _ _, hts, hinv⟩ ?_ ?_
    · rintro m T2 H2 hK ⟨p, u, hm, u1, hit, hext, hus, hg⟩
      refine ACode.of_K _ ?_
      have u67 := hK 67 rfl
      simp (maxSteps := 5000000) (implicitDefEqProofs := false) only [go_sem, Nat.reduceLT, Nat.reduceBEq, Nat.reduceBNe, Nat.reduceAdd, Nat.reduceSub, Nat.reduceMul, Nat.reduceEqDiff, Nat.reduceLeDiff, Int.reduceLT, Int.reduceLE, Int.reduceEq, Int.reduceToNat, Int.reduceBEq, Int.reduceAdd, Int.reduceSub, Int.reduceNeg, reduceCtorEq] at u67
      by_cases hlt : p < s'.length
      · obtain ⟨m, rfl⟩ : ∃ k, m = k + 1 := ⟨m - 1, by omega⟩
        rw [runesFrom_cons hlt] at hg
        have hpos := dec_pos s' p
        simp (maxSteps := 5000000) (implicitDefEqProofs := false) only [go_sem, Nat.reduceLT, Nat.reduceBEq, Nat.reduceBNe, Nat.reduceAdd, Nat.reduceSub, Nat.reduceMul, Nat.reduceEqDiff, Nat.reduceLeDiff, Int.reduceLT, Int.reduceLE, Int.reduceEq, Int.reduceToNat, Int.reduceBEq, Int.reduceAdd, Int.reduceSub, Int.reduceNeg, reduceCtorEq, u1, u67, anext_t hit hlt]
        have hx1 : Ext H' (H2.set H'.length (.iter s' (p + (dec s' p).2))) := hext.iter _
        have hi1 : (H2.set H'.length (.iter s' (p + (dec s' p).2)))[H'.length]? = some (.iter s' (p + (dec s' p).2)) := iter_set hit
        generalize H2.set H'.length (.iter s' (p + (dec s' p).2)) = H3 at hx1 hi1 ⊢
        generalize ((dec s' p).1 : Int) = r at hg ⊢
        cases u with
        | nil =>
          simp only [List.length_nil]
          exact ⟨fun _ => ⟨by rw [hg]; rfl, hx1⟩, fun h => absurd rfl h⟩
        | cons b u =>
          rw [efU] at hg
          simp only [List.all_cons, Bool.and_eq_true] at hus
          obtain ⟨hb, hus⟩ := hus
          have hb1 : b.toNat < 128 := by simp only [smallB, Bool.and_eq_true, decide_eq_true_eq] at hb; exact hb.1.1
          have hb2 : ¬ (65 ≤ b.toNat ∧ b.toNat ≤ 90) ∧ b.toNat ≠ 107 := by simp [smallB] at hb; omega
          refine ⟨fun h => absurd h (by simp; omega), fun _ => callK_same (DecAscii_ok E H3 b u hb1) ?_⟩
          have hl : (1 : Int) ≤ ((u.length + 1 : Nat) : Int) := by omega
          have hd1 : (b :: u).drop 1 = u := rfl
          have hcont : efR r b = true → ∃ m_1, m_1 < m + 1 ∧ ∃ p_1, ∃ u_1, s'.length ≤ p_1 + m_1 ∧ u = u_1 ∧ H3[H'.length]? = some (.iter s' p_1) ∧ Ext H' H3 ∧ u_1.all smallB = true ∧ efA s t = efU (runesFrom s' m_1 p_1) u_1 :=
            fun h => ⟨m, by omega, p + (dec s' p).2, u, by omega, rfl, hi1, hx1, hus, by rw [hg, if_pos h]⟩
          have hstop : efR r b = false → false = efA s t := fun h => by rw [hg, h]; rfl
          have hw8 : ∀ x : Int, 65 ≤ x → x ≤ 90 → IntKind.i32.wrap (IntKind.i32.wrap (x + 97) - 65) = x + 32 := fun x h1 h2 => by simp [IntKind.wrap, IntKind.bits, IntKind.signed]; omega
          simp (contextual := true) (maxSteps := 5000000) (implicitDefEqProofs := false) only [go_sem, Nat.reduceLT, Nat.reduceBEq, Nat.reduceBNe, Nat.reduceAdd, Nat.reduceSub, Nat.reduceMul, Nat.reduceEqDiff, Nat.reduceLeDiff, Int.reduceLT, Int.reduceLE, Int.reduceEq, Int.reduceToNat, Int.reduceBEq, Int.reduceAdd, Int.reduceSub, Int.reduceNeg, reduceCtorEq, u1, u67, hl, hd1, Keep_T hK, hw8]
          refine ⟨fun h1 => ?_, fun h1 => ⟨fun h2 => ⟨fun h3 => ?_, fun h3 => ?_⟩, fun h2 => ⟨fun h3 => ?_, fun h3 => ?_⟩⟩⟩
          · exact hcont (by unfold efR; rw [if_pos (by omega)]; unfold efI; simp [h1])
          · repeat' (first | apply And.intro | intro _)
            all_goals first
              | exact hx1
              | exact hcont (by unfold efR; rw [if_pos (by omega)]; unfold efI; simp; omega)
              | exact hstop (by unfold efR; rw [if_pos (by omega)]; unfold efI; simp; omega)
          · refine callK_same (SimpleFold_ok E hE H3 b.toNat (.inl ⟨by omega, by omega⟩)) ?_
            have hs1 := sfold_b b hb1 hb2
            have hs2 : ∀ h : 97 ≤ (b.toNat : Int) ∧ (b.toNat : Int) ≤ 122, sfold ((b.toNat : Int) - 32) = b.toNat := sfold_up b
            have hb0 : 0 ≤ (b.toNat : Int) ∧ (b.toNat : Int) < 128 := by omega
            have hfin := fun q => efR_big r q (b.toNat : Int) b h3 rfl hb0.2
            generalize (b.toNat : Int) = bz at *
            simp (maxSteps := 5000000) (implicitDefEqProofs := false) only [go_sem, Nat.reduceLT, Nat.reduceBEq, Nat.reduceBNe, Nat.reduceAdd, Nat.reduceSub, Nat.reduceMul, Nat.reduceEqDiff, Nat.reduceLeDiff, Int.reduceLT, Int.reduceLE, Int.reduceEq, Int.reduceToNat, Int.reduceBEq, Int.reduceAdd, Int.reduceSub, Int.reduceNeg, reduceCtorEq, u1, u67, Keep_T hK]
            refine ACode.loopWX [(13, 13), (107, 116)] (fun m T H' => H' = H3 ∧ ∃ q : Int, m = (if q = bz then 0 else if q = bz - 32 then 1 else if q = 83 then 1 else 2) ∧ T 13 = .int .i32 q ∧ ((q = bz ∧ (bz = 115 → 383 < r)) ∨ (q = bz - 32 ∧ (97 ≤ bz ∧ bz ≤ 122) ∧ (bz = 115 → 383 < r)) ∨ (bz = 115 ∧ (q = 383 ∨ (q = 83 ∧ 383 < r))))) (fun T H' => H' = H3 ∧ ∃ q : Int, T 13 = .int .i32 q ∧ (q = r ↔ efR r b = true)) _
              ⟨rfl, sfold bz, rfl, by simp (maxSteps := 5000000) (implicitDefEqProofs := false) only [go_sem, Nat.reduceLT, Nat.reduceBEq, Nat.reduceBNe, Nat.reduceAdd, Nat.reduceSub, Nat.reduceMul, Nat.reduceEqDiff, Nat.reduceLeDiff, Int.reduceLT, Int.reduceLE, Int.reduceEq, Int.reduceToNat, Int.reduceBEq, Int.reduceAdd, Int.reduceSub, Int.reduceNeg, reduceCtorEq], by rw [hs1]; (repeat' split) <;> omega⟩ ?_ ?_
            · rintro m3 T3 H3' hK3 ⟨rfl, q, rfl, t13, hq⟩
              refine ACode.of_K _ ?_
              have t10 := hK3 10 rfl; have t11 := hK3 11 rfl
              simp (maxSteps := 5000000) (implicitDefEqProofs := false) only [go_sem, Nat.reduceLT, Nat.reduceBEq, Nat.reduceBNe, Nat.reduceAdd, Nat.reduceSub, Nat.reduceMul, Nat.reduceEqDiff, Nat.reduceLeDiff, Int.reduceLT, Int.reduceLE, Int.reduceEq, Int.reduceToNat, Int.reduceBEq, Int.reduceAdd, Int.reduceSub, Int.reduceNeg, reduceCtorEq] at t10 t11
              simp (contextual := true) (maxSteps := 5000000) (implicitDefEqProofs := false) only [go_sem, Nat.reduceLT, Nat.reduceBEq, Nat.reduceBNe, Nat.reduceAdd, Nat.reduceSub, Nat.reduceMul, Nat.reduceEqDiff, Nat.reduceLeDiff, Int.reduceLT, Int.reduceLE, Int.reduceEq, Int.reduceToNat, Int.reduceBEq, Int.reduceAdd, Int.reduceSub, Int.reduceNeg, reduceCtorEq, t13, t10, t11, Keep_T hK3]
              refine ⟨fun g1 => ⟨fun g2 => callK_same (SimpleFold_ok E hE _ q (by omega)) ?_, fun g2 => ⟨q, rfl, hfin q hq (by omega)⟩⟩, fun g1 => by subst g1; exact ⟨_, rfl, hfin _ hq (.inl rfl)⟩⟩
              simp (maxSteps := 5000000) (implicitDefEqProofs := false) only [go_sem, Nat.reduceLT, Nat.reduceBEq, Nat.reduceBNe, Nat.reduceAdd, Nat.reduceSub, Nat.reduceMul, Nat.reduceEqDiff, Nat.reduceLeDiff, Int.reduceLT, Int.reduceLE, Int.reduceEq, Int.reduceToNat, Int.reduceBEq, Int.reduceAdd, Int.reduceSub, Int.reduceNeg, reduceCtorEq, t13, t10, t11, Keep_T hK3]
              rcases hq with ⟨hq, -⟩ | ⟨hq, hq2, hq3⟩ | ⟨hq, hq2⟩
              · exact absurd hq g1
              · have := hs2 hq2
                rw [← hq] at this
                exact ⟨_, by rw [this, if_pos rfl, if_pos hq]; omega, sfold q, rfl, rfl, by rw [this]; omega⟩
              · rcases hq2 with rfl | ⟨rfl, hq3⟩
                · have : sfold 383 = 83 := rfl
                  exact ⟨_, by rw [this, hq]; decide, sfold 383, rfl, rfl, by rw [this]; omega⟩
                · have : sfold 83 = 115 := rfl
                  exact ⟨_, by rw [this, hq]; decide, sfold 83, rfl, rfl, by rw [this]; omega⟩
            · rintro T3 H3' hK3 ⟨rfl, q, t13, hq⟩
              have t11 := hK3 11 rfl
              simp (maxSteps := 5000000) (implicitDefEqProofs := false) only [go_sem, Nat.reduceLT, Nat.reduceBEq, Nat.reduceBNe, Nat.reduceAdd, Nat.reduceSub, Nat.reduceMul, Nat.reduceEqDiff, Nat.reduceLeDiff, Int.reduceLT, Int.reduceLE, Int.reduceEq, Int.reduceToNat, Int.reduceBEq, Int.reduceAdd, Int.reduceSub, Int.reduceNeg, reduceCtorEq] at t11
              have hK4 := Keep.after hK hK3 rfl (by simp (maxSteps := 5000000) (implicitDefEqProofs := false) only [go_sem, Nat.reduceLT, Nat.reduceBEq, Nat.reduceBNe, Nat.reduceAdd, Nat.reduceSub, Nat.reduceMul, Nat.reduceEqDiff, Nat.reduceLeDiff, Int.reduceLT, Int.reduceLE, Int.reduceEq, Int.reduceToNat, Int.reduceBEq, Int.reduceAdd, Int.reduceSub, Int.reduceNeg, reduceCtorEq])
              have t1 := hK3 1 rfl
              simp (maxSteps := 5000000) (implicitDefEqProofs := false) only [go_sem, Nat.reduceLT, Nat.reduceBEq, Nat.reduceBNe, Nat.reduceAdd, Nat.reduceSub, Nat.reduceMul, Nat.reduceEqDiff, Nat.reduceLeDiff, Int.reduceLT, Int.reduceLE, Int.reduceEq, Int.reduceToNat, Int.reduceBEq, Int.reduceAdd, Int.reduceSub, Int.reduceNeg, reduceCtorEq] at t1
              simp (maxSteps := 5000000) (implicitDefEqProofs := false) only [go_sem, Nat.reduceLT, Nat.reduceBEq, Nat.reduceBNe, Nat.reduceAdd, Nat.reduceSub, Nat.reduceMul, Nat.reduceEqDiff, Nat.reduceLeDiff, Int.reduceLT, Int.reduceLE, Int.reduceEq, Int.reduceToNat, Int.reduceBEq, Int.reduceAdd, Int.reduceSub, Int.reduceNeg, reduceCtorEq, t13, t11, t1, Keep_T hK4]
              exact ⟨fun h => hcont (hq.1 h), fun h => ⟨hstop (Bool.eq_false_iff.2 fun hx => h (hq.2 hx)), hx1⟩⟩
          · repeat' (first | apply And.intro | intro _)
            all_goals first
              | exact hx1
              | exact hcont (by unfold efR; rw [if_pos (by omega)]; unfold efI; simp; omega)
              | exact hstop (by unfold efR; rw [if_pos (by omega)]; unfold efI; simp; omega)
          · omega
      · have hnil := runesFrom_nil (m := m) hlt
        rw [hnil, efU] at hg
        simp (maxSteps := 5000000) (implicitDefEqProofs := false) only [go_sem, Nat.reduceLT, Nat.reduceBEq, Nat.reduceBNe, Nat.reduceAdd, Nat.reduceSub, Nat.reduceMul, Nat.reduceEqDiff, Nat.reduceLeDiff, Int.reduceLT, Int.reduceLE, Int.reduceEq, Int.reduceToNat, Int.reduceBEq, Int.reduceAdd, Int.reduceSub, Int.reduceNeg, reduceCtorEq, u67, anext_f hit hlt, Keep_T hK]
        exact ⟨u, u1, hext, hg⟩
    · rintro T2 H2 hK ⟨u, u1, hext, hg⟩
      simp (maxSteps := 5000000) (implicitDefEqProofs := false) only [go_sem, Nat.reduceLT, Nat.reduceBEq, Nat.reduceBNe, Nat.reduceAdd, Nat.reduceSub, Nat.reduceMul, Nat.reduceEqDiff, Nat.reduceLeDiff, Int.reduceLT, Int.reduceLE, Int.reduceEq, Int.reduceToNat, Int.reduceBEq, Int.reduceAdd, Int.reduceSub, Int.reduceNeg, reduceCtorEq, u1]
      refine ⟨?_, hext⟩
      rw [hg]
      cases u <;> simp; omega
end Go.AL
