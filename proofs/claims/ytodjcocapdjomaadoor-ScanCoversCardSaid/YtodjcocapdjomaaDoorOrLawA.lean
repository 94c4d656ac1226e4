/- ScanCovers: the tokens of a text, one behind the other: plain laws. -/
import Derived.Test.YtodjcocapdjomaaDoorOrScanG
namespace Go.AL
open Go Go.RowKit Go.Proofs
set_option linter.unusedVariables false
set_option linter.unusedSimpArgs false
set_option maxRecDepth 20000
set_option maxHeartbeats 2000000
theorem tL_prefix (s : List UInt8) : ∀ (m a : Nat) (acc : List Tok), acc <+: (tL s m a acc).1
  | 0, a, acc => List.prefix_refl _
  | m + 1, a, acc => by
    unfold tL
    split
    · exact List.prefix_refl _
    · split
      · exact List.prefix_append _ _
      · exact (List.prefix_append _ _).trans (tL_prefix s m _ _)
def CovInv (s : List UInt8) (i a : Nat) : Prop :=
  i ≤ (gAllT s).1.length ∧ a ≤ s.length ∧ ((∃ m, s.length + 1 ≤ a + m ∧ gAllT s = tL s m a ((gAllT s).1.take i)) ∨ (i = (gAllT s).1.length ∧ (gAllT s).2.2 = 0 ∧ a = (gAllT s).2.1 ∧ a = s.length))
theorem cov_end (s : List UInt8) (a : Nat) (h : CovInv s (gAllT s).1.length a) : a = (gAllT s).2.1 ∧ ((gAllT s).2.2 ≠ 0 ∨ a = s.length) := by
  obtain ⟨-, ha, h⟩ := h
  rcases h with ⟨m, hm, h⟩ | ⟨-, h1, h2, h3⟩
  · rw [List.take_length] at h
    generalize gAllT s = G at *
    obtain ⟨L, t, e⟩ := G
    obtain ⟨m, rfl⟩ : ∃ k, m = k + 1 := ⟨m - 1, by omega⟩
    simp only at h ⊢
    unfold tL at h
    split at h
    · rename_i he
      simp only [Prod.mk.injEq] at h
      obtain ⟨-, rfl, rfl⟩ := h
      exact ⟨rfl, .inl he⟩
    · split at h
      · have := congrArg (fun x => x.1.length) h
        simp at this
      · have := (tL_prefix s m (gNextT s a false).2.1.toNat (L ++ [(gNextT s a false).1])).length_le
        rw [← h] at this
        simp at this
        omega
  · exact ⟨h2, .inr h3⟩
theorem cov_step (s : List UInt8) (i a : Nat) (h : CovInv s i a) (hi : i < (gAllT s).1.length) :
    (gNextT s a false).2.2 = 0 ∧ (gAllT s).1[i]? = some (gNextT s a false).1 ∧ (a : Int) ≤ (gNextT s a false).2.1 ∧ (gNextT s a false).2.1 ≤ s.length ∧ ((gNextT s a false).2.1 = a ↔ (gNextT s a false).1.1 = 6) ∧
      ((gNextT s a false).1.1 = 6 ↔ (i + 1 = (gAllT s).1.length ∧ (gAllT s).2.2 = 0)) ∧ CovInv s (i + 1) (gNextT s a false).2.1.toNat := by
  obtain ⟨-, ha, h⟩ := h
  rcases h with ⟨m, hm, h⟩ | ⟨h0, -⟩
  · have hr := gNextT_rng s a ha
    have hG : ∀ x y, CovInv s x y ↔ (x ≤ (gAllT s).1.length ∧ y ≤ s.length ∧ ((∃ m, s.length + 1 ≤ y + m ∧ gAllT s = tL s m y ((gAllT s).1.take x)) ∨ (x = (gAllT s).1.length ∧ (gAllT s).2.2 = 0 ∧ y = (gAllT s).2.1 ∧ y = s.length))) := fun x y => Iff.rfl
    rw [hG]
    generalize gAllT s = G at *
    obtain ⟨L, t, e⟩ := G
    obtain ⟨m, rfl⟩ : ∃ k, m = k + 1 := ⟨m - 1, by omega⟩
    simp only at h hi ⊢
    have hlen : (L.take i).length = i := by rw [List.length_take]; omega
    unfold tL at h
    generalize hx : gNextT s a false = x at *
    obtain ⟨tk, n, f⟩ := x
    simp only at h hr ⊢
    split at h
    · have := congrArg (fun x => x.1.length) h
      simp only [hlen] at this
      omega
    · rename_i he
      have he : f = 0 := by simpa using he
      have hr := hr he
      split at h
      · rename_i h6
        simp only [Prod.mk.injEq] at h
        obtain ⟨hL, rfl, rfl⟩ := h
        have hl := congrArg List.length hL
        rw [List.length_append, hlen, List.length_singleton] at hl
        have hget : L[i]? = some tk := by
          rw [hL, List.getElem?_append_right (by omega), hlen, Nat.sub_self]; rfl
        rcases hr with ⟨r1, r2, r3⟩ | ⟨r1, r2, r3, r4⟩
        · refine ⟨he, hget, by omega, by omega, ⟨fun _ => h6, fun _ => r3⟩, ⟨fun _ => ⟨by omega, rfl⟩, fun _ => h6⟩, by omega, by omega, .inr ⟨by omega, rfl, by omega, by omega⟩⟩
        · exact absurd h6 r2
      · rename_i h6
        have hp := tL_prefix s m n.toNat (L.take i ++ [tk])
        rw [← h] at hp
        simp only at hp
        have hpl := hp.length_le
        rw [List.length_append, hlen, List.length_singleton] at hpl
        have htake : L.take (i + 1) = L.take i ++ [tk] := by
          have := List.prefix_iff_eq_take.1 hp
          rw [List.length_append, hlen, List.length_singleton] at this
          exact this.symm
        have hget : L[i]? = some tk := by
          have := congrArg (fun l => l[i]?) htake
          simp only [List.getElem?_take] at this
          rw [if_pos (by omega), List.getElem?_append_right (by omega), hlen, Nat.sub_self] at this
          exact this
        rcases hr with ⟨r1, r2, r3⟩ | ⟨r1, r2, r3, r4⟩
        · exact absurd r2 h6
        · have hnm : s.length + 1 ≤ n.toNat + m := by omega
          refine ⟨he, hget, by omega, by omega, ⟨fun h => by omega, fun h => absurd h h6⟩, ⟨fun h => absurd h h6, fun ⟨q1, q2⟩ => ?_⟩, by omega, by omega, .inl ⟨m, hnm, by rw [htake]; exact h⟩⟩
          exfalso
          rw [← htake, q1, List.take_length] at h
          obtain ⟨m, rfl⟩ : ∃ k, m = k + 1 := ⟨m - 1, by omega⟩
          unfold tL at h
          split at h
          · rename_i hne
            simp only [Prod.mk.injEq] at h
            exact hne (h.2.2 ▸ q2)
          · split at h
            · have := congrArg (fun x => x.1.length) h
              simp at this
            · have := (tL_prefix s m (gNextT s n.toNat false).2.1.toNat (L ++ [(gNextT s n.toNat false).1])).length_le
              rw [← h] at this
              simp at this
              omega
  · omega
def awS : List UInt8 := [60, 97, 32, 120, 61, 39, 62, 39, 47, 62, 98]
def awD : List UInt8 := [60, 33, 68, 79, 67, 84, 89, 80, 69, 32, 97, 62]
theorem aw_all : gAllT awS = ([(1, [97, 32, 120, 61, 39, 62, 39], true, false), (3, [98], false, false), (6, [], false, false)], 11, 0) := by decide +kernel
theorem aw_more : (gNextT [98] 0 true).2.2 = 7 := by decide +kernel
theorem aw_not : (gNextT awD 0 false).2.2 = 12 := by decide +kernel
end Go.AL
