/- Loops: what the body doesn't write stays. -/
import Derived.Test.YtodjcocapdjomaaDoorAlR
namespace Go.AL
open Go Go.RowKit
set_option linter.unusedVariables false
set_option linter.unusedSimpArgs false
/-- i lies in one of some ranges -/
def inR : List (Nat × Nat) → Nat → Bool
  | [], _ => false
  | (a, b) :: r, i => (decide (a ≤ i) && decide (i ≤ b)) || inR r i
theorem inR_nil (i : Nat) : inR [] i = false := rfl
theorem inR_cons (a b : Nat) (r : List (Nat × Nat)) (i : Nat) : inR ((a, b) :: r) i = ((decide (a ≤ i) && decide (i ≤ b)) || inR r i) := rfl
/-- The slots that aren't among W are as they were. -/
def Keep (W : List (Nat × Nat)) (T0 T : Nat → AV) : Prop := ∀ i, inR W i = false → T i = T0 i
theorem Keep.refl (W : List (Nat × Nat)) (T : Nat → AV) : Keep W T T := fun _ _ => rfl
theorem Keep.get {W : List (Nat × Nat)} {T0 T : Nat → AV} (h : Keep W T0 T) (i : Nat) (hi : inR W i = false) : T i = T0 i := h i hi
theorem Keep_upd (W : List (Nat × Nat)) (N : Nat) (T0 T : Nat → AV) (d : Nat) (v : AV) (h : inR W d = true) : Keep W T0 (upd N T (some d) v) = Keep W T0 T := by
  have key : ∀ i, inR W i = false → upd N T (some d) v i = T i := fun i hi => by
    have : ¬ (some d = some i ∧ i < N) := by rintro ⟨e, -⟩; cases e; rw [h] at hi; cases hi
    simp only [upd]; rw [if_neg this]
  exact propext ⟨fun k i hi => (key i hi).symm.trans (k i hi), fun k i hi => (key i hi).trans (k i hi)⟩
theorem Keep_updG (W : List (Nat × Nat)) (N : Nat) (T0 T : Nat → AV) (d : Nat) (b : Bool) (h : inR W d = true) : Keep W T0 (updG N T d b) = Keep W T0 T := Keep_upd W N T0 T d _ h
theorem Keep_self (W : List (Nat × Nat)) (T : Nat → AV) : Keep W T T = True := eq_true (Keep.refl W T)
theorem Keep_T {W : List (Nat × Nat)} {T0 T : Nat → AV} (h : Keep W T0 T) : Keep W T0 T = True := eq_true h
/-- each range of the first lies in one of the second -/
def subR (W' W : List (Nat × Nat)) : Bool := W'.all fun p => W.any fun q => decide (q.1 ≤ p.1) && decide (p.2 ≤ q.2)
theorem inR_sub {W' W : List (Nat × Nat)} (h : subR W' W = true) (i : Nat) (hi : inR W i = false) : inR W' i = false := by
  have key : ∀ (W : List (Nat × Nat)), inR W i = W.any fun p => decide (p.1 ≤ i) && decide (i ≤ p.2) := by
    intro W
    induction W with
    | nil => rfl
    | cons p r ih => obtain ⟨a, b⟩ := p; simp only [inR, List.any_cons, ih]
  rw [key] at hi ⊢
  rw [List.any_eq_false] at hi ⊢
  intro p hp hc
  simp only [Bool.and_eq_true, decide_eq_true_eq] at hc
  obtain ⟨q, hq, hb⟩ := List.any_eq_true.1 (List.all_eq_true.1 h p hp)
  simp only [Bool.and_eq_true, decide_eq_true_eq] at hb
  exact hi q hq (by simp; omega)
/-- behind an inner loop -/
theorem Keep.after {W W' : List (Nat × Nat)} {T0 T1 T2 T3 : Nat → AV} (h : Keep W T0 T1) (h' : Keep W' T2 T3) (hs : subR W' W = true) (h12 : Keep W T1 T2) : Keep W T0 T3 :=
  fun i hi => (h' i (inR_sub hs i hi)).trans ((h12 i hi).trans (h i hi))
section
variable {E : World → Prop} {P : Program} {N : Nat} {Q : Post} {T : Nat → AV} {H : AHeap} {c : Code}
theorem ACode.loopW (W : List (Nat × Nat)) (I : Nat → (Nat → AV) → AHeap → Prop) (n : Nat) (h0 : I n T H)
    (round : ∀ n T' H', Keep W T T' → I n T' H' → ACode E P N c (onNormal (fun T2 H2 => Keep W T T2 ∧ ∃ m, m < n ∧ I m T2 H2) Q) T' H') : ACode E P N (.loop c) Q T H := by
  refine ACode.loop (fun n T' H' => Keep W T T' ∧ I n T' H') n ⟨Keep.refl _ _, h0⟩ fun n T' H' h => ?_
  refine (round n T' H' h.1 h.2).mono fun e T2 H2 hq => ?_
  cases e with
  | normal => obtain ⟨hk, m, hm, hi⟩ := hq; exact ⟨m, hm, hk, hi⟩
  | _ => exact hq
/-- A loop within a block that code follows: M holds there. -/
theorem ACode.loopWX {id : Nat} {K : (Nat → AV) → AHeap → Prop} (W : List (Nat × Nat)) (I : Nat → (Nat → AV) → AHeap → Prop) (M : (Nat → AV) → AHeap → Prop) (n : Nat) (h0 : I n T H)
    (round : ∀ n T' H', Keep W T T' → I n T' H' → ACode E P N c (onNormal (fun T2 H2 => Keep W T T2 ∧ ∃ m, m < n ∧ I m T2 H2) (onExit id (onNormal (fun T2 H2 => Keep W T T2 ∧ M T2 H2) Q))) T' H')
    (hM : ∀ T2 H2, Keep W T T2 → M T2 H2 → K T2 H2) : ACode E P N (.loop c) (onExit id (onNormal K Q)) T H := by
  refine ACode.loopX (fun n T' H' => Keep W T T' ∧ I n T' H') (fun T2 H2 => Keep W T T2 ∧ M T2 H2) n ⟨Keep.refl _ _, h0⟩ (fun n T' H' h => ?_) (fun T2 H2 h => hM T2 H2 h.1 h.2)
  refine (round n T' H' h.1 h.2).mono fun e T2 H2 hq => ?_
  cases e with
  | normal => obtain ⟨hk, m, hm, hi⟩ := hq; exact ⟨m, hm, hk, hi⟩
  | _ => exact hq
end
theorem onJump_n (l : Nat) (J : (Nat → AV) → AHeap → Prop) (Q : Post) (T : Nat → AV) (H : AHeap) : onJump l J Q .normal T H = Q .normal T H := rfl
theorem onJump_r (l : Nat) (J : (Nat → AV) → AHeap → Prop) (Q : Post) (T : Nat → AV) (H : AHeap) : onJump l J Q .ret T H = Q .ret T H := rfl
theorem onJump_e (l id : Nat) (J : (Nat → AV) → AHeap → Prop) (Q : Post) (T : Nat → AV) (H : AHeap) : onJump l J Q (.exit id) T H = Q (.exit id) T H := rfl
theorem onJump_g (l l' : Nat) (J : (Nat → AV) → AHeap → Prop) (Q : Post) (T : Nat → AV) (H : AHeap) : onJump l J Q (.goto l') T H = (l' = l ∧ J T H) := rfl
attribute [go_sem] Keep_upd Keep_updG Keep_self inR_nil inR_cons
attribute [go_sem ↓] onJump_n onJump_r onJump_e onJump_g
theorem wrap_ids (n : Int) (h : -9223372036854775808 ≤ n) (h' : n ≤ 9223372036854775807) : IntKind.i64.wrap n = n := by
  simp [IntKind.wrap, IntKind.bits, IntKind.signed]; omega
theorem wrap_nat (n : Nat) (h : n ≤ 9223372036854775807) : IntKind.i64.wrap (n : Int) = n := wrap_ids _ (by omega) (by omega)
theorem wrap_add (n k : Nat) (h : n + k ≤ 9223372036854775807) : IntKind.i64.wrap ((n : Int) + (k : Int)) = ((n + k : Nat) : Int) := by rw [wrap_ids _ (by omega) (by omega)]; rfl
theorem wrap_add1 (n : Nat) (h : n + 1 ≤ 9223372036854775807) : IntKind.i64.wrap ((n : Int) + 1) = ((n + 1 : Nat) : Int) := wrap_add n 1 h
theorem wrap_sub (n k : Nat) (h : n ≤ 9223372036854775807) (hk : k ≤ n) : IntKind.i64.wrap ((n : Int) - (k : Int)) = ((n - k : Nat) : Int) := by rw [wrap_ids _ (by omega) (by omega)]; omega
theorem wrap_sub1 (n : Nat) (h : n ≤ 9223372036854775807) (hk : 1 ≤ n) : IntKind.i64.wrap ((n : Int) - 1) = ((n - 1 : Nat) : Int) := wrap_sub n 1 h hk
end Go.AL
