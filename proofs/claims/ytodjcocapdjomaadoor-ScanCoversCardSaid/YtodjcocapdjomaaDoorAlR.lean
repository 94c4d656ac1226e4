/- A scope with one jump ahead. -/
import Derived.Test.YtodjcocapdjomaaDoorAlQ
import Derived.ScopeJumps
namespace Go.AL
open Go Go.RowKit
set_option linter.unusedVariables false
section
variable {E : World → Prop} {P : Program} {N : Nat} {Q : Post} {T : Nat → AV} {H : AHeap}
/-- A jump to l ends in J; any other jump is none. -/
def onJump (l : Nat) (J : (Nat → AV) → AHeap → Prop) (Q : Post) : Post
  | .goto l', T, H => l' = l ∧ J T H
  | e, T, H => Q e T H
theorem ACode.scope {c rest : Code} (l : Nat) (J : (Nat → AV) → AHeap → Prop) (hf : findLabel c l = some rest) (first : ACode E P N c (onJump l J Q) T H)
    (pass : ∀ T H, J T H → ACode E P N rest (onJump l (fun _ _ => False) Q) T H) : ACode E P N (.scope c) Q T H := by
  intro w0 κ0 n0 κ a w hs ht
  refine wp_scope_jumps l (fun a w => ∃ κ T H, St E P w0 κ0 n0 κ H w ∧ TR κ H.length N T a ∧ J T H) (fun _ _ => 0) hf ?_ ?_
  · refine wp_mono (first w0 κ0 n0 κ a w hs ht) fun e a w hp => ?_
    obtain ⟨κ', T', H', h1, h2, h3⟩ := hp
    cases e with
    | goto l' =>
      obtain ⟨rfl, h3⟩ := h3
      simp only [Exit.jump]
      simp
      exact ⟨κ', T', H', h1, h2, h3⟩
    | _ => exact ⟨κ', T', H', h1, h2, h3⟩
  · rintro a w ⟨κ, T, H, hs, ht, hJ⟩
    refine wp_mono (pass T H hJ w0 κ0 n0 κ a w hs ht) fun e a w hp => ?_
    obtain ⟨κ', T', H', h1, h2, h3⟩ := hp
    cases e with
    | goto l' => exact h3.2.elim
    | _ => exact ⟨κ', T', H', h1, h2, h3⟩
end
end Go.AL
