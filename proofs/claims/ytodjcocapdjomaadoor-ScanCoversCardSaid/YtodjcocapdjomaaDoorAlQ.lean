/- Contracts of the library's functions, as they stand on the kit's shelf, made contracts over the abstract heap. -/
import Derived.Test.YtodjcocapdjomaaDoorAlP
import Derived.Deep.Draws
namespace Go.AL
open Go Go.RowKit
set_option linter.unusedVariables false
section
variable {E : World → Prop} {P : Program} {H : AHeap}
/-- The values that plain abstract values stand for. -/
theorem ACalls.of_calls {f : FuncId} {args : List AV} {us : List Value} {v : AV} {u : Value} (he : Enters P f) (hargs : ∀ (κ : Nat → Loc) (n : Nat) (vs : List Value), VRs κ n args vs → vs = us)
    (h : ∀ w0 w, E w0 → Below w0.heap.size w0 w → Calls P f us.toArray w fun e w' => e = .returned u ∧ Below w.heap.size w w') (hv : ∀ (κ : Nat → Loc) (n : Nat), VR κ n v u) :
    ACalls E P f args H (fun r H' => r = v ∧ H' = H) := by
  refine ⟨he, fun w0 κ0 n0 κ vs w hs hvs => ?_⟩
  have := hargs _ _ _ hvs
  subst this
  refine (h w0 w hs.env hs.below).mono ?_
  rintro e w' ⟨rfl, hb⟩
  exact ⟨u, κ, v, H, rfl, hs.step_below hb, hv _ _, rfl, rfl⟩
theorem below_drewN (w : World) (n : Nat) : Below w.heap.size w (w.drewN n) := ⟨rfl, rfl, rfl, Nat.le_refl _, fun _ _ => rfl⟩
theorem vrs_str1 {κ : Nat → Loc} {n : Nat} {s : List UInt8} {vs : List Value} (h : VRs κ n [.str s] vs) : vs = [.string ⟨s.toArray⟩] := by
  obtain ⟨h1, h2⟩ := h
  match vs, h1 with
  | [x], _ =>
    have := h2 0 _ _ rfl rfl
    cases this
    rfl
theorem vrs_str2 {κ : Nat → Loc} {n : Nat} {s t : List UInt8} {vs : List Value} (h : VRs κ n [.str s, .str t] vs) : vs = [.string ⟨s.toArray⟩, .string ⟨t.toArray⟩] := by
  obtain ⟨h1, h2⟩ := h
  match vs, h1 with
  | [x, y], _ =>
    have hx := h2 0 _ _ rfl rfl
    have hy := h2 1 _ _ rfl rfl
    cases hx
    cases hy
    rfl
theorem callK_same {g : FuncId} {args : List AV} {x : AV} {K : AV → AHeap → Prop} (h : ACalls E P g args H fun v H' => v = x ∧ H' = H) (hk : K x H) : callK E P (.func g [] []) args H K :=
  callK_of h fun r H' ⟨e, e'⟩ => by subst e; subst e'; exact hk
end
end Go.AL
