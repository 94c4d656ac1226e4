/- The rules for code: what a piece of code does to an abstract state. -/
import Derived.Test.YtodjcocapdjomaaDoorAlA
import Derived.LoopTactic
namespace Go.AL
open Go Go.RowKit
set_option linter.unusedVariables false
set_option linter.unusedSimpArgs false

abbrev Post := Exit → (Nat → AV) → AHeap → Prop

/-- Some abstract state behind it fits the world, and Q holds of it. -/
def APost (E : World → Prop) (P : Program) (w0 : World) (κ0 : Nat → Loc) (n0 N : Nat) (Q : Post) (e : Exit) (a : Act) (w : World) : Prop :=
  ∃ κ T H, St E P w0 κ0 n0 κ H w ∧ TR κ H.length N T a ∧ Q e T H

def ACode (E : World → Prop) (P : Program) (N : Nat) (c : Code) (Q : Post) (T : Nat → AV) (H : AHeap) : Prop :=
  ∀ w0 κ0 n0 κ a w, St E P w0 κ0 n0 κ H w → TR κ H.length N T a → c.wp P (APost E P w0 κ0 n0 N Q) a w

def AOps (E : World → Prop) (P : Program) (N : Nat) (ops : Array Oper) (Q : Post) (rest : List Oper) (T : Nat → AV) (H : AHeap) : Prop :=
  ∀ w0 κ0 n0 κ a w, St E P w0 κ0 n0 κ H w → TR κ H.length N T a → wpList P ops (APost E P w0 κ0 n0 N Q) rest a w

/-- Function f has a body, and is no door of the runtime's. -/
def Enters (P : Program) (f : FuncId) : Prop := ∃ fn, P.funcs[f]? = some fn ∧ fn.body.isSome = true ∧ (fn.name == "runtime.NumGoroutine") = false

/-- A call: R of the result and the heap behind it. -/
def ACalls (E : World → Prop) (P : Program) (f : FuncId) (args : List AV) (H : AHeap) (R : AV → AHeap → Prop) : Prop :=
  Enters P f ∧ ∀ w0 κ0 n0 κ vs w, St E P w0 κ0 n0 κ H w → VRs κ H.length args vs → Calls P f vs.toArray w fun e w' =>
    ∃ v κ' r H', e = .returned v ∧ St E P w0 κ0 n0 κ' H' w' ∧ VR κ' H'.length r v ∧ R r H'

section
variable {E : World → Prop} {P : Program} {N : Nat} {Q Q' : Post} {T : Nat → AV} {H : AHeap}

theorem APost.mono {w0 : World} {κ0 : Nat → Loc} {n0 : Nat} {e : Exit} {a : Act} {w : World} (h : APost E P w0 κ0 n0 N Q e a w) (hq : ∀ T H, Q e T H → Q' e T H) : APost E P w0 κ0 n0 N Q' e a w := by
  obtain ⟨κ, T, H, h1, h2, h3⟩ := h
  exact ⟨κ, T, H, h1, h2, hq _ _ h3⟩
theorem ACode.mono {c : Code} (h : ACode E P N c Q T H) (hq : ∀ e T H, Q e T H → Q' e T H) : ACode E P N c Q' T H :=
  fun w0 κ0 n0 κ a w hs ht => wp_mono (h w0 κ0 n0 κ a w hs ht) fun e a w hp => hp.mono (hq e)
theorem ACalls.mono {f : FuncId} {args : List AV} {R R' : AV → AHeap → Prop} (h : ACalls E P f args H R) (hr : ∀ r H', R r H' → R' r H') : ACalls E P f args H R' :=
  ⟨h.1, fun w0 κ0 n0 κ vs w hs hv => (h.2 w0 κ0 n0 κ vs w hs hv).mono fun e w' ⟨v, κ', r, H', h1, h2, h3, h4⟩ => ⟨v, κ', r, H', h1, h2, h3, hr _ _ h4⟩⟩

def onNormal (K : (Nat → AV) → AHeap → Prop) (Q : Post) : Post
  | .normal, T, H => K T H
  | e, T, H => Q e T H
def onExit (id : Nat) (Q : Post) : Post
  | .exit id', T, H => if id' = id then Q .normal T H else Q (.exit id') T H
  | e, T, H => Q e T H

theorem ACode.skip (h : Q .normal T H) : ACode E P N .skip Q T H := fun w0 κ0 n0 κ a w hs ht => wp_skip ⟨κ, T, H, hs, ht, h⟩
theorem ACode.ret (h : Q .ret T H) : ACode E P N .ret Q T H := fun w0 κ0 n0 κ a w hs ht => wp_ret ⟨κ, T, H, hs, ht, h⟩
theorem ACode.exit {id : Nat} (h : Q (.exit id) T H) : ACode E P N (.exit id) Q T H := fun w0 κ0 n0 κ a w hs ht => wp_exit ⟨κ, T, H, hs, ht, h⟩
theorem ACode.label {l : Nat} (h : Q .normal T H) : ACode E P N (.label l) Q T H := fun w0 κ0 n0 κ a w hs ht => wp_label ⟨κ, T, H, hs, ht, h⟩
theorem ACode.goto {l : Nat} (h : Q (.goto l) T H) : ACode E P N (.goto l) Q T H := fun w0 κ0 n0 κ a w hs ht => wp_goto ⟨κ, T, H, hs, ht, h⟩
theorem ACode.seq {x y : Code} (h : ACode E P N x (onNormal (ACode E P N y Q) Q) T H) : ACode E P N (.seq x y) Q T H := by
  intro w0 κ0 n0 κ a w hs ht
  refine wp_seq (wp_mono (h w0 κ0 n0 κ a w hs ht) fun e a w hp => ?_)
  obtain ⟨κ', T', H', h1, h2, h3⟩ := hp
  cases e with
  | normal => exact h3 w0 κ0 n0 κ' a w h1 h2
  | _ => exact ⟨κ', T', H', h1, h2, h3⟩
theorem ACode.block {id : Nat} {c : Code} (h : ACode E P N c (onExit id Q) T H) : ACode E P N (.block id c) Q T H := by
  intro w0 κ0 n0 κ a w hs ht
  refine wp_block (wp_mono (h w0 κ0 n0 κ a w hs ht) fun e a w hp => ?_)
  obtain ⟨κ', T', H', h1, h2, h3⟩ := hp
  cases e with
  | exit id' =>
    simp only [onExit] at h3
    simp only [Exit.inBlock]
    split at h3
    · rename_i he; rw [if_pos he]; exact ⟨κ', T', H', h1, h2, h3⟩
    · rename_i he; rw [if_neg he]; exact ⟨κ', T', H', h1, h2, h3⟩
  | _ => exact ⟨κ', T', H', h1, h2, h3⟩
theorem ACode.cond {c : Operand} {x y : Code} (b : Bool) (hc : opnd T c = .bool b) (hx : b = true → ACode E P N x Q T H) (hy : b = false → ACode E P N y Q T H) : ACode E P N (.cond c x y) Q T H := by
  intro w0 κ0 n0 κ a w hs ht
  have hv := vr_opnd ht c
  rw [hc] at hv
  have he : a.eval c = .bool b := by generalize a.eval c = z at hv; cases hv; rfl
  refine wp_cond_split he (fun h => hx h w0 κ0 n0 κ a w hs ht) (fun h => hy h w0 κ0 n0 κ a w hs ht)

/-- wp_loop, the relation with a number beside it. -/
theorem wp_loop_n {c : Code} {Q : Exit → Act → World → Prop} (I : Nat → Act → World → Prop)
    (round : ∀ n a w, I n a w → c.wp P (Exit.then (fun a' w' => ∃ m, m < n ∧ I m a' w') Q) a w) : ∀ (n : Nat) (a : Act) (w : World), I n a w → (Code.loop c).wp P Q a w := by
  intro n0 a0 w0 h0 b k cs
  have key : ∀ n a w, I n a w →
      ∃ e a' w', Q e a' w' ∧ Arrives P (lone (b.at a (.code c :: .inLoop c :: k)) cs w) b k cs e a' w' := by
    intro n
    induction n using Nat.strongRecOn with
    | _ n ih =>
      intro a w hI
      obtain ⟨e, a₁, w₁, hq, harr⟩ := round n a w hI b (.inLoop c :: k) cs
      cases e with
      | normal =>
        obtain ⟨m, hm, hI₁⟩ := hq
        obtain ⟨e₂, a₂, w₂, hq₂, harr₂⟩ := ih m hm a₁ w₁ hI₁
        exact ⟨e₂, a₂, w₂, hq₂, .of_steps (Steps.trans harr (.one step_inLoop)) harr₂⟩
      | exit id => exact ⟨_, a₁, w₁, hq, .pass (x := .inLoop c) rfl (fun _ _ => .inl (by simp)) harr⟩
      | goto l => exact ⟨_, a₁, w₁, hq, .pass (x := .inLoop c) rfl (fun _ _ => .inl (by simp)) harr⟩
      | ret => exact ⟨_, a₁, w₁, hq, .pass (x := .inLoop c) rfl (fun _ _ => .inl (by simp)) harr⟩
      | panic ch => exact ⟨_, a₁, w₁, hq, .pass (x := .inLoop c) rfl (fun _ _ => .inl (by simp)) harr⟩
      | outgrown => exact ⟨_, a₁, w₁, hq, .pass (x := .inLoop c) rfl (fun _ _ => .inl (by simp)) harr⟩
  obtain ⟨e, a', w', hq, harr⟩ := key _ a0 w0 h0
  exact ⟨e, a', w', hq, .of_steps (.one step_loop) harr⟩

/-- A loop: I tells the states at its head, with a number that falls. -/
theorem ACode.loop {c : Code} (I : Nat → (Nat → AV) → AHeap → Prop) (n : Nat) (h0 : I n T H)
    (round : ∀ n T H, I n T H → ACode E P N c (onNormal (fun T' H' => ∃ m, m < n ∧ I m T' H') Q) T H) : ACode E P N (.loop c) Q T H := by
  intro w0 κ0 n0 κ a w hs ht
  refine wp_loop_n (fun n a w => ∃ κ T H, St E P w0 κ0 n0 κ H w ∧ TR κ H.length N T a ∧ I n T H) ?_ n a w ⟨κ, T, H, hs, ht, h0⟩
  intro n a w ⟨κ, T, H, hs, ht, hI⟩
  refine wp_mono (round n T H hI w0 κ0 n0 κ a w hs ht) fun e a w hp => ?_
  obtain ⟨κ', T', H', h1, h2, h3⟩ := hp
  cases e with
  | normal =>
    obtain ⟨m, hm, hI'⟩ := h3
    exact ⟨m, hm, κ', T', H', h1, h2, hI'⟩
  | _ => exact ⟨κ', T', H', h1, h2, h3⟩

theorem ACode.region {id : Nat} {l : List Oper} (h : AOps E P N l.toArray Q l T H) : ACode E P N (.region id l.toArray false) Q T H :=
  fun w0 κ0 n0 κ a w hs ht => wp_region_lit (h w0 κ0 n0 κ a w hs ht)
theorem AOps.nil {ops : Array Oper} (h : Q .normal T H) : AOps E P N ops Q [] T H :=
  fun w0 κ0 n0 κ a w hs ht => wpList_nil ⟨κ, T, H, hs, ht, h⟩

/-- Whether an operation is carried out: its guard, by the temporaries. -/
def wants (ops : Array Oper) (T : Nat → AV) (o : Oper) : Option Bool :=
  match o.guard with
  | none => some true
  | some (j, want) => match (ops[j]?).bind (·.dst) with
    | some d => match T d with
      | .bool b => some (b == want)
      | .tuple [] => some false
      | _ => none
    | none => none
theorem wants_wanted {ops : Array Oper} {κ : Nat → Loc} {n : Nat} {a : Act} {o : Oper} {b : Bool} (ht : TR κ n N T a) (h : wants ops T o = some b) : Region.wanted o (yielded ops a.tmps) = b := by
  unfold wants at h
  unfold Region.wanted
  split at h
  · rename_i hg; rw [hg]; simpa using h
  · rename_i j want hg
    rw [hg]
    split at h
    · rename_i d hj
      split at h
      · rename_i b' hb
        have hv := ht.val d
        rw [hb] at hv
        have hget : a.tmps[d]? = some (.bool b') := by
          rw [Array.getD_eq_getD_getElem?] at hv
          cases hz : a.tmps[d]? with
          | none => rw [hz] at hv; simp [undef] at hv; cases hv
          | some z => rw [hz] at hv; simp at hv; cases hv; rfl
        have hy : yielded ops a.tmps j = some b' := by
          unfold yielded
          rw [hj]
          simp [hget]
        show (yielded ops a.tmps j == some want) = b
        rw [hy]
        simp at h
        simp [← h]
      · rename_i hb
        have hv := ht.val d
        rw [hb] at hv
        have hget : a.tmps.getD d undef = .tuple #[] := by
          generalize a.tmps.getD d undef = z at hv
          cases hv with
          | tuple _ vs h1 h2 =>
            have : vs = [] := List.eq_nil_of_length_eq_zero (by simpa using h1.symm)
            rw [this]
        have hy : yielded ops a.tmps j = none := by
          unfold yielded
          rw [hj]
          simp only [Option.bind_some]
          cases hz : a.tmps[d]? with
          | none => rfl
          | some z =>
            rw [Array.getD_eq_getD_getElem?, hz] at hget
            simp at hget
            rw [hget]
        show (yielded ops a.tmps j == some want) = b
        rw [hy]
        simp at h
        simp [← h]
      · cases h
    · cases h

/-- One operation: what it does is told by its run. -/
theorem AOps.cons {ops : Array Oper} {o : Oper} {rest : List Oper} (hw : wants ops T o = some true)
    (h : ∀ w0 κ0 n0 κ a w, St E P w0 κ0 n0 κ H w → TR κ H.length N T a → o.wp P a w (fun a' w' => ∃ κ' T' H', St E P w0 κ0 n0 κ' H' w' ∧ TR κ' H'.length N T' a' ∧ AOps E P N ops Q rest T' H') (APost E P w0 κ0 n0 N Q)) :
    AOps E P N ops Q (o :: rest) T H := by
  intro w0 κ0 n0 κ a w hs ht
  refine wpList_step fun K hK => ?_
  rw [if_pos (wants_wanted ht hw)]
  have := h w0 κ0 n0 κ a w hs ht
  unfold Oper.wp Oper.upon at *
  split at this
  all_goals first
    | exact this.elim
    | (obtain ⟨κ', T', H', h1, h2, h3⟩ := this; exact hK _ _ (h3 w0 κ0 n0 κ' _ _ h1 h2))
    | (refine Calls.mono this fun e w' he => ?_
       cases e with
       | returned v => obtain ⟨κ', T', H', h1, h2, h3⟩ := he; exact hK _ _ (h3 w0 κ0 n0 κ' _ _ h1 h2)
       | panicked c => exact he
       | outgrown => exact he)
    | (refine Rows.mono this fun v w' he => ?_
       obtain ⟨κ', T', H', h1, h2, h3⟩ := he; exact hK _ _ (h3 w0 κ0 n0 κ' _ _ h1 h2))
    | exact this
theorem AOps.skip {ops : Array Oper} {o : Oper} {rest : List Oper} (hw : wants ops T o = some false)
    (h : AOps E P N ops Q rest (upd N T o.dst (.tuple [])) H) : AOps E P N ops Q (o :: rest) T H := by
  intro w0 κ0 n0 κ a w hs ht
  refine wpList_step fun K hK => ?_
  rw [wants_wanted ht hw]
  exact hK _ _ (h w0 κ0 n0 κ _ _ hs (ht.put o.dst (vr_nix _ _)))
end
end Go.AL
