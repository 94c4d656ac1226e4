/- A region reckoned at one go; the heap's laws for the reckoning. -/
import Derived.Test.YtodjcocapdjomaaDoorAlI
namespace Go.AL
open Go Go.RowKit
set_option linter.unusedVariables false
set_option linter.unusedSimpArgs false

def dstAt (ops : Array Oper) (j : Nat) : Option Tmp := (ops[j]?).bind (·.dst)
/-- A slot whose truth is told. -/
def updG (N : Nat) (T : Nat → AV) (d : Nat) (b : Bool) : Nat → AV := upd N T (some d) (.bool b)
def gm (N : Nat) (T : Nat → AV) (d : Nat) (b : Bool) (A B : (Nat → AV) → Prop) : Prop := (b = true → A (updG N T d true)) ∧ (b = false → B (updG N T d false))
theorem updG_id (N : Nat) (T : Nat → AV) (d : Nat) (b : Bool) (h : T d = .bool b) : updG N T d b = T := by
  funext i
  simp only [updG, upd, Option.some.injEq]
  split
  · rename_i hi; rw [← hi.1, h]
  · rfl
theorem updG_eq (N : Nat) (T : Nat → AV) (d : Nat) (b : Bool) : updG N T d b = upd N T (some d) (.bool b) := rfl
theorem gm_true (N : Nat) (T : Nat → AV) (d : Nat) (A B : (Nat → AV) → Prop) : gm N T d true A B = A (updG N T d true) := by simp [gm]
theorem gm_false (N : Nat) (T : Nat → AV) (d : Nat) (A B : (Nat → AV) → Prop) : gm N T d false A B = B (updG N T d false) := by simp [gm]
theorem gm_eq (N : Nat) (T : Nat → AV) (d : Nat) (b : Bool) (A B : (Nat → AV) → Prop) : gm N T d b A B = ((b = true → A (updG N T d true)) ∧ (b = false → B (updG N T d false))) := rfl
theorem gm_of {N : Nat} {T : Nat → AV} {d : Nat} {b : Bool} {A B : (Nat → AV) → Prop} (hd : T d = .bool b) (h : gm N T d b A B) : (b = true → A T) ∧ (b = false → B T) := by
  refine ⟨fun e => ?_, fun e => ?_⟩
  · have := h.1 e; rwa [updG_id _ _ _ _ (by rw [hd, e])] at this
  · have := h.2 e; rwa [updG_id _ _ _ _ (by rw [hd, e])] at this

/-- One operation, carried out: at a call a contract is asked for. -/
def opK (E : World → Prop) (P : Program) (o : Oper) (T : Nat → AV) (H : AHeap) (K : AV → AHeap → Prop) : Prop :=
  match o.op with
  | .call { callee := .value f, args := args, argTypes := _ } => ∃ g fs cs R, opnd T f = .func g fs cs ∧ ACalls E P g (fs ++ args.toList.map (opnd T) ++ cs) H R ∧ ∀ r H', R r H' → K r H'
  | _ => match astep P o T H with
    | some (v, H') => K v H'
    | none => False
/-- A region, operation by operation: a guard that isn't decided parts the ways. -/
def OpsK (E : World → Prop) (P : Program) (N : Nat) (ops : Array Oper) (K : (Nat → AV) → AHeap → Prop) : List Oper → (Nat → AV) → AHeap → Prop
  | [], T, H => K T H
  | o :: rest, T, H => match o.guard with
    | none => opK E P o T H fun v H' => OpsK E P N ops K rest (upd N T o.dst v) H'
    | some g => match dstAt ops g.1 with
      | none => False
      | some d => match T d with
        | .bool b => gm N T d b (fun T => match g.2 with
            | true => opK E P o T H fun v H' => OpsK E P N ops K rest (upd N T o.dst v) H'
            | false => OpsK E P N ops K rest (upd N T o.dst (.tuple [])) H) (fun T => match g.2 with
            | false => opK E P o T H fun v H' => OpsK E P N ops K rest (upd N T o.dst v) H'
            | true => OpsK E P N ops K rest (upd N T o.dst (.tuple [])) H)
        | .tuple [] => OpsK E P N ops K rest (upd N T o.dst (.tuple [])) H
        | _ => False

section
variable {E : World → Prop} {P : Program} {N : Nat} {Q : Post} {T : Nat → AV} {H : AHeap} {ops : Array Oper} {o : Oper} {rest : List Oper}
theorem AOps.of_opK {K : AV → AHeap → Prop} (hw : wants ops T o = some true) (h : opK E P o T H K) (hk : ∀ v H', K v H' → AOps E P N ops Q rest (upd N T o.dst v) H') : AOps E P N ops Q (o :: rest) T H := by
  unfold opK at h
  split at h
  · rename_i f args ats ho
    obtain ⟨g, fs, cs, R, h1, h2, h3⟩ := h
    exact AOps.call hw ho h1 h2 (fun r H' hr => hk _ _ (h3 r H' hr))
  · split at h
    · rename_i v H' hst
      exact AOps.step hw hst (hk _ _ h)
    · exact h.elim
theorem wants_some {g : Nat × Bool} {d : Tmp} {b : Bool} (hg : o.guard = some g) (hd : dstAt ops g.1 = some d) (hb : T d = .bool b) : wants ops T o = some (b == g.2) := by
  unfold wants
  unfold dstAt at hd
  rw [hg]
  simp only [hd, hb]
theorem wants_nix {g : Nat × Bool} {d : Tmp} (hg : o.guard = some g) (hd : dstAt ops g.1 = some d) (hb : T d = .tuple []) : wants ops T o = some false := by
  unfold wants
  unfold dstAt at hd
  rw [hg]
  simp only [hd, hb]
theorem AOps.of_K : ∀ (rest : List Oper) (T : Nat → AV) (H : AHeap), OpsK E P N ops (Q .normal) rest T H → AOps E P N ops Q rest T H
  | [], T, H, h => AOps.nil h
  | o :: rest, T, H, h => by
    unfold OpsK at h
    split at h
    · rename_i hg
      exact AOps.of_opK (by simp [wants, hg]) h (fun v H' hk => AOps.of_K rest _ _ hk)
    · rename_i g hg
      split at h
      · exact h.elim
      · rename_i d hd
        split at h
        · rename_i b hb
          have hw := wants_some hg hd hb
          obtain ⟨h1, h2⟩ := gm_of hb h
          cases b with
          | true =>
            have h1 := h1 rfl
            cases hg2 : g.2 with
            | true => rw [hg2] at h1 hw; exact AOps.of_opK hw h1 (fun v H' hk => AOps.of_K rest _ _ hk)
            | false => rw [hg2] at h1 hw; exact AOps.skip hw (AOps.of_K rest _ _ h1)
          | false =>
            have h2 := h2 rfl
            cases hg2 : g.2 with
            | true => rw [hg2] at h2 hw; exact AOps.skip hw (AOps.of_K rest _ _ h2)
            | false => rw [hg2] at h2 hw; exact AOps.of_opK hw h2 (fun v H' hk => AOps.of_K rest _ _ hk)
        · rename_i hb
          exact AOps.skip (wants_nix hg hd hb) (AOps.of_K rest _ _ h)
        · exact h.elim
theorem ACode.regionK {id : Nat} {l : List Oper} (h : OpsK E P N l.toArray (Q .normal) l T H) : ACode E P N (.region id l.toArray false) Q T H :=
  ACode.region (AOps.of_K l T H h)

/-! heap -/
theorem get_new (H L : AHeap) (k : Nat) : (H ++ L)[H.length + k]? = L[k]? := by
  rw [List.getElem?_append_right (by omega)]; congr 1; omega
theorem get_new0 (H L : AHeap) : (H ++ L)[H.length]? = L[0]? := get_new H L 0
theorem get_old (H L : AHeap) (i : Nat) (h : i < H.length) : (H ++ L)[i]? = H[i]? := List.getElem?_append_left h
theorem set_new (H L : AHeap) (k : Nat) (x : AObj) : (H ++ L).set (H.length + k) x = H ++ L.set k x := by
  rw [List.set_append_right _ _ (by omega)]; congr 2; omega
theorem set_new0 (H L : AHeap) (x : AObj) : (H ++ L).set H.length x = H ++ L.set 0 x := set_new H L 0 x
theorem set_old (H L : AHeap) (i : Nat) (x : AObj) (h : i < H.length) : (H ++ L).set i x = H.set i x ++ L := List.set_append_left _ _ h
theorem len_app1 (H : AHeap) (x : AObj) : (H ++ [x]).length = H.length + 1 := by simp
/-- What is known of H is known of H'. -/
def Ext (H H' : AHeap) : Prop := ∃ G, H' = H ++ G
theorem Ext.refl (H : AHeap) : Ext H H := ⟨[], by simp⟩
theorem Ext.app (H L : AHeap) : Ext H (H ++ L) := ⟨L, rfl⟩
theorem Ext.trans {H H1 H2 : AHeap} (h : Ext H H1) (h' : Ext H1 H2) : Ext H H2 := by
  obtain ⟨G, rfl⟩ := h
  obtain ⟨G', rfl⟩ := h'
  exact ⟨G ++ G', by simp⟩
theorem Ext.add {H H1 : AHeap} (h : Ext H H1) (L : AHeap) : Ext H (H1 ++ L) := h.trans (Ext.app _ _)
theorem Ext.get {H H1 : AHeap} (h : Ext H H1) {i : Nat} {o : AObj} (hi : H[i]? = some o) : H1[i]? = some o := by
  obtain ⟨G, rfl⟩ := h
  rw [get_old _ _ _ (List.getElem?_eq_some_iff.1 hi).1]; exact hi
theorem Ext.len {H H1 : AHeap} (h : Ext H H1) : H.length ≤ H1.length := by
  obtain ⟨G, rfl⟩ := h
  simp
theorem lt_of_get {H : AHeap} {i : Nat} {o : AObj} (hi : H[i]? = some o) : i < H.length := (List.getElem?_eq_some_iff.1 hi).1
/-- a new object is written: nothing else has turned -/
theorem Ext.set {H H1 : AHeap} (h : Ext H H1) {i : Nat} (hi : H.length ≤ i) (x : AObj) : Ext H (H1.set i x) := by
  obtain ⟨G, rfl⟩ := h
  rw [List.set_append_right _ _ hi]
  exact ⟨_, rfl⟩
end
end Go.AL
