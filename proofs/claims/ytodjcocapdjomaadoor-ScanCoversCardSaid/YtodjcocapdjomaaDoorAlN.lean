/- Contracts of functions whose results lie in variables. -/
import Derived.Test.YtodjcocapdjomaaDoorAlM
namespace Go.AL
open Go Go.RowKit
set_option linter.unusedVariables false
set_option linter.unusedSimpArgs false
section
variable {E : World → Prop} {P : Program} {w0 : World} {κ0 : Nat → Loc} {n0 : Nat} {κ : Nat → Loc} {H : AHeap} {w : World} {N : Nat} {T : Nat → AV} {a : Act}
def resOf (P : Program) (T : Nat → AV) (H : AHeap) : List ResultVar → Option (List AV)
  | [] => some []
  | .tmp t :: r => (resOf P T H r).map (T t :: ·)
  | .cell a t :: r => (aload P H t (T a)).bind fun v => (resOf P T H r).map (v :: ·)
def resTup : List AV → AV
  | [v] => v
  | vs => .tuple vs
def resK (o : Option (List AV)) (f : AV → Prop) : Prop := match o with
  | some vs => f (resTup vs)
  | none => False
theorem resK_some (vs : List AV) (f : AV → Prop) : resK (some vs) f = f (resTup vs) := rfl
@[congr] theorem resK_congr {o o' : Option (List AV)} {f : AV → Prop} (h : o = o') : resK o f = resK o' f := by rw [h]

theorem cell_run {t : TypeId} {p v : AV} {pu : Value} (h : aload P H t p = some v) (hs : St E P w0 κ0 n0 κ H w) (hp : VR κ H.length p pu) : ∃ u, (do loadVar t (← asAddr pu) : Sem Value).run P w = .ok u w ∧ VR κ H.length v u := by
  obtain ⟨u, w', κ', h1, h2, h3, h4, h5, h6⟩ := load_ok h hs hp
  have hw := h6 rfl
  subst hw
  refine ⟨u, ?_, h2.mono (κ' := κ) (fun i hi => (h4 i hi).symm) (Nat.le_refl _)⟩
  unfold aload at h
  split at h
  · cases hp
    have e1 : ∀ ad : Addr, (Instr.loadAt t (.pointer (some ad))).run P w' = (loadVar t ad).run P w' := by
      intro ad
      simp [Instr.loadAt, Instr.sureAddr]
    rw [e1] at h1
    simp only [asAddr]
    simpa using h1
  · cases h
theorem resOf_run (hs : St E P w0 κ0 n0 κ H w) (ht : TR κ H.length N T a) :
    ∀ (rs : List ResultVar) (vs : List AV), resOf P T H rs = some vs → ∃ us, VRs κ H.length vs us ∧ ∀ g : ResultVar → Sem Value, (∀ t, g (.tmp t) = pure (a.tmps.getD t undef)) → (∀ b t, g (.cell b t) = do loadVar t (← asAddr (a.tmps.getD b undef))) →
      (rs.mapM g).run P w = .ok us w
  | [], vs, h => by
    simp [resOf] at h
    subst h
    exact ⟨[], VRs.nil _ _, fun g _ _ => by simp⟩
  | .tmp t :: rs, vs, h => by
    simp only [resOf] at h
    cases hr : resOf P T H rs with
    | none => simp [hr] at h
    | some vs' =>
      simp only [hr, Option.map_some, Option.some.injEq] at h
      subst h
      obtain ⟨us, e2, e1⟩ := resOf_run hs ht rs vs' hr
      refine ⟨a.tmps.getD t undef :: us, VRs.cons (ht.val t) e2, fun g g1 g2 => ?_⟩
      simp only [List.mapM_cons, g1, Sem.run_bind, Sem.run_pure, Result.andThen_ok, e1 g g1 g2]
  | .cell b t :: rs, vs, h => by
    simp only [resOf] at h
    cases hl : aload P H t (T b) with
    | none => simp [hl] at h
    | some v =>
      simp only [hl, Option.bind_some] at h
      cases hr : resOf P T H rs with
      | none => simp [hr] at h
      | some vs' =>
        simp only [hr, Option.map_some, Option.some.injEq] at h
        subst h
        obtain ⟨us, e2, e1⟩ := resOf_run hs ht rs vs' hr
        obtain ⟨u, f1, f2⟩ := cell_run hl hs (ht.val b)
        refine ⟨u :: us, VRs.cons f2 e2, fun g g1 g2 => ?_⟩
        rw [List.mapM_cons, g2, Sem.run_bind, f1]
        simp only [Sem.run_bind, Sem.run_pure, Result.andThen_ok, e1 g g1 g2]

theorem resTup_ok {n : Nat} {vs : List AV} {us : List Value} (h : VRs κ n vs us) : VR κ n (resTup vs) (if h : us.toArray.size = 1 then us.toArray[0] else .tuple us.toArray) := by
  have hl := h.1
  have htup : VR κ n (.tuple vs) (.tuple us.toArray) := .tuple _ _ h.1 h.2
  cases us with
  | nil =>
    cases vs with
    | nil => exact htup
    | cons _ _ => simp at hl
  | cons u r =>
    cases vs with
    | nil => simp at hl
    | cons v r' =>
      cases r with
      | nil =>
        cases r' with
        | nil => exact h.head
        | cons _ _ => simp at hl
      | cons u2 r2 =>
        cases r' with
        | nil => simp at hl
        | cons v2 r2' =>
          rw [dif_neg (by simp)]
          exact htup

theorem ACalls.of_codeC {f : FuncId} {fn : Func} {c : Code} {rs : List ResultVar} {args : List AV} {R : AV → AHeap → Prop} (hf : P.funcs[f]? = some fn) (hn : (fn.name == "runtime.NumGoroutine") = false) (hb : fn.body = some c)
    (hN : fn.ntmps = N) (hres : fn.results.toList = rs) (hargs : args.length ≤ N)
    (h : ACode E P N c (fun e T' H' => (e = .normal ∨ e = .ret) ∧ resK (resOf P T' H' rs) fun v => R v H') (initT args) H) : ACalls E P f args H R := by
  refine ⟨⟨fn, hf, by rw [hb]; rfl, hn⟩, fun w0 κ0 n0 κ vs w hs hv => ?_⟩
  refine calls_of_wp hf hb ?_
  have htr : TR κ H.length N (initT args) { tmps := vs.toArray ++ Array.replicate (fn.ntmps - vs.toArray.size) undef, defers := [] } := by
    refine ⟨?_, rfl, fun i => ?_⟩
    · have := hv.1
      simp; omega
    · unfold initT
      rw [List.getD_eq_getElem?_getD]
      by_cases hi : i < args.length
      · rw [List.getElem?_eq_getElem hi, Option.getD_some]
        have hi' : i < vs.length := by rw [← hv.1]; exact hi
        have : (vs.toArray ++ Array.replicate (fn.ntmps - vs.toArray.size) undef).getD i undef = vs[i] := by
          rw [Array.getD_eq_getD_getElem?, Array.getElem?_append_left (by simpa using hi')]
          simp [hi']
        show VR κ H.length args[i] ((vs.toArray ++ Array.replicate (fn.ntmps - vs.toArray.size) undef).getD i undef)
        rw [this]
        exact hv.2 i _ _ (List.getElem?_eq_getElem hi) (List.getElem?_eq_getElem hi')
      · rw [List.getElem?_eq_none (by omega)]
        exact .undef _
  refine wp_mono (h w0 κ0 n0 κ _ w hs htr) fun e a w' hp => ?_
  obtain ⟨κ', T', H', h1, h2, h3, h4⟩ := hp
  cases hr : resOf P T' H' rs with
  | none => rw [hr] at h4; exact h4.elim
  | some vs' =>
    rw [hr, resK_some] at h4
    obtain ⟨us, e2, e1⟩ := resOf_run h1 h2 rs vs' hr
    have hresv : ∃ v, (results fn a.tmps).run P w' = .ok v w' ∧ VR κ' H'.length (resTup vs') v := by
      unfold results
      rw [Array.mapM_eq_mapM_toList, hres]
      simp only [Sem.run_bind, Sem.run_map]
      rw [e1 _ (fun t => rfl) (fun b t => rfl)]
      simp only [Result.andThen_ok, Sem.run_pure]
      exact ⟨_, rfl, resTup_ok e2⟩
    obtain ⟨v, f1, f2⟩ := hresv
    have hpost : a.defers = [] ∧ ∃ v, (results fn a.tmps).run P w' = .ok v w' ∧ ∃ v_1 κ' r H', Ending.returned v = Ending.returned v_1 ∧ St E P w0 κ0 n0 κ' H' w' ∧ VR κ' H'.length r v_1 ∧ R r H' :=
      ⟨h2.defers, v, f1, v, κ', _, H', rfl, h1, f2, h4⟩
    rcases h3 with rfl | rfl
    · exact hpost
    · exact hpost
/-- A loop within a block, and what holds behind it. -/
theorem ACode.loopX {N : Nat} {T : Nat → AV} {H : AHeap} {c : Code} {id : Nat} {K : (Nat → AV) → AHeap → Prop} {Q : Post} (I : Nat → (Nat → AV) → AHeap → Prop) (M : (Nat → AV) → AHeap → Prop) (n : Nat) (h0 : I n T H)
    (round : ∀ n T H, I n T H → ACode E P N c (onNormal (fun T' H' => ∃ m, m < n ∧ I m T' H') (onExit id (onNormal M Q))) T H) (hM : ∀ T H, M T H → K T H) : ACode E P N (.loop c) (onExit id (onNormal K Q)) T H := by
  refine (ACode.loop (Q := onExit id (onNormal M Q)) I n h0 round).mono fun e T H h => ?_
  cases e with
  | exit id' =>
    simp only [onExit] at h ⊢
    split
    · rename_i he
      rw [if_pos he] at h
      exact hM _ _ h
    · rename_i he
      rw [if_neg he] at h
      exact h
  | normal => exact hM _ _ h
  | _ => exact h
theorem callK_of {g : FuncId} {args : List AV} {R : AV → AHeap → Prop} {K : AV → AHeap → Prop} (h : ACalls E P g args H R) (hk : ∀ r H', R r H' → K r H') : callK E P (.func g [] []) args H K :=
  ⟨g, [], [], R, rfl, by simpa using h, hk⟩
theorem callK_val {g : FuncId} {args : List AV} {x : AV} {K : AV → AHeap → Prop} (h : ACalls E P g args H fun v H' => v = x ∧ Ext H H') (hk : ∀ H', Ext H H' → K x H') : callK E P (.func g [] []) args H K :=
  callK_of h fun r H' ⟨e, e'⟩ => e ▸ hk H' e'
end
attribute [go_sem] resOf resTup resK_some
end Go.AL
