/- Steps within regions, calls, contracts. -/
import Derived.Test.YtodjcocapdjomaaDoorAlH
namespace Go.AL
open Go Go.RowKit
set_option linter.unusedVariables false
set_option linter.unusedSimpArgs false

section
variable {E : World → Prop} {P : Program} {N : Nat} {Q : Post} {T : Nat → AV} {H : AHeap} {ops : Array Oper} {o : Oper} {rest : List Oper}

theorem St.deepen {w0 : World} {κ0 : Nat → Loc} {n0 : Nat} {κ : Nat → Loc} {w : World} (h : St E P w0 κ0 n0 κ H w) : St E P w0 κ H.length κ H w :=
  ⟨h.env, h.below, h.objs, h.iso, fun _ _ => rfl, Nat.le_refl _⟩
theorem St.back {w0 : World} {κ0 : Nat → Loc} {n0 : Nat} {κ κ' : Nat → Loc} {w w' : World} {H' : AHeap} (h : St E P w0 κ0 n0 κ H w) (h' : St E P w0 κ H.length κ' H' w') : St E P w0 κ0 n0 κ' H' w' :=
  ⟨h'.env, h'.below, h'.objs, h'.iso, fun i hi => (h'.ext i (Nat.lt_of_lt_of_le hi h.n0le)).trans (h.ext i hi), Nat.le_trans h.n0le h'.n0le⟩

/-- One operation, reckoned. -/
theorem AOps.step {v : AV} {H' : AHeap} (hw : wants ops T o = some true) (hst : astep P o T H = some (v, H')) (h : AOps E P N ops Q rest (upd N T o.dst v) H') : AOps E P N ops Q (o :: rest) T H := by
  refine AOps.cons hw fun w0 κ0 n0 κ a w hs ht => ?_
  obtain ⟨r, w', κ', h1, h2, h3, h4, h5, -⟩ := astep_ok hst hs ht
  unfold Oper.wp Oper.upon
  rw [h1]
  rcases h2 with ⟨u, rfl, hv⟩ | ⟨rfl, rfl, -⟩
  · exact ⟨κ', _, H', h3, (ht.mono h4 h5).put o.dst hv, h⟩
  · exact ⟨κ', _, H', h3, (ht.mono h4 h5).put o.dst (.undef _), h⟩

theorem run_callFunc {f : FuncId} (h : Enters P f) (args : Array Value) (w : World) : (callFunc f args).run P w = .ok (.enter f args) w := by
  obtain ⟨fn, hf, hb, hn⟩ := h
  have hbn : ¬ fn.body = none := by cases hx : fn.body <;> simp_all
  have hne : ¬ (fn.name = "runtime.NumGoroutine") := by simpa using hn
  simp [callFunc, hf, hbn, hne]

/-- A call of a function value. -/
theorem AOps.call {f : Operand} {args : Array Operand} {ats : Array TypeId} {g : FuncId} {fs cs : List AV} {R : AV → AHeap → Prop} (hw : wants ops T o = some true)
    (ho : o.op = .call { callee := .value f, args := args, argTypes := ats }) (hf : opnd T f = .func g fs cs)
    (hc : ACalls E P g (fs ++ args.toList.map (opnd T) ++ cs) H R) (h : ∀ r H', R r H' → AOps E P N ops Q rest (upd N T o.dst r) H') : AOps E P N ops Q (o :: rest) T H := by
  refine AOps.cons hw fun w0 κ0 n0 κ a w hs ht => ?_
  have hv := vr_opnd ht f
  rw [hf] at hv
  generalize hz : a.eval f = z at hv
  cases hv
  rename_i us vs g1 g2 g3 g4
  have hargs := vr_args ht args
  have hall : VRs κ H.length (fs ++ args.toList.map (opnd T) ++ cs) (us ++ (args.map a.eval).toList ++ vs) := (VRs.append ⟨g1, g2⟩ hargs).append ⟨g3, g4⟩
  have hcall := hc.2 w0 κ H.length κ _ w hs.deepen hall
  unfold Oper.wp
  have hrun : (execOp a.eval o).run P w = .ok (.enter g (us ++ (args.map a.eval).toList ++ vs).toArray) w := by
    unfold execOp
    simp only [ho, resolve, hz, Deferred.ofValue, Sem.run_bind, Sem.run_pure, Result.andThen_ok, invoke, run_callFunc hc.1]
    congr 2
    apply Array.ext'
    simp
  rw [hrun, Oper.upon_enter]
  refine hcall.mono fun e w' he => ?_
  obtain ⟨v, κ', r, H', rfl, h1, h2, h3⟩ := he
  exact ⟨κ', _, H', hs.back h1, (ht.mono (fun i hi => h1.ext i hi) h1.n0le).put o.dst h2, h r H' h3⟩

/-! ### a function's contract -/
def initT (args : List AV) : Nat → AV := fun i => args.getD i .undef
def resSlots : List ResultVar → Option (List Tmp)
  | [] => some []
  | .tmp t :: r => (resSlots r).map (t :: ·)
  | .cell _ _ :: _ => none
def resAV (ts : List Tmp) (T : Nat → AV) : AV :=
  match ts with
  | [t] => T t
  | ts => .tuple (ts.map T)
def resV (ts : List Tmp) (f : Tmp → Value) : Value :=
  match ts with
  | [t] => f t
  | ts => .tuple (ts.map f).toArray
theorem results_run {fn : Func} {ts : List Tmp} (h : resSlots fn.results.toList = some ts) (tmps : Array Value) (w : World) :
    (results fn tmps).run P w = .ok (resV ts fun t => tmps.getD t undef) w := by
  have key : ∀ (g : ResultVar → Sem Value), (∀ t, g (.tmp t) = pure (tmps.getD t undef)) → ∀ (rs : List ResultVar) (ts : List Tmp), resSlots rs = some ts → (rs.mapM g).run P w = .ok (ts.map fun t => tmps.getD t undef) w := by
    intro g hg
    intro rs
    induction rs with
    | nil => intro ts h; simp [resSlots] at h; subst h; simp
    | cons r rs ih =>
      intro ts h
      cases r with
      | cell a t => simp [resSlots] at h
      | tmp t =>
        simp only [resSlots] at h
        cases hr : resSlots rs with
        | none => simp [hr] at h
        | some ts' =>
          simp only [hr, Option.map_some, Option.some.injEq] at h
          subst h
          simp only [List.mapM_cons, hg, Sem.run_bind, Sem.run_pure, Result.andThen_ok, ih ts' hr, List.map_cons]
  unfold results
  rw [Array.mapM_eq_mapM_toList]
  simp only [Sem.run_bind, Sem.run_map]
  rw [key _ (fun t => rfl) _ _ h]
  simp only [Result.andThen_ok, Sem.run_pure]
  clear h
  cases ts with
  | nil => rfl
  | cons t r => cases r with
    | nil => rfl
    | cons t2 r => simp [resV]

theorem ACalls.of_code {f : FuncId} {fn : Func} {c : Code} {ts : List Tmp} {args : List AV} {R : AV → AHeap → Prop} (hf : P.funcs[f]? = some fn) (hn : (fn.name == "runtime.NumGoroutine") = false) (hb : fn.body = some c)
    (hN : fn.ntmps = N) (hres : resSlots fn.results.toList = some ts) (hargs : args.length ≤ N)
    (h : ACode E P N c (fun e T' H' => (e = .normal ∨ e = .ret) ∧ R (resAV ts T') H') (initT args) H) : ACalls E P f args H R := by
  refine ⟨⟨fn, hf, by rw [hb]; rfl, hn⟩, fun w0 κ0 n0 κ vs w hs hv => ?_⟩
  refine calls_of_wp hf hb ?_
  have htr : TR κ H.length N (initT args) { tmps := vs.toArray ++ Array.replicate (fn.ntmps - vs.toArray.size) undef, defers := [] } := by
    refine ⟨?_, rfl, fun i => ?_⟩
    · have := hv.1
      simp; omega
    · unfold initT
      rw [List.getD_eq_getElem?_getD]
      by_cases hi : i < args.length
      · rw [List.getElem?_eq_getElem hi, Option.getD_some]
        have hi' : i < vs.length := by rw [← hv.1]; exact hi
        have : (vs.toArray ++ Array.replicate (fn.ntmps - vs.toArray.size) undef).getD i undef = vs[i] := by
          rw [Array.getD_eq_getD_getElem?, Array.getElem?_append_left (by simpa using hi')]
          simp [hi']
        show VR κ H.length args[i] ((vs.toArray ++ Array.replicate (fn.ntmps - vs.toArray.size) undef).getD i undef)
        rw [this]
        exact hv.2 i _ _ (List.getElem?_eq_getElem hi) (List.getElem?_eq_getElem hi')
      · rw [List.getElem?_eq_none (by omega)]
        exact .undef _
  refine wp_mono (h w0 κ0 n0 κ _ w hs htr) fun e a w' hp => ?_
  obtain ⟨κ', T', H', h1, h2, h3, h4⟩ := hp
  have hval : VR κ' H'.length (resAV ts T') (resV ts fun t => a.tmps.getD t undef) := by
    have htup : VR κ' H'.length (.tuple (ts.map T')) (.tuple (ts.map fun t => a.tmps.getD t undef).toArray) := by
      refine .tuple _ _ (by simp) (fun i c v hc hvv => ?_)
      rw [List.getElem?_map] at hc hvv
      cases hz : ts[i]? with
      | none => rw [hz] at hc; simp at hc
      | some t =>
        rw [hz] at hc hvv
        simp only [Option.map_some, Option.some.injEq] at hc hvv
        subst hc; subst hvv
        exact h2.val t
    unfold resAV
    cases ts with
    | nil => exact htup
    | cons t r => cases r with
      | nil => exact h2.val t
      | cons t2 r => exact htup
  have hpost : a.defers = [] ∧ ∃ v, (results fn a.tmps).run P w' = .ok v w' ∧ ∃ v_1 κ' r H', Ending.returned v = Ending.returned v_1 ∧ St E P w0 κ0 n0 κ' H' w' ∧ VR κ' H'.length r v_1 ∧ R r H' :=
    ⟨h2.defers, _, results_run hres a.tmps w', _, κ', _, H', rfl, h1, hval, h4⟩
  rcases h3 with rfl | rfl
  · exact hpost
  · exact hpost
end
end Go.AL
