/- Whole pieces of code reckoned at one go; regions that draw their order. -/
import Derived.Test.YtodjcocapdjomaaDoorAlJ
import Derived.Orders
namespace Go.AL
open Go Go.RowKit
set_option linter.unusedVariables false
set_option linter.unusedSimpArgs false

section
variable {E : World → Prop} {P : Program} {N : Nat} {Q : Post} {T : Nat → AV} {H : AHeap}

/-- Code, piece by piece; a loop and a region that draws are left as they are. -/
def CodeK (E : World → Prop) (P : Program) (N : Nat) : Code → Post → (Nat → AV) → AHeap → Prop
  | .skip, Q, T, H => Q .normal T H
  | .ret, Q, T, H => Q .ret T H
  | .exit id, Q, T, H => Q (.exit id) T H
  | .label _, Q, T, H => Q .normal T H
  | .goto l, Q, T, H => Q (.goto l) T H
  | .seq x y, Q, T, H => CodeK E P N x (onNormal (CodeK E P N y Q) Q) T H
  | .cond c x y, Q, T, H => match opnd T c with
    | .bool b => (b = true → CodeK E P N x Q T H) ∧ (b = false → CodeK E P N y Q T H)
    | _ => False
  | .block id c, Q, T, H => CodeK E P N c (onExit id Q) T H
  | .region id ops draw, Q, T, H => match draw with
    | false => OpsK E P N ops (Q .normal) ops.toList T H
    | true => ACode E P N (.region id ops true) Q T H
  | .loop c, Q, T, H => ACode E P N (.loop c) Q T H
  | .rangeFunc f ps x y, Q, T, H => ACode E P N (.rangeFunc f ps x y) Q T H
  | .scope c, Q, T, H => ACode E P N (.scope c) Q T H
  | .refuse w, Q, T, H => ACode E P N (.refuse w) Q T H
theorem ACode.of_K : ∀ (c : Code) {Q : Post} {T : Nat → AV} {H : AHeap}, CodeK E P N c Q T H → ACode E P N c Q T H
  | .skip, _, _, _, h => ACode.skip h
  | .ret, _, _, _, h => ACode.ret h
  | .exit _, _, _, _, h => ACode.exit h
  | .label _, _, _, _, h => ACode.label h
  | .goto _, _, _, _, h => ACode.goto h
  | .seq x y, Q, T, H, h => ACode.seq ((ACode.of_K x h).mono fun e T H hq => by
      cases e with
      | normal => exact ACode.of_K y hq
      | _ => exact hq)
  | .cond c x y, Q, T, H, h => by
    unfold CodeK at h
    split at h
    · rename_i b hb
      exact ACode.cond b hb (fun e => ACode.of_K x (h.1 e)) (fun e => ACode.of_K y (h.2 e))
    · exact h.elim
  | .block id c, Q, T, H, h => ACode.block (ACode.of_K c h)
  | .region id ops draw, Q, T, H, h => by
    cases draw with
    | true => exact h
    | false =>
      have h' : OpsK E P N ops (Q .normal) ops.toList T H := h
      have := ACode.regionK (id := id) (l := ops.toList) (Q := Q) (E := E) (P := P) (N := N) (T := T) (H := H) (by rw [Array.toArray_toList]; exact h')
      rwa [Array.toArray_toList] at this
  | .loop _, _, _, _, h => h
  | .rangeFunc .., _, _, _, h => h
  | .scope _, _, _, _, h => h
  | .refuse _, _, _, _, h => h
end

/-! ### values that say all -/
def AV.det (P : Program) (H : AHeap) : Nat → AV → Bool
  | 0, _ => false
  | d + 1, v => match v with
    | .undef => false
    | .agg cs => cs.all (AV.det P H d)
    | .tuple cs => cs.all (AV.det P H d)
    | .func _ fs cs => fs.all (AV.det P H d) && cs.all (AV.det P H d)
    | .iface _ v => AV.det P H d v
    | .slice (some (i, _)) len => decide (0 < len) && match H[i]? with
      | some (.cells _ e _) => decide (0 < szT P e)
      | _ => false
    | .slice none 0 => true
    | .slice none _ => false
    | _ => true

theorem list_det {κ : Nat → Loc} {n : Nat} {cs : List AV} {us vs : List Value} (hd : ∀ c ∈ cs, ∀ u v, VR κ n c u → VR κ n c v → u = v) (h1 : cs.length = us.length) (h2 : ∀ (i : Nat) (c : AV) (v : Value), cs[i]? = some c → us[i]? = some v → VR κ n c v)
    (h3 : cs.length = vs.length) (h4 : ∀ (i : Nat) (c : AV) (v : Value), cs[i]? = some c → vs[i]? = some v → VR κ n c v) : us = vs := by
  apply List.ext_getElem?
  intro i
  by_cases hi : i < cs.length
  · have hu : i < us.length := by omega
    have hv : i < vs.length := by omega
    rw [List.getElem?_eq_getElem hu, List.getElem?_eq_getElem hv]
    exact congrArg some (hd _ (List.getElem_mem hi) _ _ (h2 i _ _ (List.getElem?_eq_getElem hi) (List.getElem?_eq_getElem hu)) (h4 i _ _ (List.getElem?_eq_getElem hi) (List.getElem?_eq_getElem hv)))
  · rw [List.getElem?_eq_none (by omega), List.getElem?_eq_none (by omega)]

theorem VR.det {P : Program} {H : AHeap} {κ : Nat → Loc} {n : Nat} (hsz : ∀ i c e rw, H[i]? = some (.cells c e rw) → (κ i).sz = P.cellsOf e) :
    ∀ (d : Nat) (v : AV) (u u' : Value), v.det P H d = true → VR κ n v u → VR κ n v u' → u = u'
  | 0, v, u, u', h, _, _ => by simp [AV.det] at h
  | d + 1, v, u, u', h, h1, h2 => by
    cases h1 with
    | undef u => simp [AV.det] at h
    | bool b => cases h2; rfl
    | int k m => cases h2; rfl
    | str s => cases h2; rfl
    | ptrNil => cases h2; rfl
    | ptr i o hi => cases h2; rfl
    | sliceNil => cases h2; rfl
    | slice i o len ad cap oe hi ho hc hl ha =>
      simp only [AV.det, Bool.and_eq_true, decide_eq_true_eq] at h
      obtain ⟨hlen, h⟩ := h
      split at h
      · rename_i c e rw hget
        have hs := hsz i c e rw hget
        have hpos : 0 < (κ i).sz := by rw [hs]; exact of_decide_eq_true h
        cases h2 with
        | slice _ _ _ ad' cap' oe' hi' ho' hc' hl' ha' =>
          have : oe = oe' := Nat.eq_of_mul_eq_mul_right hpos (by rw [← ho, ← ho'])
          subst this
          have : cap = cap' := by omega
          subst this
          rw [ha (by omega), ha' (by omega)]
      · cases h
    | mapNil => cases h2; rfl
    | map i hi => cases h2; rfl
    | nilFunc => cases h2; rfl
    | nilIface => cases h2; rfl
    | iface t v u hv =>
      simp only [AV.det] at h
      cases h2 with
      | iface _ _ u' hv' => rw [VR.det hsz d v u u' h hv hv']
    | agg cs vs g1 g2 =>
      simp only [AV.det, List.all_eq_true] at h
      cases h2 with
      | agg _ vs' g3 g4 => rw [list_det (fun c hc u v => VR.det hsz d c u v (h c hc)) g1 g2 g3 g4]
    | tuple cs vs g1 g2 =>
      simp only [AV.det, List.all_eq_true] at h
      cases h2 with
      | tuple _ vs' g3 g4 => rw [list_det (fun c hc u v => VR.det hsz d c u v (h c hc)) g1 g2 g3 g4]
    | func f fs cs us vs g1 g2 g3 g4 =>
      simp only [AV.det, Bool.and_eq_true, List.all_eq_true] at h
      cases h2 with
      | func _ _ _ us' vs' k1 k2 k3 k4 =>
        rw [list_det (fun c hc u v => VR.det hsz d c u v (h.1 c hc)) g1 g2 k1 k2, list_det (fun c hc u v => VR.det hsz d c u v (h.2 c hc)) g3 g4 k3 k4]

/-! ### a region that draws -/
section
variable {P : Program} {ops : Array Oper} {Q : Exit → Act → World → Prop} {md : Region.Mode} {S S' : World → Prop} {late : List Nat}

def NL (late : List Nat) (listed : Array Bool) : Prop := ∀ j ∈ late, listed.getD j false = false
/-- Whatever order is picked from here on, and S holds till the late ones come. -/
def wpAnyC (P : Program) (md : Region.Mode) (ops : Array Oper) (Q : Exit → Act → World → Prop) (late : List Nat) (S : World → Prop) : Nat → Array Bool → Act → World → Prop
  | 0, listed, a, w => Region.ready md ops listed = [] ∧ Q .normal a w
  | fuel + 1, listed, a, w =>
    (Region.ready md ops listed = [] → Q .normal a w) ∧
    ∀ i ∈ Region.ready md ops listed, wpOp P ops Q i (fun a' w' => (NL late (listed.setIfInBounds i true) → S w') ∧ wpAnyC P md ops Q late S fuel (listed.setIfInBounds i true) a' w') a w
theorem wpAny_of_C : ∀ (fuel : Nat) (listed : Array Bool) (a : Act) (w : World), wpAnyC P md ops Q late S fuel listed a w → wpAny P md ops Q fuel listed a w
  | 0, _, _, _, h => h
  | fuel + 1, _, _, _, h => ⟨h.1, fun i hi => wpOp_mono (fun a' w' h' => wpAny_of_C fuel _ a' w' h'.2) (h.2 i hi)⟩
theorem wpAnyC_mono (hS : ∀ w, S w → S' w) : ∀ (fuel : Nat) (listed : Array Bool) (a : Act) (w : World), wpAnyC P md ops Q late S fuel listed a w → wpAnyC P md ops Q late S' fuel listed a w
  | 0, _, _, _, h => h
  | fuel + 1, _, _, _, h => ⟨h.1, fun i hi => wpOp_mono (fun a' w' h' => ⟨fun hn => hS _ (h'.1 hn), wpAnyC_mono hS fuel _ a' w' h'.2⟩) (h.2 i hi)⟩
/-- In every world of S the operation leaves v. -/
def YieldsC (P : Program) (ops : Array Oper) (S : World → Prop) (o : Oper) (v : Value) (a : Act) : Prop :=
  (Region.wanted o (yielded ops a.tmps) = true ∧ ∀ w, S w → (execOp a.eval o).run P w = .ok (.value v) w) ∨
  (Region.wanted o (yielded ops a.tmps) = false ∧ v = undef)
theorem YieldsC.wpOp {i : Nat} {o : Oper} {v : Value} {a : Act} (hi : ops[i]? = some o) (hy : YieldsC P ops S o v a)
    {K : Act → World → Prop} {w : World} (hS : S w) (h : K (a.put o.dst v) w) : wpOp P ops Q i K a w := by
  unfold Go.wpOp
  simp only [hi]
  rcases hy with ⟨hw, hv⟩ | ⟨hw, rfl⟩
  · simp only [hw, if_true, Oper.wp, hv w hS, Oper.upon]; exact .inl h
  · simp only [hw, Bool.false_eq_true, if_false]; exact h
theorem YieldsC.of_same {o : Oper} {v : Value} {a a' : Act} (hy : YieldsC P ops S o v a) (he : execOp a'.eval o = execOp a.eval o)
    (hw : Region.wanted o (yielded ops a'.tmps) = Region.wanted o (yielded ops a.tmps)) : YieldsC P ops S o v a' := by
  unfold YieldsC at *
  rw [he, hw]
  exact hy
theorem wpOp_putC {j : Nat} {oi oj : Oper} {v : Value} (hj : ops[j]? = some oj) (hap : oi.apart ops oj = true)
    (hsi : ∀ cs b, oi.op ≠ .select cs b) (hsj : ∀ cs b, oj.op ≠ .select cs b)
    (hQ : ∀ c a w, Q (.panic c) (a.put oi.dst v) w → Q (.panic c) a w) {K : Act → World → Prop} {a : Act} {w : World}
    (hy : YieldsC P ops S oi v a) (h : wpOp P ops Q j K (a.put oi.dst v) w) :
    wpOp P ops Q j (fun a' w' => YieldsC P ops S oi v a' ∧ K (a'.put oi.dst v) w') a w := by
  obtain ⟨h1, h2, h3⟩ := Oper.apart_spec hap
  have keep : ∀ (a : Act), YieldsC P ops S oi v a → ∀ u, YieldsC P ops S oi v (a.put oj.dst u) := fun a hy u =>
    hy.of_same (execOp_put oi hsi a oj.dst u h3) (wanted_put oi a oj.dst u h3)
  have keepD : ∀ d, YieldsC P ops S oi v { a with defers := d :: a.defers } := fun d => hy.of_same rfl rfl
  unfold wpOp at *
  simp only [hj] at *
  rw [wanted_put oj a oi.dst v h1] at h
  split
  · rename_i hw
    simp only [hw, if_true] at h
    rcases h with h | ⟨hasks, hlets⟩
    case inr => exact .inr ⟨by unfold Oper.asks at *; rw [execOp_put oj hsj a oi.dst v h1] at hasks; exact hasks, hlets⟩
    refine .inl ?_
    unfold Oper.wp at *
    rw [execOp_put oj hsj a oi.dst v h1] at h
    generalize (execOp a.eval oj).run P w = r at *
    cases r with
    | ok n w' =>
      cases n <;> simp only [Oper.upon] at h ⊢
      case value u => exact ⟨keep a hy u, by rw [← Act.put_comm a v u h2]; exact h⟩
      case skip => exact ⟨keep a hy _, by rw [← Act.put_comm a v undef h2]; exact h⟩
      case defer d =>
        refine ⟨keep _ (keepD d) _, ?_⟩
        rw [← Act.put_comm _ v undef h2, ← Act.put_defers]
        exact h
      case enter f args =>
        refine Calls.mono h fun e w'' he => ?_
        cases e with
        | returned u => exact ⟨keep a hy u, by rw [← Act.put_comm a v u h2]; exact he⟩
        | panicked c => exact hQ _ _ _ he
        | outgrown => exact he
      case row row args => exact Rows.mono h fun u w'' he => ⟨keep a hy u, by rw [← Act.put_comm a v u h2]; exact he⟩
    | halt x w' =>
      cases x <;> simp only [Oper.upon] at h ⊢
      case panic u => exact hQ _ _ _ h
  · rename_i hw
    simp only [hw] at h
    exact ⟨keep a hy _, by rw [← Act.put_comm a v undef h2]; exact h⟩

theorem NL.set {listed : Array Bool} {i : Nat} (h : NL late listed) (hi : i ∉ late) : NL late (listed.setIfInBounds i true) := by
  intro j hj
  rw [getD_set_ne false (by rintro rfl; exact hi hj)]
  exact h j hj

/-- An operation that may come up now, and yields the same in every world of S, may be taken first. -/
theorem wpAnyC_first {i : Nat} {oi : Oper} {v : Value} (hi : ops[i]? = some oi) (hsel : ∀ (j : Nat) (o : Oper) cs b, ops[j]? = some o → o.op ≠ .select cs b)
    (hQ : ∀ c a w, Q (.panic c) (a.put oi.dst v) w → Q (.panic c) a w) (hil : i ∉ late) (hlate : ∀ j ∈ late, ∀ oj, ops[j]? = some oj → ∃ e ∈ oj.after, Region.binds md e = true ∧ e.on = i) :
    ∀ (fuel : Nat) (listed : Array Bool) (a : Act) (w : World), NL late listed →
      (∀ j oj, ops[j]? = some oj → j ≠ i → listed.getD j true = false → (∀ e ∈ oj.after, Region.binds md e = true → e.on ≠ i) → oi.apart ops oj = true) →
      i ∈ Region.ready md ops listed → YieldsC P ops S oi v a → S w →
      wpAnyC P md ops Q late S fuel (listed.setIfInBounds i true) (a.put oi.dst v) w → wpAnyC P md ops Q late S (fuel + 1) listed a w := by
  intro fuel
  induction fuel with
  | zero =>
    intro listed a w hnl _ hr hy hS H
    refine ⟨fun h => (by rw [h] at hr; cases hr), fun j hj => ?_⟩
    by_cases hji : j = i
    · subst hji; exact hy.wpOp hi hS ⟨fun _ => hS, H⟩
    · have := ready_mono hj hji
      rw [H.1] at this
      cases this
  | succ fuel ih =>
    intro listed a w hnl hfree hr hy hS H
    refine ⟨fun h => (by rw [h] at hr; cases hr), fun j hj => ?_⟩
    by_cases hji : j = i
    · subst hji; exact hy.wpOp hi hS ⟨fun _ => hS, H⟩
    · have h1 := H.2 j (ready_mono hj hji)
      obtain ⟨hjun, oj, hoj, hall⟩ := mem_ready.1 hj
      have hnot : ∀ e ∈ oj.after, Region.binds md e = true → e.on ≠ i := fun e he hb heq => by
        have h1 := hall e he hb
        have h0 := (mem_ready.1 hr).1
        rw [heq] at h1
        rcases Nat.lt_or_ge i listed.size with h' | h'
        · simp [h'] at h0 h1; rw [h0] at h1; cases h1
        · simp [Array.getElem?_eq_none h'] at h1
      have hjl : j ∉ late := fun hl => by
        obtain ⟨e, he, hb, hon⟩ := hlate j hl oj hoj
        exact hnot e he hb hon
      have h2 := wpOp_putC hoj (hfree j oj hoj hji hjun hnot) (fun cs b => hsel i oi cs b hi) (fun cs b => hsel j oj cs b hoj) hQ hy h1
      have hfree' : ∀ k ok, ops[k]? = some ok → k ≠ i → (listed.setIfInBounds j true).getD k true = false →
          (∀ e ∈ ok.after, Region.binds md e = true → e.on ≠ i) → oi.apart ops ok = true := fun k ok hk hki hun hno => by
        refine hfree k ok hk hki ?_ hno
        by_cases hjk : j = k
        · subst hjk; exact hjun
        · rw [getD_set_ne true hjk] at hun; exact hun
      refine wpOp_mono (fun a' w' h3 => ?_) h2
      have hSw : S w' := h3.2.1 ((hnl.set hil).set hjl)
      refine ⟨fun _ => hSw, ih (listed.setIfInBounds j true) a' w' (hnl.set hjl) hfree' (ready_mono hr (Ne.symm hji)) h3.1 hSw ?_⟩
      rw [Array.setIfInBounds_comm _ _ hji]
      exact h3.2.2

/-- The order that is walked: each is quiet and free, or the only one that may come up. -/
def drawOk (ops : Array Oper) (late noisy : List Nat) : List Nat → Array Bool → Bool
  | [], listed => (Region.ready .any ops listed).isEmpty
  | i :: rest, listed => (match ops[i]? with
    | none => false
    | some o => if (quietOp o && !noisy.contains i) && !(late.any fun j => listed.getD j false) then (Region.ready .any ops listed).contains i && Region.free .any ops listed i && !late.contains i && late.all fun j => (match ops[j]? with
        | some oj => oj.after.any fun e => Region.binds .any e && e.on == i
        | none => true)
      else Region.ready .any ops listed == [i]) && drawOk ops late noisy rest (listed.setIfInBounds i true)
end

section
variable {E : World → Prop} {P : Program} {N : Nat}

/-- One operation of it, carried out. -/
def drawOpK (E : World → Prop) (P : Program) (AC : AHeap → Prop) (late noisy : List Nat) (i : Nat) (o : Oper) (T : Nat → AV) (H : AHeap) (K : AV → AHeap → Prop) : Prop :=
  match quietOp o && !noisy.contains i with
  | true => match astep P o T H with
    | some (v, H1) => H1 = H ∧ (∀ H', AC H' → H.length ≤ H'.length → astep P o T H' = some (v, H')) ∧ v.det P H 6 = true ∧ K v H
    | none => False
  | false => opK E P o T H fun v H' => (late.contains i = false → AC H') ∧ K v H'
/-- A region that draws, along that order. -/
def DrawK (E : World → Prop) (P : Program) (N : Nat) (ops : Array Oper) (AC : AHeap → Prop) (late noisy : List Nat) (K : (Nat → AV) → AHeap → Prop) : List Nat → (Nat → AV) → AHeap → Prop
  | [], T, H => K T H
  | i :: rest, T, H => match ops[i]? with
    | none => False
    | some o => match o.guard with
      | none => drawOpK E P AC late noisy i o T H fun v H' => DrawK E P N ops AC late noisy K rest (upd N T o.dst v) H'
      | some g => match dstAt ops g.1 with
        | none => False
        | some d => match T d with
          | .bool b => gm N T d b (fun T => match g.2 with
              | true => drawOpK E P AC late noisy i o T H fun v H' => DrawK E P N ops AC late noisy K rest (upd N T o.dst v) H'
              | false => DrawK E P N ops AC late noisy K rest (upd N T o.dst (.tuple [])) H) (fun T => match g.2 with
              | false => drawOpK E P AC late noisy i o T H fun v H' => DrawK E P N ops AC late noisy K rest (upd N T o.dst v) H'
              | true => DrawK E P N ops AC late noisy K rest (upd N T o.dst (.tuple [])) H)
          | .tuple [] => DrawK E P N ops AC late noisy K rest (upd N T o.dst (.tuple [])) H
          | _ => False
theorem DrawK.cons {ops : Array Oper} {AC : AHeap → Prop} {late noisy : List Nat} {K : (Nat → AV) → AHeap → Prop} {i : Nat} {rest : List Nat} {T : Nat → AV} {H : AHeap} (h : DrawK E P N ops AC late noisy K (i :: rest) T H) :
    ∃ o b, ops[i]? = some o ∧ wants ops T o = some b ∧ (b = true → drawOpK E P AC late noisy i o T H fun v H' => DrawK E P N ops AC late noisy K rest (upd N T o.dst v) H') ∧ (b = false → DrawK E P N ops AC late noisy K rest (upd N T o.dst (.tuple [])) H) := by
  unfold DrawK at h
  split at h
  · exact h.elim
  · rename_i o ho
    split at h
    · rename_i hg
      exact ⟨o, true, ho, by simp [wants, hg], fun _ => h, fun e => by cases e⟩
    · rename_i g hg
      split at h
      · exact h.elim
      · rename_i d hd
        split at h
        · rename_i b hb
          have hw := wants_some hg hd hb
          obtain ⟨h1, h2⟩ := gm_of hb h
          refine ⟨o, _, ho, hw, ?_, ?_⟩ <;> intro e
          · cases b with
            | true =>
              have h1 := h1 rfl
              cases hg2 : g.2 with
              | true => rw [hg2] at h1; exact h1
              | false => rw [hg2] at e; cases e
            | false =>
              have h2 := h2 rfl
              cases hg2 : g.2 with
              | true => rw [hg2] at e; cases e
              | false => rw [hg2] at h2; exact h2
          · cases b with
            | true =>
              have h1 := h1 rfl
              cases hg2 : g.2 with
              | true => rw [hg2] at e; cases e
              | false => rw [hg2] at h1; exact h1
            | false =>
              have h2 := h2 rfl
              cases hg2 : g.2 with
              | true => rw [hg2] at h2; exact h2
              | false => rw [hg2] at e; cases e
        · rename_i hb
          exact ⟨o, false, ho, wants_nix hg hd hb, (fun e => by cases e), (fun _ => h)⟩
        · exact h.elim

/-- the worlds that the region may see -/
def SC (E : World → Prop) (P : Program) (w0 : World) (κ0 : Nat → Loc) (n0 : Nat) (AC : AHeap → Prop) (κ : Nat → Loc) (H : AHeap) (w' : World) : Prop :=
  ∃ κ' H', St E P w0 κ0 n0 κ' H' w' ∧ (∀ i, i < H.length → κ' i = κ i) ∧ H.length ≤ H'.length ∧ AC H'
theorem SC.mono {w0 : World} {κ0 : Nat → Loc} {n0 : Nat} {AC : AHeap → Prop} {κ κ1 : Nat → Loc} {H H1 : AHeap} (hk : ∀ i, i < H.length → κ1 i = κ i) (hl : H.length ≤ H1.length) (w : World) (h : SC E P w0 κ0 n0 AC κ1 H1 w) : SC E P w0 κ0 n0 AC κ H w := by
  obtain ⟨κ', H', h1, h2, h3, h4⟩ := h
  exact ⟨κ', H', h1, fun i hi => (h2 i (Nat.lt_of_lt_of_le hi hl)).trans (hk i hi), Nat.le_trans hl h3, h4⟩

/-- Only a normal end. -/
def Nrm (Q : Exit → Act → World → Prop) (e : Exit) (a : Act) (w : World) : Prop := e = .normal ∧ Q e a w

theorem wpAnyC_one {ops : Array Oper} {Q : Exit → Act → World → Prop} {late : List Nat} {S : World → Prop} {i fuel : Nat} {o : Oper} {listed : Array Bool} {a : Act} {w : World} (hi : ops[i]? = some o) (hr : Region.ready .any ops listed = [i])
    (h : wpOp P ops Q i (fun a' w' => (NL late (listed.setIfInBounds i true) → S w') ∧ wpAnyC P .any ops Q late S fuel (listed.setIfInBounds i true) a' w') a w) : wpAnyC P .any ops Q late S (fuel + 1) listed a w :=
  ⟨fun h0 => (by rw [hr] at h0; cases h0), fun j hj => (by rw [hr, List.mem_singleton] at hj; subst hj; exact h)⟩

theorem draw_key {w0 : World} {κ0 : Nat → Loc} {n0 : Nat} {ops : Array Oper} {late noisy : List Nat} {AC : AHeap → Prop} {Q : Post} (hsel : Region.noSelect ops = true) :
    ∀ (order : List Nat) (listed : Array Bool) (T : Nat → AV) (H : AHeap) (κ : Nat → Loc) (a : Act) (w : World), listed.size = ops.size → St E P w0 κ0 n0 κ H w → TR κ H.length N T a → (NL late listed → AC H) →
      drawOk ops late noisy order listed = true → DrawK E P N ops AC late noisy (Q .normal) order T H →
      wpAnyC P .any ops (Nrm (APost E P w0 κ0 n0 N Q)) late (SC E P w0 κ0 n0 AC κ H) order.length listed a w
  | [], listed, T, H, κ, a, w, hsz, hs, ht, hac, hok, h => by
    refine ⟨by simpa [drawOk] using hok, rfl, κ, T, H, hs, ht, h⟩
  | i :: rest, listed, T, H, κ, a, w, hsz, hs, ht, hac, hok, h => by
    unfold drawOk at hok
    obtain ⟨hthis, hrest⟩ := (Bool.and_eq_true _ _).mp hok
    obtain ⟨o, b, hi, hw, h⟩ := DrawK.cons h
    · rw [hi] at hthis
      simp only at hthis
      have hilt : i < ops.size := (Array.getElem?_eq_some_iff.1 hi).1
      have hsz' : (listed.setIfInBounds i true).size = ops.size := by simpa using hsz
      have hself : NL late (listed.setIfInBounds i true) → late.contains i = false := by
        intro hn
        cases hc : late.contains i with
        | false => rfl
        | true =>
          have := hn i (by simpa using hc)
          simp [hsz, hilt] at this
      have hback : NL late (listed.setIfInBounds i true) → NL late listed := by
        intro hn j hj
        have := hn j hj
        by_cases hji : i = j
        · subst hji; simp [hsz, hilt] at this
        · rwa [getD_set_ne false hji] at this
      · have hwant := wants_wanted ht hw
        by_cases hq : ((quietOp o && !noisy.contains i) && !(late.any fun j => listed.getD j false)) = true
        · -- quiet, and before the late ones
          rw [if_pos hq] at hthis
          simp only [Bool.and_eq_true] at hq hthis
          obtain ⟨⟨⟨hr, hfree⟩, hnl⟩, hl⟩ := hthis
          have hNL : NL late listed := by
            intro j hj
            have h2 := hq.2
            simp only [Bool.not_eq_true', List.any_eq_false] at h2
            simpa using h2 j hj
          have hlate : ∀ j ∈ late, ∀ oj, ops[j]? = some oj → ∃ e ∈ oj.after, Region.binds .any e = true ∧ e.on = i := by
            intro j hj oj hoj
            have := (List.all_eq_true.1 hl) j hj
            rw [hoj] at this
            obtain ⟨e, he, hb⟩ := Array.any_eq_true'.1 this
            simp only [Bool.and_eq_true, beq_iff_eq] at hb
            exact ⟨e, he, hb.1, hb.2⟩
          have hil : i ∉ late := by simpa using hnl
          have hSw : SC E P w0 κ0 n0 AC κ H w := ⟨κ, H, hs, fun _ _ => rfl, Nat.le_refl _, hac hNL⟩
          cases b with
          | false =>
            refine wpAnyC_first (v := undef) hi (Region.noSelect_spec hsel) (by rintro c a w ⟨h, -⟩; cases h) hil hlate rest.length listed a w hNL (Region.free_spec hi hfree) (by simpa using hr) (.inr ⟨hwant, rfl⟩) hSw ?_
            exact draw_key hsel rest _ _ H κ _ w hsz' hs (ht.put o.dst (vr_nix _ _)) (fun hn => hac (hback hn)) hrest (h.2 rfl)
          | true =>
            have h := h.1 rfl
            have hqq : (quietOp o && !noisy.contains i) = true := by simpa using hq.1
            unfold drawOpK at h
            rw [hqq] at h
            simp only at h
            split at h
            · rename_i v H1 hst
              obtain ⟨rfl, hall, hdet, hK⟩ := h
              have hszs : ∀ i c e rw, H1[i]? = some (.cells c e rw) → (κ i).sz = P.cellsOf e := by
                intro i c e rw hi
                obtain ⟨C, e', fr, h1, h2, hz, -⟩ := hs.objs i _ hi
                exact hz
              have hquiet : quietOp o = true := hq.1.1
              obtain ⟨r, w2, κ2, e1, e2, e3, e4, e5, e6⟩ := astep_ok hst hs ht
              rw [hquiet] at e2
              rcases e2 with ⟨u, rfl, hu⟩ | ⟨-, -, hf⟩
              · have hw2 := e6 hquiet rfl
                subst hw2
                have huκ : VR κ H1.length v u := by
                  refine hu.mono (κ' := κ) (fun i hi => (e4 i hi).symm) (Nat.le_refl _)
                refine wpAnyC_first (v := u) hi (Region.noSelect_spec hsel) (by rintro c a w ⟨h, -⟩; cases h) hil hlate rest.length listed a _ hNL (Region.free_spec hi hfree) (by simpa using hr) (.inl ⟨hwant, ?_⟩) hSw ?_
                · intro w' hw'
                  obtain ⟨κ', H', s1, s2, s3, s4⟩ := hw'
                  obtain ⟨r', w3, κ3, f1, f2, f3, f4, f5, f6⟩ := astep_ok (hall H' s4 s3) s1 (ht.mono s2 s3)
                  rw [hquiet] at f2
                  rcases f2 with ⟨u', rfl, hu'⟩ | ⟨-, -, hf⟩
                  · have hw3 := f6 hquiet rfl
                    subst hw3
                    have : u' = u := by
                      have g1 : VR κ' H'.length v u := huκ.mono s2 s3
                      have g2 : VR κ' H'.length v u' := hu'.mono (κ' := κ') (fun i hi => (f4 i hi).symm) (Nat.le_refl _)
                      refine VR.det (H := H1) (κ := κ') ?_ 6 v u' u hdet g2 g1
                      intro i c e rw hi
                      rw [s2 i (List.getElem?_eq_some_iff.1 hi).1]
                      exact hszs i c e rw hi
                    subst this
                    exact f1
                  · cases hf
                · exact draw_key hsel rest _ _ _ κ _ _ hsz' hs (ht.put o.dst huκ) (fun hn => hac (hback hn)) hrest hK
              · cases hf
            · exact h.elim
        · -- the only one that may come up
          rw [if_neg hq] at hthis
          have hr : Region.ready .any ops listed = [i] := by simpa using hthis
          refine wpAnyC_one hi hr ?_
          unfold wpOp
          simp only [hi]
          rw [hwant]
          cases b with
          | false =>
            simp only [Bool.false_eq_true, if_false]
            refine ⟨fun hn => ⟨κ, H, hs, fun _ _ => rfl, Nat.le_refl _, hac (hback hn)⟩, ?_⟩
            exact draw_key hsel rest _ _ H κ _ w hsz' hs (ht.put o.dst (vr_nix _ _)) (fun hn => hac (hback hn)) hrest (h.2 rfl)
          | true =>
            simp only [if_true]
            have h := h.1 rfl
            refine .inl ?_
            have hstep : ∀ v H', astep P o T H = some (v, H') → (NL late (listed.setIfInBounds i true) → AC H') → DrawK E P N ops AC late noisy (Q .normal) rest (upd N T o.dst v) H' →
                o.wp P a w (fun a' w' => (NL late (listed.setIfInBounds i true) → SC E P w0 κ0 n0 AC κ H w') ∧ wpAnyC P .any ops (Nrm (APost E P w0 κ0 n0 N Q)) late (SC E P w0 κ0 n0 AC κ H) rest.length (listed.setIfInBounds i true) a' w') (Nrm (APost E P w0 κ0 n0 N Q)) := by
              intro v H' hst hac' hK
              obtain ⟨r, w', κ', h1, h2, h3, h4, h5, -⟩ := astep_ok hst hs ht
              unfold Oper.wp Oper.upon
              rw [h1]
              rcases h2 with ⟨u, rfl, hv⟩ | ⟨rfl, rfl, -⟩
              · refine ⟨fun hn => ⟨κ', H', h3, h4, h5, hac' hn⟩, ?_⟩
                exact wpAnyC_mono (SC.mono h4 h5) _ _ _ _ (draw_key hsel rest _ _ H' κ' _ w' hsz' h3 ((ht.mono h4 h5).put o.dst hv) hac' hrest hK)
              · refine ⟨fun hn => ⟨κ', H', h3, h4, h5, hac' hn⟩, ?_⟩
                exact wpAnyC_mono (SC.mono h4 h5) _ _ _ _ (draw_key hsel rest _ _ H' κ' _ w' hsz' h3 ((ht.mono h4 h5).put o.dst (.undef _)) hac' hrest hK)
            unfold drawOpK at h
            split at h
            · split at h
              · rename_i v H1 hst
                obtain ⟨rfl, hall, hdet, hK⟩ := h
                exact hstep v _ hst (fun hn => hac (hback hn)) hK
              · exact h.elim
            · unfold opK at h
              split at h
              · rename_i f args ats ho
                obtain ⟨g, fs, cs, R, hf, hc, hK⟩ := h
                have hv := vr_opnd ht f
                rw [hf] at hv
                generalize hz : a.eval f = z at hv
                cases hv
                rename_i us vs g1 g2 g3 g4
                have hargs := vr_args ht args
                have hall : VRs κ H.length (fs ++ args.toList.map (opnd T) ++ cs) (us ++ (args.map a.eval).toList ++ vs) := (VRs.append ⟨g1, g2⟩ hargs).append ⟨g3, g4⟩
                have hcall := hc.2 w0 κ H.length κ _ w hs.deepen hall
                unfold Oper.wp
                have hrun : (execOp a.eval o).run P w = .ok (.enter g (us ++ (args.map a.eval).toList ++ vs).toArray) w := by
                  unfold execOp
                  simp only [ho, resolve, hz, Deferred.ofValue, Sem.run_bind, Sem.run_pure, Result.andThen_ok, invoke, run_callFunc hc.1]
                  congr 2
                  apply Array.ext'
                  simp
                rw [hrun, Oper.upon_enter]
                refine hcall.mono fun e w' he => ?_
                obtain ⟨v, κ', r, H', rfl, h1, h2, h3⟩ := he
                obtain ⟨hac', hK'⟩ := hK r H' h3
                have hac2 : NL late (listed.setIfInBounds i true) → AC H' := fun hn => hac' (hself hn)
                refine ⟨fun hn => ⟨κ', H', hs.back h1, h1.ext, h1.n0le, hac2 hn⟩, ?_⟩
                exact wpAnyC_mono (SC.mono h1.ext h1.n0le) _ _ _ _ (draw_key hsel rest _ _ H' κ' _ w' hsz' (hs.back h1) ((ht.mono (fun i hi => h1.ext i hi) h1.n0le).put o.dst h2) hac2 hrest hK')
              · split at h
                · rename_i v H' hst
                  exact hstep v H' hst (fun hn => h.1 (hself hn)) h.2
                · exact h.elim

theorem ACode.regionD {id : Nat} {l : List Oper} {Q : Post} {T : Nat → AV} {H : AHeap} (order late noisy : List Nat) (AC : AHeap → Prop) (hm : P.follows .mixedOrders = true)
    (hB : (Region.noSelect l.toArray && order.length == l.length && drawOk l.toArray late noisy order (Array.replicate l.length false)) = true) (hAC : AC H)
    (h : DrawK E P N l.toArray AC late noisy (Q .normal) order T H) : ACode E P N (.region id l.toArray true) Q T H := by
  simp only [Bool.and_eq_true, beq_iff_eq] at hB
  obtain ⟨⟨h1, h2⟩, h3⟩ := hB
  intro w0 κ0 n0 κ a w hs ht
  have hs' : St E P w0 κ0 n0 κ H { w with drawn := w.drawn + 1 } := hs.step_below ⟨rfl, rfl, rfl, Nat.le_refl _, fun k hk => rfl⟩
  have := draw_key (E := E) (P := P) (N := N) (w0 := w0) (κ0 := κ0) (n0 := n0) (Q := Q) (AC := AC) (late := late) (noisy := noisy) h1 order (Array.replicate l.length false) T H κ a _ (by simp) hs' ht (fun _ => hAC) h3 h
  have hall := wpAny_of_C _ _ _ _ this
  rw [h2] at hall
  refine wp_mono (wp_region_any (id := id) hm (Q := Nrm (APost E P w0 κ0 n0 N Q)) (by simpa using hall)) ?_
  rintro e a w ⟨-, h⟩
  exact h
end
end Go.AL
