/- One step of any operation; calls; a function's contract out of its code. -/
import Derived.Test.YtodjcocapdjomaaDoorAlGb
namespace Go.AL
open Go Go.RowKit
set_option linter.unusedVariables false
set_option linter.unusedSimpArgs false

def abin (P : Program) (op : BinOp) (t : TypeId) (x y : AV) : Option AV :=
  match x, y with
  | .int k a, .int j b => if isShift op then ashift op k a b else if k = j then aintOp op k a b else none
  | .str a, .str b => astrOp op a b
  | .agg a, .agg b => if P.eqGuardType P.depth t then none else match op with
    | .eql => (aeq P 20 t (.agg a) (.agg b)).map .bool
    | .neq => (aeq P 20 t (.agg a) (.agg b)).map fun c => .bool (!c)
    | _ => none
  | x, y => match op with
    | .eql => (aeq P 20 t x y).map .bool
    | .neq => (aeq P 20 t x y).map fun c => .bool (!c)
    | _ => none
def aun (op : UnOp) (x : AV) : Option AV :=
  match op, x with
  | .neg, .int k n => some (.int k (k.wrap (0 - n)))
  | .not, .bool b => some (.bool (!b))
  | .xor, .int k n => some (.int k (k.wrap (BitVec.ofInt k.bits (if k.signed then -1 else k.max) ^^^ BitVec.ofInt k.bits n).toNat))
  | _, _ => none
def ifaceT (P : Program) (t : TypeId) : Bool := match P.underlying t with | some (.interface _) => true | some _ => false | none => true
def aparts (T : Nat → AV) (ps : Array (Nat × Operand)) : List (Nat × AV) := ps.toList.map fun p => (p.1, opnd T p.2)
def abuiltin (P : Program) (H : AHeap) (b : Builtin) (ts : List TypeId) (xs : List AV) : Option (AV × AHeap) :=
  match b, ts, xs with
  | .len, [t], [x] => (alen P t x).map (·, H)
  | .append, [t, u], [s, x] => aappend P H t u s x
  | .max, _, xs => (afold1 amax2 xs).map (·, H)
  | .min, _, xs => (afold1 amin2 xs).map (·, H)
  | .unsafeSliceData, [_], [x] => (asliceData x).map (·, H)
  | .unsafeString, [t, _], [x, n] => aunsafeString P H t x n
  | _, _, _ => none

def astep (P : Program) (o : Oper) (T : Nat → AV) (H : AHeap) : Option (AV × AHeap) :=
  match o.op with
  | .move x => some (opnd T x, H)
  | .assign x => some (opnd T x, H)
  | .pick c a b => match opnd T c with
    | .bool t => some (if t then opnd T a else opnd T b, H)
    | _ => none
  | .alloc e => aalloc P H e
  | .box e x => abox P H e (opnd T x)
  | .build t ps => (abuild P t (aparts T ps)).map (·, H)
  | .buildSlice t n ps => abuildSlice P H t n (aparts T ps)
  | .load t x => (aload P H t (opnd T x)).map (·, H)
  | .store t x v => (astore P H t (opnd T x) (opnd T v)).map (.undef, ·)
  | .nilCheck x => match opnd T x with
    | .ptr (some a) => some (.ptr (some a), H)
    | .func f fs cs => some (.func f fs cs, H)
    | _ => none
  | .binOp op t x y _ => (abin P op t (opnd T x) (opnd T y)).map (·, H)
  | .unOp op _ x => (aun op (opnd T x)).map (·, H)
  | .convert s d x => aconvert P H s d (opnd T x)
  | .makeInterface t x => if ifaceT P t then none else some (.iface t (opnd T x), H)
  | .makeFunc fn first captured => match fn with
    | .func f => some (.func f (first.toList.map (opnd T)) (captured.toList.map (opnd T)), H)
    | _ => none
  | .makeSlice t l c => amakeSlice P H t (opnd T l) (opnd T c)
  | .slice t x lo hi mx => match mx with
    | none => (aslice P H t (opnd T x) (lo.map (opnd T)) (hi.map (opnd T))).map (·, H)
    | some _ => none
  | .fieldAddr t x f => (afieldAddr P t (opnd T x) f).map (·, H)
  | .field t x f => (afield P t (opnd T x) f).map (·, H)
  | .indexAddr t x ix => (aindexAddr P t (opnd T x) (opnd T ix)).map (·, H)
  | .index t x ix => (aindex P t (opnd T x) (opnd T ix)).map (·, H)
  | .range t x => arange P H t (opnd T x)
  | .next it isString => if isString then anext H (opnd T it) else none
  | .extract t i => match opnd T t with
    | .tuple vs => (vs[i]?).map (·, H)
    | _ => none
  | .call c => match c.callee with
    | .builtin b => abuiltin P H b c.argTypes.toList (c.args.toList.map (opnd T))
    | _ => none
  | _ => none

section
variable {E : World → Prop} {P : Program} {w0 : World} {κ0 : Nat → Loc} {n0 : Nat} {κ : Nat → Loc} {H : AHeap} {w : World} {N : Nat} {T : Nat → AV} {a : Act}

theorem agg_or {n : Nat} {x : AV} {u : Value} (h : VR κ n x u) : (∃ cs vs, x = .agg cs ∧ u = .agg vs) ∨ (∀ vs, u ≠ .agg vs) ∨ x = .undef := by
  cases h <;> simp

theorem eqGuard_plain {op : BinOp} {t : TypeId} {x y : Operand} {a b : Value} (ha : ∀ vs, a ≠ .agg vs) (hi : a ≠ .nilIface) : (eqGuard op t x y a b).run P w = .ok () w := by
  unfold eqGuard
  cases op <;> simp <;> (cases a <;> cases b <;> simp_all)
theorem eqGuard_agg {op : BinOp} {t : TypeId} {x y : Operand} {a b : Value} (ha : ∃ vs, a = .agg vs) (h : P.eqGuardType P.depth t = false) : (eqGuard op t x y a b).run P w = .ok () w := by
  obtain ⟨vs, rfl⟩ := ha
  unfold eqGuard
  cases op <;> simp <;> (cases b <;> simp_all)
theorem binOp_eql {t : TypeId} {a b : Value} (h : ∀ k n, a ≠ .int k n) (h2 : ∀ s, a ≠ .string s) (h3 : ∀ k n, a ≠ .float k n) (h4 : ∀ k n m, a ≠ .complex k n m) : binOp .eql t a b = (do pure (.bool (← Op.equal t a b))) ∧ binOp .neq t a b = (do pure (.bool (!(← Op.equal t a b)))) := by
  cases a <;> simp_all [binOp]

theorem aeq_kinds {d : Nat} {t : TypeId} {x y : AV} {b : Bool} (h : aeq P d t x y = some b) : x ≠ .undef ∧ x ≠ .nilIface ∧ (∀ cs, x ≠ .tuple cs) := by
  cases d with
  | zero => simp [aeq] at h
  | succ d =>
    unfold aeq at h
    refine ⟨?_, ?_, ?_⟩
    · rintro rfl; split at h <;> simp at h
    · rintro rfl; split at h <;> simp at h
    · rintro cs rfl; split at h <;> simp at h

theorem eq_op_ok {op : BinOp} {t : TypeId} {x y : AV} {xo yo : Operand} {xu yu : Value} {b : Bool} {n : Nat} (hni : ∀ k m, x ≠ .int k m) (hns : ∀ s, x ≠ .str s) (hx : VR κ n x xu) (hy : VR κ n y yu) (h : aeq P 20 t x y = some b)
    (hg : (∃ cs, x = .agg cs) → P.eqGuardType P.depth t = false) :
    ((do eqGuard .eql t xo yo xu yu; binOp .eql t xu yu : Sem Value).run P w = .ok (.bool b) w) ∧ ((do eqGuard .neq t xo yo xu yu; binOp .neq t xu yu : Sem Value).run P w = .ok (.bool (!b)) w) := by
  obtain ⟨k1, k2, k3⟩ := aeq_kinds h
  have heq := aeq_ok (P := P) (w := w) 20 10000 t x y b xu yu (by omega) h hx hy
  have hguard : ∀ op, (eqGuard op t xo yo xu yu).run P w = .ok () w := by
    intro op
    rcases agg_or hx with ⟨cs, vs, e1, e2⟩ | h1 | h1
    · exact eqGuard_agg ⟨vs, e2⟩ (hg ⟨cs, e1⟩)
    · refine eqGuard_plain h1 ?_
      rintro rfl
      cases hx
      · exact k1 rfl
      · exact k2 rfl
    · exact absurd h1 k1
  have hb := binOp_eql (t := t) (a := xu) (b := yu) (by rintro k m rfl; cases hx; exact k1 rfl; exact hni _ _ rfl) (by rintro s rfl; cases hx; exact k1 rfl; exact hns _ rfl) (by rintro k m rfl; cases hx; exact k1 rfl) (by rintro k m l rfl; cases hx; exact k1 rfl)
  constructor
  · simp only [Sem.run_bind, hguard, Result.andThen_ok, hb.1, Op.equal, Op.maxDepth, heq, Sem.run_pure]
  · simp only [Sem.run_bind, hguard, Result.andThen_ok, hb.2, Op.equal, Op.maxDepth, heq, Sem.run_pure]

theorem bin_ok {op : BinOp} {t : TypeId} {x y v : AV} {xo yo : Operand} {xu yu : Value} {n : Nat} (h : abin P op t x y = some v) (hx : VR κ n x xu) (hy : VR κ n y yu) :
    ∃ u, (do eqGuard op t xo yo xu yu; binOp op t xu yu : Sem Value).run P w = .ok u w ∧ VR κ n v u := by
  unfold abin at h
  split at h
  · rename_i k a j b
    cases hx; cases hy
    have hg : (eqGuard op t xo yo (.int k a) (.int j b)).run P w = .ok () w := eqGuard_plain (by intro vs h; cases h) (by intro h; cases h)
    simp only [Sem.run_bind, hg, Result.andThen_ok]
    split at h
    · rename_i hsh
      obtain ⟨u, e1, e2⟩ := shift_ok (P := P) (w := w) (j := j) (κ := κ) (n := n) h
      refine ⟨u, ?_, e2⟩
      cases op <;> simp [isShift] at hsh <;> exact e1
    · rename_i hsh
      split at h
      · rename_i hk
        subst hk
        exact intOp_ok (by simpa using hsh) h
      · cases h
  · rename_i a b
    cases hx; cases hy
    have hg : (eqGuard op t xo yo (.string ⟨a.toArray⟩) (.string ⟨b.toArray⟩)).run P w = .ok () w := eqGuard_plain (by intro vs h; cases h) (by intro h; cases h)
    simp only [Sem.run_bind, hg, Result.andThen_ok]
    exact strOp_ok h
  · rename_i a b
    split at h
    · cases h
    · rename_i hgt
      have hgt' : P.eqGuardType P.depth t = false := by simpa using hgt
      split at h
      · cases hb : aeq P 20 t (.agg a) (.agg b) with
        | none => simp [hb] at h
        | some c =>
          simp only [hb, Option.map_some, Option.some.injEq] at h
          subst h
          exact ⟨_, (eq_op_ok (op := .eql) (by intro k m h; cases h) (by intro s h; cases h) hx hy hb (fun _ => hgt')).1, .bool _⟩
      · cases hb : aeq P 20 t (.agg a) (.agg b) with
        | none => simp [hb] at h
        | some c =>
          simp only [hb, Option.map_some, Option.some.injEq] at h
          subst h
          exact ⟨_, (eq_op_ok (op := .eql) (by intro k m h; cases h) (by intro s h; cases h) hx hy hb (fun _ => hgt')).2, .bool _⟩
      · cases h
  · rename_i hn1 hn2 hn3
    have hnagg : ∀ b, aeq P 20 t x y = some b → (∃ cs, x = .agg cs) → P.eqGuardType P.depth t = false := by
      rintro b hb ⟨cs, rfl⟩
      exfalso
      have : ∃ ys, y = .agg ys := by
        unfold aeq at hb
        cases y <;> first | exact ⟨_, rfl⟩ | (exfalso; revert hb; split <;> simp)
      obtain ⟨ys, rfl⟩ := this
      exact hn3 _ _ rfl rfl
    have hint : ∀ b, aeq P 20 t x y = some b → ∀ k m, x ≠ .int k m := by
      rintro b hb k m rfl
      have : ∃ k' m', y = .int k' m' := by
        unfold aeq at hb
        cases y <;> first | exact ⟨_, _, rfl⟩ | (exfalso; revert hb; split <;> simp)
      obtain ⟨k', m', rfl⟩ := this
      exact hn1 _ _ _ _ rfl rfl
    have hstr : ∀ b, aeq P 20 t x y = some b → ∀ s, x ≠ .str s := by
      rintro b hb s rfl
      have : ∃ s', y = .str s' := by
        unfold aeq at hb
        cases y <;> first | exact ⟨_, rfl⟩ | (exfalso; revert hb; split <;> simp)
      obtain ⟨s', rfl⟩ := this
      exact hn2 _ _ rfl rfl
    split at h
    · cases hb : aeq P 20 t x y with
      | none => simp [hb] at h
      | some c =>
        simp only [hb, Option.map_some, Option.some.injEq] at h
        subst h
        exact ⟨_, (eq_op_ok (op := .eql) (hint _ hb) (hstr _ hb) hx hy hb (hnagg _ hb)).1, .bool _⟩
    · cases hb : aeq P 20 t x y with
      | none => simp [hb] at h
      | some c =>
        simp only [hb, Option.map_some, Option.some.injEq] at h
        subst h
        exact ⟨_, (eq_op_ok (op := .eql) (hint _ hb) (hstr _ hb) hx hy hb (hnagg _ hb)).2, .bool _⟩
    · cases h
theorem un_ok {op : UnOp} {x v : AV} {xu : Value} {n : Nat} (h : aun op x = some v) (hx : VR κ n x xu) : ∃ u, (Op.unary op xu).run P w = .ok u w ∧ VR κ n v u := by
  unfold aun at h
  split at h <;> simp only [Option.some.injEq, reduceCtorEq] at h <;> subst h <;> cases hx
  · exact ⟨_, rfl, .int _ _⟩
  · exact ⟨_, rfl, .bool _⟩
  · exact ⟨_, rfl, .int _ _⟩

theorem vr_parts {n N : Nat} {T : Nat → AV} {a : Act} (ht : TR κ n N T a) (ps : Array (Nat × Operand)) :
    (aparts T ps).length = (ps.map fun (i, x) => (i, a.eval x)).toList.length ∧ ∀ (j : Nat) (p : Nat × AV) (q : Nat × Value), (aparts T ps)[j]? = some p → (ps.map fun (i, x) => (i, a.eval x)).toList[j]? = some q → p.1 = q.1 ∧ VR κ n p.2 q.2 := by
  refine ⟨by simp [aparts], fun j p q hp hq => ?_⟩
  simp only [aparts] at hp
  rw [Array.toList_map] at hq
  rw [List.getElem?_map] at hp hq
  cases hz : ps.toList[j]? with
  | none => rw [hz] at hp; simp at hp
  | some z =>
    rw [hz] at hp hq
    simp only [Option.map_some, Option.some.injEq] at hp hq
    subst hp; subst hq
    exact ⟨rfl, vr_opnd ht z.2⟩
theorem vr_args {n N : Nat} {T : Nat → AV} {a : Act} (ht : TR κ n N T a) (xs : Array Operand) : VRs κ n (xs.toList.map (opnd T)) (xs.map a.eval).toList := by
  refine ⟨by simp, fun j p q hp hq => ?_⟩
  rw [Array.toList_map] at hq
  rw [List.getElem?_map] at hp hq
  cases hz : xs.toList[j]? with
  | none => rw [hz] at hp; simp at hp
  | some z =>
    rw [hz] at hp hq
    simp only [Option.map_some, Option.some.injEq] at hp hq
    subst hp; subst hq
    exact vr_opnd ht z

/-- Operations that turn no object. -/
def quietOp (o : Oper) : Bool :=
  match o.op with
  | .move _ | .assign _ | .pick .. | .build .. | .load .. | .nilCheck _ | .binOp .. | .unOp .. | .convert .. | .makeInterface .. | .makeFunc .. | .slice .. | .fieldAddr .. | .field .. | .indexAddr .. | .index .. | .extract .. => true
  | .call { callee := .builtin b, .. } => match b with | .len | .max | .min => true | _ => false
  | _ => false
/-- What a step must show. -/
def StepOk (E : World → Prop) (P : Program) (w0 : World) (κ0 : Nat → Loc) (n0 : Nat) (κ : Nat → Loc) (H : AHeap) (w : World) (q : Bool) (s : Sem Next) (v : AV) (H' : AHeap) : Prop :=
  ∃ r w' κ', s.run P w = .ok r w' ∧ ((∃ u, r = .value u ∧ VR κ' H'.length v u) ∨ (r = .skip ∧ v = .undef ∧ q = false)) ∧ St E P w0 κ0 n0 κ' H' w' ∧ (∀ i, i < H.length → κ' i = κ i) ∧ H.length ≤ H'.length ∧ (q = true → H' = H → w' = w)
theorem StepOk.of_op {q : Bool} {s : Sem Value} {v : AV} {H' : AHeap} (h : OpOk E P w0 κ0 n0 κ H w s v H') : StepOk E P w0 κ0 n0 κ H w q (do pure (.value (← s))) v H' := by
  obtain ⟨u, w', κ', h1, h2, h3, h4, h5, h6⟩ := h
  exact ⟨.value u, w', κ', by simp only [Sem.run_bind, h1, Result.andThen_ok, Sem.run_pure], .inl ⟨u, rfl, h2⟩, h3, h4, h5, fun _ => h6⟩
theorem map_fst {α : Type} {o : Option α} {H' : AHeap} {v : α} {H : AHeap} (h : o.map (·, H) = some (v, H')) : o = some v ∧ H' = H := by
  cases o with
  | none => simp at h
  | some x => simp at h; exact ⟨by rw [h.1], h.2.symm⟩

theorem astep_ok {o : Oper} {v : AV} {H' : AHeap} (h : astep P o T H = some (v, H')) (hs : St E P w0 κ0 n0 κ H w) (ht : TR κ H.length N T a) : StepOk E P w0 κ0 n0 κ H w (quietOp o) (execOp a.eval o) v H' := by
  have val : ∀ {s : Sem Value} {u : Value}, s.run P w = .ok u w → VR κ H.length v u → H' = H → OpOk E P w0 κ0 n0 κ H w s v H' := by
    rintro s u h1 h2 rfl
    exact OpOk.same hs h1 h2
  unfold astep at h
  unfold execOp
  cases hop : o.op <;> simp only [hop] at h ⊢ <;> (try (cases h; done))
  case move x =>
    simp only [Option.some.injEq, Prod.mk.injEq] at h
    obtain ⟨rfl, rfl⟩ := h
    exact ⟨_, w, κ, rfl, .inl ⟨_, rfl, vr_opnd ht x⟩, hs, fun _ _ => rfl, Nat.le_refl _, fun _ _ => rfl⟩
  case assign x =>
    simp only [Option.some.injEq, Prod.mk.injEq] at h
    obtain ⟨rfl, rfl⟩ := h
    exact ⟨_, w, κ, rfl, .inl ⟨_, rfl, vr_opnd ht x⟩, hs, fun _ _ => rfl, Nat.le_refl _, fun _ _ => rfl⟩
  case pick c x y =>
    split at h
    · rename_i t hc
      simp only [Option.some.injEq, Prod.mk.injEq] at h
      obtain ⟨rfl, rfl⟩ := h
      have hv := vr_opnd ht c
      rw [hc] at hv
      have he : a.eval c = .bool t := by generalize a.eval c = z at hv; cases hv; rfl
      refine ⟨.value (if t then a.eval x else a.eval y), w, κ, by simp [he, asBool], .inl ⟨_, rfl, ?_⟩, hs, fun _ _ => rfl, Nat.le_refl _, fun _ _ => rfl⟩
      cases t
      · exact vr_opnd ht y
      · exact vr_opnd ht x
    · cases h
  case alloc e => exact StepOk.of_op (alloc_ok h hs)
  case box e x => exact StepOk.of_op (box_ok h hs (vr_opnd ht x))
  case build t ps =>
    obtain ⟨h1, rfl⟩ := map_fst h
    have hp := vr_parts ht ps
    exact StepOk.of_op (build_ok h1 hs hp.1 hp.2)
  case buildSlice t n ps =>
    have hp := vr_parts ht ps
    exact StepOk.of_op (buildSlice_ok h hs hp.1 hp.2)
  case load t x =>
    obtain ⟨h1, rfl⟩ := map_fst h
    exact StepOk.of_op (load_ok h1 hs (vr_opnd ht x))
  case store t x y =>
    cases hst : astore P H t (opnd T x) (opnd T y) with
    | none => simp [hst] at h
    | some H2 =>
      simp only [hst, Option.map_some, Option.some.injEq, Prod.mk.injEq] at h
      obtain ⟨rfl, rfl⟩ := h
      obtain ⟨w', h1, h2, h3⟩ := store_ok hst hs (vr_opnd ht x) (vr_opnd ht y)
      exact ⟨.skip, w', κ, by simp [h1], .inr ⟨rfl, rfl, by simp [quietOp, hop]⟩, h2, fun _ _ => rfl, Nat.le_of_eq h3.symm, fun hq => by simp [quietOp, hop] at hq⟩
  case nilCheck x =>
    split at h
    · rename_i ad hx
      simp only [Option.some.injEq, Prod.mk.injEq] at h
      obtain ⟨rfl, rfl⟩ := h
      have hv := vr_opnd ht x
      rw [hx] at hv
      generalize hz : a.eval x = z at hv
      cases hv
      exact ⟨_, w, κ, rfl, .inl ⟨_, rfl, by constructor; assumption⟩, hs, fun _ _ => rfl, Nat.le_refl _, fun _ _ => rfl⟩
    · rename_i f fs cs hx
      simp only [Option.some.injEq, Prod.mk.injEq] at h
      obtain ⟨rfl, rfl⟩ := h
      have hv := vr_opnd ht x
      rw [hx] at hv
      generalize hz : a.eval x = z at hv
      have hv' := hv
      cases hv
      exact ⟨_, w, κ, rfl, .inl ⟨_, rfl, hv'⟩, hs, fun _ _ => rfl, Nat.le_refl _, fun _ _ => rfl⟩
    · cases h
  case binOp op t x y yt =>
    obtain ⟨h1, rfl⟩ := map_fst h
    obtain ⟨u, e1, e2⟩ := bin_ok (P := P) (w := w) (xo := x) (yo := y) h1 (vr_opnd ht x) (vr_opnd ht y)
    exact StepOk.of_op (OpOk.same hs e1 e2)
  case unOp op t x =>
    obtain ⟨h1, rfl⟩ := map_fst h
    obtain ⟨u, e1, e2⟩ := un_ok (P := P) (w := w) h1 (vr_opnd ht x)
    exact StepOk.of_op (OpOk.same hs e1 e2)
  case convert s d x => exact StepOk.of_op (convert_ok h hs (vr_opnd ht x))
  case makeInterface t x =>
    split at h
    · cases h
    · rename_i hi
      simp only [Option.some.injEq, Prod.mk.injEq] at h
      obtain ⟨rfl, rfl⟩ := h
      refine StepOk.of_op (OpOk.same (u := .iface t (a.eval x)) hs ?_ (.iface t _ _ (vr_opnd ht x)))
      unfold ifaceT at hi
      split at hi
      · simp at hi
      · rename_i d hd hu
        unfold Instr.makeInterface
        rw [Sem.run_bind, run_underlying hu w]
        cases d <;> first | rfl | (exact absurd rfl (hd _))
      · simp at hi
  case makeFunc fn first captured =>
    split at h
    · rename_i f
      simp only [Option.some.injEq, Prod.mk.injEq] at h
      obtain ⟨rfl, rfl⟩ := h
      have h1 := vr_args ht first
      have h2 := vr_args ht captured
      refine StepOk.of_op (OpOk.same (u := .func (.func f) (first.map a.eval) (captured.map a.eval)) hs rfl ?_)
      have := VR.func (κ := κ) (n := H.length) f _ _ _ _ h1.1 h1.2 h2.1 h2.2
      rwa [Array.toArray_toList, Array.toArray_toList] at this
    · cases h
  case makeSlice t l c => exact StepOk.of_op (makeSlice_ok h hs (vr_opnd ht l) (vr_opnd ht c))
  case slice t x lo hi mx =>
    split at h
    · obtain ⟨h1, rfl⟩ := map_fst h
      refine StepOk.of_op (slice_ok h1 hs (vr_opnd ht x) ?_ ?_)
      · cases lo with
        | none => exact .inl ⟨rfl, rfl⟩
        | some l => exact .inr ⟨_, _, rfl, rfl, vr_opnd ht l⟩
      · cases hi with
        | none => exact .inl ⟨rfl, rfl⟩
        | some l => exact .inr ⟨_, _, rfl, rfl, vr_opnd ht l⟩
    · cases h
  case fieldAddr t x f =>
    obtain ⟨h1, rfl⟩ := map_fst h
    exact StepOk.of_op (fieldAddr_ok h1 hs (vr_opnd ht x))
  case field t x f =>
    obtain ⟨h1, rfl⟩ := map_fst h
    exact StepOk.of_op (field_ok h1 hs (vr_opnd ht x))
  case indexAddr t x ix =>
    obtain ⟨h1, rfl⟩ := map_fst h
    exact StepOk.of_op (indexAddr_ok h1 hs (vr_opnd ht x) (vr_opnd ht ix))
  case index t x ix =>
    obtain ⟨h1, rfl⟩ := map_fst h
    exact StepOk.of_op (index_ok h1 hs (vr_opnd ht x) (vr_opnd ht ix))
  case range t x => exact StepOk.of_op (range_ok h hs (vr_opnd ht x))
  case next it isStr =>
    split at h
    · rename_i hb
      subst hb
      exact StepOk.of_op (next_ok h hs (vr_opnd ht it))
    · cases h
  case extract t i =>
    split at h
    · rename_i vs hx
      obtain ⟨h1, rfl⟩ := map_fst h
      have hv := vr_opnd ht t
      rw [hx] at hv
      generalize hz : a.eval t = z at hv
      cases hv
      rename_i us g1 g2
      obtain ⟨u, hu, hr⟩ := VRs.get ⟨g1, g2⟩ h1
      refine StepOk.of_op (OpOk.same hs ?_ hr)
      simp [Instr.extract, hu]
    · cases h
  case call c =>
    split at h
    · rename_i b hb
      unfold abuiltin at h
      have hargs := vr_args ht c.args
      have hres : ∀ {s : Sem Value}, (∀ cs, builtin b c.argTypes o.type cs (c.args.map a.eval) = (do pure (.value (← s)))) → OpOk E P w0 κ0 n0 κ H w s v H' → StepOk E P w0 κ0 n0 κ H w (quietOp o) (do let d ← resolve a.eval c o.type; invoke d.target d.args) v H' := by
        intro s h1 h2
        obtain ⟨r, w', κ', e1, e2⟩ := StepOk.of_op h2
        refine ⟨r, w', κ', ?_, e2⟩
        simp only [Sem.run_bind, resolve, hb, Sem.run_pure, Result.andThen_ok, invoke, h1]
        simpa using e1
      split at h
      · rename_i t x hts hxs
        obtain ⟨h1, rfl⟩ := map_fst h
        have hta : c.argTypes = #[t] := by apply Array.ext'; rw [hts]
        rw [hxs] at hargs
        obtain ⟨xu, hxu⟩ : ∃ xu, (c.args.map a.eval).toList = [xu] := by
          cases hl : (c.args.map a.eval).toList with
          | nil => rw [hl] at hargs; have := hargs.1; simp at this
          | cons y r => cases r with
            | nil => exact ⟨y, rfl⟩
            | cons _ _ => rw [hl] at hargs; have := hargs.1; simp at this
        have hxa : c.args.map a.eval = #[xu] := by apply Array.ext'; rw [hxu]
        rw [hxu] at hargs
        refine hres (s := Builtin.len_ #[t] o.type #[xu]) (fun cs => ?_) (len_ok h1 hs hargs.head)
        rw [hta, hxa]; rfl
      · rename_i t u s x hts hxs
        have hta : c.argTypes = #[t, u] := by apply Array.ext'; rw [hts]
        rw [hxs] at hargs
        obtain ⟨su, xu, hxu⟩ : ∃ su xu, (c.args.map a.eval).toList = [su, xu] := by
          cases hl : (c.args.map a.eval).toList with
          | nil => rw [hl] at hargs; have := hargs.1; simp at this
          | cons y r => cases r with
            | nil => rw [hl] at hargs; have := hargs.1; simp at this
            | cons z r => cases r with
              | nil => exact ⟨y, z, rfl⟩
              | cons _ _ => rw [hl] at hargs; have := hargs.1; simp at this
        have hxa : c.args.map a.eval = #[su, xu] := by apply Array.ext'; rw [hxu]
        rw [hxu] at hargs
        refine hres (s := Builtin.append_ #[t, u] o.type #[su, xu]) (fun cs => ?_) (append_ok h hs hargs.head hargs.tail.head)
        rw [hta, hxa]; rfl
      · obtain ⟨h1, rfl⟩ := map_fst h
        obtain ⟨u, e1, e2⟩ := max_ok (P := P) (w := w) (ts := c.argTypes) (ty := o.type) h1 hargs
        refine hres (s := Builtin.max_ c.argTypes o.type (c.args.map a.eval)) (fun cs => rfl) (OpOk.same hs ?_ e2)
        rwa [Array.toArray_toList] at e1
      · obtain ⟨h1, rfl⟩ := map_fst h
        obtain ⟨u, e1, e2⟩ := min_ok (P := P) (w := w) (ts := c.argTypes) (ty := o.type) h1 hargs
        refine hres (s := Builtin.min_ c.argTypes o.type (c.args.map a.eval)) (fun cs => rfl) (OpOk.same hs ?_ e2)
        rwa [Array.toArray_toList] at e1
      · rename_i t x hts hxs
        obtain ⟨h1, rfl⟩ := map_fst h
        have hta : c.argTypes = #[t] := by apply Array.ext'; rw [hts]
        rw [hxs] at hargs
        obtain ⟨xu, hxu⟩ : ∃ xu, (c.args.map a.eval).toList = [xu] := by
          cases hl : (c.args.map a.eval).toList with
          | nil => rw [hl] at hargs; have := hargs.1; simp at this
          | cons y r => cases r with
            | nil => exact ⟨y, rfl⟩
            | cons _ _ => rw [hl] at hargs; have := hargs.1; simp at this
        have hxa : c.args.map a.eval = #[xu] := by apply Array.ext'; rw [hxu]
        rw [hxu] at hargs
        refine hres (s := Builtin.unsafeSliceData_ #[t] o.type #[xu]) (fun cs => ?_) (sliceData_ok h1 hs hargs.head)
        rw [hta, hxa]; rfl
      · rename_i t u s x hts hxs
        have hta : c.argTypes = #[t, u] := by apply Array.ext'; rw [hts]
        rw [hxs] at hargs
        obtain ⟨su, xu, hxu⟩ : ∃ su xu, (c.args.map a.eval).toList = [su, xu] := by
          cases hl : (c.args.map a.eval).toList with
          | nil => rw [hl] at hargs; have := hargs.1; simp at this
          | cons y r => cases r with
            | nil => rw [hl] at hargs; have := hargs.1; simp at this
            | cons z r => cases r with
              | nil => exact ⟨y, z, rfl⟩
              | cons _ _ => rw [hl] at hargs; have := hargs.1; simp at this
        have hxa : c.args.map a.eval = #[su, xu] := by apply Array.ext'; rw [hxu]
        rw [hxu] at hargs
        refine hres (s := Builtin.unsafeString_ #[t, u] o.type #[su, xu]) (fun cs => ?_) (unsafeString_ok h hs hargs.head hargs.tail.head)
        rw [hta, hxa]; rfl
      · cases h
    · cases h
end
end Go.AL
