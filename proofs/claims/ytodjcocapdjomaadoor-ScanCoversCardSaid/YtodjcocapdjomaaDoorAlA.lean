/- The abstract heap: values, objects, what they say of the model's world. -/
import Derived.Below
import Derived.Deep.AppendSrc
import Derived.Deep.MidRow
import Derived.KernelRfl
namespace Go.AL
open Go Go.RowKit
set_option linter.unusedVariables false
set_option linter.unusedSimpArgs false

/-- A value: addresses name objects of the abstract heap. -/
inductive AV where
  | undef
  | bool (b : Bool)
  | int (k : IntKind) (n : Int)
  | str (s : List UInt8)
  | ptr (a : Option (Nat × Nat))
  | slice (a : Option (Nat × Nat)) (len : Nat)
  | map (r : Option Nat)
  | func (fn : FuncId) (first captured : List AV)
  | nilFunc
  | iface (t : TypeId) (v : AV)
  | nilIface
  | agg (cs : List AV)
  | tuple (cs : List AV)
  deriving Inhabited

def AV.cells : AV → List AV
  | .agg cs => cs
  | v => [v]
/-- One cell, and known. -/
def AV.one : AV → Bool
  | .agg _ | .tuple _ | .undef => false
  | _ => true

/-- Where an object lies: block, offset of its first cell, cells of an element, elements that have room. -/
structure Loc where
  blk : Nat
  off : Nat
  sz : Nat
  cap : Nat

inductive VR (κ : Nat → Loc) (n : Nat) : AV → Value → Prop
  | undef (v : Value) : VR κ n .undef v
  | bool (b : Bool) : VR κ n (.bool b) (.bool b)
  | int (k : IntKind) (m : Int) : VR κ n (.int k m) (.int k m)
  | str (s : List UInt8) : VR κ n (.str s) (.string ⟨s.toArray⟩)
  | ptrNil : VR κ n (.ptr none) (.pointer none)
  | ptr (i o : Nat) (h : i < n) : VR κ n (.ptr (some (i, o))) (.pointer (some ⟨(κ i).blk, (κ i).off + o, none⟩))
  | sliceNil : VR κ n (.slice none 0) (.slice none 0 0)
  | slice (i o len : Nat) (ad : Addr) (cap oe : Nat) (h : i < n) (ho : o = oe * (κ i).sz) (hc : cap + oe = (κ i).cap) (hl : len ≤ cap)
      (ha : 0 < cap → ad = ⟨(κ i).blk, (κ i).off + o, none⟩) : VR κ n (.slice (some (i, o)) len) (.slice (some ad) len cap)
  | mapNil : VR κ n (.map none) (.map none)
  | map (i : Nat) (h : i < n) : VR κ n (.map (some i)) (.map (some (κ i).blk))
  | func (f : FuncId) (fs cs : List AV) (us vs : List Value) (h1 : fs.length = us.length) (h2 : ∀ (i : Nat) (c : AV) (v : Value), fs[i]? = some c → us[i]? = some v → VR κ n c v)
      (h3 : cs.length = vs.length) (h4 : ∀ (i : Nat) (c : AV) (v : Value), cs[i]? = some c → vs[i]? = some v → VR κ n c v) : VR κ n (.func f fs cs) (.func (.func f) us.toArray vs.toArray)
  | nilFunc : VR κ n .nilFunc .nilFunc
  | iface (t : TypeId) (v : AV) (u : Value) (h : VR κ n v u) : VR κ n (.iface t v) (.iface t u)
  | nilIface : VR κ n .nilIface .nilIface
  | agg (cs : List AV) (vs : List Value) (h1 : cs.length = vs.length) (h2 : ∀ (i : Nat) (c : AV) (v : Value), cs[i]? = some c → vs[i]? = some v → VR κ n c v) : VR κ n (.agg cs) (.agg vs.toArray)
  | tuple (cs : List AV) (vs : List Value) (h1 : cs.length = vs.length) (h2 : ∀ (i : Nat) (c : AV) (v : Value), cs[i]? = some c → vs[i]? = some v → VR κ n c v) : VR κ n (.tuple cs) (.tuple vs.toArray)

/-- what a slot holds that nothing was laid into -/
theorem vr_nix (κ : Nat → Loc) (n : Nat) : VR κ n (.tuple []) Go.undef := .tuple [] [] rfl (fun i c v hc _ => by simp at hc)
/-- Many values. -/
def VRs (κ : Nat → Loc) (n : Nat) (cs : List AV) (vs : List Value) : Prop := cs.length = vs.length ∧ ∀ (i : Nat) (c : AV) (v : Value), cs[i]? = some c → vs[i]? = some v → VR κ n c v

theorem VR.mono {κ κ' : Nat → Loc} {n n' : Nat} (hk : ∀ i, i < n → κ' i = κ i) (hn : n ≤ n') {v : AV} {u : Value} (h : VR κ n v u) : VR κ' n' v u := by
  induction h with
  | undef v => exact .undef v
  | bool b => exact .bool b
  | int k m => exact .int k m
  | str s => exact .str s
  | ptrNil => exact .ptrNil
  | ptr i o h => rw [← hk i h]; exact .ptr i o (by omega)
  | sliceNil => exact .sliceNil
  | slice i o len ad cap oe h ho hc hl ha => rw [← hk i h] at ho hc ha; exact .slice i o len ad cap oe (by omega) ho hc hl ha
  | mapNil => exact .mapNil
  | map i h => rw [← hk i h]; exact .map i (by omega)
  | func f fs cs us vs h1 h2 h3 h4 ih2 ih4 => exact .func f fs cs us vs h1 ih2 h3 ih4
  | nilFunc => exact .nilFunc
  | iface t v u h ih => exact .iface t v u ih
  | nilIface => exact .nilIface
  | agg cs vs h1 h2 ih => exact .agg cs vs h1 ih
  | tuple cs vs h1 h2 ih => exact .tuple cs vs h1 ih

theorem VRs.mono {κ κ' : Nat → Loc} {n n' : Nat} (hk : ∀ i, i < n → κ' i = κ i) (hn : n ≤ n') {cs : List AV} {vs : List Value} (h : VRs κ n cs vs) : VRs κ' n' cs vs :=
  ⟨h.1, fun i c v hc hv => (h.2 i c v hc hv).mono hk hn⟩
theorem VRs.nil (κ : Nat → Loc) (n : Nat) : VRs κ n [] [] := ⟨rfl, fun i c v h => by simp at h⟩
theorem VRs.cons {κ : Nat → Loc} {n : Nat} {c : AV} {v : Value} {cs : List AV} {vs : List Value} (h : VR κ n c v) (hs : VRs κ n cs vs) : VRs κ n (c :: cs) (v :: vs) := by
  refine ⟨by simp [hs.1], fun i c' v' hc hv => ?_⟩
  cases i with
  | zero => simp at hc hv; subst hc; subst hv; exact h
  | succ i => exact hs.2 i c' v' (by simpa using hc) (by simpa using hv)
theorem VRs.tail {κ : Nat → Loc} {n : Nat} {c : AV} {v : Value} {cs : List AV} {vs : List Value} (h : VRs κ n (c :: cs) (v :: vs)) : VRs κ n cs vs :=
  ⟨by simpa using h.1, fun i c' v' hc hv => h.2 (i + 1) c' v' (by simpa using hc) (by simpa using hv)⟩
theorem VRs.head {κ : Nat → Loc} {n : Nat} {c : AV} {v : Value} {cs : List AV} {vs : List Value} (h : VRs κ n (c :: cs) (v :: vs)) : VR κ n c v := h.2 0 c v rfl rfl
theorem VRs.append {κ : Nat → Loc} {n : Nat} {cs cs' : List AV} {vs vs' : List Value} (h : VRs κ n cs vs) (h' : VRs κ n cs' vs') : VRs κ n (cs ++ cs') (vs ++ vs') := by
  refine ⟨by simp [h.1, h'.1], fun i c v hc hv => ?_⟩
  rw [List.getElem?_append] at hc hv
  rw [h.1] at hc
  split at hc
  · rename_i hi
    rw [if_pos hi] at hv
    exact h.2 i c v hc hv
  · rename_i hi
    rw [if_neg hi] at hv
    exact h'.2 _ c v hc hv
theorem VRs.drop {κ : Nat → Loc} {n : Nat} {cs : List AV} {vs : List Value} (h : VRs κ n cs vs) (k : Nat) : VRs κ n (cs.drop k) (vs.drop k) :=
  ⟨by simp [h.1], fun i c v hc hv => h.2 (k + i) c v (by simpa using hc) (by simpa using hv)⟩
theorem VRs.take {κ : Nat → Loc} {n : Nat} {cs : List AV} {vs : List Value} (h : VRs κ n cs vs) (k : Nat) : VRs κ n (cs.take k) (vs.take k) := by
  refine ⟨by simp [h.1], fun i c v hc hv => ?_⟩
  rw [List.getElem?_take] at hc hv
  split at hc
  · rename_i hi
    rw [if_pos hi] at hv
    exact h.2 i c v hc hv
  · cases hc
theorem VRs.get {κ : Nat → Loc} {n : Nat} {cs : List AV} {vs : List Value} (h : VRs κ n cs vs) {i : Nat} {c : AV} (hc : cs[i]? = some c) : ∃ v, vs[i]? = some v ∧ VR κ n c v := by
  have hl := (List.getElem?_eq_some_iff.1 hc).1
  exact ⟨_, List.getElem?_eq_getElem (by rw [← h.1]; exact hl), h.2 i c _ hc (List.getElem?_eq_getElem _)⟩

theorem VR.cells {κ : Nat → Loc} {n : Nat} {v : AV} {u : Value} (h : VR κ n v u) (hu : v ≠ .undef) : VRs κ n v.cells u.cells.toList := by
  cases h with
  | undef v => exact absurd rfl hu
  | agg cs vs h1 h2 => exact ⟨by simpa [AV.cells, Value.cells] using h1, fun i c v hc hv => h2 i c v hc (by simpa [Value.cells] using hv)⟩
  | _ => exact VRs.cons (by constructor <;> assumption) (VRs.nil _ _)
theorem VR.oneCell {κ : Nat → Loc} {n : Nat} {v : AV} {u : Value} (h : VR κ n v u) (h1 : v.one = true) : u.oneCell' = true := by
  cases h <;> first | rfl | (simp [AV.one] at h1)

inductive AObj where
  | dead
  /-- a row of cells, or a variable; rw: nobody else knows it, it may be written -/
  | cells (c : List AV) (e : TypeId) (rw : Bool)
  | iter (s : List UInt8) (pos : Nat)
  deriving Inhabited
abbrev AHeap := List AObj
def AObj.excl : AObj → Bool
  | .cells _ _ rw => rw
  | .iter _ _ => true
  | .dead => false
def AObj.live : AObj → Bool
  | .dead => false
  | _ => true

/-- What an object says of the world. -/
def ObjRel (P : Program) (base : Nat) (w : World) (κ : Nat → Loc) (n : Nat) (i : Nat) : AObj → Prop
  | .dead => True
  | .cells c e rw => ∃ (C : Array Value) (e' : TypeId) (fr : Nat × Nat), w.heap[(κ i).blk]? = some (.cells C e' fr) ∧ (rw = true → e' = e ∧ (∀ o, o < C.size → (decide (fr.1 ≤ o) && decide (o < fr.2)) = false) ∧ base ≤ (κ i).blk ∧ ∃ q, (κ i).off = q * (κ i).sz) ∧
      (κ i).sz = P.cellsOf e ∧ c.length ≤ (κ i).cap * (κ i).sz ∧ (κ i).off + (κ i).cap * (κ i).sz ≤ C.size ∧ ∀ j v, c[j]? = some v → ∃ u, C[(κ i).off + j]? = some u ∧ VR κ n v u ∧ u.oneCell' = true
  | .iter s pos => base ≤ (κ i).blk ∧ (κ i).off = 0 ∧ w.heap[(κ i).blk]? = some (.stringIter ⟨s.toArray⟩ pos)

/-- The state: E says what is known of the world at the start, w0; κ0 tells where the first n0 objects lie. -/
structure St (E : World → Prop) (P : Program) (w0 : World) (κ0 : Nat → Loc) (n0 : Nat) (κ : Nat → Loc) (H : AHeap) (w : World) : Prop where
  env : E w0
  below : Below w0.heap.size w0 w
  objs : ∀ i o, H[i]? = some o → ObjRel P w0.heap.size w κ H.length i o
  iso : ∀ i o, H[i]? = some o → o.excl = true → ∀ j o', H[j]? = some o' → o'.live = true → j ≠ i → (κ j).blk ≠ (κ i).blk
  ext : ∀ i, i < n0 → κ i = κ0 i
  n0le : n0 ≤ H.length

/-- The temporaries. -/
structure TR (κ : Nat → Loc) (n N : Nat) (T : Nat → AV) (a : Act) : Prop where
  size : a.tmps.size = N
  defers : a.defers = []
  val : ∀ i, VR κ n (T i) (a.tmps.getD i undef)

theorem TR.mono {κ κ' : Nat → Loc} {n n' N : Nat} {T : Nat → AV} {a : Act} (hk : ∀ i, i < n → κ' i = κ i) (hn : n ≤ n') (h : TR κ n N T a) : TR κ' n' N T a :=
  ⟨h.size, h.defers, fun i => (h.val i).mono hk hn⟩

/-- N: how many temporaries there are. -/
def upd (N : Nat) (T : Nat → AV) (d : Option Tmp) (v : AV) : Nat → AV := fun i => if d = some i ∧ i < N then v else T i
theorem upd_none (N : Nat) (T : Nat → AV) (v : AV) : upd N T none v = T := by funext i; simp [upd]
theorem upd_same (N : Nat) (T : Nat → AV) (d : Nat) (v : AV) (h : (decide (d < N)) = true) : upd N T (some d) v d = v := by
  have : d < N := by simpa using h
  simp [upd, this]
theorem upd_ne (N : Nat) (T : Nat → AV) (d i : Nat) (v : AV) (h : (d == i) = false) : upd N T (some d) v i = T i := by
  have : ¬ d = i := by simpa using h
  simp [upd, this]

theorem TR.put {κ : Nat → Loc} {n N : Nat} {T : Nat → AV} {a : Act} (h : TR κ n N T a) (d : Option Tmp) {v : AV} {u : Value} (hv : VR κ n v u) : TR κ n N (upd N T d v) (a.put d u) := by
  cases d with
  | none => rw [upd_none]; exact h
  | some d =>
    refine ⟨by simp [Act.put, h.size], by simpa [Act.put] using h.defers, fun i => ?_⟩
    by_cases e : d = i ∧ i < N
    · obtain ⟨rfl, hd⟩ := e
      rw [upd_same _ _ _ _ (by simpa using hd)]
      have : (a.put (some d) u).tmps.getD d undef = u := by
        simp [Act.put, Array.getD_eq_getD_getElem?, Array.getElem?_setIfInBounds, h.size, hd]
      rw [this]; exact hv
    · have hT : upd N T (some d) v i = T i := by simp [upd, e]
      have : (a.put (some d) u).tmps.getD i undef = a.tmps.getD i undef := by
        by_cases hdi : d = i
        · have hge : ¬ i < N := fun hlt => e ⟨hdi, hlt⟩
          subst hdi
          simp [Act.put, Array.getD_eq_getD_getElem?, h.size, hge]
        · simp [Act.put, Array.getD_eq_getD_getElem?, Array.getElem?_setIfInBounds, hdi]
      rw [this, hT]; exact h.val i

/-! ### constants, operands -/
def cvs (f : Value → AV) : List Value → List AV
  | [] => []
  | v :: r => f v :: cvs f r
def cv1 : Value → AV
  | .bool b => .bool b
  | .int k n => .int k n
  | .string s => .str s.data.toList
  | .pointer none => .ptr none
  | .slice none 0 0 => .slice none 0
  | .map none => .map none
  | .nilFunc => .nilFunc
  | .nilIface => .nilIface
  | _ => .undef
def cv : Value → AV
  | .agg cs => .agg (cs.toList.map cv1)
  | .tuple ⟨[]⟩ => .tuple []
  | v => cv1 v
theorem vr_cv1 (κ : Nat → Loc) (n : Nat) (v : Value) : VR κ n (cv1 v) v := by
  unfold cv1
  split <;> first | (constructor; done) | exact .undef _
theorem vr_cv (κ : Nat → Loc) (n : Nat) (v : Value) : VR κ n (cv v) v := by
  unfold cv
  split
  · rename_i cs
    have h : VR κ n (.agg (cs.toList.map cv1)) (.agg cs.toList.toArray) := .agg _ _ (by simp) (fun i c v hc hv => by
      rw [List.getElem?_map, hv] at hc
      simp at hc
      subst hc
      exact vr_cv1 κ n v)
    simpa using h
  · exact .tuple [] [] rfl (fun i c v hc _ => by simp at hc)
  · exact vr_cv1 κ n _
def opnd (T : Nat → AV) : Operand → AV
  | .tmp t => T t
  | .const v => cv v
  | .global _ => .undef
  | .func f => .func f [] []
theorem vr_opnd {κ : Nat → Loc} {n N : Nat} {T : Nat → AV} {a : Act} (h : TR κ n N T a) (x : Operand) : VR κ n (opnd T x) (a.eval x) := by
  cases x with
  | tmp t => exact h.val t
  | const v => exact vr_cv κ n v
  | global g => exact .undef _
  | func f => exact .func f [] [] [] [] rfl (fun i c v hc _ => by simp at hc) rfl (fun i c v hc _ => by simp at hc)

/-! ### what becomes of a state -/
section
variable {E : World → Prop} {P : Program} {w0 : World} {κ0 : Nat → Loc} {n0 : Nat} {κ : Nat → Loc} {H : AHeap} {w : World}

theorem ObjRel.lt {base : Nat} {n i : Nat} {o : AObj} (h : ObjRel P base w κ n i o) (hl : o.live = true) : (κ i).blk < w.heap.size := by
  cases o with
  | dead => simp [AObj.live] at hl
  | cells c e rw => obtain ⟨C, e', fr, hb, _⟩ := h; exact (Array.getElem?_eq_some_iff.1 hb).1
  | iter s pos => exact (Array.getElem?_eq_some_iff.1 h.2.2).1
/-- The object's block is as it was. -/
theorem ObjRel.move {base : Nat} {n n' i : Nat} {o : AObj} {w' : World} {κ' : Nat → Loc} (h : ObjRel P base w κ n i o) (hi : κ' i = κ i) (hk : ∀ j, j < n → κ' j = κ j) (hn : n ≤ n')
    (hb : o.live = true → w'.heap[(κ i).blk]? = w.heap[(κ i).blk]?) : ObjRel P base w' κ' n' i o := by
  cases o with
  | dead => trivial
  | cells c e rw =>
    obtain ⟨C, e', fr, h1, h2, hz, h3, h4, h5⟩ := h
    refine ⟨C, e', fr, ?_, ?_, by rw [hi]; exact hz, ?_, ?_, ?_⟩
    · rw [hi, hb rfl]; exact h1
    · rw [hi]; exact h2
    · rw [hi]; exact h3
    · rw [hi]; exact h4
    · rw [hi]; intro j v hv
      obtain ⟨u, hu, hr, h1⟩ := h5 j v hv
      exact ⟨u, hu, hr.mono hk hn, h1⟩
  | iter s pos => exact ⟨by rw [hi]; exact h.1, by rw [hi]; exact h.2.1, by rw [hi, hb rfl]; exact h.2.2⟩

/-- Nothing that is known has turned. -/
theorem St.step_below (h : St E P w0 κ0 n0 κ H w) {w' : World} (hb : Below w.heap.size w w') : St E P w0 κ0 n0 κ H w' :=
  ⟨h.env, h.below.trans (hb.mono h.below.size), fun i o ho => (h.objs i o ho).move rfl (fun _ _ => rfl) (Nat.le_refl _) (fun hl => hb.block _ ((h.objs i o ho).lt hl)), h.iso, h.ext, h.n0le⟩

def kupd (κ : Nat → Loc) (i : Nat) (l : Loc) : Nat → Loc := fun j => if j = i then l else κ j
theorem kupd_same (κ : Nat → Loc) (i : Nat) (l : Loc) : kupd κ i l i = l := by simp [kupd]
theorem kupd_ne (κ : Nat → Loc) (i : Nat) (l : Loc) {j : Nat} (h : j ≠ i) : kupd κ i l j = κ j := by simp [kupd, h]
theorem kupd_lt (κ : Nat → Loc) (H : AHeap) (l : Loc) : ∀ j, j < H.length → kupd κ H.length l j = κ j := fun j hj => kupd_ne κ _ l (by omega)

/-- A new object, in a new block; the world has otherwise turned in new blocks alone. -/
theorem St.push (h : St E P w0 κ0 n0 κ H w) {w' : World} (hb : Below w.heap.size w w') (l : Loc) (o : AObj) (hblk : o.live = true → w.heap.size ≤ l.blk)
    (ho : ObjRel P w0.heap.size w' (kupd κ H.length l) (H ++ [o]).length H.length o) : St E P w0 κ0 n0 (kupd κ H.length l) (H ++ [o]) w' := by
  have hlen : (H ++ [o]).length = H.length + 1 := by simp
  have hold : ∀ i o', H[i]? = some o' → i < H.length := fun i o' hi => (List.getElem?_eq_some_iff.1 hi).1
  have hget : ∀ i o', (H ++ [o])[i]? = some o' → (i < H.length ∧ H[i]? = some o') ∨ (i = H.length ∧ o' = o) := by
    intro i o' hi
    rw [List.getElem?_append] at hi
    split at hi
    · exact .inl ⟨by assumption, hi⟩
    · rename_i hge
      have hi0 : i - H.length = 0 := by
        have := (List.getElem?_eq_some_iff.1 hi).1
        simp at this; omega
      rw [hi0] at hi
      exact .inr ⟨by omega, by simpa using hi.symm⟩
  refine ⟨h.env, h.below.trans (hb.mono h.below.size), ?_, ?_, ?_, ?_⟩
  · intro i o' hi
    rcases hget i o' hi with ⟨hlt, hi⟩ | ⟨rfl, rfl⟩
    · exact (h.objs i o' hi).move (kupd_lt κ H l i hlt) (kupd_lt κ H l) (by omega) (fun hl => hb.block _ ((h.objs i o' hi).lt hl))
    · exact ho
  · intro i oi hi hex j oj hj hlive hne
    rcases hget i oi hi with ⟨hlt, hi'⟩ | ⟨ei, eo⟩ <;> rcases hget j oj hj with ⟨hltj, hj'⟩ | ⟨ej, eoj⟩
    · rw [kupd_lt κ H l i hlt, kupd_lt κ H l j hltj]; exact h.iso i oi hi' hex j oj hj' hlive hne
    · rw [kupd_lt κ H l i hlt, ej, kupd_same]
      have := (h.objs i oi hi').lt (by cases oi <;> simp_all [AObj.excl, AObj.live])
      have := hblk (eoj ▸ hlive)
      omega
    · rw [kupd_lt κ H l j hltj, ei, kupd_same]
      have := (h.objs j oj hj').lt hlive
      have := hblk (by rw [← eo]; cases oi <;> simp_all [AObj.excl, AObj.live])
      omega
    · exact absurd (ej.trans ei.symm) hne
  · intro i hi; rw [kupd_lt κ H l i (Nat.lt_of_lt_of_le hi h.n0le)]; exact h.ext i hi
  · have := h.n0le; omega

/-- An object turns into another one, in its own block or in a new one. -/
theorem St.set (h : St E P w0 κ0 n0 κ H w) {w' : World} (i : Nat) (o o' : AObj) (hi : H[i]? = some o) (hex : o.excl = true)
    (hbel : Below w0.heap.size w w') (hb : ∀ k, k < w.heap.size → k ≠ (κ i).blk → w'.heap[k]? = w.heap[k]?)
    (ho : ObjRel P w0.heap.size w' κ H.length i o') : St E P w0 κ0 n0 κ (H.set i o') w' := by
  have hil := (List.getElem?_eq_some_iff.1 hi).1
  have hget : ∀ j oj, (H.set i o')[j]? = some oj → (j ≠ i ∧ H[j]? = some oj) ∨ (j = i ∧ oj = o') := by
    intro j oj hj
    rw [List.getElem?_set] at hj
    split at hj
    · rename_i e
      subst e
      simp [hil] at hj
      exact .inr ⟨rfl, hj.symm⟩
    · rename_i e
      exact .inl ⟨fun e' => e e'.symm, hj⟩
  have hlen : (H.set i o').length = H.length := by simp
  have hol : o.live = true := by cases o <;> simp_all [AObj.excl, AObj.live]
  refine ⟨h.env, h.below.trans hbel, ?_, ?_, h.ext, by rw [hlen]; exact h.n0le⟩
  · intro j oj hj
    rw [hlen]
    rcases hget j oj hj with ⟨hne, hj⟩ | ⟨rfl, rfl⟩
    · exact (h.objs j oj hj).move rfl (fun _ _ => rfl) (Nat.le_refl _) (fun hl => hb _ ((h.objs j oj hj).lt hl) (h.iso i o hi hex j oj hj hl hne))
    · exact ho
  · intro j oj hj hexj k ok hk hlk hne
    rcases hget j oj hj with ⟨hnej, hj'⟩ | ⟨ej, eoj⟩ <;> rcases hget k ok hk with ⟨hnek, hk'⟩ | ⟨ek, eok⟩
    · exact h.iso j oj hj' hexj k ok hk' hlk hne
    · rw [ek]; exact h.iso j oj hj' hexj i o hi hol (ek ▸ hne)
    · rw [ej]; exact h.iso i o hi hex k ok hk' hlk (ej ▸ hne)
    · exact absurd (ek.trans ej.symm) hne
end
end Go.AL
