/- The reckoning, made cheap: what simp visits and what not. -/
import Derived.Test.YtodjcocapdjomaaDoorAlL
namespace Go.AL
open Go Go.RowKit
set_option linter.unusedVariables false
set_option linter.unusedSimpArgs false

def oK2 (o : Option (AV × AHeap)) (K : AV → AHeap → Prop) : Prop := match o with
  | some (v, H) => K v H
  | none => False
theorem oK2_some (v : AV) (H : AHeap) (K : AV → AHeap → Prop) : oK2 (some (v, H)) K = K v H := rfl
theorem oK2_none (K : AV → AHeap → Prop) : oK2 none K = False := rfl
@[congr] theorem oK2_congr {o o' : Option (AV × AHeap)} {K : AV → AHeap → Prop} (h : o = o') : oK2 o K = oK2 o' K := by rw [h]
def avK (v : AV) (f : Bool → Prop) : Prop := match v with
  | .bool b => f b
  | _ => False
theorem avK_bool (b : Bool) (f : Bool → Prop) : avK (.bool b) f = f b := rfl
@[congr] theorem avK_congr {v v' : AV} {f : Bool → Prop} (h : v = v') : avK v f = avK v' f := by rw [h]
def bK (b : Bool) (A B : Prop) : Prop := (b = true → A) ∧ (b = false → B)
theorem bK_true (A B : Prop) : bK true A B = A := by simp [bK]
theorem bK_false (A B : Prop) : bK false A B = B := by simp [bK]
theorem bK_eq (b : Bool) (A B : Prop) : bK b A B = ((b = true → A) ∧ (b = false → B)) := rfl
@[congr] theorem bK_congr {b b' : Bool} {A B : Prop} (h : b = b') : bK b A B = bK b' A B := by rw [h]
@[congr] theorem gm_congr {N : Nat} {T : Nat → AV} {d : Nat} {b b' : Bool} {A B : (Nat → AV) → Prop} (h : b = b') : gm N T d b A B = gm N T d b' A B := by rw [h]
def pickV (t : Bool) (a b : AV) : AV := if t then a else b
theorem pickV_true (a b : AV) : pickV true a b = a := rfl
theorem pickV_false (a b : AV) : pickV false a b = b := rfl
theorem pickV_bool (t a b : Bool) : pickV t (.bool a) (.bool b) = .bool (if t then a else b) := by cases t <;> rfl

def astepO (P : Program) (op : Op) (T : Nat → AV) (H : AHeap) : Option (AV × AHeap) := astep P ⟨none, op, 0, "", #[], none⟩ T H
section
variable (E : World → Prop) (P : Program) (N : Nat) (T : Nat → AV) (H : AHeap)
theorem astep_O (d : Option Tmp) (op : Op) (ty : TypeId) (pos : String) (af : Array Edge) (g : Option (Nat × Bool)) : astep P ⟨d, op, ty, pos, af, g⟩ T H = astepO P op T H := rfl
theorem opnd_tmp (t : Tmp) : opnd T (.tmp t) = T t := rfl
theorem opnd_const (v : Value) : opnd T (.const v) = cv v := rfl
theorem opnd_func (f : FuncId) : opnd T (.func f) = .func f [] [] := rfl
theorem O_move (x : Operand) : astepO P (.move x) T H = some (opnd T x, H) := rfl
theorem O_assign (x : Operand) : astepO P (.assign x) T H = some (opnd T x, H) := rfl
def pickO (c a b : AV) (H : AHeap) : Option (AV × AHeap) := match c with
  | .bool t => some (pickV t a b, H)
  | _ => none
theorem O_pick (c a b : Operand) : astepO P (.pick c a b) T H = pickO (opnd T c) (opnd T a) (opnd T b) H := by
  show (match opnd T c with
    | .bool t => some (if t then opnd T a else opnd T b, H)
    | _ => none) = _
  unfold pickO
  cases opnd T c <;> rfl
theorem O_alloc (e : TypeId) : astepO P (.alloc e) T H = aalloc P H e := rfl
theorem O_box (e : TypeId) (x : Operand) : astepO P (.box e x) T H = abox P H e (opnd T x) := rfl
theorem O_build (t : TypeId) (ps : Array (Nat × Operand)) : astepO P (.build t ps) T H = (abuild P t (aparts T ps)).map (·, H) := rfl
theorem O_buildSlice (t : TypeId) (n : Nat) (ps : Array (Nat × Operand)) : astepO P (.buildSlice t n ps) T H = abuildSlice P H t n (aparts T ps) := rfl
theorem O_load (t : TypeId) (x : Operand) : astepO P (.load t x) T H = (aload P H t (opnd T x)).map (·, H) := rfl
theorem O_store (t : TypeId) (x v : Operand) : astepO P (.store t x v) T H = (astore P H t (opnd T x) (opnd T v)).map (.undef, ·) := rfl
def nilO (v : AV) (H : AHeap) : Option (AV × AHeap) := match v with
  | .ptr (some a) => some (.ptr (some a), H)
  | .func f fs cs => some (.func f fs cs, H)
  | _ => none
theorem O_nilCheck (x : Operand) : astepO P (.nilCheck x) T H = nilO (opnd T x) H := rfl
theorem O_binOp (op : BinOp) (t u : TypeId) (x y : Operand) : astepO P (.binOp op t x y u) T H = (abin P op t (opnd T x) (opnd T y)).map (·, H) := rfl
theorem O_unOp (op : UnOp) (t : TypeId) (x : Operand) : astepO P (.unOp op t x) T H = (aun op (opnd T x)).map (·, H) := rfl
theorem O_convert (s d : TypeId) (x : Operand) : astepO P (.convert s d x) T H = aconvert P H s d (opnd T x) := rfl
theorem O_makeInterface (t : TypeId) (x : Operand) : astepO P (.makeInterface t x) T H = if ifaceT P t then none else some (.iface t (opnd T x), H) := rfl
theorem O_makeFunc (f : FuncId) (a b : Array Operand) : astepO P (.makeFunc (.func f) a b) T H = some (.func f (a.toList.map (opnd T)) (b.toList.map (opnd T)), H) := rfl
theorem O_makeSlice (t : TypeId) (l c : Operand) : astepO P (.makeSlice t l c) T H = amakeSlice P H t (opnd T l) (opnd T c) := rfl
theorem O_slice (t : TypeId) (x : Operand) (lo hi : Option Operand) : astepO P (.slice t x lo hi none) T H = (aslice P H t (opnd T x) (lo.map (opnd T)) (hi.map (opnd T))).map (·, H) := rfl
theorem O_fieldAddr (t : TypeId) (x : Operand) (f : Nat) : astepO P (.fieldAddr t x f) T H = (afieldAddr P t (opnd T x) f).map (·, H) := rfl
theorem O_field (t : TypeId) (x : Operand) (f : Nat) : astepO P (.field t x f) T H = (afield P t (opnd T x) f).map (·, H) := rfl
theorem O_indexAddr (t : TypeId) (x i : Operand) : astepO P (.indexAddr t x i) T H = (aindexAddr P t (opnd T x) (opnd T i)).map (·, H) := rfl
theorem O_index (t : TypeId) (x i : Operand) : astepO P (.index t x i) T H = (aindex P t (opnd T x) (opnd T i)).map (·, H) := rfl
theorem O_range (t : TypeId) (x : Operand) : astepO P (.range t x) T H = arange P H t (opnd T x) := rfl
theorem O_next (x : Operand) : astepO P (.next x true) T H = anext H (opnd T x) := rfl
def extO (v : AV) (i : Nat) (H : AHeap) : Option (AV × AHeap) := match v with
  | .tuple vs => (vs[i]?).map (·, H)
  | _ => none
theorem O_extract (x : Operand) (i : Nat) : astepO P (.extract x i) T H = extO (opnd T x) i H := rfl
theorem O_builtin (b : Builtin) (args : List Operand) (ts : List TypeId) : astepO P (.call ⟨.builtin b, args.toArray, ts.toArray⟩) T H = abuiltin P H b ts (args.map (opnd T)) := by
  simp [astepO, astep]
theorem aparts_l (ps : List (Nat × Operand)) : aparts T ps.toArray = ps.map fun p => (p.1, opnd T p.2) := by simp [aparts]

/-- an operation, carried out -/
def opKo (E : World → Prop) (P : Program) (op : Op) (T : Nat → AV) (H : AHeap) (K : AV → AHeap → Prop) : Prop := opK E P ⟨none, op, 0, "", #[], none⟩ T H K
@[congr] theorem opKo_congr {op : Op} {T : Nat → AV} {H H' : AHeap} {K : AV → AHeap → Prop} (h : H = H') : opKo E P op T H K = opKo E P op T H' K := by rw [h]
variable (K : AV → AHeap → Prop)
def callK (E : World → Prop) (P : Program) (f : AV) (args : List AV) (H : AHeap) (K : AV → AHeap → Prop) : Prop :=
  ∃ g fs cs R, f = .func g fs cs ∧ ACalls E P g (fs ++ args ++ cs) H R ∧ ∀ r H', R r H' → K r H'
theorem opKo_call (f : Operand) (args : List Operand) (ats : Array TypeId) : opKo E P (.call ⟨.value f, args.toArray, ats⟩) T H K = callK E P (opnd T f) (args.map (opnd T)) H K := by
  simp only [opKo, opK, callK]
@[congr] theorem callK_congr {f f' : AV} {args args' : List AV} {H H' : AHeap} (h1 : f = f') (h2 : args = args') (h3 : H = H') : callK E P f args H K = callK E P f' args' H' K := by rw [h1, h2, h3]
def notCall : Op → Bool
  | .call ⟨.value _, _, _⟩ => false
  | _ => true
theorem opKo_step (op : Op) (h : notCall op = true) : opKo E P op T H K = oK2 (astepO P op T H) K := by
  unfold opKo opK
  split
  · rename_i f args ats ho; simp only at ho; subst ho; simp [notCall] at h
  · unfold oK2 astepO
    cases astep P ⟨none, op, 0, "", #[], none⟩ T H with
    | none => rfl
    | some r => rfl

theorem K_move (x : Operand) : opKo E P (.move x) T H K = oK2 (astepO P (.move x) T H) K := opKo_step E P T H K _ rfl
theorem K_assign (x : Operand) : opKo E P (.assign x) T H K = oK2 (astepO P (.assign x) T H) K := opKo_step E P T H K _ rfl
theorem K_pick (c a b : Operand) : opKo E P (.pick c a b) T H K = oK2 (astepO P (.pick c a b) T H) K := opKo_step E P T H K _ rfl
theorem K_alloc (e : TypeId) : opKo E P (.alloc e) T H K = oK2 (astepO P (.alloc e) T H) K := opKo_step E P T H K _ rfl
theorem K_box (e : TypeId) (x : Operand) : opKo E P (.box e x) T H K = oK2 (astepO P (.box e x) T H) K := opKo_step E P T H K _ rfl
theorem K_build (t : TypeId) (ps : Array (Nat × Operand)) : opKo E P (.build t ps) T H K = oK2 (astepO P (.build t ps) T H) K := opKo_step E P T H K _ rfl
theorem K_buildSlice (t : TypeId) (n : Nat) (ps : Array (Nat × Operand)) : opKo E P (.buildSlice t n ps) T H K = oK2 (astepO P (.buildSlice t n ps) T H) K := opKo_step E P T H K _ rfl
theorem K_load (t : TypeId) (x : Operand) : opKo E P (.load t x) T H K = oK2 (astepO P (.load t x) T H) K := opKo_step E P T H K _ rfl
theorem K_store (t : TypeId) (x v : Operand) : opKo E P (.store t x v) T H K = oK2 (astepO P (.store t x v) T H) K := opKo_step E P T H K _ rfl
theorem K_nilCheck (x : Operand) : opKo E P (.nilCheck x) T H K = oK2 (astepO P (.nilCheck x) T H) K := opKo_step E P T H K _ rfl
theorem K_binOp (op : BinOp) (t u : TypeId) (x y : Operand) : opKo E P (.binOp op t x y u) T H K = oK2 (astepO P (.binOp op t x y u) T H) K := opKo_step E P T H K _ rfl
theorem K_unOp (op : UnOp) (t : TypeId) (x : Operand) : opKo E P (.unOp op t x) T H K = oK2 (astepO P (.unOp op t x) T H) K := opKo_step E P T H K _ rfl
theorem K_convert (s d : TypeId) (x : Operand) : opKo E P (.convert s d x) T H K = oK2 (astepO P (.convert s d x) T H) K := opKo_step E P T H K _ rfl
theorem K_makeInterface (t : TypeId) (x : Operand) : opKo E P (.makeInterface t x) T H K = oK2 (astepO P (.makeInterface t x) T H) K := opKo_step E P T H K _ rfl
theorem K_makeFunc (f : Fn) (a b : Array Operand) : opKo E P (.makeFunc f a b) T H K = oK2 (astepO P (.makeFunc f a b) T H) K := opKo_step E P T H K _ rfl
theorem K_makeSlice (t : TypeId) (l c : Operand) : opKo E P (.makeSlice t l c) T H K = oK2 (astepO P (.makeSlice t l c) T H) K := opKo_step E P T H K _ rfl
theorem K_slice (t : TypeId) (x : Operand) (lo hi m : Option Operand) : opKo E P (.slice t x lo hi m) T H K = oK2 (astepO P (.slice t x lo hi m) T H) K := opKo_step E P T H K _ rfl
theorem K_fieldAddr (t : TypeId) (x : Operand) (f : Nat) : opKo E P (.fieldAddr t x f) T H K = oK2 (astepO P (.fieldAddr t x f) T H) K := opKo_step E P T H K _ rfl
theorem K_field (t : TypeId) (x : Operand) (f : Nat) : opKo E P (.field t x f) T H K = oK2 (astepO P (.field t x f) T H) K := opKo_step E P T H K _ rfl
theorem K_indexAddr (t : TypeId) (x i : Operand) : opKo E P (.indexAddr t x i) T H K = oK2 (astepO P (.indexAddr t x i) T H) K := opKo_step E P T H K _ rfl
theorem K_index (t : TypeId) (x i : Operand) : opKo E P (.index t x i) T H K = oK2 (astepO P (.index t x i) T H) K := opKo_step E P T H K _ rfl
theorem K_range (t : TypeId) (x : Operand) : opKo E P (.range t x) T H K = oK2 (astepO P (.range t x) T H) K := opKo_step E P T H K _ rfl
theorem K_next (x : Operand) (b : Bool) : opKo E P (.next x b) T H K = oK2 (astepO P (.next x b) T H) K := opKo_step E P T H K _ rfl
theorem K_extract (x : Operand) (i : Nat) : opKo E P (.extract x i) T H K = oK2 (astepO P (.extract x i) T H) K := opKo_step E P T H K _ rfl
theorem K_lookup (t : TypeId) (x i : Operand) (k : Bool) : opKo E P (.lookup t x i k) T H K = oK2 (astepO P (.lookup t x i k) T H) K := opKo_step E P T H K _ rfl
theorem K_mapUpdate (t : TypeId) (x i v : Operand) : opKo E P (.mapUpdate t x i v) T H K = oK2 (astepO P (.mapUpdate t x i v) T H) K := opKo_step E P T H K _ rfl
theorem K_makeMap (t : TypeId) (r : Option Operand) : opKo E P (.makeMap t r) T H K = oK2 (astepO P (.makeMap t r) T H) K := opKo_step E P T H K _ rfl
theorem K_builtin (b : Builtin) (args : Array Operand) (ts : Array TypeId) : opKo E P (.call ⟨.builtin b, args, ts⟩) T H K = oK2 (astepO P (.call ⟨.builtin b, args, ts⟩) T H) K := opKo_step E P T H K _ rfl

variable (ops : Array Oper) (K' : (Nat → AV) → AHeap → Prop)
@[congr] theorem OpsK_congr {l : List Oper} {T T' : Nat → AV} {H H' : AHeap} (h1 : T = T') (h2 : H = H') : OpsK E P N ops K' l T H = OpsK E P N ops K' l T' H' := by rw [h1, h2]
theorem OpsK_nil : OpsK E P N ops K' [] T H = K' T H := rfl
/-- what follows an operation -/
def kOps (E : World → Prop) (P : Program) (N : Nat) (ops : Array Oper) (K' : (Nat → AV) → AHeap → Prop) (rest : List Oper) (d : Option Tmp) (T : Nat → AV) (v : AV) (H : AHeap) : Prop := OpsK E P N ops K' rest (upd N T d v) H
theorem kOps_eq (rest : List Oper) (d : Option Tmp) (v : AV) : kOps E P N ops K' rest d T v H = OpsK E P N ops K' rest (upd N T d v) H := rfl
/-- an operation that is carried out; one that is passed over -/
def kDo (E : World → Prop) (P : Program) (N : Nat) (ops : Array Oper) (K' : (Nat → AV) → AHeap → Prop) (op : Op) (rest : List Oper) (d : Option Tmp) (H : AHeap) (T : Nat → AV) : Prop := opKo E P op T H (kOps E P N ops K' rest d T)
theorem kDo_eq (op : Op) (rest : List Oper) (d : Option Tmp) : kDo E P N ops K' op rest d H T = opKo E P op T H (kOps E P N ops K' rest d T) := rfl
def kSk (E : World → Prop) (P : Program) (N : Nat) (ops : Array Oper) (K' : (Nat → AV) → AHeap → Prop) (rest : List Oper) (d : Option Tmp) (H : AHeap) (T : Nat → AV) : Prop := OpsK E P N ops K' rest (upd N T d (.tuple [])) H
theorem kSk_eq (rest : List Oper) (d : Option Tmp) : kSk E P N ops K' rest d H T = OpsK E P N ops K' rest (upd N T d (.tuple [])) H := rfl
theorem OpsK_cons (d : Option Tmp) (op : Op) (ty : TypeId) (pos : String) (af : Array Edge) (rest : List Oper) : OpsK E P N ops K' (⟨d, op, ty, pos, af, none⟩ :: rest) T H = opKo E P op T H (kOps E P N ops K' rest d T) := rfl
def gvK (N : Nat) (T : Nat → AV) (d : Nat) (v : AV) (A B S : (Nat → AV) → Prop) : Prop := match v with
  | .bool b => gm N T d b A B
  | .tuple [] => S T
  | _ => False
theorem gvK_bool (d : Nat) (b : Bool) (A B S : (Nat → AV) → Prop) : gvK N T d (.bool b) A B S = gm N T d b A B := rfl
theorem gvK_nix (d : Nat) (A B S : (Nat → AV) → Prop) : gvK N T d (.tuple []) A B S = S T := rfl
@[congr] theorem gvK_congr {d : Nat} {v v' : AV} {A B S : (Nat → AV) → Prop} (h : v = v') : gvK N T d v A B S = gvK N T d v' A B S := by rw [h]
def gK (N : Nat) (T : Nat → AV) (d : Option Tmp) (A B S : (Nat → AV) → Prop) : Prop := match d with
  | none => False
  | some d => gvK N T d (T d) A B S
theorem gK_some (d : Tmp) (A B S : (Nat → AV) → Prop) : gK N T (some d) A B S = gvK N T d (T d) A B S := rfl
@[congr] theorem gK_congr {d d' : Option Tmp} {A B S : (Nat → AV) → Prop} (h : d = d') : gK N T d A B S = gK N T d' A B S := by rw [h]
theorem OpsK_gt (d : Option Tmp) (op : Op) (ty : TypeId) (pos : String) (af : Array Edge) (rest : List Oper) (j : Nat) : OpsK E P N ops K' (⟨d, op, ty, pos, af, some (j, true)⟩ :: rest) T H =
    gK N T (dstAt ops j) (kDo E P N ops K' op rest d H) (kSk E P N ops K' rest d H) (kSk E P N ops K' rest d H) := by
  rw [OpsK]
  simp only [gK]
  cases dstAt ops j with
  | none => rfl
  | some d =>
    simp only [gvK]
    cases T d with
    | tuple l => cases l <;> rfl
    | _ => rfl
theorem OpsK_gf (d : Option Tmp) (op : Op) (ty : TypeId) (pos : String) (af : Array Edge) (rest : List Oper) (j : Nat) : OpsK E P N ops K' (⟨d, op, ty, pos, af, some (j, false)⟩ :: rest) T H =
    gK N T (dstAt ops j) (kSk E P N ops K' rest d H) (kDo E P N ops K' op rest d H) (kSk E P N ops K' rest d H) := by
  rw [OpsK]
  simp only [gK]
  cases dstAt ops j with
  | none => rfl
  | some d =>
    simp only [gvK]
    cases T d with
    | tuple l => cases l <;> rfl
    | _ => rfl

variable (Q : Post)
@[congr] theorem CodeK_congr {c : Code} {T T' : Nat → AV} {H H' : AHeap} (h1 : T = T') (h2 : H = H') : CodeK E P N c Q T H = CodeK E P N c Q T' H' := by rw [h1, h2]
theorem CodeK_skip : CodeK E P N .skip Q T H = Q .normal T H := rfl
theorem CodeK_ret : CodeK E P N .ret Q T H = Q .ret T H := rfl
theorem CodeK_exit (id : Nat) : CodeK E P N (.exit id) Q T H = Q (.exit id) T H := rfl
theorem CodeK_label (id : Nat) : CodeK E P N (.label id) Q T H = Q .normal T H := rfl
theorem CodeK_goto (id : Nat) : CodeK E P N (.goto id) Q T H = Q (.goto id) T H := rfl
theorem CodeK_seq (x y : Code) : CodeK E P N (.seq x y) Q T H = CodeK E P N x (onNormal (CodeK E P N y Q) Q) T H := rfl
def kCond (E : World → Prop) (P : Program) (N : Nat) (x y : Code) (Q : Post) (T : Nat → AV) (H : AHeap) (b : Bool) : Prop := bK b (CodeK E P N x Q T H) (CodeK E P N y Q T H)
theorem kCond_eq (x y : Code) (b : Bool) : kCond E P N x y Q T H b = bK b (CodeK E P N x Q T H) (CodeK E P N y Q T H) := rfl
theorem CodeK_cond (c : Operand) (x y : Code) : CodeK E P N (.cond c x y) Q T H = avK (opnd T c) (kCond E P N x y Q T H) := by
  unfold avK kCond bK
  cases h : opnd T c <;> simp only [CodeK, h]
theorem CodeK_block (id : Nat) (c : Code) : CodeK E P N (.block id c) Q T H = CodeK E P N c (onExit id Q) T H := rfl
theorem CodeK_region (id : Nat) (l : List Oper) : CodeK E P N (.region id l.toArray false) Q T H = OpsK E P N l.toArray (Q .normal) l T H := rfl
theorem CodeK_draw (id : Nat) (l : Array Oper) : CodeK E P N (.region id l true) Q T H = ACode E P N (.region id l true) Q T H := rfl
theorem CodeK_loop (c : Code) : CodeK E P N (.loop c) Q T H = ACode E P N (.loop c) Q T H := rfl
@[congr] theorem ACode_congr {c : Code} {T T' : Nat → AV} {H H' : AHeap} (h1 : T = T') (h2 : H = H') : ACode E P N c Q T H = ACode E P N c Q T' H' := by rw [h1, h2]
theorem onNormal_n : onNormal K' Q .normal T H = K' T H := rfl
theorem onNormal_r : onNormal K' Q .ret T H = Q .ret T H := rfl
theorem onNormal_e (id : Nat) : onNormal K' Q (.exit id) T H = Q (.exit id) T H := rfl
theorem onNormal_g (id : Nat) : onNormal K' Q (.goto id) T H = Q (.goto id) T H := rfl
theorem onExit_n (id : Nat) : onExit id Q .normal T H = Q .normal T H := rfl
theorem onExit_r (id : Nat) : onExit id Q .ret T H = Q .ret T H := rfl
theorem onExit_g (id l : Nat) : onExit id Q (.goto l) T H = Q (.goto l) T H := rfl
theorem onExit_same (id : Nat) : onExit id Q (.exit id) T H = Q .normal T H := by simp [onExit]
theorem onExit_ne (id id' : Nat) (h : (id' == id) = false) : onExit id Q (.exit id') T H = Q (.exit id') T H := by
  have : ¬ id' = id := by simpa using h
  simp [onExit, this]

variable (AC : AHeap → Prop) (late noisy : List Nat)
@[congr] theorem DrawK_congr {l : List Nat} {T T' : Nat → AV} {H H' : AHeap} (h1 : T = T') (h2 : H = H') : DrawK E P N ops AC late noisy K' l T H = DrawK E P N ops AC late noisy K' l T' H' := by rw [h1, h2]
theorem DrawK_nil : DrawK E P N ops AC late noisy K' [] T H = K' T H := rfl
def kDr (N : Nat) (K' : (Nat → AV) → AHeap → Prop) (d : Option Tmp) (T : Nat → AV) (v : AV) (H : AHeap) : Prop := K' (upd N T d v) H
theorem kDr_eq (d : Option Tmp) (v : AV) : kDr N K' d T v H = K' (upd N T d v) H := rfl
def kDrDo (E : World → Prop) (P : Program) (N : Nat) (AC : AHeap → Prop) (late noisy : List Nat) (i : Nat) (o : Oper) (K' : (Nat → AV) → AHeap → Prop) (H : AHeap) (T : Nat → AV) : Prop := drawOpK E P AC late noisy i o T H (kDr N K' o.dst T)
def kDrSk (N : Nat) (K' : (Nat → AV) → AHeap → Prop) (d : Option Tmp) (H : AHeap) (T : Nat → AV) : Prop := K' (upd N T d (.tuple [])) H
theorem kDrSk_eq (d : Option Tmp) : kDrSk N K' d H T = K' (upd N T d (.tuple [])) H := rfl
def kDraw (E : World → Prop) (P : Program) (N : Nat) (ops : Array Oper) (AC : AHeap → Prop) (late noisy : List Nat) (K' : (Nat → AV) → AHeap → Prop) (rest : List Nat) (T : Nat → AV) (H : AHeap) : Prop := DrawK E P N ops AC late noisy K' rest T H
theorem kDraw_eq (rest : List Nat) : kDraw E P N ops AC late noisy K' rest T H = DrawK E P N ops AC late noisy K' rest T H := rfl
def drK (E : World → Prop) (P : Program) (N : Nat) (o : Option Oper) (ops : Array Oper) (AC : AHeap → Prop) (late noisy : List Nat) (i : Nat) (T : Nat → AV) (H : AHeap) (K : (Nat → AV) → AHeap → Prop) : Prop := match o with
  | none => False
  | some o => match o.guard with
    | none => drawOpK E P AC late noisy i o T H (kDr N K o.dst T)
    | some g => match g.2 with
      | true => gK N T (dstAt ops g.1) (kDrDo E P N AC late noisy i o K H) (kDrSk N K o.dst H) (kDrSk N K o.dst H)
      | false => gK N T (dstAt ops g.1) (kDrSk N K o.dst H) (kDrDo E P N AC late noisy i o K H) (kDrSk N K o.dst H)
@[congr] theorem drK_congr {o o' : Option Oper} {i : Nat} (h : o = o') : drK E P N o ops AC late noisy i T H K' = drK E P N o' ops AC late noisy i T H K' := by rw [h]
theorem DrawK_cons (i : Nat) (rest : List Nat) : DrawK E P N ops AC late noisy K' (i :: rest) T H = drK E P N ops[i]? ops AC late noisy i T H (kDraw E P N ops AC late noisy K' rest) := by
  unfold drK
  rw [DrawK]
  cases ops[i]? with
  | none => rfl
  | some o =>
    simp only
    cases o.guard with
    | none => rfl
    | some g =>
      obtain ⟨j, b⟩ := g
      simp only
      cases b <;> (simp only [gK]; cases dstAt ops j with
        | none => rfl
        | some d =>
          simp only [gvK]
          cases T d with
          | tuple l => cases l <;> rfl
          | _ => rfl)
theorem drK_none (d : Option Tmp) (op : Op) (ty : TypeId) (pos : String) (af : Array Edge) (i : Nat) : drK E P N (some ⟨d, op, ty, pos, af, none⟩) ops AC late noisy i T H K' = drawOpK E P AC late noisy i ⟨d, op, ty, pos, af, none⟩ T H (kDr N K' d T) := rfl
theorem drK_t (d : Option Tmp) (op : Op) (ty : TypeId) (pos : String) (af : Array Edge) (i j : Nat) : drK E P N (some ⟨d, op, ty, pos, af, some (j, true)⟩) ops AC late noisy i T H K' =
   gK N T (dstAt ops j) (kDrDo E P N AC late noisy i ⟨d, op, ty, pos, af, some (j, true)⟩ K' H) (kDrSk N K' d H) (kDrSk N K' d H) := rfl
theorem drK_f (d : Option Tmp) (op : Op) (ty : TypeId) (pos : String) (af : Array Edge) (i j : Nat) : drK E P N (some ⟨d, op, ty, pos, af, some (j, false)⟩) ops AC late noisy i T H K' =
   gK N T (dstAt ops j) (kDrSk N K' d H) (kDrDo E P N AC late noisy i ⟨d, op, ty, pos, af, some (j, false)⟩ K' H) (kDrSk N K' d H) := rfl
theorem kDrDo_eq (i : Nat) (d : Option Tmp) (op : Op) (ty : TypeId) (pos : String) (af : Array Edge) (g : Option (Nat × Bool)) : kDrDo E P N AC late noisy i ⟨d, op, ty, pos, af, g⟩ K' H T = drawOpK E P AC late noisy i ⟨d, op, ty, pos, af, g⟩ T H (kDr N K' d T) := rfl
@[congr] theorem drawOpK_congr {i : Nat} {o : Oper} {H H' : AHeap} (h : H = H') : drawOpK E P AC late noisy i o T H K = drawOpK E P AC late noisy i o T H' K := by rw [h]
/-- a quiet one -/
def qK (P : Program) (AC : AHeap → Prop) (op : Op) (T : Nat → AV) (H : AHeap) (r : Option (AV × AHeap)) (K : AV → AHeap → Prop) : Prop := match r with
  | some (v, H1) => H1 = H ∧ (∀ H', AC H' → H.length ≤ H'.length → astepO P op T H' = some (v, H')) ∧ v.det P H 6 = true ∧ K v H
  | none => False
theorem qK_some (op : Op) (v : AV) (H1 : AHeap) : qK P AC op T H (some (v, H1)) K = (H1 = H ∧ (∀ H', AC H' → H.length ≤ H'.length → astepO P op T H' = some (v, H')) ∧ v.det P H 6 = true ∧ K v H) := rfl
@[congr] theorem qK_congr {op : Op} {r r' : Option (AV × AHeap)} (h : r = r') : qK P AC op T H r K = qK P AC op T H r' K := by rw [h]
def quietO : Op → Bool
  | .move _ | .assign _ | .pick .. | .build .. | .load .. | .nilCheck _ | .binOp .. | .unOp .. | .convert .. | .makeInterface .. | .makeFunc .. | .slice .. | .fieldAddr .. | .field .. | .indexAddr .. | .index .. | .extract .. => true
  | .call ⟨.builtin b, _, _⟩ => match b with | .len | .max | .min => true | _ => false
  | _ => false
theorem quietOp_O (d : Option Tmp) (op : Op) (ty : TypeId) (pos : String) (af : Array Edge) (g : Option (Nat × Bool)) : quietOp ⟨d, op, ty, pos, af, g⟩ = quietO op := by
  unfold quietOp quietO
  cases op <;> try rfl
def dK (b : Bool) (A B : Prop) : Prop := match b with
  | true => A
  | false => B
theorem dK_t (A B : Prop) : dK true A B = A := rfl
theorem dK_f (A B : Prop) : dK false A B = B := rfl
@[congr] theorem dK_congr {b b' : Bool} {A B : Prop} (h : b = b') : dK b A B = dK b' A B := by rw [h]
def kLate (AC : AHeap → Prop) (late : List Nat) (i : Nat) (K : AV → AHeap → Prop) (v : AV) (H : AHeap) : Prop := (late.contains i = false → AC H) ∧ K v H
theorem kLate_eq (i : Nat) (v : AV) : kLate AC late i K v H = ((late.contains i = false → AC H) ∧ K v H) := rfl
theorem drawOpK_eq (i : Nat) (d : Option Tmp) (op : Op) (ty : TypeId) (pos : String) (af : Array Edge) (g : Option (Nat × Bool)) : drawOpK E P AC late noisy i ⟨d, op, ty, pos, af, g⟩ T H K =
    dK (quietO op && !noisy.contains i) (qK P AC op T H (astepO P op T H) K) (opKo E P op T H (kLate AC late i K)) := by
  unfold drawOpK dK qK
  rw [quietOp_O]
  cases quietO op && !noisy.contains i <;> rfl
end
attribute [go_sem ↓] CodeK_skip CodeK_ret CodeK_exit CodeK_label CodeK_goto CodeK_seq CodeK_cond CodeK_block CodeK_region CodeK_draw CodeK_loop
  onNormal_n onNormal_r onNormal_e onNormal_g onExit_n onExit_r onExit_g onExit_same onExit_ne OpsK_nil OpsK_cons kOps_eq kDo_eq kSk_eq kCond_eq kDr_eq kDrSk_eq kDraw_eq kDrDo_eq kLate_eq OpsK_gt OpsK_gf opKo_call K_move K_assign K_pick K_alloc K_box K_build K_buildSlice K_load K_store K_nilCheck K_binOp K_unOp K_convert K_makeInterface K_makeFunc K_makeSlice K_slice K_fieldAddr K_field K_indexAddr K_index K_range K_next K_extract K_lookup K_mapUpdate K_makeMap K_builtin
  O_move O_assign O_pick O_alloc O_box O_build O_buildSlice O_load O_store O_nilCheck O_binOp O_unOp O_convert O_makeInterface O_makeFunc O_makeSlice O_slice O_fieldAddr O_field O_indexAddr O_index O_range O_next O_extract O_builtin aparts_l
  opnd_tmp opnd_const opnd_func upd_none upd_same upd_ne gK_some gm_true gm_false DrawK_nil DrawK_cons drK_none drK_t drK_f drawOpK_eq dK_t dK_f
attribute [go_sem] oK2_some oK2_none avK_bool gvK_bool gvK_nix bK_true bK_false pickV_true pickV_false pickV_bool pickO nilO extO notCall updG_id quietO qK_some dstAt_l getA_l
attribute [go_sem low] bK_eq gm_eq updG_eq
end Go.AL
