/- Operations: arithmetic, strings, comparisons. -/
import Derived.Test.YtodjcocapdjomaaDoorAlC
import Derived.Laws.Strings
import Derived.Laws.BytesString
import Derived.Laws.IdiomStrings
namespace Go.AL
open Go Go.RowKit
set_option linter.unusedVariables false
set_option linter.unusedSimpArgs false

/-! ### binary operators on numbers and strings -/
def aintOp (op : BinOp) (k : IntKind) (a b : Int) : Option AV :=
  match op with
  | .add => some (.int k (k.wrap (a + b)))
  | .sub => some (.int k (k.wrap (a - b)))
  | .mul => some (.int k (k.wrap (a * b)))
  | .quo => if b = 0 then none else some (.int k (k.wrap (a.tdiv b)))
  | .rem => if b = 0 then none else some (.int k (a.tmod b))
  | .and => some (.int k (k.wrap (BitVec.ofInt k.bits a &&& BitVec.ofInt k.bits b).toNat))
  | .or => some (.int k (k.wrap (BitVec.ofInt k.bits a ||| BitVec.ofInt k.bits b).toNat))
  | .xor => some (.int k (k.wrap (BitVec.ofInt k.bits a ^^^ BitVec.ofInt k.bits b).toNat))
  | .andNot => some (.int k (k.wrap (BitVec.ofInt k.bits a &&& ~~~(BitVec.ofInt k.bits b)).toNat))
  | .eql => some (.bool (a == b))
  | .neq => some (.bool (a != b))
  | .lss => some (.bool (decide (a < b)))
  | .leq => some (.bool (decide (a ≤ b)))
  | .gtr => some (.bool (decide (a > b)))
  | .geq => some (.bool (decide (a ≥ b)))
  | _ => none
def ashift (op : BinOp) (k : IntKind) (a b : Int) : Option AV :=
  if b < 0 then none else
  match op with
  | .shl => some (.int k (k.wrap (a * 2 ^ (min b.toNat k.bits))))
  | .shr => some (.int k (a.fdiv (2 ^ (min b.toNat k.bits))))
  | _ => none
def isShift : BinOp → Bool
  | .shl | .shr => true
  | _ => false
def astrOp (op : BinOp) (x y : List UInt8) : Option AV :=
  match op with
  | .add => if x.length + y.length ≤ 9223372036854775807 then some (.str (x ++ y)) else none
  | .eql => some (.bool (x == y))
  | .neq => some (.bool (!(x == y)))
  | .lss => some (.bool (Op.bytesLess x y))
  | .leq => some (.bool (Op.bytesLess x y || x == y))
  | .gtr => some (.bool (!(Op.bytesLess x y || x == y)))
  | .geq => some (.bool (!(Op.bytesLess x y)))
  | _ => none

theorem shift_ok {P : Program} {w : World} {op : BinOp} {k j : IntKind} {a b : Int} {v : AV} {κ : Nat → Loc} {n : Nat} (h : ashift op k a b = some v) :
    ∃ u, (Op.shift op k a j b).run P w = .ok u w ∧ VR κ n v u := by
  unfold ashift at h
  split at h
  · cases h
  · rename_i hb
    unfold Op.shift
    rw [if_neg hb]
    cases op <;> simp at h <;> subst h <;> exact ⟨_, rfl, .int _ _⟩
theorem intOp_ok {P : Program} {w : World} {op : BinOp} {t : TypeId} {k : IntKind} {a b : Int} {v : AV} {κ : Nat → Loc} {n : Nat} (hns : isShift op = false) (h : aintOp op k a b = some v) :
    ∃ u, (binOp op t (.int k a) (.int k b)).run P w = .ok u w ∧ VR κ n v u := by
  cases op <;> simp [isShift] at hns <;> simp [aintOp] at h
  all_goals first
    | (subst h; refine ⟨_, ?_, .int _ _⟩; simp [binOp, Op.intArith]; done)
    | (subst h; refine ⟨_, ?_, .bool _⟩; simp [binOp, Op.intCmp]; done)
    | (obtain ⟨hb, rfl⟩ := h; refine ⟨_, ?_, .int _ _⟩; simp [binOp, Op.intDiv, hb]; done)
    | (subst h; refine ⟨_, ?_, .int _ _⟩; simp [binOp, Op.intBits]; done)
theorem strOp_ok {P : Program} {w : World} {op : BinOp} {t : TypeId} {x y : List UInt8} {v : AV} {κ : Nat → Loc} {n : Nat} (h : astrOp op x y = some v) :
    ∃ u, (binOp op t (.string ⟨x.toArray⟩) (.string ⟨y.toArray⟩)).run P w = .ok u w ∧ VR κ n v u := by
  cases op <;> simp [astrOp] at h
  case add =>
    obtain ⟨h1, rfl⟩ := h
    refine ⟨.string ⟨(x ++ y).toArray⟩, ?_, .str _⟩
    have hsz : ¬ ((((⟨x.toArray⟩ : ByteArray).size + (⟨y.toArray⟩ : ByteArray).size : Nat) : Int) > IntKind.i64.max) := by
      simp [ByteArray.size, IntKind.max, IntKind.signed, IntKind.bits]; omega
    have happ : (⟨x.toArray⟩ : ByteArray) ++ ⟨y.toArray⟩ = ⟨(x ++ y).toArray⟩ := by
      apply ByteArray.ext
      simp [ByteArray.data_append]
    simp only [binOp, Op.stringOp, if_neg hsz, happ]
    rfl
  all_goals (subst h; refine ⟨_, ?_, .bool _⟩; simp [binOp, Op.stringOp]; done)

theorem beq_bytes (x y : List UInt8) : ((⟨x.toArray⟩ : ByteArray) == ⟨y.toArray⟩) = (x == y) := by
  show (x.toArray == y.toArray) = (x == y)
  simp
/-! ### equality at a type -/
def aeqFs (aeq : TypeId → AV → AV → Option Bool) (P : Program) (xs ys : List AV) : List Field → Option Bool
  | [] => some true
  | f :: r => match aeqFs aeq P xs ys r with
    | none => none
    | some b => if f.name = "_" then some b else match part P f.type xs f.offset, part P f.type ys f.offset with
      | some x, some y => match aeq f.type x y with
        | some c => some (c && b)
        | none => none
      | _, _ => none
def aeq (P : Program) : Nat → TypeId → AV → AV → Option Bool
  | 0, _, _, _ => none
  | d + 1, t, x, y =>
    match P.underlying t with
    | some .bool => match x, y with | .bool a, .bool b => some (a == b) | _, _ => none
    | some (.int _) => match x, y with | .int k a, .int k' b => if k = k' then some (a == b) else none | _, _ => none
    | some .string => match x, y with | .str a, .str b => some (a == b) | _, _ => none
    | some (.pointer _) => match x, y with | .ptr none, .ptr b => some b.isNone | .ptr (some _), .ptr none => some false | _, _ => none
    | some (.map _ _) => match x, y with | .map none, .map b => some b.isNone | .map (some _), .map none => some false | _, _ => none
    | some (.slice _) => match x, y with | .slice none _, .slice b _ => some b.isNone | .slice (some _) _, .slice none _ => some false | _, _ => none
    | some (.struct fs) => match x, y with
      | .agg xs, .agg ys => if P.stoodInHeld t then none else aeqFs (aeq P d) P xs ys fs.toList
      | _, _ => none
    | _ => none

theorem aeqFs_ok {P : Program} {w : World} {κ : Nat → Loc} {n : Nat} {f : TypeId → AV → AV → Option Bool} {g : TypeId → Value → Value → Sem Bool}
    (hfg : ∀ t x y b xu yu, f t x y = some b → VR κ n x xu → VR κ n y yu → (g t xu yu).run P w = .ok b w) (xs ys : List AV) (us vs : List Value) (hx : VRs κ n xs us) (hy : VRs κ n ys vs) :
    ∀ (fs : List Field) (b : Bool), aeqFs f P xs ys fs = some b →
      (forIn fs ((none, ()) : Option Bool × PUnit) fun (fd : Field) _s =>
        if fd.name ≠ "_" then do
          let a ← Go.part fd.type us.toArray fd.offset
          let b ← Go.part fd.type vs.toArray fd.offset
          let c ← g fd.type a b
          if (!c) = true then pure (ForInStep.done (some false, ())) else pure (ForInStep.yield (none, ()))
        else pure (ForInStep.yield (none, ()))).run P w = .ok (if b then (none, ()) else (some false, ())) w
  | [], b, h => by simp [aeqFs] at h; subst h; simp
  | fd :: r, b, h => by
    simp only [aeqFs] at h
    cases hr : aeqFs f P xs ys r with
    | none => simp [hr] at h
    | some b' =>
      have ih := aeqFs_ok hfg xs ys us vs hx hy r b' hr
      simp only [hr] at h
      by_cases hn : fd.name = "_"
      · rw [if_pos hn] at h
        simp only [Option.some.injEq] at h
        subst h
        simp only [List.forIn_cons, Sem.run_bind, hn, ne_eq, not_true_eq_false, if_false, Sem.run_pure, Result.andThen_ok]
        exact ih
      · rw [if_neg hn] at h
        split at h
        · rename_i x y hpx hpy
          split at h
          · rename_i c hc
            simp only [Option.some.injEq] at h
            obtain ⟨xu, hxr, hxv⟩ := part_ok (P := P) (w := w) hpx hx
            obtain ⟨yu, hyr, hyv⟩ := part_ok (P := P) (w := w) hpy hy
            have hg := hfg _ _ _ _ _ _ hc hxv hyv
            simp only [List.forIn_cons, Sem.run_bind, ne_eq, hn, not_false_eq_true, if_true, hxr, hyr, hg, Result.andThen_ok]
            cases c with
            | true => simp at h; subst h; simpa using ih
            | false => simp at h; subst h; simp
          · cases h
        · cases h

theorem aeq_ok {P : Program} {w : World} {κ : Nat → Loc} {n : Nat} : ∀ (d D : Nat) (t : TypeId) (x y : AV) (b : Bool) (xu yu : Value), d ≤ D → aeq P d t x y = some b → VR κ n x xu → VR κ n y yu → (Op.equalIn D t xu yu).run P w = .ok b w
  | 0, _, _, _, _, _, _, _, _, h, _, _ => by simp [aeq] at h
  | d + 1, 0, _, _, _, _, _, _, hd, _, _, _ => by omega
  | d + 1, D + 1, t, x, y, b, xu, yu, hd, h, hx, hy => by
    have hdD : d ≤ D := by omega
    unfold aeq at h
    split at h
    · rename_i hu
      split at h <;> first | cases h | skip
      cases hx; cases hy
      simp [Op.equalIn, run_underlying hu]
    · rename_i kk hu
      split at h <;> first | cases h | skip
      split at h <;> first | cases h | skip
      rename_i hk
      cases hx; cases hy
      subst hk
      simp [Op.equalIn, run_underlying hu]
    · rename_i hu
      split at h <;> first | cases h | skip
      cases hx; cases hy
      simp only [Op.equalIn, Sem.run_bind, run_underlying hu, Result.andThen_ok, Sem.run_pure]
      congr 1
      exact beq_bytes _ _
    · rename_i e hu
      split at h <;> first | cases h | skip
      · cases hx; cases hy <;> simp [Op.equalIn, run_underlying hu]
      · cases hx; cases hy
        simp [Op.equalIn, run_underlying hu]
    · rename_i e1 e2 hu
      split at h <;> first | cases h | skip
      · cases hx; cases hy <;> simp [Op.equalIn, run_underlying hu]
      · cases hx; cases hy
        simp [Op.equalIn, run_underlying hu]
    · rename_i e hu
      split at h <;> first | cases h | skip
      · cases hx; cases hy <;> simp [Op.equalIn, run_underlying hu]
      · cases hx; cases hy
        simp [Op.equalIn, run_underlying hu]
    · rename_i fs hu
      split at h
      · rename_i xs ys
        split at h
        · cases h
        · rename_i hst
          cases hx; cases hy
          rename_i us h1 h2 vs h3 h4
          have := aeqFs_ok (P := P) (w := w) (κ := κ) (n := n) (f := aeq P d) (g := Op.equalIn D) (fun t x y b xu yu hh hxx hyy => aeq_ok d D t x y b xu yu hdD hh hxx hyy) xs ys us vs ⟨h1, h2⟩ ⟨h3, h4⟩ fs.toList b h
          simp only [Op.equalIn, Sem.run_bind, run_underlying hu, Result.andThen_ok, run_program, hst, if_false, Bool.false_eq_true]
          rw [← Array.forIn_toList] 
          rw [this]
          cases b <;> simp
      · cases h
    · cases h
end Go.AL
