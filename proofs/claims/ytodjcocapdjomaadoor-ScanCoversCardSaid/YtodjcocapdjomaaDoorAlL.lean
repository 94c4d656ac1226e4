/- The reckoning's equations, by the types' facts. -/
import Derived.Test.YtodjcocapdjomaaDoorAlK
namespace Go.AL
open Go Go.RowKit
set_option linter.unusedVariables false
set_option linter.unusedSimpArgs false
section
variable (P : Program) (H : AHeap)
/-- the cells of a type's zero -/
def zA (t : TypeId) : List AV := match zeroT P t with
  | some z => (cv z).cells
  | none => []
def zok (t : TypeId) : Bool := (match zeroT P t with
  | some z => (cv z).cells.all AV.one && (cv z).cells.length == szT P t && z.cells.size == szT P t
  | none => false) && szT P t != 0
theorem zok_some {t : TypeId} (h : zok P t = true) : ∃ z, zeroT P t = some z ∧ (cv z).cells.all AV.one = true ∧ (cv z).cells.length = szT P t ∧ z.cells.size = szT P t ∧ szT P t ≠ 0 ∧ zA P t = (cv z).cells := by
  unfold zok at h
  simp only [Bool.and_eq_true, bne_iff_ne] at h
  obtain ⟨h, h0⟩ := h
  cases hz : zeroT P t with
  | none => simp [hz] at h
  | some z =>
    simp only [hz, Bool.and_eq_true, beq_iff_eq] at h
    exact ⟨z, rfl, h.1.1, h.1.2, h.2, h0, by simp [zA, hz]⟩
/-- the type of a slice's elements -/
def elD (t : TypeId) : TypeId := (elemT P t).getD 0
def slOk (t : TypeId) : Bool := (elemT P t).isSome && zok P (elD P t)
theorem slOk_some {t : TypeId} (h : slOk P t = true) : elemT P t = some (elD P t) ∧ zok P (elD P t) = true := by
  unfold slOk at h
  rw [Bool.and_eq_true] at h
  obtain ⟨e, he⟩ := Option.isSome_iff_exists.1 h.1
  exact ⟨by simp [elD, he], h.2⟩

def aallocX := aalloc P H
theorem aalloc_eq (t : TypeId) : aalloc P H t = if zok P t = true then some (.ptr (some (H.length, 0)), H ++ [.cells (zA P t) t true]) else aallocX P H t := by
  split
  · rename_i h
    obtain ⟨z, hz, h1, h2, -, -, h3⟩ := zok_some P h
    unfold aalloc abox
    rw [hz, Option.bind_some, if_pos (by rw [Bool.and_eq_true]; exact ⟨h1, by simpa using h2⟩), h3]
  · rfl
def aappendX := aappend P H
theorem aappend_eq (t tx : TypeId) (s x : AV) : aappend P H t tx s x = if slOk P t = true then (match asrc P H tx (szT P (elD P t)) x with
      | none => none
      | some (m, news) => match s with
        | .slice none 0 => if m = 0 then some (s, H) else if m * bytesT P (elD P t) ≤ 140737488355328 ∧ m ≤ 9223372036854775807 then some (.slice (some (H.length, 0)) m, H ++ [.cells news (elD P t) true]) else none
        | .slice (some (i, o)) len => match H[i]? with
          | some (.cells c e' true) => if m = 0 then some (s, H) else
              if e' = elD P t ∧ o + len * szT P (elD P t) ≤ c.length ∧ ((c.drop o).take (len * szT P (elD P t))).all AV.one = true ∧ (len + m) * bytesT P (elD P t) ≤ 140737488355328 ∧ len + m ≤ 9223372036854775807
              then some (.slice (some (H.length, 0)) (len + m), H.set i .dead ++ [.cells ((c.drop o).take (len * szT P (elD P t)) ++ news) (elD P t) true]) else none
          | _ => none
        | _ => none) else aappendX P H t tx s x := by
  split
  · rename_i h
    obtain ⟨he, hz⟩ := slOk_some P h
    obtain ⟨z, hz, h1, h2, h4, h0, h3⟩ := zok_some P hz
    unfold aappend
    rw [he]
    simp only [hz]
    rw [if_neg (by simp [h4, h0])]
    rfl
  · rfl
def abuildX := abuild P
theorem abuild_eq (t : TypeId) (parts : List (Nat × AV)) : abuild P t parts = if (isStructT P t && zok P t) = true then (afill (placeT P t) (zA P t) parts).map .agg else abuildX P t parts := by
  split
  · rename_i h
    rw [Bool.and_eq_true] at h
    obtain ⟨z, hz, h1, h2, h4, h0, h3⟩ := zok_some P h.2
    unfold abuild
    rw [if_pos h.1, hz, Option.bind_some, if_pos h1, h3]
  · rfl
def abuildSliceX := abuildSlice P H
theorem abuildSlice_eq (t : TypeId) (len : Nat) (parts : List (Nat × AV)) : abuildSlice P H t len parts = if slOk P t = true then
    (match denseParts 0 parts with
    | some vs => if vs.length == len && decide (len * szT P (elD P t) ≤ 16777216) && vs.all (fun v => v.cells.all AV.one && v.cells.length == szT P (elD P t))
      then some (.slice (some (H.length, 0)) len, H ++ [.cells (vs.flatMap AV.cells) (elD P t) true]) else none
    | none => none) else abuildSliceX P H t len parts := by
  split
  · rename_i h
    obtain ⟨he, hz⟩ := slOk_some P h
    obtain ⟨z, hz, h1, h2, h4, h0, h3⟩ := zok_some P hz
    unfold abuildSlice
    rw [he]
    cases hd : denseParts 0 parts with
    | none => rfl
    | some vs => simp [hz, h0]
  · rfl
def zrow (t : TypeId) (n : Nat) : List AV := (List.replicate n (zA P t)).flatten
def amakeSliceX := amakeSlice P H
theorem amakeSlice_eq (t : TypeId) (k j : IntKind) (ln cn : Int) : amakeSlice P H t (.int k ln) (.int j cn) = if slOk P t = true then
    (if 0 ≤ ln ∧ ln ≤ cn ∧ cn ≤ 9223372036854775807 ∧ bytesT P (elD P t) * cn ≤ 140737488355328 then some (.slice (some (H.length, 0)) ln.toNat, H ++ [.cells (zrow P (elD P t) ln.toNat) (elD P t) true]) else none)
    else amakeSliceX P H t (.int k ln) (.int j cn) := by
  split
  · rename_i h
    obtain ⟨he, hz⟩ := slOk_some P h
    obtain ⟨z, hz, h1, h2, h4, h0, h3⟩ := zok_some P hz
    unfold amakeSlice
    rw [he]
    simp only [hz]
    have : zcells z ln.toNat = zrow P (elD P t) ln.toNat := by simp [zcells, zrow, h3]
    by_cases hc : 0 ≤ ln ∧ ln ≤ cn ∧ cn ≤ 9223372036854775807 ∧ bytesT P (elD P t) * cn ≤ 140737488355328
    · rw [if_pos hc, if_pos ⟨hc.1, hc.2.1, hc.2.2.1, hc.2.2.2, h1, h2, h0⟩, this]
    · rw [if_neg hc, if_neg (fun h => hc ⟨h.1, h.2.1, h.2.2.1, h.2.2.2.1⟩)]
  · rfl
def under (t : TypeId) : Bool := (P.underlying t).isSome
def partX := part P
theorem part_eq (t : TypeId) (cs : List AV) (off : Nat) : part P t cs off = if under P t = true then (if aggT P t then (if off + szT P t ≤ cs.length then some (.agg ((cs.drop off).take (szT P t))) else none) else cs[off]?) else partX P t cs off := by
  split
  · rename_i h
    unfold under at h
    cases hd : P.underlying t with
    | none => simp [hd] at h
    | some d => unfold part; rw [hd]
  · rfl
/-- a part's place: where elements of an array lie -/
def arrSz (t : TypeId) : Option Nat := match P.underlying t with
  | some (.array _ e) => if hasT P e then some (szT P e) else none
  | _ => none
def placeX := placeT P
theorem placeT_eq (t : TypeId) (i : Nat) : placeT P t i = match arrSz P t with
  | some s => some (i * s, s)
  | none => placeX P t i := by
  unfold placeX
  split
  · rename_i s h
    unfold arrSz at h
    split at h
    · rename_i n e hu
      unfold placeT
      rw [hu]
      split at h
      · rename_i he
        simp only [Option.some.injEq] at h
        subst h
        simp [he]
      · cases h
    · cases h
  · rfl
def intT (t : TypeId) : Option IntKind := match P.underlying t with | some (.int k) => some k | _ => none
theorem intT_under {t : TypeId} {k : IntKind} (h : intT P t = some k) : P.underlying t = some (.int k) := by
  unfold intT at h
  split at h
  · rename_i k' hu; simp at h; subst h; exact hu
  · cases h
def aconvertX := aconvert P H
theorem aconvert_eq (s d : TypeId) (k : IntKind) (n : Int) : aconvert P H s d (.int k n) = if under P s = true then (match intT P d with
  | some j => some (.int j (j.wrap n), H)
  | none => aconvertX P H s d (.int k n)) else aconvertX P H s d (.int k n) := by
  split
  · rename_i hs
    split
    · rename_i j hd
      unfold under at hs
      unfold aconvert
      cases hx : P.underlying s with
      | none => simp [hx] at hs
      | some x => rw [intT_under P hd]
    · rfl
  · rfl
/-- what a conversion does: of a string to its bytes, of a slice of bytes to a string, .. -/
inductive Cv where | s2s | b2s | r2s | s2b | s2r | other
def cvK (s d : TypeId) : Cv := match P.underlying s, P.underlying d with
  | some (.slice e), some .string => match P.underlying e with
    | some (.int .u8) => .b2s
    | some (.int .i32) => .r2s
    | _ => .other
  | some (.int _), some .string => .other
  | some _, some .string => .s2s
  | some .string, some (.slice e) => if zok P e && szT P e == 1 then (match P.underlying e with
    | some (.int .u8) => .s2b
    | some (.int .i32) => .s2r
    | _ => .other) else .other
  | _, _ => .other
theorem cvK_s2s {s d : TypeId} (h : cvK P s d = .s2s) : (∃ x, P.underlying s = some x ∧ (∀ e, x ≠ .slice e)) ∧ P.underlying d = some .string := by
  unfold cvK at h
  split at h
  · split at h <;> cases h
  · cases h
  · rename_i x h1 h2 h3 h4
    exact ⟨⟨x, h3, fun e he => h1 e he⟩, h4⟩
  · split at h
    · split at h <;> cases h
    · cases h
  · cases h
theorem aconvert_str (s d : TypeId) (x : List UInt8) : aconvert P H s d (.str x) = match cvK P s d with
    | .s2s => some (.str x, H)
    | .s2b => some (.slice (some (H.length, 0)) x.length, H ++ [.cells (x.map fun b => .int .u8 b.toNat) (elD P d) true])
    | .s2r => if x.length ≤ 70368744177664 then some (.slice (some (H.length, 0)) (runesOf x).length, H ++ [.cells (runesOf x) (elD P d) true]) else none
    | _ => aconvertX P H s d (.str x) := by
  cases hk : cvK P s d with
  | b2s => rfl
  | r2s => rfl
  | other => rfl
  | s2s =>
    obtain ⟨⟨y, h1, h2⟩, h3⟩ := cvK_s2s P hk
    unfold aconvert
    rw [h1, h3]
    cases y <;> first | rfl | exact absurd rfl (h2 _)
  | s2b =>
    unfold cvK at hk
    split at hk
    · split at hk <;> cases hk
    · cases hk
    · cases hk
    · rename_i e h1 h2 h3 h4
      split at hk
      · rename_i hz
        simp only [Bool.and_eq_true, beq_iff_eq] at hz
        split at hk
        · rename_i h5
          unfold aconvert
          simp only [h3, h4, h5, hz.2, if_true]
          simp [elD, elemT, h4]
        · cases hk
        · cases hk
      · cases hk
    · cases hk
  | s2r =>
    unfold cvK at hk
    split at hk
    · split at hk <;> cases hk
    · cases hk
    · cases hk
    · rename_i e h1 h2 h3 h4
      split at hk
      · rename_i hz
        simp only [Bool.and_eq_true, beq_iff_eq] at hz
        split at hk
        · cases hk
        · rename_i h5
          unfold aconvert
          simp only [h3, h4, h5, hz.2, true_and]
          simp [elD, elemT, h4]
        · cases hk
      · cases hk
    · cases hk
theorem aconvert_sl (s d : TypeId) (i o len : Nat) : aconvert P H s d (.slice (some (i, o)) len) = match cvK P s d with
    | .b2s => (match H[i]? with
      | some (.cells c _ _) => if o + len ≤ c.length then (byteCells? ((c.drop o).take len)).map fun l => (.str l, H) else none
      | _ => none)
    | .r2s => (match H[i]? with
      | some (.cells c _ _) => if o + len ≤ c.length then (runeCells? ((c.drop o).take len)).map fun l => (.str (l.flatMap encR), H) else none
      | _ => none)
    | _ => aconvertX P H s d (.slice (some (i, o)) len) := by
  cases hk : cvK P s d with
  | s2s => rfl
  | s2b => rfl
  | s2r => rfl
  | other => rfl
  | b2s =>
    unfold cvK at hk
    split at hk
    · rename_i e h3 h4
      split at hk
      · rename_i h5
        unfold aconvert
        simp only [h3, h4, h5]
        cases hH : H[i]? with
        | none => rfl
        | some ob => cases ob <;> rfl
      · cases hk
      · cases hk
    · cases hk
    · cases hk
    · split at hk
      · split at hk <;> cases hk
      · cases hk
    · cases hk
  | r2s =>
    unfold cvK at hk
    split at hk
    · rename_i e h3 h4
      split at hk
      · cases hk
      · rename_i h5
        unfold aconvert
        simp only [h3, h4, h5]
        cases hH : H[i]? with
        | none => rfl
        | some ob => cases ob <;> rfl
      · cases hk
    · cases hk
    · cases hk
    · split at hk
      · split at hk <;> cases hk
      · cases hk
    · cases hk
theorem aconvert_nil (s d : TypeId) : aconvert P H s d (.slice none 0) = match cvK P s d with
    | .b2s => some (.str [], H)
    | .r2s => some (.str [], H)
    | _ => aconvertX P H s d (.slice none 0) := by
  cases hk : cvK P s d with
  | s2s => rfl
  | s2b => rfl
  | s2r => rfl
  | other => rfl
  | b2s =>
    unfold cvK at hk
    split at hk
    · rename_i e h3 h4
      split at hk
      · rename_i h5
        unfold aconvert
        simp only [h3, h4, h5]
      · cases hk
      · cases hk
    · cases hk
    · cases hk
    · split at hk
      · split at hk <;> cases hk
      · cases hk
    · cases hk
  | r2s =>
    unfold cvK at hk
    split at hk
    · rename_i e h3 h4
      split at hk
      · cases hk
      · rename_i h5
        unfold aconvert
        simp only [h3, h4, h5]
      · cases hk
    · cases hk
    · cases hk
    · split at hk
      · split at hk <;> cases hk
      · cases hk
    · cases hk
end
theorem dstAt_l (l : List Oper) (j : Nat) : dstAt l.toArray j = (l[j]?).bind (·.dst) := by simp [dstAt]
theorem getA_l (l : List Oper) (j : Nat) : l.toArray[j]? = l[j]? := by simp
/-- the operators on bits, by name -/
def iand (k : IntKind) (a b : Int) : Int := k.wrap (BitVec.ofInt k.bits a &&& BitVec.ofInt k.bits b).toNat
def ior (k : IntKind) (a b : Int) : Int := k.wrap (BitVec.ofInt k.bits a ||| BitVec.ofInt k.bits b).toNat
def ixor (k : IntKind) (a b : Int) : Int := k.wrap (BitVec.ofInt k.bits a ^^^ BitVec.ofInt k.bits b).toNat
def ianot (k : IntKind) (a b : Int) : Int := k.wrap (BitVec.ofInt k.bits a &&& ~~~(BitVec.ofInt k.bits b)).toNat
section
variable (k : IntKind) (a b : Int)
theorem i_add : aintOp .add k a b = some (.int k (k.wrap (a + b))) := rfl
theorem i_sub : aintOp .sub k a b = some (.int k (k.wrap (a - b))) := rfl
theorem i_mul : aintOp .mul k a b = some (.int k (k.wrap (a * b))) := rfl
theorem i_quo : aintOp .quo k a b = if b = 0 then none else some (.int k (k.wrap (a.tdiv b))) := rfl
theorem i_rem : aintOp .rem k a b = if b = 0 then none else some (.int k (a.tmod b)) := rfl
theorem i_and : aintOp .and k a b = some (.int k (iand k a b)) := rfl
theorem i_or : aintOp .or k a b = some (.int k (ior k a b)) := rfl
theorem i_xor : aintOp .xor k a b = some (.int k (ixor k a b)) := rfl
theorem i_andNot : aintOp .andNot k a b = some (.int k (ianot k a b)) := rfl
theorem i_eql : aintOp .eql k a b = some (.bool (a == b)) := rfl
theorem i_neq : aintOp .neq k a b = some (.bool (!(a == b))) := rfl
theorem i_lss : aintOp .lss k a b = some (.bool (decide (a < b))) := rfl
theorem i_leq : aintOp .leq k a b = some (.bool (decide (a ≤ b))) := rfl
theorem i_gtr : aintOp .gtr k a b = some (.bool (decide (b < a))) := rfl
theorem i_geq : aintOp .geq k a b = some (.bool (decide (b ≤ a))) := rfl
end
theorem upd_some (N : Nat) (T : Nat → AV) (d i : Nat) (v : AV) : upd N T (some d) v i = if d = i ∧ i < N then v else T i := by
  unfold upd
  simp
end Go.AL
namespace Go.AL
open Go Go.RowKit
theorem and_t (p : Prop) : (p ∧ True) = p := by simp
attribute [go_sem] cv cv1 AV.cells AV.one
  aindexAddr aload part_eq aalloc_eq abox astore afieldAddr abin i_add i_sub i_mul i_quo i_rem i_and i_or i_xor i_andNot i_eql i_neq i_lss i_leq i_gtr i_geq isShift ashift astrOp aun get_new get_new0 set_new set_new0 splice
  abuild_eq afill placeT_eq abuildSlice_eq denseParts aslice abound aboundHi aboundLo afield aindex amakeSlice_eq abuiltin asliceData alen afold1 afold amax2 amin2 arange
  aconvert_eq aconvert_str aconvert_sl aconvert_nil byteCells? byteCell runeCells? runeCell
  resAV aeq aeqFs initT AV.det
attribute [go_sem] Bool.not_eq_true' Bool.not_eq_eq_eq_not decide_true decide_false Bool.and_true Bool.true_and Bool.and_false Bool.false_and Bool.or_true Bool.true_or Bool.or_false Bool.false_or Bool.not_true Bool.not_false
  Option.map_some Option.map_none Option.bind_some Option.bind_none Option.isSome_some Option.isSome_none Option.getD_some Option.getD_none if_true if_false Int.toNat_natCast
  List.all_cons List.all_nil List.any_cons List.any_nil List.length_cons List.length_nil List.length_append List.length_map BEq.rfl List.map_cons List.map_nil List.getElem?_cons_zero List.getElem?_cons_succ List.getElem?_nil
  true_implies Bool.true_eq_false false_implies and_true true_and and_false false_and forall_const implies_true Nat.zero_add Nat.add_zero
  List.take_zero List.take_succ_cons List.take_nil List.nil_append List.drop_zero List.drop_succ_cons List.drop_nil List.append_nil List.cons_append List.set_cons_zero List.set_cons_succ List.append_assoc List.flatMap_cons List.flatMap_nil List.zipIdx_cons List.zipIdx_nil
  Nat.zero_mul Nat.mul_zero Nat.one_mul Nat.mul_one bne_self_eq_false or_true true_or or_false false_or AV.bool.injEq AV.int.injEq AV.str.injEq AV.tuple.injEq List.cons.injEq decide_eq_true_eq decide_eq_false_iff_not List.getD_cons_zero List.getD_cons_succ List.getD_nil reduceCtorEq
attribute [go_sem] ge_iff_le gt_iff_lt List.contains_nil List.contains_cons List.take_length Int.natCast_nonneg Bool.not_eq_true Bool.not_eq_false beq_iff_eq beq_eq_false_iff_ne ne_eq Int.cast_ofNat_Int
end Go.AL
