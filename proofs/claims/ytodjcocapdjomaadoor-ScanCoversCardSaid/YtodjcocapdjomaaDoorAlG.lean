/- make, len, min, max, conversions, ranges over strings; one step of any operation. -/
import Derived.Test.YtodjcocapdjomaaDoorAlF
namespace Go.AL
open Go Go.RowKit
set_option linter.unusedVariables false
set_option linter.unusedSimpArgs false

section
variable {E : World → Prop} {P : Program} {w0 : World} {κ0 : Nat → Loc} {n0 : Nat} {κ : Nat → Loc} {H : AHeap} {w : World}

/-! ### make -/
def zcells (z : Value) (l : Nat) : List AV := (List.replicate l (cv z).cells).flatten
def amakeSlice (P : Program) (H : AHeap) (t : TypeId) (l c : AV) : Option (AV × AHeap) :=
  match elemT P t, l, c with
  | some e, .int _ ln, .int _ cn => match zeroT P e with
    | some z => if 0 ≤ ln ∧ ln ≤ cn ∧ cn ≤ 9223372036854775807 ∧ bytesT P e * cn ≤ 140737488355328 ∧ (cv z).cells.all AV.one = true ∧ (cv z).cells.length = szT P e ∧ szT P e ≠ 0
      then some (.slice (some (H.length, 0)) ln.toNat, H ++ [.cells (zcells z ln.toNat) e true]) else none
    | none => none
  | _, _, _ => none
theorem zcells_length (z : Value) (l : Nat) : (zcells z l).length = l * (cv z).cells.length := by
  simp [zcells, List.length_flatten]
theorem zcells_get (z : Value) (hz : 0 < (cv z).cells.length) : ∀ (l j : Nat), j < l * (cv z).cells.length → (zcells z l)[j]? = (cv z).cells[j % (cv z).cells.length]?
  | 0, j, h => by simp at h
  | l + 1, j, h => by
    have : zcells z (l + 1) = (cv z).cells ++ zcells z l := by simp [zcells, List.replicate_succ]
    rw [this, List.getElem?_append]
    split
    · rename_i hj; rw [Nat.mod_eq_of_lt hj]
    · rename_i hj
      rw [zcells_get z hz l _ (by rw [Nat.add_mul, Nat.one_mul] at h; omega)]
      conv => rhs; rw [Nat.mod_eq_sub_mod (by omega)]
theorem zcells_one (v : Value) (h : (cv v).cells = [cv v]) (l : Nat) : zcells v l = List.replicate l (cv v) := by
  simp [zcells, h]
theorem wrap64_id {n : Int} (h : 0 ≤ n) (h' : n ≤ 9223372036854775807) : IntKind.i64.wrap n = n := by
  simp [IntKind.wrap, IntKind.bits, IntKind.signed]; omega

theorem makeSlice_ok {t : TypeId} {l c v : AV} {lu cu : Value} {H' : AHeap} (h : amakeSlice P H t l c = some (v, H')) (hs : St E P w0 κ0 n0 κ H w) (hl : VR κ H.length l lu) (hc : VR κ H.length c cu) :
    OpOk E P w0 κ0 n0 κ H w (Instr.makeSlice t lu cu) v H' := by
  unfold amakeSlice at h
  split at h
  · rename_i e k1 ln k2 cn he
    cases hl; cases hc
    split at h
    · rename_i z hz
      split at h
      · rename_i hcond
        obtain ⟨h1, h2, h3, h4, h5, h6, h7⟩ := hcond
        simp only [Option.some.injEq, Prod.mk.injEq] at h
        obtain ⟨rfl, rfl⟩ := h
        have hu := elemT_under he
        obtain ⟨inf, hinf⟩ : ∃ i, P.info? e = some i := by
          have := hasT_of_zero hz
          unfold hasT at this
          exact Option.isSome_iff_exists.1 this
        have hsize : inf.size = szT P e := by simp [szT, Program.cellsOf, hinf]
        have hbytes : inf.bytes = bytesT P e := by simp [bytesT, Program.bytesOf, hinf]
        have hzero : inf.zero = some z := by simpa [zeroT, hinf] using hz
        have hzc := (vr_cv κ H.length z).cells (known_of_all h5)
        have hzs : z.cells.size = szT P e := by have := hzc.1; simp at this; omega
        have hw1 : IntKind.i64.wrap ln = ln := wrap64_id h1 (by omega)
        have hw2 : IntKind.i64.wrap cn = cn := wrap64_id (by omega) h3
        have hb1 : ¬ ((inf.bytes : Int) * cn > 2 ^ 48) := by rw [hbytes]; omega
        have hfin : (decide (cn < 0) || decide ((inf.bytes : Int) * cn > 2 ^ 48) || decide (ln < 0) || decide (ln > cn)) = false := by
          simp only [Bool.or_eq_false_iff, decide_eq_false_iff_not]
          exact ⟨⟨⟨by omega, hb1⟩, by omega⟩, by omega⟩
        refine ⟨.slice (some ⟨w.heap.size, 0, none⟩) ln.toNat cn.toNat, w.alloc (.cells ((Array.range (cn.toNat * szT P e)).map (z.cells[· % z.cells.size]!)) e), kupd κ H.length ⟨w.heap.size, 0, szT P e, cn.toNat⟩, ?_, ?_, ?_, kupd_lt κ H _, by simp, fun h => absurd h (by simp)⟩
        · have hmap : ∀ (W : World), (if cn.toNat * szT P e = 0 then (pure #[] : Sem (Array Value)) else do pure (← zeroValue e).cells).run P W = .ok (if cn.toNat * szT P e = 0 then #[] else z.cells) W := by
            intro W
            split <;> simp [run_zeroT hz]
          have hsame : (Array.range (cn.toNat * szT P e)).map ((if cn.toNat * szT P e = 0 then (#[] : Array Value) else z.cells)[· % (if cn.toNat * szT P e = 0 then (#[] : Array Value) else z.cells).size]!) = (Array.range (cn.toNat * szT P e)).map (z.cells[· % z.cells.size]!) := by
            split
            · rename_i h0; rw [h0]; simp
            · rfl
          have hnot : ¬ (cn < 0 ∨ (inf.bytes : Int) * cn > 2 ^ 48 ∨ ln < 0 ∨ ln > cn) := by
            intro hx
            rcases hx with hx | hx | hx | hx
            · omega
            · exact hb1 hx
            · omega
            · omega
          unfold Instr.makeSlice
          simp only [Sem.run_bind, run_underlying hu, Result.andThen_ok, asInt, asIntOf, Sem.run_pure, hw1, hw2, typeInfo, run_program, hinf]
          rw [if_neg (by simp; omega)]
          simp only [Sem.run_bind, Result.andThen_ok, run_askRoom, sizeOf, typeInfo, run_program, hinf, Sem.run_pure, hsize]
          by_cases h0 : cn.toNat * szT P e = 0
          · rw [if_pos h0]
            have hm0 : (Array.map (fun x => (#[] : Array Value)[x % (#[] : Array Value).size]!) (Array.range (cn.toNat * szT P e))) = (Array.range (cn.toNat * szT P e)).map (z.cells[· % z.cells.size]!) := by rw [h0]; simp
            simp only [Sem.run_bind, Sem.run_pure, Result.andThen_ok, newRow, hm0, run_newObj]
            rfl
          · rw [if_neg h0]
            simp only [Sem.run_bind, run_zeroT hz, Sem.run_pure, Result.andThen_ok, newRow, run_newObj]
            rfl
        · refine .slice _ _ _ _ _ 0 (by simp) (by simp) (by rw [kupd_same]; simp) (by omega) (fun _ => ?_)
          rw [kupd_same]
        · have hbel : Below w.heap.size w (w.alloc (.cells ((Array.range (cn.toNat * szT P e)).map (z.cells[· % z.cells.size]!)) e)) := (Below.refl _ _).alloc (Nat.le_refl _) _
          have hmul : ln.toNat * szT P e ≤ cn.toNat * szT P e := Nat.mul_le_mul_right _ (by omega)
          refine hs.push hbel _ _ (fun _ => Nat.le_refl _) ?_
          refine ⟨_, e, (0, 0), by rw [kupd_same]; exact heap_alloc_new w _, fun _ => ⟨rfl, fun o _ => by simp, by rw [kupd_same]; exact hs.below.size, ⟨0, by rw [kupd_same]; simp⟩⟩, by rw [kupd_same]; rfl, ?_, ?_, ?_⟩
          · rw [kupd_same, zcells_length, h6]; exact hmul
          · rw [kupd_same]; simp
          · rw [kupd_same]
            intro j x hx
            have hj := (List.getElem?_eq_some_iff.1 hx).1
            rw [zcells_length, h6] at hj
            rw [zcells_get z (by omega) _ _ (by rw [h6]; exact hj), h6] at hx
            obtain ⟨y, hy, hr⟩ := hzc.get hx
            refine ⟨y, ?_, hr.mono (kupd_lt κ H _) (by simp), hr.oneCell ((List.all_eq_true.1 h5) _ (List.mem_of_getElem? hx))⟩
            have hjc : j < cn.toNat * szT P e := by omega
            rw [Nat.zero_add, Array.getElem?_map, Array.getElem?_range, if_pos hjc]
            simp only [Option.map_some, Option.some.injEq, hzs]
            have hjm : j % szT P e < z.cells.size := by rw [hzs]; exact Nat.mod_lt _ (by omega)
            rw [getElem!_pos z.cells _ hjm]
            have := (List.getElem?_eq_some_iff.1 hy).2
            simpa using this
      · cases h
    · cases h
  · cases h

/-! ### len, min, max -/
def alen (P : Program) (t : TypeId) (x : AV) : Option AV :=
  match x with
  | .str s => if strT P t then some (.int .i64 s.length) else none
  | .slice _ n => if (elemT P t).isSome then some (.int .i64 n) else none
  | _ => none
theorem len_ok {t ty : TypeId} {x v : AV} {xu : Value} (h : alen P t x = some v) (hs : St E P w0 κ0 n0 κ H w) (hx : VR κ H.length x xu) : OpOk E P w0 κ0 n0 κ H w (Builtin.len_ #[t] ty #[xu]) v H := by
  unfold alen at h
  split at h
  · rename_i s
    cases hx
    split at h
    · rename_i hst
      simp only [Option.some.injEq] at h
      subst h
      refine OpOk.same hs ?_ (.int _ _)
      have hsz : (⟨s.toArray⟩ : ByteArray).size = s.length := by simp [ByteArray.size]
      simp [Builtin.len_, run_underlying (strT_under hst), goInt, hsz]
    · cases h
  · rename_i a n
    split at h
    · rename_i he
      simp only [Option.some.injEq] at h
      subst h
      obtain ⟨e, he⟩ := Option.isSome_iff_exists.1 he
      cases hx <;>
      · refine OpOk.same hs ?_ (.int _ _)
        simp [Builtin.len_, run_underlying (elemT_under he), goInt]
    · cases h
  · cases h
def amax2 (x y : AV) : Option AV := match x, y with | .int k a, .int _ b => some (.int k (if b > a then b else a)) | _, _ => none
def amin2 (x y : AV) : Option AV := match x, y with | .int k a, .int _ b => some (.int k (if b < a then b else a)) | _, _ => none
def afold (f : AV → AV → Option AV) : AV → List AV → Option AV
  | x, [] => some x
  | x, y :: r => (f x y).bind fun z => afold f z r
def afold1 (f : AV → AV → Option AV) : List AV → Option AV
  | [] => none
  | x :: r => afold f x r
theorem max_ok {n : Nat} {ts : Array TypeId} {ty : TypeId} {xs : List AV} {us : List Value} {v : AV} (h : afold1 amax2 xs = some v) (hx : VRs κ n xs us) : ∃ u, (Builtin.max_ ts ty us.toArray).run P w = .ok u w ∧ VR κ n v u := by
  cases xs with
  | nil => simp [afold1] at h
  | cons x r =>
    cases us with
    | nil => have := hx.1; simp at this
    | cons u us =>
      have key : ∀ (r : List AV) (us : List Value) (x : AV) (u : Value), afold amax2 x r = some v → VR κ n x u → VRs κ n r us → ∃ u', (us.foldlM Builtin.max2 u).run P w = .ok u' w ∧ VR κ n v u' := by
        intro r
        induction r with
        | nil =>
          intro us x u h hx hr
          have : us = [] := List.eq_nil_of_length_eq_zero (by have := hr.1; simpa using this.symm)
          subst this
          simp [afold] at h; subst h
          exact ⟨u, by simp, hx⟩
        | cons y r ih =>
          intro us x u h hx hr
          cases us with
          | nil => have := hr.1; simp at this
          | cons u2 us =>
            simp only [afold] at h
            cases hm : amax2 x y with
            | none => simp [hm] at h
            | some z =>
              simp only [hm, Option.bind_some] at h
              unfold amax2 at hm
              split at hm
              · simp only [Option.some.injEq] at hm
                have h2 := hr.head
                cases hx; cases h2
                subst hm
                obtain ⟨u', e1, e2⟩ := ih us _ _ h (.int _ _) hr.tail
                refine ⟨u', ?_, e2⟩
                simp only [List.foldlM_cons, Sem.run_bind, Builtin.max2, Sem.run_pure, Result.andThen_ok]
                exact e1
              · cases hm
      obtain ⟨u', e1, e2⟩ := key r us x u h hx.head hx.tail
      exact ⟨u', by simpa [Builtin.max_] using e1, e2⟩
theorem min_ok {n : Nat} {ts : Array TypeId} {ty : TypeId} {xs : List AV} {us : List Value} {v : AV} (h : afold1 amin2 xs = some v) (hx : VRs κ n xs us) : ∃ u, (Builtin.min_ ts ty us.toArray).run P w = .ok u w ∧ VR κ n v u := by
  cases xs with
  | nil => simp [afold1] at h
  | cons x r =>
    cases us with
    | nil => have := hx.1; simp at this
    | cons u us =>
      have key : ∀ (r : List AV) (us : List Value) (x : AV) (u : Value), afold amin2 x r = some v → VR κ n x u → VRs κ n r us → ∃ u', (us.foldlM Builtin.min2 u).run P w = .ok u' w ∧ VR κ n v u' := by
        intro r
        induction r with
        | nil =>
          intro us x u h hx hr
          have : us = [] := List.eq_nil_of_length_eq_zero (by have := hr.1; simpa using this.symm)
          subst this
          simp [afold] at h; subst h
          exact ⟨u, by simp, hx⟩
        | cons y r ih =>
          intro us x u h hx hr
          cases us with
          | nil => have := hr.1; simp at this
          | cons u2 us =>
            simp only [afold] at h
            cases hm : amin2 x y with
            | none => simp [hm] at h
            | some z =>
              simp only [hm, Option.bind_some] at h
              unfold amin2 at hm
              split at hm
              · simp only [Option.some.injEq] at hm
                have h2 := hr.head
                cases hx; cases h2
                subst hm
                obtain ⟨u', e1, e2⟩ := ih us _ _ h (.int _ _) hr.tail
                refine ⟨u', ?_, e2⟩
                simp only [List.foldlM_cons, Sem.run_bind, Builtin.min2, Sem.run_pure, Result.andThen_ok]
                exact e1
              · cases hm
      obtain ⟨u', e1, e2⟩ := key r us x u h hx.head hx.tail
      exact ⟨u', by simpa [Builtin.min_] using e1, e2⟩

/-! ### ranges over strings -/
def arange (P : Program) (H : AHeap) (t : TypeId) (x : AV) : Option (AV × AHeap) :=
  match x with
  | .str s => if strT P t then some (.ptr (some (H.length, 0)), H ++ [.iter s 0]) else none
  | _ => none
theorem range_ok {t : TypeId} {x v : AV} {xu : Value} {H' : AHeap} (h : arange P H t x = some (v, H')) (hs : St E P w0 κ0 n0 κ H w) (hx : VR κ H.length x xu) : OpOk E P w0 κ0 n0 κ H w (Instr.range t xu) v H' := by
  unfold arange at h
  split at h
  · rename_i s
    cases hx
    split at h
    · rename_i hst
      simp only [Option.some.injEq, Prod.mk.injEq] at h
      obtain ⟨rfl, rfl⟩ := h
      refine ⟨.pointer (some ⟨w.heap.size, 0, none⟩), w.alloc (.stringIter ⟨s.toArray⟩ 0), kupd κ H.length ⟨w.heap.size, 0, 1, 0⟩, ?_, ?_, ?_, kupd_lt κ H _, by simp, fun h => absurd h (by simp)⟩
      · simp [Instr.range, run_underlying (strT_under hst), World.alloc_eq]
      · have := VR.ptr (κ := kupd κ H.length ⟨w.heap.size, 0, 1, 0⟩) (n := (H ++ [AObj.iter s 0]).length) H.length 0 (by simp)
        simpa [kupd_same] using this
      · refine hs.push ((Below.refl _ _).alloc (Nat.le_refl _) _) _ _ (fun _ => Nat.le_refl _) ⟨?_, ?_, ?_⟩
        · rw [kupd_same]; exact hs.below.size
        · rw [kupd_same]
        · rw [kupd_same]; exact heap_alloc_new w _
    · cases h
  · cases h
theorem decode_pos (s : ByteArray) (i : Nat) : 0 < (Utf8.decode s i).2 := by
  unfold Utf8.decode
  simp only
  repeat' split
  all_goals simp
def anext (H : AHeap) (x : AV) : Option (AV × AHeap) :=
  match x with
  | .ptr (some (i, 0)) => match H[i]? with
    | some (.iter s pos) => if pos < s.length then
        let (c, width) := Utf8.decode ⟨s.toArray⟩ pos
        some (.tuple [.bool true, .int .i64 pos, .int .i32 c], H.set i (.iter s (pos + width)))
      else some (.tuple [.bool false], H)
    | _ => none
  | _ => none
theorem next_ok {ty : TypeId} {x v : AV} {xu : Value} {H' : AHeap} (h : anext H x = some (v, H')) (hs : St E P w0 κ0 n0 κ H w) (hx : VR κ H.length x xu) : OpOk E P w0 κ0 n0 κ H w (Instr.next xu true ty) v H' := by
  unfold anext at h
  split at h
  · rename_i i
    cases hx
    rename_i hin
    split at h
    · rename_i s pos hi
      obtain ⟨hb, hoff, hblk⟩ := hs.objs i _ hi
      have hsz : (⟨s.toArray⟩ : ByteArray).size = s.length := by simp [ByteArray.size]
      have hlt : (κ i).blk < w.heap.size := (Array.getElem?_eq_some_iff.1 hblk).1
      split at h
      · rename_i hp
        simp only [Option.some.injEq, Prod.mk.injEq] at h
        obtain ⟨rfl, rfl⟩ := h
        refine ⟨.tuple #[.bool true, goInt pos, .int .i32 (Utf8.decode ⟨s.toArray⟩ pos).1], { w with heap := w.heap.setIfInBounds (κ i).blk (.stringIter ⟨s.toArray⟩ (pos + (Utf8.decode ⟨s.toArray⟩ pos).2)) }, κ, ?_, ?_, ?_, fun _ _ => rfl, by simp, fun h => ?_⟩
        · have hb2 : w.heap[(κ i).blk] = .stringIter ⟨s.toArray⟩ pos := by
            rw [Array.getElem?_eq_getElem hlt] at hblk; exact Option.some.inj hblk
          simp [Instr.next, hoff, getObj, setObj, Sem.run, hlt, hb2, hsz, hp]
        · exact .tuple _ [.bool true, goInt pos, .int .i32 (Utf8.decode ⟨s.toArray⟩ pos).1] rfl (VRs.cons (.bool _) (VRs.cons (.int _ _) (VRs.cons (.int _ _) (VRs.nil _ _)))).2
        · refine hs.set i _ _ hi rfl ⟨rfl, rfl, rfl, by simp, fun k hk => ?_⟩ (fun k hk hne => ?_) ⟨hb, hoff, ?_⟩
          · show (w.heap.setIfInBounds _ _)[k]? = _
            rw [Array.getElem?_setIfInBounds, if_neg (by omega)]
          · show (w.heap.setIfInBounds _ _)[k]? = _
            rw [Array.getElem?_setIfInBounds, if_neg (fun e => hne e.symm)]
          · show (w.heap.setIfInBounds _ _)[(κ i).blk]? = _
            rw [Array.getElem?_setIfInBounds, if_pos rfl, if_pos hlt]
        · exfalso
          have hin : i < H.length := (List.getElem?_eq_some_iff.1 hi).1
          have h1 : (H.set i (AObj.iter s (pos + (Utf8.decode ⟨s.toArray⟩ pos).2)))[i]? = H[i]? := by rw [h]
          rw [List.getElem?_set_self hin, hi] at h1
          simp only [Option.some.injEq, AObj.iter.injEq, true_and] at h1
          have := decode_pos ⟨s.toArray⟩ pos
          omega
      · rename_i hp
        simp only [Option.some.injEq, Prod.mk.injEq] at h
        obtain ⟨rfl, rfl⟩ := h
        have hb2 : w.heap[(κ i).blk] = .stringIter ⟨s.toArray⟩ pos := by
          rw [Array.getElem?_eq_getElem hlt] at hblk; exact Option.some.inj hblk
        refine OpOk.same (u := .tuple #[.bool false]) hs ?_ (.tuple [.bool false] [.bool false] rfl (VRs.cons (.bool _) (VRs.nil _ _)).2)
        simp [Instr.next, hoff, getObj, Sem.run, hlt, hb2, hsz, hp]
    · cases h
  · cases h

/-! ### conversions -/
def byteCell : AV → Option UInt8
  | .int .u8 n => some (UInt8.ofNat n.toNat)
  | _ => none
def byteCells? : List AV → Option (List UInt8)
  | [] => some []
  | c :: r => match byteCell c, byteCells? r with
    | some b, some l => some (b :: l)
    | _, _ => none
def runeCell : AV → Option Int
  | .int .i32 n => some n
  | _ => none
def runeCells? : List AV → Option (List Int)
  | [] => some []
  | c :: r => match runeCell c, runeCells? r with
    | some b, some l => some (b :: l)
    | _, _ => none
/-- The bytes of a rune, as a list. -/
def encR (n : Int) : List UInt8 := (Utf8.encode n).data.toList
/-- The runes of a string, from a place on. -/
def runesOf (s : List UInt8) : List AV := (Conv.runesFrom ⟨s.toArray⟩ s.length 0 #[]).toList.map cv1
def aconvert (P : Program) (H : AHeap) (src dst : TypeId) (x : AV) : Option (AV × AHeap) :=
  match P.underlying src, P.underlying dst with
  | some _, some (.int k) => match x with | .int _ n => some (.int k (k.wrap n), H) | _ => none
  | some (.slice e), some .string => match x with
    | .slice none 0 => match P.underlying e with
      | some (.int .u8) => some (.str [], H)
      | some (.int .i32) => some (.str [], H)
      | _ => none
    | .slice (some (i, o)) len => match H[i]? with
      | some (.cells c _ _) => if o + len ≤ c.length then match P.underlying e with
        | some (.int .u8) => (byteCells? ((c.drop o).take len)).map fun l => (.str l, H)
        | some (.int .i32) => (runeCells? ((c.drop o).take len)).map fun l => (.str (l.flatMap encR), H)
        | _ => none
        else none
      | _ => none
    | _ => none
  | some _, some .string => match x with | .str s => some (.str s, H) | _ => none
  | some .string, some (.slice e) => match x with
    | .str s => match P.underlying e with
      | some (.int .u8) => if szT P e = 1 then some (.slice (some (H.length, 0)) s.length, H ++ [.cells (s.map fun b => .int .u8 b.toNat) e true]) else none
      | some (.int .i32) => if szT P e = 1 ∧ s.length ≤ 70368744177664 then some (.slice (some (H.length, 0)) (runesOf s).length, H ++ [.cells (runesOf s) e true]) else none
      | _ => none
    | _ => none
  | _, _ => none

theorem byteCells_ok {n : Nat} : ∀ (cs : List AV) (us : List Value) (l : List UInt8), byteCells? cs = some l → VRs κ n cs us → ∃ ns : List Int, us = ns.map (Value.int .u8) ∧ l = ns.map fun n => UInt8.ofNat n.toNat
  | [], us, l, h, hv => by
    have : us = [] := List.eq_nil_of_length_eq_zero (by have := hv.1; simpa using this.symm)
    subst this
    simp [byteCells?] at h; subst h
    exact ⟨[], rfl, rfl⟩
  | c :: r, us, l, h, hv => by
    cases us with
    | nil => have := hv.1; simp at this
    | cons u us =>
      simp only [byteCells?] at h
      split at h
      · rename_i b l' hb hl
        simp only [Option.some.injEq] at h
        subst h
        obtain ⟨ns, rfl, rfl⟩ := byteCells_ok r us l' hl hv.tail
        unfold byteCell at hb
        split at hb
        · rename_i m
          simp only [Option.some.injEq] at hb
          subst hb
          have := hv.head
          cases this
          exact ⟨m :: ns, rfl, rfl⟩
        · cases hb
      · cases h
theorem runeCells_ok {n : Nat} : ∀ (cs : List AV) (us : List Value) (l : List Int), runeCells? cs = some l → VRs κ n cs us → us = l.map (Value.int .i32)
  | [], us, l, h, hv => by
    have : us = [] := List.eq_nil_of_length_eq_zero (by have := hv.1; simpa using this.symm)
    subst this
    simp [runeCells?] at h; subst h
    rfl
  | c :: r, us, l, h, hv => by
    cases us with
    | nil => have := hv.1; simp at this
    | cons u us =>
      simp only [runeCells?] at h
      split at h
      · rename_i b l' hb hl
        simp only [Option.some.injEq] at h
        subst h
        have ih := runeCells_ok r us l' hl hv.tail
        unfold runeCell at hb
        split at hb
        · simp only [Option.some.injEq] at hb
          subst hb
          have := hv.head
          cases this
          rw [ih]; rfl
        · cases hb
      · cases h
theorem foldl_push : ∀ (ns : List Int) (acc : ByteArray), ns.foldl (fun r n => r.push (UInt8.ofNat n.toNat)) acc = ⟨(acc.data.toList ++ ns.map fun n => UInt8.ofNat n.toNat).toArray⟩
  | [], acc => by apply ByteArray.ext; simp
  | n :: r, acc => by
    rw [List.foldl_cons, foldl_push r]
    apply ByteArray.ext
    simp [ByteArray.push]
theorem run_runesToStr (W : World) (a : Addr) (len cap : Nat) (ns : List Int) (h : (loadCells a len).run P W = .ok (ns.map (Value.int .i32)).toArray W) :
    (Conv.runesToString (.slice (some a) len cap)).run P W = .ok (.string ⟨(ns.flatMap encR).toArray⟩) W := by
  have key : ∀ (f : Value → ByteArray → Sem (ForInStep ByteArray)), (∀ n s, f (.int .i32 n) s = pure (ForInStep.yield (s ++ Utf8.encode n))) →
      ∀ (ns : List Int) (acc : ByteArray), (forIn (ns.map (Value.int .i32)) acc f).run P W = .ok ⟨(acc.data.toList ++ ns.flatMap encR).toArray⟩ W := by
    intro f hf ns
    induction ns with
    | nil => intro acc; simp
    | cons n r ih =>
      intro acc
      simp only [List.map_cons, List.forIn_cons, Sem.run_bind, hf, Sem.run_pure, Result.andThen_ok, ih]
      congr 2
      simp [encR, ByteArray.data_append]
  unfold Conv.runesToString
  simp only [Sem.run_bind, h, Result.andThen_ok, List.forIn_toArray]
  rw [key _ (by intro n s; rfl)]
  simp

theorem runesFrom_one (s : ByteArray) : ∀ (bound i : Nat) (acc : Array Value), (∀ b ∈ acc.toList, b.oneCell' = true) → ∀ b ∈ (Conv.runesFrom s bound i acc).toList, b.oneCell' = true
  | 0, _, acc, h => by simpa [Conv.runesFrom] using h
  | bound + 1, i, acc, h => by
    unfold Conv.runesFrom
    split
    · refine runesFrom_one s bound _ _ ?_
      intro b hb
      rw [Array.toList_push] at hb
      rcases List.mem_append.1 hb with hb | hb
      · exact h b hb
      · rw [List.mem_singleton.1 hb]; rfl
    · exact h

theorem convert_ok {src dst : TypeId} {x v : AV} {xu : Value} {H' : AHeap} (h : aconvert P H src dst x = some (v, H')) (hs : St E P w0 κ0 n0 κ H w) (hx : VR κ H.length x xu) : OpOk E P w0 κ0 n0 κ H w (convert src dst xu) v H' := by
  unfold aconvert at h
  split at h
  · rename_i ds k hsrc hdst
    split at h
    · simp only [Option.some.injEq, Prod.mk.injEq] at h
      obtain ⟨rfl, rfl⟩ := h
      cases hx
      refine OpOk.same hs ?_ (.int _ _)
      simp [convert, run_underlying hsrc, run_underlying hdst, Conv.intToInt]
    · cases h
  · rename_i e hsrc hdst
    split at h
    · cases hx
      split at h
      · rename_i he
        simp only [Option.some.injEq, Prod.mk.injEq] at h
        obtain ⟨rfl, rfl⟩ := h
        refine OpOk.same hs ?_ (.str [])
        simp [convert, run_underlying hsrc, run_underlying hdst, run_underlying he, Conv.bytesToString]
        rfl
      · rename_i he
        simp only [Option.some.injEq, Prod.mk.injEq] at h
        obtain ⟨rfl, rfl⟩ := h
        refine OpOk.same hs ?_ (.str [])
        simp [convert, run_underlying hsrc, run_underlying hdst, run_underlying he, Conv.runesToString]
        rfl
      · cases h
    · rename_i i o len
      split at h
      · rename_i c e' rw hi
        split at h
        · rename_i hle
          obtain ⟨ad, cap, oe, rfl, hin, ho, hcap, hl, ha⟩ := hx.slice_pos
          obtain ⟨us, h1, h2, h3, h4⟩ := hs.cells hi o len hle
          have hload : (loadCells ad len).run P w = .ok us.toArray w := by
            rw [← h1]
            refine run_loadCells_list (P := P) w _ us (fun j v hv => ?_)
            have hj' := (List.getElem?_eq_some_iff.1 hv).1
            rw [ha (by omega), Addr.add_mid]
            exact h4 j v hv
          split at h
          · rename_i he
            cases hb : byteCells? ((c.drop o).take len) with
            | none => simp [hb] at h
            | some l =>
              simp only [hb, Option.map_some, Option.some.injEq, Prod.mk.injEq] at h
              obtain ⟨rfl, rfl⟩ := h
              obtain ⟨ns, rfl, rfl⟩ := byteCells_ok _ _ _ hb h2
              refine OpOk.same hs ?_ (.str _)
              rw [run_convert_bytes_string w src dst e _ len cap hsrc he hdst, run_bytesToString w ad len cap ns hload, foldl_push]
              rfl
          · rename_i he
            cases hb : runeCells? ((c.drop o).take len) with
            | none => simp [hb] at h
            | some l =>
              simp only [hb, Option.map_some, Option.some.injEq, Prod.mk.injEq] at h
              obtain ⟨rfl, rfl⟩ := h
              have := runeCells_ok _ _ _ hb h2
              subst this
              refine OpOk.same hs ?_ (.str _)
              have := run_runesToStr (P := P) w ad len cap l hload
              simp [convert, run_underlying hsrc, run_underlying hdst, run_underlying he, this]
          · cases h
        · cases h
      · cases h
    · cases h
  · rename_i ds hns hsrc hdst
    split at h
    · simp only [Option.some.injEq, Prod.mk.injEq] at h
      obtain ⟨rfl, rfl⟩ := h
      cases hx
      rename_i s
      refine OpOk.same hs ?_ (.str s)
      cases ds <;> simp_all [convert, run_underlying hsrc, run_underlying hdst]
    · cases h
  · rename_i e hsrc hdst
    split at h
    · rename_i s
      cases hx
      have hsz : (⟨s.toArray⟩ : ByteArray).size = s.length := by simp [ByteArray.size]
      split at h
      · rename_i he
        split at h
        · rename_i hz1
          simp only [Option.some.injEq, Prod.mk.injEq] at h
          obtain ⟨rfl, rfl⟩ := h
          have hrun := run_bytes_of_string (P := P) w src dst e ⟨s.toArray⟩ hsrc hdst he
          rw [hsz] at hrun
          have hge := grownCap_ge w s.length 0 e
          refine ⟨_, _, kupd κ H.length ⟨w.heap.size, 0, 1, grownCap w s.length 0 e⟩, hrun, ?_, ?_, kupd_lt κ H _, by simp, fun h => absurd h (by simp)⟩
          · refine .slice _ _ _ _ _ 0 (by simp) (by simp) (by rw [kupd_same]; simp) hge (fun _ => ?_)
            rw [kupd_same]
          · refine hs.push (((Below.refl _ w).drew).alloc (Nat.le_refl _) _) _ _ (fun _ => Nat.le_refl _) ?_
            have hrow : (bytesRow ⟨s.toArray⟩ (grownCap w s.length 0 e)).toList = (s.map fun b => Value.int .u8 b.toNat) ++ List.replicate (grownCap w s.length 0 e - s.length) (.int .u8 0) := by
              simp [bytesRow, hsz]
            have hrs : (bytesRow ⟨s.toArray⟩ (grownCap w s.length 0 e)).size = grownCap w s.length 0 e := by
              rw [← Array.length_toList, hrow]; simp; omega
            refine ⟨_, e, _, by rw [kupd_same]; exact heap_alloc_new w.drew _, fun _ => ⟨rfl, fun o ho => ?_, by rw [kupd_same]; exact hs.below.size, ⟨0, by rw [kupd_same]; simp⟩⟩, by rw [kupd_same]; exact hz1.symm, ?_, ?_, ?_⟩
            · simp; omega
            · rw [kupd_same]; simp; exact hge
            · rw [kupd_same]; simp [hrs]
            · rw [kupd_same]
              intro j x hx
              rw [List.getElem?_map] at hx
              cases hb : s[j]? with
              | none => simp [hb] at hx
              | some b =>
                simp [hb] at hx
                subst hx
                refine ⟨.int .u8 b.toNat, ?_, .int _ _, rfl⟩
                have hj := (List.getElem?_eq_some_iff.1 hb).1
                rw [Nat.zero_add, ← Array.getElem?_toList, hrow, List.getElem?_append_left (by simpa using hj)]
                simp [hb]
        · cases h
      · rename_i he
        split at h
        · rename_i hz1
          simp only [Option.some.injEq, Prod.mk.injEq] at h
          obtain ⟨rfl, rfl⟩ := h
          have hmax := size_runesFrom ⟨s.toArray⟩ s.length 0 #[]
          have hrun := run_runes_of_string (P := P) w src dst e ⟨s.toArray⟩ hsrc hdst he (by rw [hsz]; simp at hmax; omega)
          rw [hsz] at hrun
          have hge := grownCap_ge w (Conv.runesFrom ⟨s.toArray⟩ s.length 0 #[]).size 0 e
          have hlen : (runesOf s).length = (Conv.runesFrom ⟨s.toArray⟩ s.length 0 #[]).size := by simp [runesOf]
          refine ⟨_, _, kupd κ H.length ⟨w.heap.size, 0, 1, grownCap w (Conv.runesFrom ⟨s.toArray⟩ s.length 0 #[]).size 0 e⟩, hrun, ?_, ?_, kupd_lt κ H _, by simp, fun h => absurd h (by simp)⟩
          · rw [hlen]
            refine .slice _ _ _ _ _ 0 (by simp) (by simp) (by rw [kupd_same]; simp) hge (fun _ => ?_)
            rw [kupd_same]
          · refine hs.push (((Below.refl _ w).drew).alloc (Nat.le_refl _) _) _ _ (fun _ => Nat.le_refl _) ?_
            refine ⟨_, e, (0, 0), by rw [kupd_same]; exact heap_alloc_new w.drew _, fun _ => ⟨rfl, fun o ho => by simp, by rw [kupd_same]; exact hs.below.size, ⟨0, by rw [kupd_same]; simp⟩⟩, by rw [kupd_same]; exact hz1.1.symm, ?_, ?_, ?_⟩
            · rw [kupd_same, hlen]; simp; exact hge
            · rw [kupd_same]; simp; omega
            · rw [kupd_same]
              intro j x hx
              simp only [runesOf] at hx
              rw [List.getElem?_map] at hx
              cases hb : (Conv.runesFrom ⟨s.toArray⟩ s.length 0 #[]).toList[j]? with
              | none => rw [hb] at hx; simp at hx
              | some b =>
                rw [hb] at hx
                simp only [Option.map_some, Option.some.injEq] at hx
                subst hx
                have hj := (List.getElem?_eq_some_iff.1 hb).1
                refine ⟨b, ?_, vr_cv1 _ _ _, ?_⟩
                · rw [Nat.zero_add, Array.getElem?_append_left (by simpa using hj)]
                  simpa using hb
                · exact runesFrom_one _ _ _ _ (by simp) b (List.mem_of_getElem? hb)
        · cases h
      · cases h
    · cases h
  · cases h
end
end Go.AL
