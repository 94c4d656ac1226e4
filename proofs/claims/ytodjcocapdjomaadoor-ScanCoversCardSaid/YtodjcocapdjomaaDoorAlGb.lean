/- The two builtins that strings.Builder calls at its end, over the abstract heap. -/
import Derived.Test.YtodjcocapdjomaaDoorAlG
import Derived.Lib.UnsafeStr
namespace Go.AL
open Go Go.RowKit
set_option linter.unusedVariables false
set_option linter.unusedSimpArgs false
section
variable {E : World → Prop} {P : Program} {w0 : World} {κ0 : Nat → Loc} {n0 : Nat} {κ : Nat → Loc} {H : AHeap} {w : World}
def asliceData (x : AV) : Option AV := match x with
  | .slice none 0 => some (.ptr none)
  | .slice (some a) (_ + 1) => some (.ptr (some a))
  | _ => none
theorem sliceData_ok {t ty : TypeId} {x v : AV} {xu : Value} (h : asliceData x = some v) (hs : St E P w0 κ0 n0 κ H w) (hx : VR κ H.length x xu) : OpOk E P w0 κ0 n0 κ H w (Builtin.unsafeSliceData_ #[t] ty #[xu]) v H := by
  unfold asliceData at h
  split at h
  · cases h
    cases hx
    exact OpOk.same hs rfl .ptrNil
  · cases h
    cases hx with
    | slice i o len ad cap oe hin ho hc hl ha =>
      have := ha (by omega)
      subst this
      exact OpOk.same hs (Lib.run_unsafeSliceData_row w _ _ _ _ _ (by omega)) (.ptr _ _ hin)
  · cases h
def ptrT (P : Program) (t : TypeId) : Option TypeId := match P.underlying t with | some (.pointer e) => some e | _ => none
theorem ptrT_under {t e : TypeId} (h : ptrT P t = some e) : P.underlying t = some (.pointer e) := by
  unfold ptrT at h
  split at h
  · simp at h; subst h; assumption
  · cases h
def aunsafeString (P : Program) (H : AHeap) (t : TypeId) (p n : AV) : Option (AV × AHeap) := match p, n with
  | .ptr none, .int .i64 0 => if (ptrT P t).isSome then some (.str [], H) else none
  | .ptr (some (i, o)), .int .i64 n => match H[i]?, ptrT P t with
    | some (.cells c e true), some e' => if e' = e ∧ szT P e = 1 ∧ 0 < n ∧ n ≤ 9223372036854775807 ∧ o + n.toNat ≤ c.length then
        (byteCells? ((c.drop o).take n.toNat)).map fun l => (.str l, H.set i (.cells c e false)) else none
    | _, _ => none
  | _, _ => none
theorem run_loadBytesI : ∀ (l : List Int) (a : Addr) (acc : ByteArray), (∀ (j : Nat) x, l[j]? = some x → w.cell? (a.add j) = some (.int .u8 x)) →
    (loadBytes a acc l.length).run P w = .ok ⟨acc.data ++ (l.map fun n => UInt8.ofNat n.toNat).toArray⟩ w
  | [], a, acc, _ => by simp [loadBytes]
  | x :: l, a, acc, h => by
    have h0 : w.cell? a = some (.int .u8 x) := by
      have := h 0 x rfl
      simpa [Addr.add] using this
    have ih := run_loadBytesI l (a.add 1) (acc.push x.toNat.toUInt8) (fun j y hy => by
      have := h (j + 1) y (by simpa using hy)
      have e : (a.add 1).add j = a.add (j + 1) := by
        unfold Addr.add
        by_cases hj : j = 0
        · subst hj; simp
        · simp [hj]; omega
      rw [e]; exact this)
    simp only [List.length_cons, loadBytes, Sem.run_bind, run_load, h0, Result.andThen]
    rw [ih]
    congr 1
    apply ByteArray.ext
    simp [ByteArray.push]
theorem liesAt_at {e : TypeId} (hc : P.cellsOf e = 1) (count off n : Nat) (hn : off + n ≤ count) : liesAt P P.depth e count off e n = true := by
  have hd : P.depth = (2 * (P.types.size + Made.depth) + 1) + 1 := rfl
  rw [hd]
  simp only [liesAt, Bool.or_eq_true]
  left
  rw [hd]
  simp [rowAt, hc, hn, sameLayout, Nat.mod_one]
theorem freeze_blk (w : World) (a : Addr) (n k : Nat) (h : k ≠ a.block) : (w.freeze a n).heap[k]? = w.heap[k]? := by
  unfold World.freeze
  split
  · rfl
  · simp only [Array.getElem?_modify]
    rw [if_neg (Ne.symm h)]
theorem freeze_at (w : World) (a : Addr) (n : Nat) {C : Array Value} {e : TypeId} {fr : Nat × Nat} (h : w.heap[a.block]? = some (.cells C e fr)) : ∃ fr', (w.freeze a n).heap[a.block]? = some (.cells C e fr') := by
  unfold World.freeze
  split
  · exact ⟨fr, h⟩
  · simp only [Array.getElem?_modify, if_pos rfl, h, Option.map_some]
    exact ⟨_, rfl⟩
theorem St.frozen (hs : St E P w0 κ0 n0 κ H w) {i : Nat} {c : List AV} {e : TypeId} (hi : H[i]? = some (.cells c e true)) (o n : Nat) : St E P w0 κ0 n0 κ (H.set i (.cells c e false)) (w.freeze ⟨(κ i).blk, o, none⟩ n) := by
  obtain ⟨C, e', fr, h1, h2, hz, h3, h4, h5⟩ := hs.objs i _ hi
  obtain ⟨rfl, hfr, hbase, -⟩ := h2 rfl
  refine hs.set i _ _ hi rfl (Lib.below_freeze (Below.refl _ _) hbase n) (fun k _ hk => freeze_blk _ _ _ _ hk) ?_
  obtain ⟨fr', hfr'⟩ := freeze_at w ⟨(κ i).blk, o, none⟩ n h1
  exact ⟨C, _, fr', hfr', (fun h => by cases h), hz, h3, h4, h5⟩
theorem unsafeString_ok {t u ty : TypeId} {p x v : AV} {pu xu : Value} {H' : AHeap} (h : aunsafeString P H t p x = some (v, H')) (hs : St E P w0 κ0 n0 κ H w) (hp : VR κ H.length p pu) (hx : VR κ H.length x xu) :
    OpOk E P w0 κ0 n0 κ H w (Builtin.unsafeString_ #[t, u] ty #[pu, xu]) v H' := by
  unfold aunsafeString at h
  split at h
  · split at h
    · simp only [Option.some.injEq, Prod.mk.injEq] at h
      obtain ⟨rfl, rfl⟩ := h
      cases hp; cases hx
      refine OpOk.same hs ?_ (.str [])
      rfl
    · cases h
  · rename_i i o n
    split at h
    · rename_i c e e' hi he
      split at h
      · rename_i hc
        obtain ⟨rfl, hsz, hn0, hn1, hlen⟩ := hc
        obtain ⟨l, hl, h⟩ : ∃ l, byteCells? ((c.drop o).take n.toNat) = some l ∧ (AV.str l, List.set H i (.cells c e' false)) = (v, H') := by
          cases hb : byteCells? ((c.drop o).take n.toNat) with
          | none => simp [hb] at h
          | some l => simp only [hb, Option.map_some, Option.some.injEq] at h; exact ⟨l, rfl, h⟩
        simp only [Prod.mk.injEq] at h
        obtain ⟨rfl, rfl⟩ := h
        cases hp; cases hx
        rename_i hin
        obtain ⟨us, o1, o2, o3, o4⟩ := hs.cells hi o n.toNat hlen
        obtain ⟨ns, rfl, rfl⟩ := byteCells_ok _ _ _ hl o2
        obtain ⟨C, e'', fr, h1, h2, hz, h3, h4, h5⟩ := hs.objs i _ hi
        obtain ⟨rfl, hfr, hbase, -⟩ := h2 rfl
        have hnl : ns.length = n.toNat := by simpa using o1
        have hu := ptrT_under he
        have hc1 : P.cellsOf e'' = 1 := hsz
        have hfit : (κ i).off + o + n.toNat ≤ C.size := by
          have : (κ i).sz = 1 := by rw [hz]; exact hc1
          rw [this] at h3 h4
          omega
        have hsh : w.shape? (κ i).blk = some (e'', C.size) := by simp [World.shape?, h1]
        have hlies := liesAt_at (P := P) hc1 (C.size / P.cellsOf e'') ((κ i).off + o) n.toNat (by rw [hc1]; simpa using hfit)
        have hlb := run_loadBytesI (P := P) (w := w) ns ⟨(κ i).blk, (κ i).off + o, none⟩ .empty (fun j x hj => by
          have := o4 j (.int .u8 x) (by rw [List.getElem?_map, hj]; rfl)
          rw [Addr.add_mid]
          exact this)
        rw [hnl] at hlb
        have hmax : IntKind.i64.max = 9223372036854775807 := rfl
        have hneg : ¬ n < 0 := by omega
        have hne : ¬ n = 0 := by omega
        have hbig : ¬ 9223372036854775807 < n := by omega
        refine ⟨_, _, κ, ?_, VR.str _, hs.frozen hi ((κ i).off + o) n.toNat, fun _ _ => rfl, by simp, ?_⟩
        · have hk : Builtin.unsafeString_ #[t, u] ty #[.pointer (some ⟨(κ i).blk, (κ i).off + o, none⟩), .int .i64 n] = (asInt (.int .i64 n) >>= _) := rfl
          rw [hk]
          simp [asInt, asIntOf, hmax, hneg, hne, hbig, variablesAt, hsh, elemOf, run_underlying hu, hlies, hlb]
        · intro hh
          have h9 : (H.set i (.cells c e'' false))[i]? = some (.cells c e'' false) := List.getElem?_set_self (List.getElem?_eq_some_iff.1 hi).1
          rw [hh, hi] at h9
          cases h9
      · cases h
    · cases h
  · cases h
end
end Go.AL
