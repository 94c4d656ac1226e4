/- A builder's own address, stored in it; what lies at an address. -/
import Derived.Test.YtodjcocapdjomaaDoorAlS
import Derived.Lib.Builder
namespace Go.AL
open Go Go.RowKit
set_option linter.unusedVariables false
set_option linter.unusedSimpArgs false
section
variable {E : World → Prop} {P : Program} {w0 : World} {κ0 : Nat → Loc} {n0 : Nat} {κ : Nat → Loc} {H : AHeap} {w : World}
theorem St.setOne (hs : St E P w0 κ0 n0 κ H w) {i o : Nat} {c : List AV} {e : TypeId} (hi : H[i]? = some (.cells c e true)) (ho : o < c.length) {v : AV} {u : Value} (hv : VR κ H.length v u) (h1 : u.oneCell' = true) :
    St E P w0 κ0 n0 κ (H.set i (.cells (c.set o v) e true)) (w.setCell ⟨(κ i).blk, (κ i).off + o, none⟩ u) := by
  obtain ⟨C, e', fr, g1, g2, hz, h3, h4, h5⟩ := hs.objs i _ hi
  obtain ⟨rfl, hfr, hbase, hq⟩ := g2 rfl
  have hfit : (κ i).off + o + [u].length ≤ C.size := by simp; omega
  obtain ⟨C', h6, h7, h8⟩ := block_setCells (κ i).blk e' fr [u] ((κ i).off + o) w C g1 hfit
  have hsc : w.setCells (κ i).blk ((κ i).off + o) [u] = w.setCell ⟨(κ i).blk, (κ i).off + o, none⟩ u := rfl
  rw [← hsc]
  refine hs.set i _ _ hi rfl (Below.setCells hbase _ _ _ (Below.refl _ _)) (fun k _ hk => heap_setCells _ _ _ _ _ hk) ?_
  refine ⟨C', e', fr, h6, fun _ => ⟨rfl, by rw [h7]; exact hfr, hbase, hq⟩, hz, by rw [List.length_set]; exact h3, by rw [h7]; exact h4, ?_⟩
  intro j x hx
  rw [List.getElem?_set] at hx
  rw [h8]
  by_cases hj : o = j
  · subst hj
    rw [if_pos rfl, if_pos ho] at hx
    cases hx
    rw [if_neg (by omega), if_pos (by simp), show (κ i).off + o - ((κ i).off + o) = 0 by omega]
    exact ⟨u, rfl, hv, h1⟩
  · rw [if_neg hj] at hx
    have := h5 j x hx
    by_cases hlt : (κ i).off + j < (κ i).off + o
    · rw [if_pos hlt]; exact this
    · rw [if_neg hlt, if_neg (by simp; omega)]; exact this
theorem rowAt_up {fits : TypeId → Bool} {d : Nat} {e : TypeId} {o count q : Nat} (h : rowAt P fits d e 1 o 1 = true) (ho : o < P.cellsOf e) (hq : q < count) : rowAt P fits d e count (q * P.cellsOf e + o) 1 = true := by
  cases d with
  | zero => simp [rowAt] at h
  | succ d =>
    have hs : P.cellsOf e ≠ 0 := by omega
    have e1 : (q * P.cellsOf e + o) / P.cellsOf e = q := by rw [Nat.mul_comm, Nat.mul_add_div (by omega), Nat.div_eq_of_lt ho]; rfl
    have e2 : (q * P.cellsOf e + o) % P.cellsOf e = o := by rw [Nat.mul_comm, Nat.mul_add_mod, Nat.mod_eq_of_lt ho]
    have e3 : o / P.cellsOf e = 0 := Nat.div_eq_of_lt ho
    have e4 : o % P.cellsOf e = o := Nat.mod_eq_of_lt ho
    unfold rowAt at h ⊢
    simp only [hs, if_false, e1, e2, e3, e4] at h ⊢
    simp only [Bool.or_eq_true, Bool.and_eq_true, decide_eq_true_eq] at h ⊢
    rcases h with ⟨⟨h1, h2⟩, h3⟩ | ⟨h1, h2⟩
    · exact .inl ⟨⟨h1, by omega⟩, h3⟩
    · exact .inr ⟨hq, h2⟩
theorem lies_up {e u : TypeId} {o count q : Nat} (h : rowAt P (sameLayout P P.depth · u) P.depth e 1 o 1 = true) (ho : o < P.cellsOf e) (hq : q < count) : liesAt P P.depth e count (q * P.cellsOf e + o) u 1 = true := by
  have hd : P.depth = (2 * (P.types.size + Made.depth) + 1) + 1 := rfl
  rw [hd]
  simp only [liesAt, Bool.or_eq_true]
  exact .inl (rowAt_up h ho hq)
/-- what a cell of an object says of the world -/
theorem St.cellAt (hs : St E P w0 κ0 n0 κ H w) {i o : Nat} {c : List AV} {e : TypeId} (hi : H[i]? = some (.cells c e true)) (ho : o < c.length) (hoe : o < P.cellsOf e) :
    ∃ cells q, w.shape? (κ i).blk = some (e, cells) ∧ (κ i).off + o < cells ∧ (κ i).off + o = q * P.cellsOf e + o ∧ q < cells / P.cellsOf e ∧ w.frozen? ⟨(κ i).blk, (κ i).off + o, none⟩ = false := by
  obtain ⟨C, e', fr, g1, g2, hz, h3, h4, h5⟩ := hs.objs i _ hi
  obtain ⟨rfl, hfr, hbase, q, hq⟩ := g2 rfl
  have hlt : (κ i).off + o < C.size := by omega
  refine ⟨C.size, q, by simp [World.shape?, g1], hlt, by rw [hq, hz], ?_, ?_⟩
  · rw [hz] at hq h3 h4
    rw [hq] at h4
    have h1 : 1 ≤ (κ i).cap := by
      rcases Nat.eq_zero_or_pos (κ i).cap with h0 | h0
      · rw [h0, Nat.zero_mul] at h3; omega
      · exact h0
    have := Nat.mul_le_mul_right (P.cellsOf e') h1
    refine (Nat.le_div_iff_mul_le (by omega)).2 ?_
    rw [Nat.succ_mul]
    omega
  · simp only [World.frozen?, g1]
    exact hfr _ hlt
end
end Go.AL
namespace Go.AL
open Go Go.RowKit
section
variable {P : Program} {H : AHeap}
def bytesAV (l : List UInt8) : List AV := l.map fun b => .int .u8 b.toNat
theorem bytesAV_len (l : List UInt8) : (bytesAV l).length = l.length := by simp [bytesAV]
theorem bytesAV_one (l : List UInt8) : (bytesAV l).all AV.one = true := by rw [bytesAV, List.all_map]; exact List.all_eq_true.2 fun _ _ => rfl
theorem bytesAV_app (l m : List UInt8) : bytesAV l ++ bytesAV m = bytesAV (l ++ m) := by simp [bytesAV]
theorem byteCells_bytesAV : ∀ (l : List UInt8), byteCells? (bytesAV l) = some l
  | [] => rfl
  | b :: l => by
    have := byteCells_bytesAV l
    simp only [bytesAV, List.map_cons, byteCells?, byteCell] at this ⊢
    rw [this]
    simp
theorem asrc_str {tx : TypeId} (htx : strT P tx = true) (s : List UInt8) : asrc P H tx 1 (.str s) = some (s.length, bytesAV s) := by
  simp [asrc, htx, bytesAV]
variable {t tx e : TypeId} (hsl : slOk P t = true) (he : elD P t = e) (hsz : szT P e = 1) (htx : strT P tx = true)
include hsl he hsz htx
theorem app_str_nil0 : aappend P H t tx (.slice none 0) (.str []) = some (.slice none 0, H) := by
  rw [aappend_eq, if_pos hsl, he, hsz, asrc_str htx]; rfl
theorem app_str_nil {s : List UInt8} (hs : s ≠ []) (hb : s.length * bytesT P e ≤ 140737488355328) (hm : s.length ≤ 9223372036854775807) : aappend P H t tx (.slice none 0) (.str s) = some (.slice (some (H.length, 0)) s.length, H ++ [.cells (bytesAV s) e true]) := by
  rw [aappend_eq, if_pos hsl, he, hsz, asrc_str htx]
  simp only
  rw [if_neg (by simpa using hs), if_pos ⟨hb, hm⟩]
theorem app_str_some0 {j n : Nat} {c : List AV} {e' : TypeId} (hj : H[j]? = some (.cells c e' true)) : aappend P H t tx (.slice (some (j, 0)) n) (.str []) = some (.slice (some (j, 0)) n, H) := by
  rw [aappend_eq, if_pos hsl, he, hsz, asrc_str htx]
  simp only [hj]; rfl
theorem app_str_some {j : Nat} {bs s : List UInt8} (hj : H[j]? = some (.cells (bytesAV bs) e true)) (hs : s ≠ []) (hb : (bs.length + s.length) * bytesT P e ≤ 140737488355328) (hm : bs.length + s.length ≤ 9223372036854775807) :
    aappend P H t tx (.slice (some (j, 0)) bs.length) (.str s) = some (.slice (some (H.length, 0)) (bs.length + s.length), H.set j .dead ++ [.cells (bytesAV (bs ++ s)) e true]) := by
  have htake : ((bytesAV bs).drop 0).take (bs.length * 1) = bytesAV bs := by rw [List.drop_zero, Nat.mul_one, ← bytesAV_len, List.take_length]
  rw [aappend_eq, if_pos hsl, he, hsz, asrc_str htx]
  simp only [hj]
  rw [if_neg (by simpa using hs), htake, if_pos ⟨trivial, by rw [bytesAV_len]; omega, bytesAV_one _, hb, hm⟩, bytesAV_app]
end
end Go.AL
namespace Go.AL
/-- Two ways that meet: one proof behind them. -/
theorem joinT {b : Bool} {G : (Nat → AV) → Prop} {T1 T2 : Nat → AV} (h : ∀ T, ((b = false ∧ T = T1) ∨ (b = true ∧ T = T2)) → G T) : (b = false → G T1) ∧ (b = true → G T2) :=
  ⟨fun e => h _ (.inl ⟨e, rfl⟩), fun e => h _ (.inr ⟨e, rfl⟩)⟩
theorem joinT' {b : Bool} {G : (Nat → AV) → Prop} {T1 T2 : Nat → AV} (h : ∀ T, ((b = true ∧ T = T1) ∨ (b = false ∧ T = T2)) → G T) : (b = true → G T1) ∧ (b = false → G T2) :=
  ⟨fun e => h _ (.inl ⟨e, rfl⟩), fun e => h _ (.inr ⟨e, rfl⟩)⟩
theorem joinP {p : Prop} {G : (Nat → AV) → Prop} {T1 T2 : Nat → AV} (h : ∀ T, ((p ∧ T = T1) ∨ (¬ p ∧ T = T2)) → G T) : (p → G T1) ∧ (¬ p → G T2) :=
  ⟨fun e => h _ (.inl ⟨e, rfl⟩), fun e => h _ (.inr ⟨e, rfl⟩)⟩
end Go.AL
namespace Go.AL
open Go
section
variable {E : World → Prop} {P : Program} {N : Nat} {Q : Post} {T : Nat → AV} {H : AHeap} {c : Code}
/-- ACode.loopW, the state at the entry by name. -/
theorem ACode.loopV (W : List (Nat × Nat)) (I : Nat → (Nat → AV) → AHeap → Prop) (n : Nat) (h0 : I n T H)
    (round : ∀ T0, T0 = T → ∀ n T' H', Keep W T0 T' → I n T' H' → ACode E P N c (onNormal (fun T2 H2 => Keep W T0 T2 ∧ ∃ m, m < n ∧ I m T2 H2) Q) T' H') : ACode E P N (.loop c) Q T H :=
  ACode.loopW W I n h0 (round T rfl)
theorem ACode.loopVX {id : Nat} {K : (Nat → AV) → AHeap → Prop} (W : List (Nat × Nat)) (I : Nat → (Nat → AV) → AHeap → Prop) (M : (Nat → AV) → AHeap → Prop) (n : Nat) (h0 : I n T H)
    (round : ∀ T0, T0 = T → ∀ n T' H', Keep W T0 T' → I n T' H' → ACode E P N c (onNormal (fun T2 H2 => Keep W T0 T2 ∧ ∃ m, m < n ∧ I m T2 H2) (onExit id (onNormal (fun T2 H2 => Keep W T0 T2 ∧ M T2 H2) Q))) T' H')
    (hM : ∀ T0, T0 = T → ∀ T2 H2, Keep W T0 T2 → M T2 H2 → K T2 H2) : ACode E P N (.loop c) (onExit id (onNormal K Q)) T H :=
  ACode.loopWX W I M n h0 (round T rfl) (hM T rfl)
end
end Go.AL
