/- Operations: loads, stores, new variables, fields, indexes. -/
import Derived.Test.YtodjcocapdjomaaDoorAlB
namespace Go.AL
open Go Go.RowKit
set_option linter.unusedVariables false
set_option linter.unusedSimpArgs false

/-! ### types -/
def szT (P : Program) (t : TypeId) : Nat := P.cellsOf t
def bytesT (P : Program) (t : TypeId) : Nat := P.bytesOf t
def hasT (P : Program) (t : TypeId) : Bool := (P.info? t).isSome
def aggT (P : Program) (t : TypeId) : Bool := match P.underlying t with | some (.struct _) | some (.array _ _) => true | _ => false
def zeroT (P : Program) (t : TypeId) : Option Value := (P.info? t).bind (·.zero)
def fieldT (P : Program) (t : TypeId) (f : Nat) : Option (Nat × TypeId) := match P.underlying t with | some (.struct fs) => (fs[f]?).map fun x => (x.offset, x.type) | _ => none
def elemT (P : Program) (t : TypeId) : Option TypeId := match P.underlying t with | some (.slice e) => some e | _ => none
def arrT (P : Program) (t : TypeId) : Option (Nat × TypeId) := match P.underlying t with | some (.array n e) => some (n, e) | _ => none
def strT (P : Program) (t : TypeId) : Bool := match P.underlying t with | some .string => true | _ => false

theorem has_of_under {P : Program} {t : TypeId} {d : TypeDesc} (h : P.underlying t = some d) : ∃ i, P.info? t = some i := by
  unfold Program.underlying at h
  cases hi : P.info? t with
  | none => simp [hi] at h
  | some i => exact ⟨i, rfl⟩
theorem run_sizeT {P : Program} {t : TypeId} (h : hasT P t = true) (w : World) : (sizeOf t).run P w = .ok (szT P t) w := by
  unfold hasT at h
  cases hi : P.info? t with
  | none => simp [hi] at h
  | some i => simp [sizeOf, typeInfo, hi, szT, Program.cellsOf]
theorem run_aggT {P : Program} {t : TypeId} {d : TypeDesc} (h : P.underlying t = some d) (w : World) : (isAgg t).run P w = .ok (aggT P t) w := by
  unfold isAgg aggT
  rw [Sem.run_bind, run_underlying h w, h]
  cases d <;> rfl
theorem run_zeroT {P : Program} {t : TypeId} {z : Value} (h : zeroT P t = some z) (w : World) : (zeroValue t).run P w = .ok z w := by
  unfold zeroT at h
  cases hi : P.info? t with
  | none => simp [hi] at h
  | some i =>
    simp [hi] at h
    simp [zeroValue, typeInfo, hi, h]
theorem hasT_of_zero {P : Program} {t : TypeId} {z : Value} (h : zeroT P t = some z) : hasT P t = true := by
  unfold zeroT at h; unfold hasT
  cases hi : P.info? t with
  | none => simp [hi] at h
  | some i => rfl

/-! ### what an operation's run must show -/
def OpOk (E : World → Prop) (P : Program) (w0 : World) (κ0 : Nat → Loc) (n0 : Nat) (κ : Nat → Loc) (H : AHeap) (w : World) (s : Sem Value) (v : AV) (H' : AHeap) : Prop :=
  ∃ u w' κ', s.run P w = .ok u w' ∧ VR κ' H'.length v u ∧ St E P w0 κ0 n0 κ' H' w' ∧ (∀ i, i < H.length → κ' i = κ i) ∧ H.length ≤ H'.length ∧ (H' = H → w' = w)

section
variable {E : World → Prop} {P : Program} {w0 : World} {κ0 : Nat → Loc} {n0 : Nat} {κ : Nat → Loc} {H : AHeap} {w : World}
theorem OpOk.same {s : Sem Value} {v : AV} {u : Value} (h : St E P w0 κ0 n0 κ H w) (hr : s.run P w = .ok u w) (hv : VR κ H.length v u) : OpOk E P w0 κ0 n0 κ H w s v H :=
  ⟨u, w, κ, hr, hv, h, fun _ _ => rfl, Nat.le_refl _, fun _ => rfl⟩

/-- the cells of an object, as the world has them -/
theorem St.cell (h : St E P w0 κ0 n0 κ H w) {i : Nat} {c : List AV} {e : TypeId} {rw : Bool} (hi : H[i]? = some (.cells c e rw)) {j : Nat} {v : AV} (hj : c[j]? = some v) :
    ∃ u, w.cell? ⟨(κ i).blk, (κ i).off + j, none⟩ = some u ∧ VR κ H.length v u ∧ u.oneCell' = true := by
  obtain ⟨C, e', fr, h1, h2, hz, h3, h4, h5⟩ := h.objs i _ hi
  obtain ⟨u, hu, hr, ho⟩ := h5 j v hj
  exact ⟨u, by rw [cell_of_row w _ _ C e' fr h1]; exact hu, hr, ho⟩
theorem St.cells (h : St E P w0 κ0 n0 κ H w) {i : Nat} {c : List AV} {e : TypeId} {rw : Bool} (hi : H[i]? = some (.cells c e rw)) (o n : Nat) (hn : o + n ≤ c.length) :
    ∃ us : List Value, us.length = n ∧ VRs κ H.length ((c.drop o).take n) us ∧ (∀ u ∈ us, u.oneCell' = true) ∧ w.rangeAt (κ i).blk ((κ i).off + o) us := by
  induction n with
  | zero => exact ⟨[], rfl, by simpa using VRs.nil _ _, fun u hu => by simp at hu, fun j v hv => by simp at hv⟩
  | succ n ih =>
    obtain ⟨us, h1, h2, h3, h4⟩ := ih (by omega)
    have hlt : o + n < c.length := by omega
    obtain ⟨u, hu, hr, ho⟩ := h.cell hi (List.getElem?_eq_getElem hlt)
    refine ⟨us ++ [u], by simp [h1], ?_, ?_, ?_⟩
    · have : (c.drop o).take (n + 1) = (c.drop o).take n ++ [c[o + n]] := by
        rw [List.take_add_one]
        congr 1
        rw [List.getElem?_drop, List.getElem?_eq_getElem hlt]
        rfl
      rw [this]
      exact h2.append (VRs.cons hr (VRs.nil _ _))
    · intro x hx
      rcases List.mem_append.1 hx with hx | hx
      · exact h3 x hx
      · rw [List.mem_singleton.1 hx]; exact ho
    · intro j v hv
      rw [List.getElem?_append] at hv
      split at hv
      · exact h4 j v hv
      · rename_i hge
        have hjn : j = n := by
          have := (List.getElem?_eq_some_iff.1 hv).1
          simp at this; omega
        subst hjn
        have hv' : u = v := by simpa [h1] using hv
        subst hv'
        rw [show (κ i).off + o + j = (κ i).off + (o + j) by omega]
        exact hu

/-! ### parts of a struct or an array -/
def part (P : Program) (t : TypeId) (cs : List AV) (off : Nat) : Option AV :=
  match P.underlying t with
  | some d => if aggT P t then (if off + szT P t ≤ cs.length then some (.agg ((cs.drop off).take (szT P t))) else none) else cs[off]?
  | none => none
theorem part_ok {t : TypeId} {cs : List AV} {off : Nat} {v : AV} {us : List Value} {n : Nat} (h : part P t cs off = some v) (hv : VRs κ n cs us) :
    ∃ u, (Go.part t us.toArray off).run P w = .ok u w ∧ VR κ n v u := by
  unfold part at h
  split at h
  · rename_i d hd
    obtain ⟨i, hi⟩ := has_of_under hd
    have hsz := run_sizeT (P := P) (t := t) (by simp [hasT, hi]) w
    unfold Go.part
    rw [Sem.run_bind, run_aggT hd w]
    split at h
    · rename_i hagg
      split at h
      · rename_i hle
        simp only [Option.some.injEq] at h
        subst h
        refine ⟨.agg ((us.drop off).take (szT P t)).toArray, ?_, ?_⟩
        · simp only [Result.andThen_ok, hagg, if_true, Sem.run_bind, hsz, Sem.run_pure]
          congr 2
          apply Array.ext'
          simp [List.extract_eq_take_drop]
        · have h2 := (hv.drop off).take (szT P t)
          exact .agg _ _ h2.1 h2.2
      · cases h
    · rename_i hagg
      obtain ⟨u, hu, hr⟩ := hv.get h
      refine ⟨u, ?_, hr⟩
      simp [hagg, hu]
  · cases h

/-! ### loads -/
def aload (P : Program) (H : AHeap) (t : TypeId) (p : AV) : Option AV :=
  match p with
  | .ptr (some (i, o)) => match H[i]? with
    | some (.cells c _ _) => part P t c o
    | _ => none
  | _ => none
theorem load_ok {t : TypeId} {p v : AV} {pu : Value} (h : aload P H t p = some v) (hs : St E P w0 κ0 n0 κ H w) (hp : VR κ H.length p pu) : OpOk E P w0 κ0 n0 κ H w (Instr.loadAt t pu) v H := by
  unfold aload at h
  split at h
  · rename_i i o
    cases hp
    split at h
    · rename_i c e rw hi
      unfold part at h
      split at h
      · rename_i d hd
        obtain ⟨inf, hinf⟩ := has_of_under hd
        have hsz := run_sizeT (P := P) (t := t) (by simp [hasT, hinf]) w
        split at h
        · rename_i hagg
          split at h
          · rename_i hle
            simp only [Option.some.injEq] at h
            subst h
            obtain ⟨us, h1, h2, h3, h4⟩ := hs.cells hi o (szT P t) hle
            refine OpOk.same (u := .agg us.toArray) hs ?_ (.agg _ _ h2.1 h2.2)
            have hl : (loadCells ⟨(κ i).blk, (κ i).off + o, none⟩ (szT P t)).run P w = .ok us.toArray w := by
              rw [← h1]
              exact run_loadCells_list (P := P) w _ us (fun j v hv => by rw [Addr.add_mid]; exact h4 j v hv)
            simp [Instr.loadAt, Instr.sureAddr, loadVar, run_aggT hd, hagg, hsz, hl]
          · cases h
        · rename_i hagg
          obtain ⟨u, hu, hr, ho⟩ := hs.cell hi h
          refine OpOk.same hs ?_ hr
          simp [Instr.loadAt, Instr.sureAddr, loadVar, run_aggT hd, hagg, hu]
      · cases h
    · cases h
  · cases h

/-! ### stores -/
def splice (c : List AV) (o : Nat) (vs : List AV) : List AV := c.take o ++ vs ++ c.drop (o + vs.length)
theorem splice_length {c : List AV} {o : Nat} {vs : List AV} (h : o + vs.length ≤ c.length) : (splice c o vs).length = c.length := by
  simp [splice]; omega
theorem splice_get {c : List AV} {o : Nat} {vs : List AV} (h : o + vs.length ≤ c.length) (j : Nat) : (splice c o vs)[j]? = if j < o then c[j]? else if j < o + vs.length then vs[j - o]? else c[j]? := by
  unfold splice
  rw [List.getElem?_append, List.getElem?_append]
  simp only [List.length_append, List.length_take]
  have hmin : min o c.length = o := by omega
  rw [hmin]
  split
  · split
    · rw [List.getElem?_take, if_pos (by assumption)]
    · rfl
  · rename_i h1
    have h2 : ¬ j < o := by omega
    rw [if_neg h2, List.getElem?_drop]
    congr 1
    omega

def astore (P : Program) (H : AHeap) (t : TypeId) (p v : AV) : Option AHeap :=
  match p with
  | .ptr (some (i, o)) => match H[i]? with
    | some (.cells c e true) => if hasT P t && v.cells.length == szT P t && decide (o + v.cells.length ≤ c.length) && v.cells.all AV.one then some (H.set i (.cells (splice c o v.cells) e true)) else none
    | _ => none
  | _ => none

theorem Below.setCells {B : Nat} {a : World} {b : Nat} (hb : B ≤ b) : ∀ (vs : List Value) (o : Nat) (w : World), Below B a w → Below B a (w.setCells b o vs)
  | [], _, _, h => h
  | v :: r, o, w, h => by
    rw [World.setCells]
    exact Below.setCells hb r (o + 1) _ (h.setCell hb v)
theorem heap_setCells (b : Nat) : ∀ (vs : List Value) (o : Nat) (w : World) (k : Nat), k ≠ b → (w.setCells b o vs).heap[k]? = w.heap[k]?
  | [], _, _, _, _ => rfl
  | v :: r, o, w, k, h => by
    rw [World.setCells, heap_setCells b r (o + 1) _ k h, Below.heap_setCell _ _ _ _ h]
theorem block_setCells (b : Nat) (e : TypeId) (fr : Nat × Nat) : ∀ (vs : List Value) (o : Nat) (w : World) (C : Array Value), w.heap[b]? = some (.cells C e fr) → o + vs.length ≤ C.size →
    ∃ C', (w.setCells b o vs).heap[b]? = some (.cells C' e fr) ∧ C'.size = C.size ∧ ∀ j, C'[j]? = if j < o then C[j]? else if j < o + vs.length then vs[j - o]? else C[j]?
  | [], o, w, C, h, hl => ⟨C, h, rfl, fun j => by
      split
      · rfl
      · rw [if_neg (by simp at *; omega)]⟩
  | v :: r, o, w, C, h, hl => by
    rw [World.setCells]
    have h1 : (w.setCell ⟨b, o, none⟩ v).heap[b]? = some (.cells (C.setIfInBounds o v) e fr) := by
      simp [World.setCell, Array.getElem?_modify, h]
    obtain ⟨C', h2, h3, h4⟩ := block_setCells b e fr r (o + 1) _ _ h1 (by simp at hl ⊢; omega)
    refine ⟨C', h2, by simpa using h3, fun j => ?_⟩
    rw [h4 j]
    simp only [List.length_cons]
    by_cases h5 : j < o
    · rw [if_pos (by omega), if_pos h5, Array.getElem?_setIfInBounds, if_neg (by omega)]
    · rw [if_neg h5]
      by_cases h6 : j = o
      · subst h6
        rw [if_pos (by omega), if_pos (by omega), Array.getElem?_setIfInBounds, if_pos rfl, if_pos (by simp at hl; omega)]
        simp
      · rw [if_neg (by omega)]
        by_cases h7 : j < o + (r.length + 1)
        · rw [if_pos (by omega), if_pos h7, show j - o = (j - (o + 1)) + 1 by omega, List.getElem?_cons_succ]
        · rw [if_neg (by omega), if_neg h7, Array.getElem?_setIfInBounds, if_neg (by omega)]

theorem store_ok {t : TypeId} {p v : AV} {pu u : Value} {H' : AHeap} (h : astore P H t p v = some H') (hs : St E P w0 κ0 n0 κ H w) (hp : VR κ H.length p pu) (hv : VR κ H.length v u) :
    ∃ w', (Instr.storeAt t pu u).run P w = .ok () w' ∧ St E P w0 κ0 n0 κ H' w' ∧ H'.length = H.length := by
  unfold astore at h
  split at h
  · rename_i i o
    cases hp
    rename_i hin
    split at h
    · rename_i c e hi
      split at h
      · rename_i hc
        simp only [Bool.and_eq_true, beq_iff_eq, decide_eq_true_eq] at hc
        obtain ⟨⟨⟨hc1, hc2⟩, hc3⟩, hc4⟩ := hc
        simp only [Option.some.injEq] at h
        subst h
        obtain ⟨C, e', fr, h1, h2, hz, h3, h4, h5⟩ := hs.objs i _ hi
        obtain ⟨rfl, hfr, hbase, q0, hq0⟩ := h2 rfl
        have hund : v ≠ .undef := by
          rintro rfl
          simp [AV.cells, AV.one] at hc4
        have hcells := hv.cells hund
        have hlen : u.cells.toList.length = v.cells.length := hcells.1.symm
        have hone : ∀ x ∈ u.cells.toList, x.oneCell' = true := by
          intro x hx
          obtain ⟨j, hj, rfl⟩ := List.getElem_of_mem hx
          have hj' : j < v.cells.length := by omega
          refine (hcells.2 j _ _ (List.getElem?_eq_getElem hj') (List.getElem?_eq_getElem hj)).oneCell ?_
          exact (List.all_eq_true.1 hc4) _ (List.getElem_mem hj')
        have hbl : (κ i).blk < w.heap.size := (Array.getElem?_eq_some_iff.1 h1).1
        have hfit : (κ i).off + o + u.cells.toList.length ≤ C.size := by rw [hlen]; omega
        have hthere : ∀ j, j < u.cells.toList.length → (w.cell? ⟨(κ i).blk, (κ i).off + o + 0 + j, none⟩).isSome = true := by
          intro j hj
          rw [cell_of_row w _ _ C e' fr h1]
          have : (κ i).off + o + 0 + j < C.size := by omega
          rw [Array.getElem?_eq_getElem this]; rfl
        have hfree : ∀ j, j < u.cells.toList.length → w.frozen? ⟨(κ i).blk, (κ i).off + o + 0 + j, none⟩ = false := by
          intro j hj
          simp only [World.frozen?, h1]
          exact hfr _ (by omega)
        have hrun := run_storeCells_cells (P := P) (κ i).blk ((κ i).off + o) u.cells.toList 0 w hthere hfree hone
        refine ⟨w.setCells (κ i).blk ((κ i).off + o) u.cells.toList, ?_, ?_, by simp⟩
        · have hsz := run_sizeT (P := P) (t := t) hc1 w
          have hne : ¬ u.cells.size ≠ szT P t := by
            have : u.cells.size = u.cells.toList.length := by simp
            omega
          simp only [Nat.add_zero] at hrun
          simp [Instr.storeAt, Instr.sureAddr, storeVar, hsz]
          rw [if_pos (by simpa using hne)]
          exact hrun
        · obtain ⟨C', h6, h7, h8⟩ := block_setCells (κ i).blk e' fr u.cells.toList ((κ i).off + o) w C h1 hfit
          refine hs.set i _ _ hi rfl (Below.setCells hbase _ _ _ (Below.refl _ _)) (fun k _ hk => heap_setCells _ _ _ _ _ hk) ?_
          refine ⟨C', e', fr, h6, fun _ => ⟨rfl, by rw [h7]; exact hfr, hbase, q0, hq0⟩, hz, by rw [splice_length hc3]; exact h3, by rw [h7]; exact h4, ?_⟩
          intro j x hx
          rw [splice_get hc3] at hx
          rw [h8]
          split at hx
          · rw [if_pos (by omega)]; exact h5 j x hx
          · rename_i hj1
            rw [if_neg (by omega)]
            split at hx
            · rename_i hj2
              rw [if_pos (by omega), show (κ i).off + j - ((κ i).off + o) = j - o by omega]
              obtain ⟨y, hy, hr⟩ := hcells.get hx
              exact ⟨y, hy, hr, hone y (List.mem_of_getElem? hy)⟩
            · rename_i hj2
              rw [if_neg (by omega)]; exact h5 j x hx
      · cases h
    · cases h
  · cases h

/-! ### new variables -/
/-- A new block of cells: a new object. -/
theorem St.new (h : St E P w0 κ0 n0 κ H w) (c : List AV) (e : TypeId) (us : List Value) (hv : VRs κ H.length c us) (h1 : c.all AV.one = true) (sz cap : Nat) (hsz : sz = P.cellsOf e) (hc : c.length = cap * sz) :
    St E P w0 κ0 n0 (kupd κ H.length ⟨w.heap.size, 0, sz, cap⟩) (H ++ [.cells c e true]) (w.alloc (.cells us.toArray e)) := by
  have hb : Below w.heap.size w (w.alloc (.cells us.toArray e)) := (Below.refl _ _).alloc (Nat.le_refl _) _
  refine h.push hb _ _ (fun _ => Nat.le_refl _) ?_
  refine ⟨us.toArray, e, (0, 0), ?_, fun _ => ⟨rfl, fun o _ => by simp, ?_, ⟨0, by rw [kupd_same]; simp⟩⟩, by rw [kupd_same]; exact hsz, ?_, ?_, ?_⟩
  · rw [kupd_same]; exact heap_alloc_new w _
  · rw [kupd_same]; exact h.below.size
  · rw [kupd_same]; exact Nat.le_of_eq hc
  · rw [kupd_same]
    have := hv.1
    simp; omega
  · rw [kupd_same]
    intro j x hx
    obtain ⟨y, hy, hr⟩ := hv.get hx
    refine ⟨y, by simpa using hy, hr.mono (kupd_lt κ H _) (by simp), hr.oneCell ?_⟩
    exact (List.all_eq_true.1 h1) _ (List.mem_of_getElem? hx)

def abox (P : Program) (H : AHeap) (t : TypeId) (v : AV) : Option (AV × AHeap) :=
  if v.cells.all AV.one && v.cells.length == szT P t then some (.ptr (some (H.length, 0)), H ++ [.cells v.cells t true]) else none
theorem newVar_ok {t : TypeId} {v r : AV} {u : Value} {H' : AHeap} (h : abox P H t v = some (r, H')) (hs : St E P w0 κ0 n0 κ H w) (hv : VR κ H.length v u) :
    OpOk E P w0 κ0 n0 κ H w (do pure (.pointer (some (← newVar t u)))) r H' := by
  unfold abox at h
  split at h
  · rename_i hc
    simp only [Bool.and_eq_true, beq_iff_eq] at hc
    simp only [Option.some.injEq, Prod.mk.injEq] at h
    obtain ⟨rfl, rfl⟩ := h
    have hund : v ≠ .undef := by
      rintro rfl
      simp [AV.cells, AV.one] at hc
    have hcells := hv.cells hund
    have hst := hs.new v.cells t u.cells.toList hcells hc.1 (szT P t) 1 rfl (by omega)
    refine ⟨.pointer (some ⟨w.heap.size, 0, none⟩), _, _, ?_, ?_, hst, kupd_lt κ H _, by simp, fun h => absurd h (by simp)⟩
    · simp [newVar, newRow, World.alloc_eq]
    · have := VR.ptr (κ := kupd κ H.length ⟨w.heap.size, 0, szT P t, 1⟩) (n := (H ++ [AObj.cells v.cells t true]).length) H.length 0 (by simp)
      simpa [kupd_same] using this
  · cases h
theorem box_ok {t : TypeId} {v r : AV} {u : Value} {H' : AHeap} (h : abox P H t v = some (r, H')) (hs : St E P w0 κ0 n0 κ H w) (hv : VR κ H.length v u) :
    OpOk E P w0 κ0 n0 κ H w (Instr.box t u) r H' := newVar_ok h hs hv
def aalloc (P : Program) (H : AHeap) (t : TypeId) : Option (AV × AHeap) := (zeroT P t).bind fun z => abox P H t (cv z)
theorem alloc_ok {t : TypeId} {r : AV} {H' : AHeap} (h : aalloc P H t = some (r, H')) (hs : St E P w0 κ0 n0 κ H w) : OpOk E P w0 κ0 n0 κ H w (Instr.alloc t true (.tuple #[])) r H' := by
  unfold aalloc at h
  cases hz : zeroT P t with
  | none => simp [hz] at h
  | some z =>
    simp only [hz, Option.bind_some] at h
    obtain ⟨u, w', κ', h1, h2⟩ := newVar_ok h hs (vr_cv κ H.length z)
    refine ⟨u, w', κ', ?_, h2⟩
    simpa [Instr.alloc, run_zeroT hz] using h1

/-! ### addresses -/
def afieldAddr (P : Program) (t : TypeId) (p : AV) (f : Nat) : Option AV :=
  match p, fieldT P t f with
  | .ptr (some (i, o)), some (off, ft) => if hasT P ft && szT P ft != 0 then some (.ptr (some (i, o + off))) else none
  | _, _ => none
theorem fieldAddr_ok {t : TypeId} {f : Nat} {p v : AV} {pu : Value} (h : afieldAddr P t p f = some v) (hs : St E P w0 κ0 n0 κ H w) (hp : VR κ H.length p pu) : OpOk E P w0 κ0 n0 κ H w (Instr.fieldAt t pu f) v H := by
  unfold afieldAddr at h
  split at h
  · rename_i i o off ft hf
    cases hp
    rename_i hin
    split at h
    · rename_i hc
      simp only [Bool.and_eq_true, bne_iff_ne, ne_eq] at hc
      simp only [Option.some.injEq] at h
      subst h
      unfold fieldT at hf
      split at hf
      · rename_i fs hu
        cases hx : fs[f]? with
        | none => simp [hx] at hf
        | some x =>
          simp only [hx, Option.map_some, Option.some.injEq, Prod.mk.injEq] at hf
          obtain ⟨rfl, rfl⟩ := hf
          have hsz := run_sizeT (P := P) hc.1 w
          refine OpOk.same (u := .pointer (some ⟨(κ i).blk, (κ i).off + (o + x.offset), none⟩)) hs ?_ (.ptr i _ hin)
          simp [Instr.fieldAt, run_underlying hu, hx, Instr.sureAddr, fieldPlace, hsz, hc.2, Addr.add_mid, Nat.add_assoc]
      · cases hf
    · cases h
  · cases h
def aindexAddr (P : Program) (t : TypeId) (x ix : AV) : Option AV :=
  match ix with
  | .int k n => match elemT P t, x with
    | some e, .slice (some (i, o)) len => if hasT P e && decide (0 ≤ n) && decide (n < (len : Int)) then some (.ptr (some (i, o + n.toNat * szT P e))) else none
    | none, .ptr (some (i, o)) => match arrT P t with
      | some (len, e) => if hasT P e && decide (0 ≤ n) && decide (n < (len : Int)) then some (.ptr (some (i, o + n.toNat * szT P e))) else none
      | none => none
    | _, _ => none
  | _ => none
theorem elemT_under {t e : TypeId} (h : elemT P t = some e) : P.underlying t = some (.slice e) := by
  unfold elemT at h
  split at h
  · rename_i e' hu; simp at h; subst h; exact hu
  · cases h
theorem arrT_under {t e : TypeId} {n : Nat} (h : arrT P t = some (n, e)) : P.underlying t = some (.array n e) := by
  unfold arrT at h
  split at h
  · rename_i n' e' hu; simp at h; obtain ⟨rfl, rfl⟩ := h; exact hu
  · cases h
theorem indexAddr_ok {t : TypeId} {x ix v : AV} {xu iu : Value} (h : aindexAddr P t x ix = some v) (hs : St E P w0 κ0 n0 κ H w) (hx : VR κ H.length x xu) (hi : VR κ H.length ix iu) :
    OpOk E P w0 κ0 n0 κ H w (Instr.indexAt t xu iu) v H := by
  unfold aindexAddr at h
  split at h
  · rename_i k n
    cases hi
    split at h
    · rename_i e i o len he
      split at h
      · rename_i hc
        simp only [Bool.and_eq_true, decide_eq_true_eq] at hc
        simp only [Option.some.injEq] at h
        subst h
        have hu := elemT_under he
        have hsz := run_sizeT (P := P) hc.1.1 w
        cases hx with
        | slice _ _ _ ad cap oe hin ho hcap hl ha =>
          have hlen : 0 < len := by omega
          have had := ha (by omega)
          subst had
          have : VR κ H.length (.ptr (some (i, o + n.toNat * szT P e))) (.pointer (some ⟨(κ i).blk, (κ i).off + (o + n.toNat * szT P e), none⟩)) := .ptr i _ hin
          refine OpOk.same hs ?_ this
          simp [Instr.indexAt, asIntOf, run_underlying hu, hc.1.2, hc.2, hsz, Addr.add_mid, Nat.add_assoc]
      · cases h
    · rename_i i o he
      split at h
      · rename_i len e ha
        split at h
        · rename_i hc
          simp only [Bool.and_eq_true, decide_eq_true_eq] at hc
          simp only [Option.some.injEq] at h
          subst h
          have hu := arrT_under ha
          have hsz := run_sizeT (P := P) hc.1.1 w
          cases hx
          rename_i hin
          have : VR κ H.length (.ptr (some (i, o + n.toNat * szT P e))) (.pointer (some ⟨(κ i).blk, (κ i).off + (o + n.toNat * szT P e), none⟩)) := .ptr i _ hin
          refine OpOk.same hs ?_ this
          simp [Instr.indexAt, asIntOf, run_underlying hu, Instr.sureAddr, hc.1.2, hc.2, hsz, Addr.add_mid, Nat.add_assoc]
        · cases h
      · cases h
    · cases h
  · cases h

/-! ### fields and elements of values -/
def afield (P : Program) (t : TypeId) (x : AV) (f : Nat) : Option AV :=
  match x, fieldT P t f with
  | .agg cs, some (off, ft) => part P ft cs off
  | _, _ => none
theorem field_ok {t : TypeId} {f : Nat} {x v : AV} {xu : Value} (h : afield P t x f = some v) (hs : St E P w0 κ0 n0 κ H w) (hx : VR κ H.length x xu) : OpOk E P w0 κ0 n0 κ H w (Instr.field t xu f) v H := by
  unfold afield at h
  split at h
  · rename_i cs off ft hf
    cases hx
    rename_i vs h1 h2
    unfold fieldT at hf
    split at hf
    · rename_i fs hu
      cases hx : fs[f]? with
      | none => simp [hx] at hf
      | some y =>
        simp only [hx, Option.map_some, Option.some.injEq, Prod.mk.injEq] at hf
        obtain ⟨rfl, rfl⟩ := hf
        obtain ⟨u, hr, hv⟩ := part_ok (P := P) (w := w) h ⟨h1, h2⟩
        refine OpOk.same hs ?_ hv
        simp [Instr.field, run_underlying hu, hx, asAgg, hr]
    · cases hf
  · cases h
def aindex (P : Program) (t : TypeId) (x ix : AV) : Option AV :=
  match ix with
  | .int k n => match x with
    | .str s => if strT P t && decide (0 ≤ n) then (s[n.toNat]?).map fun b => .int .u8 b.toNat else none
    | .agg cs => match arrT P t with
      | some (len, e) => if hasT P e && decide (0 ≤ n) && decide (n < (len : Int)) then part P e cs (n.toNat * szT P e) else none
      | none => none
    | _ => none
  | _ => none
theorem strT_under {t : TypeId} (h : strT P t = true) : P.underlying t = some .string := by
  unfold strT at h
  split at h
  · assumption
  · cases h
theorem byte_get (s : List UInt8) (i : Nat) : (⟨s.toArray⟩ : ByteArray)[i]? = s[i]? := by
  by_cases h : i < s.length
  · rw [List.getElem?_eq_getElem h]
    have h' : i < (⟨s.toArray⟩ : ByteArray).size := by simpa [ByteArray.size] using h
    rw [getElem?_pos (⟨s.toArray⟩ : ByteArray) i h']
    rfl
  · rw [List.getElem?_eq_none (by omega)]
    have h' : ¬ i < (⟨s.toArray⟩ : ByteArray).size := by simpa [ByteArray.size] using h
    rw [getElem?_neg (⟨s.toArray⟩ : ByteArray) i h']
theorem index_ok {t : TypeId} {x ix v : AV} {xu iu : Value} (h : aindex P t x ix = some v) (hs : St E P w0 κ0 n0 κ H w) (hx : VR κ H.length x xu) (hi : VR κ H.length ix iu) :
    OpOk E P w0 κ0 n0 κ H w (Instr.index t xu iu) v H := by
  unfold aindex at h
  split at h
  · rename_i k n
    cases hi
    split at h
    · rename_i s
      cases hx
      split at h
      · rename_i hc
        simp only [Bool.and_eq_true, decide_eq_true_eq] at hc
        have hu := strT_under hc.1
        cases hb : s[n.toNat]? with
        | none => simp [hb] at h
        | some b =>
          simp only [hb, Option.map_some, Option.some.injEq] at h
          subst h
          refine OpOk.same (u := .int .u8 b.toNat) hs ?_ (.int _ _)
          have hb' : (⟨s.toArray⟩ : ByteArray)[n.toNat]? = some b := by rw [byte_get]; exact hb
          simp [Instr.index, asIntOf, run_underlying hu, hc.2, hb']
      · cases h
    · rename_i cs
      cases hx
      rename_i vs h1 h2
      split at h
      · rename_i len e ha
        split at h
        · rename_i hc
          simp only [Bool.and_eq_true, decide_eq_true_eq] at hc
          have hu := arrT_under ha
          have hsz := run_sizeT (P := P) hc.1.1 w
          obtain ⟨u, hr, hv⟩ := part_ok (P := P) (w := w) h ⟨h1, h2⟩
          refine OpOk.same hs ?_ hv
          simp [Instr.index, asIntOf, run_underlying hu, hc.1.2, hc.2, hsz, hr]
        · cases h
      · cases h
    · cases h
  · cases h
end
end Go.AL
