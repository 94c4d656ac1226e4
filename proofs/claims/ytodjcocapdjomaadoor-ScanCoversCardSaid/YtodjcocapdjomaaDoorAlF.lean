/- append, make, len, conversions, ranges over strings. -/
import Derived.Test.YtodjcocapdjomaaDoorAlE
namespace Go.AL
open Go Go.RowKit
set_option linter.unusedVariables false
set_option linter.unusedSimpArgs false

section
variable {E : World → Prop} {P : Program} {w0 : World} {κ0 : Nat → Loc} {n0 : Nat} {κ : Nat → Loc} {H : AHeap} {w : World}

theorem St.push_at (h : St E P w0 κ0 n0 κ H w) {w' : World} (hbel : Below w0.heap.size w w') (l : Loc) (o : AObj)
    (hfar : ∀ j oj, H[j]? = some oj → oj.live = true → (κ j).blk ≠ l.blk ∧ w'.heap[(κ j).blk]? = w.heap[(κ j).blk]?)
    (ho : ObjRel P w0.heap.size w' (kupd κ H.length l) (H ++ [o]).length H.length o) : St E P w0 κ0 n0 (kupd κ H.length l) (H ++ [o]) w' := by
  have hlen : (H ++ [o]).length = H.length + 1 := by simp
  have hget : ∀ i o', (H ++ [o])[i]? = some o' → (i < H.length ∧ H[i]? = some o') ∨ (i = H.length ∧ o' = o) := by
    intro i o' hi
    rw [List.getElem?_append] at hi
    split at hi
    · exact .inl ⟨by assumption, hi⟩
    · rename_i hge
      have hi0 : i - H.length = 0 := by
        have := (List.getElem?_eq_some_iff.1 hi).1
        simp at this; omega
      rw [hi0] at hi
      exact .inr ⟨by omega, by simpa using hi.symm⟩
  refine ⟨h.env, h.below.trans hbel, ?_, ?_, ?_, ?_⟩
  · intro i o' hi
    rcases hget i o' hi with ⟨hlt, hi'⟩ | ⟨ei, eo⟩
    · exact (h.objs i o' hi').move (kupd_lt κ H l i hlt) (kupd_lt κ H l) (by omega) (fun hl => (hfar i o' hi' hl).2)
    · rw [ei, eo]; exact ho
  · intro i oi hi hex j oj hj hlive hne
    rcases hget i oi hi with ⟨hlt, hi'⟩ | ⟨ei, eo⟩ <;> rcases hget j oj hj with ⟨hltj, hj'⟩ | ⟨ej, eoj⟩
    · rw [kupd_lt κ H l i hlt, kupd_lt κ H l j hltj]; exact h.iso i oi hi' hex j oj hj' hlive hne
    · rw [kupd_lt κ H l i hlt, ej, kupd_same]
      exact fun e => (hfar i oi hi' (by cases oi <;> simp_all [AObj.excl, AObj.live])).1 e.symm
    · rw [kupd_lt κ H l j hltj, ei, kupd_same]
      exact (hfar j oj hj' hlive).1
    · exact absurd (ej.trans ei.symm) hne
  · intro i hi; rw [kupd_lt κ H l i (Nat.lt_of_lt_of_le hi h.n0le)]; exact h.ext i hi
  · have := h.n0le; omega
theorem St.kill (h : St E P w0 κ0 n0 κ H w) {i : Nat} {o : AObj} (hi : H[i]? = some o) (hex : o.excl = true) : St E P w0 κ0 n0 κ (H.set i .dead) w :=
  h.set i o .dead hi hex (Below.refl _ _) (fun _ _ _ => rfl) trivial
/-- What is known alone is known to others, too: nobody writes it any more. -/
theorem St.freeze (h : St E P w0 κ0 n0 κ H w) {i : Nat} {c : List AV} {e : TypeId} {rw : Bool} (hi : H[i]? = some (.cells c e rw)) : St E P w0 κ0 n0 κ (H.set i (.cells c e false)) w := by
  have hil := (List.getElem?_eq_some_iff.1 hi).1
  have hget : ∀ j oj, (H.set i (.cells c e false))[j]? = some oj → (j ≠ i ∧ H[j]? = some oj) ∨ (j = i ∧ oj = .cells c e false) := by
    intro j oj hj
    rw [List.getElem?_set] at hj
    split at hj
    · rename_i e'
      subst e'
      simp [hil] at hj
      exact .inr ⟨rfl, hj.symm⟩
    · rename_i e'
      exact .inl ⟨fun e'' => e' e''.symm, hj⟩
  refine ⟨h.env, h.below, ?_, ?_, h.ext, by simpa using h.n0le⟩
  · intro j oj hj
    rw [List.length_set]
    rcases hget j oj hj with ⟨hne, hj'⟩ | ⟨ej, eoj⟩
    · exact h.objs j oj hj'
    · subst ej; subst eoj
      obtain ⟨C, e', fr, h1, h2, hz, h3, h4, h5⟩ := h.objs _ _ hi
      exact ⟨C, e', fr, h1, (fun hf => by cases hf), hz, h3, h4, h5⟩
  · intro j oj hj hexj k ok hk hlk hne
    rcases hget j oj hj with ⟨hnej, hj'⟩ | ⟨ej, eoj⟩
    · rcases hget k ok hk with ⟨hnek, hk'⟩ | ⟨ek, eok⟩
      · exact h.iso j oj hj' hexj k ok hk' hlk hne
      · rw [ek]; exact h.iso j oj hj' hexj i _ hi rfl (ek ▸ hne)
    · subst eoj; simp [AObj.excl] at hexj

/-! ### append -/
def asrc (P : Program) (H : AHeap) (tx : TypeId) (sz : Nat) (x : AV) : Option (Nat × List AV) :=
  match x with
  | .slice none 0 => if (elemT P tx).isSome then some (0, []) else none
  | .slice (some (j, o)) m => match H[j]? with
    | some (.cells c _ _) => if (elemT P tx).isSome && decide (o + m * sz ≤ c.length) && ((c.drop o).take (m * sz)).all AV.one then some (m, (c.drop o).take (m * sz)) else none
    | _ => none
  | .str s => if strT P tx && sz == 1 then some (s.length, s.map fun b => .int .u8 b.toNat) else none
  | _ => none
/-- What is behind an address that has cells at all. -/
theorem VR.slice_pos {i o len : Nat} {u : Value} (h : VR κ H.length (.slice (some (i, o)) len) u) : ∃ ad cap oe, u = .slice (some ad) len cap ∧ i < H.length ∧ o = oe * (κ i).sz ∧ cap + oe = (κ i).cap ∧ len ≤ cap ∧
    (0 < cap → ad = ⟨(κ i).blk, (κ i).off + o, none⟩) := by
  cases h with
  | slice _ _ _ ad cap oe hin ho hcap hl ha => exact ⟨ad, cap, oe, rfl, hin, ho, hcap, hl, ha⟩

theorem asrc_ok {tx : TypeId} {sz m : Nat} {x : AV} {xu : Value} {news : List AV} (h : asrc P H tx sz x = some (m, news)) (hs : St E P w0 κ0 n0 κ H w) (hx : VR κ H.length x xu) (hsz : 0 < sz) :
    ∃ us, Src P sz tx xu m us w ∧ VRs κ H.length news us ∧ news.all AV.one = true ∧ news.length = m * sz := by
  unfold asrc at h
  split at h
  · split at h
    · rename_i he
      simp only [Option.some.injEq, Prod.mk.injEq] at h
      obtain ⟨rfl, rfl⟩ := h
      cases hx
      obtain ⟨e, he⟩ := Option.isSome_iff_exists.1 he
      exact ⟨[], Src.ofNil w (elemT_under he) 0, VRs.nil _ _, rfl, by simp⟩
    · cases h
  · rename_i j o m'
    split at h
    · rename_i c e rw hj
      split at h
      · rename_i hc
        simp only [Bool.and_eq_true, decide_eq_true_eq] at hc
        simp only [Option.some.injEq, Prod.mk.injEq] at h
        obtain ⟨rfl, rfl⟩ := h
        obtain ⟨e', he⟩ := Option.isSome_iff_exists.1 hc.1.1
        obtain ⟨ad, cap, oe, rfl, hin, ho, hcap, hl, ha⟩ := hx.slice_pos
        obtain ⟨us, h1, h2, h3, h4⟩ := hs.cells hj o (m' * sz) hc.1.2
        refine ⟨us, Src.ofSlice w (elemT_under he) ad m' cap us h1 ?_ h3, h2, hc.2, by simp; omega⟩
        intro k u hk
        have hk' := (List.getElem?_eq_some_iff.1 hk).1
        have hm : 0 < m' := by
          rcases Nat.eq_zero_or_pos m' with h0 | h0
          · subst h0; simp at h1; subst h1; simp at hk'
          · exact h0
        rw [ha (by omega), Addr.add_mid]
        exact h4 k u hk
      · cases h
    · cases h
  · rename_i s
    split at h
    · rename_i hc
      simp only [Bool.and_eq_true, beq_iff_eq] at hc
      simp only [Option.some.injEq, Prod.mk.injEq] at h
      obtain ⟨rfl, rfl⟩ := h
      cases hx
      have hsrc := Src.ofString w (strT_under hc.1) (⟨s.toArray⟩ : ByteArray)
      obtain ⟨h1, rfl⟩ := hc
      have e1 : (⟨s.toArray⟩ : ByteArray).size = s.length := by simp [ByteArray.size]
      rw [e1] at hsrc
      refine ⟨_, hsrc, ?_, ?_, by simp⟩
      · refine ⟨by simp [byteCells], fun i c v hc hv => ?_⟩
        simp only [byteCells] at hv
        rw [List.getElem?_map] at hc hv
        cases hb : s[i]? with
        | none => simp [hb] at hc
        | some b =>
          simp [hb] at hc hv
          subst hc; subst hv
          exact .int _ _
      · rw [List.all_map]
        exact List.all_eq_true.2 fun _ _ => rfl
    · cases h
  · cases h

def aappend (P : Program) (H : AHeap) (t tx : TypeId) (s x : AV) : Option (AV × AHeap) :=
  match elemT P t with
  | none => none
  | some e => match zeroT P e with
    | none => none
    | some z => if szT P e == 0 || !(z.cells.size == szT P e) then none else
      match asrc P H tx (szT P e) x with
      | none => none
      | some (m, news) => match s with
        | .slice none 0 => if m = 0 then some (s, H) else if m * bytesT P e ≤ 140737488355328 ∧ m ≤ 9223372036854775807 then some (.slice (some (H.length, 0)) m, H ++ [.cells news e true]) else none
        | .slice (some (i, o)) len => match H[i]? with
          | some (.cells c e' true) => if m = 0 then some (s, H) else
              if e' = e ∧ o + len * szT P e ≤ c.length ∧ ((c.drop o).take (len * szT P e)).all AV.one = true ∧ (len + m) * bytesT P e ≤ 140737488355328 ∧ len + m ≤ 9223372036854775807
              then some (.slice (some (H.length, 0)) (len + m), H.set i .dead ++ [.cells ((c.drop o).take (len * szT P e) ++ news) e true]) else none
          | _ => none
        | _ => none

/-- The arm that makes a new row. -/
theorem append_new {t tx ty e : TypeId} {z : Value} {i : TypeInfo} (hu : P.underlying t = some (.slice e)) (hi : P.info? e = some i) (hz : i.zero = some z) (hzs : z.cells.size = i.size) (hpos : 0 < i.size)
    {H1 : AHeap} (hs : St E P w0 κ0 n0 κ H1 w) (base : Option Addr) (len cap : Nat) (olds : List Value) (hold : (Builtin.firstCells i.size len (.slice base len cap)).run P w.drew = .ok olds.toArray w.drew) (holds : olds.length = len * i.size)
    {xu : Value} {m : Nat} {us : List Value} (hsrc : Src P i.size tx xu m us w) (cs : List AV) (hv : VRs κ H1.length cs (olds ++ us)) (h1 : cs.all AV.one = true)
    (hg : cap < len + m) (hb : (len + m) * i.bytes ≤ 140737488355328) (hm : len + m ≤ 9223372036854775807) :
    ∃ u w' κ', (Builtin.append_ #[t, tx] ty #[.slice base len cap, xu]).run P w = .ok u w' ∧ VR κ' (H1 ++ [AObj.cells cs e true]).length (.slice (some (H1.length, 0)) (len + m)) u ∧
      St E P w0 κ0 n0 κ' (H1 ++ [.cells cs e true]) w' ∧ (∀ j, j < H1.length → κ' j = κ j) := by
  have hrun := run_append_grow_src (P := P) w t tx ty e i z hu hi hz base len cap olds hold xu m us hsrc hg (by omega) (growslice_fits (by omega) hb)
  have hge := grownCap_ge w (len + m) cap e
  have hul := hsrc.newsLen
  have hsize : i.size = P.cellsOf e := by simp [Program.cellsOf, hi]
  refine ⟨_, _, kupd κ H1.length ⟨w.heap.size, 0, i.size, grownCap w (len + m) cap e⟩, hrun, ?_, ?_, kupd_lt κ H1 _⟩
  · refine .slice _ _ _ _ _ 0 (by simp) (by simp) (by rw [kupd_same]; simp) hge (fun _ => ?_)
    rw [kupd_same]
  · have hbel : Below w.heap.size w (w.drew.alloc (.cells ((olds ++ us).toArray ++ Builtin.zeroCells z.cells (grownCap w (len + m) cap e - (len + m))) e)) :=
      ((Below.refl _ w).drew).alloc (Nat.le_refl _) _
    refine hs.push hbel _ _ (fun _ => Nat.le_refl _) ?_
    refine ⟨_, e, (0, 0), by rw [kupd_same]; exact heap_alloc_new w.drew _, fun _ => ⟨rfl, fun o _ => by simp, by rw [kupd_same]; exact hs.below.size, ⟨0, by rw [kupd_same]; simp⟩⟩, by rw [kupd_same]; exact hsize, ?_, ?_, ?_⟩
    · rw [kupd_same, hv.1, List.length_append, holds, hul, ← Nat.add_mul]
      exact Nat.mul_le_mul_right _ hge
    · rw [kupd_same]
      simp only [Nat.zero_add, Array.size_append, List.size_toArray, List.length_append, holds, hul, size_zeroCells, hzs, ← Nat.add_mul]
      refine Nat.le_of_eq ?_
      congr 1
      omega
    · rw [kupd_same]
      intro j x hx
      obtain ⟨y, hy, hr⟩ := hv.get hx
      refine ⟨y, ?_, hr.mono (kupd_lt κ H1 _) (by simp), hr.oneCell ?_⟩
      · rw [Nat.zero_add, Array.getElem?_append_left (by have := (List.getElem?_eq_some_iff.1 hy).1; simpa using this)]
        simpa using hy
      · exact (List.all_eq_true.1 h1) _ (List.mem_of_getElem? hx)

theorem append_ok {t tx ty : TypeId} {s x v : AV} {su xu : Value} {H' : AHeap} (h : aappend P H t tx s x = some (v, H')) (hs : St E P w0 κ0 n0 κ H w) (hsv : VR κ H.length s su) (hx : VR κ H.length x xu) :
    OpOk E P w0 κ0 n0 κ H w (Builtin.append_ #[t, tx] ty #[su, xu]) v H' := by
  unfold aappend at h
  split at h
  · cases h
  · rename_i e he
    have hu := elemT_under he
    split at h
    · cases h
    · rename_i z hz
      split at h
      · cases h
      · rename_i hc
        simp only [Bool.or_eq_true, beq_iff_eq, Bool.not_eq_true', beq_eq_false_iff_ne, ne_eq, not_or, Decidable.not_not] at hc
        obtain ⟨hc1, hc2⟩ := hc
        have hpos : 0 < szT P e := by omega
        obtain ⟨inf, hinf⟩ : ∃ i, P.info? e = some i := by
          have := hasT_of_zero hz
          unfold hasT at this
          exact Option.isSome_iff_exists.1 this
        have hsize : inf.size = szT P e := by simp [szT, Program.cellsOf, hinf]
        have hbytes : inf.bytes = bytesT P e := by simp [bytesT, Program.bytesOf, hinf]
        have hzero : inf.zero = some z := by simpa [zeroT, hinf] using hz
        split at h
        · cases h
        · rename_i m news hsrc
          obtain ⟨us, g1, g2, g3, g4⟩ := asrc_ok hsrc hs hx hpos
          rw [← hsize] at g1
          split at h
          · -- nil
            cases hsv
            split at h
            · rename_i hm
              subst hm
              simp only [Option.some.injEq, Prod.mk.injEq] at h
              obtain ⟨rfl, rfl⟩ := h
              refine OpOk.same (u := .slice none 0 0) hs ?_ .sliceNil
              have hus : us = [] := List.eq_nil_of_length_eq_zero (by have := g1.newsLen; simpa using this)
              subst hus
              have hcl := g1.cells
              rcases g1.kind with ⟨e', hk⟩ | hk <;> simp [Builtin.append_, run_underlying hu, run_underlying hk, sizeOf, typeInfo, hinf, g1.len, hcl]
            · split at h
              · rename_i hm hb
                simp only [Option.some.injEq, Prod.mk.injEq] at h
                obtain ⟨rfl, rfl⟩ := h
                obtain ⟨u, w', κ', a1, a2, a3, a4⟩ := append_new (ty := ty) hu hinf hzero (by rw [hsize]; exact hc2) (by omega) hs none 0 0 [] (run_firstCells_none w.drew inf.size 0 0 0) (by simp) g1 news (by simpa using g2) g3 (by omega) (by rw [hbytes]; simpa using hb.1) (by omega)
                exact ⟨u, w', κ', a1, by simpa using a2, a3, a4, by simp, fun h => absurd (congrArg List.length h) (by simp)⟩
              · cases h
          · rename_i i o len
            split at h
            · rename_i c e' hi
              obtain ⟨ad, cap, oe, rfl, hin, ho, hcap, hl, ha⟩ := hsv.slice_pos
              split at h
              · rename_i hm
                subst hm
                simp only [Option.some.injEq, Prod.mk.injEq] at h
                obtain ⟨rfl, rfl⟩ := h
                refine OpOk.same hs ?_ hsv
                have hus : us = [] := List.eq_nil_of_length_eq_zero (by have := g1.newsLen; simpa using this)
                subst hus
                have hcl := g1.cells
                rcases g1.kind with ⟨e', hk⟩ | hk <;> simp [Builtin.append_, run_underlying hu, run_underlying hk, sizeOf, typeInfo, hinf, g1.len, hcl, hl, storeCells]
              · split at h
                · rename_i hm hb
                  obtain ⟨rfl, hb2, hb3, hb4, hb5⟩ := hb
                  simp only [Option.some.injEq, Prod.mk.injEq] at h
                  obtain ⟨rfl, rfl⟩ := h
                  have hkill := hs.kill hi rfl
                  have hHl : (H.set i AObj.dead).length = H.length := by simp
                  obtain ⟨C, e'', fr, q1, q2, qz, q3, q4, q5⟩ := hs.objs i _ hi
                  obtain ⟨rfl, hfr, hbase, q0, hq0⟩ := q2 rfl
                  have hks : (κ i).sz = szT P e'' := qz
                  obtain ⟨olds, o1, o2, o3, o4⟩ := hs.cells hi o (len * szT P e'') hb2
                  have hall : ((c.drop o).take (len * szT P e'') ++ news).all AV.one = true := by rw [List.all_append, hb3, g3]; rfl
                  have hvs : VRs κ (H.set i AObj.dead).length ((c.drop o).take (len * szT P e'') ++ news) (olds ++ us) := by rw [hHl]; exact o2.append g2
                  by_cases hroom : len + m ≤ cap
                  · have hadr := ha (by omega)
                    subst hadr
                    have hnl := g1.newsLen
                    have q4' : (κ i).off + (cap + oe) * szT P e'' ≤ C.size := by rw [hcap, ← hks]; exact q4
                    rw [Nat.add_mul] at q4'
                    have ho' : o = oe * szT P e'' := by rw [← hks]; exact ho
                    have hfit : (κ i).off + o + (len + m) * szT P e'' ≤ C.size := by
                      have := Nat.mul_le_mul_right (szT P e'') hroom
                      omega
                    have hfit2 : (κ i).off + o + len * szT P e'' + us.length ≤ C.size := by
                      rw [hnl, hsize]; rw [Nat.add_mul] at hfit; omega
                    have hrun := run_append_room_src (P := P) w t tx ty e'' inf hu hinf (κ i).blk ((κ i).off + o) len cap xu m us g1 hroom
                      (fun j hj => by
                        rw [cell_of_row w _ _ C e'' fr q1, hsize]
                        have : (κ i).off + o + len * szT P e'' + j < C.size := by omega
                        rw [Array.getElem?_eq_getElem this]; rfl)
                      (fun j hj => by
                        simp only [World.frozen?, q1]
                        rw [hsize]
                        exact hfr _ (by omega))
                    rw [hsize] at hrun
                    obtain ⟨C', r1, r2, r3⟩ := block_setCells (κ i).blk e'' fr us ((κ i).off + o + len * szT P e'') w C q1 hfit2
                    have hst := hkill.push_at (w' := w.setCells (κ i).blk ((κ i).off + o + len * szT P e'') us) (Below.setCells hbase _ _ _ (Below.refl _ _)) ⟨(κ i).blk, (κ i).off + o, szT P e'', cap⟩
                      (.cells ((c.drop o).take (len * szT P e'') ++ news) e'' true) (fun j oj hj hlive => by
                        have hji : j ≠ i := by
                          rintro rfl
                          rw [List.getElem?_set_self (by exact hin)] at hj
                          simp at hj
                          subst hj
                          simp [AObj.live] at hlive
                        rw [List.getElem?_set_ne (fun e => hji e.symm)] at hj
                        have := hs.iso i _ hi rfl j oj hj hlive hji
                        exact ⟨this, heap_setCells _ _ _ _ _ this⟩) (by
                        rw [hHl]
                        refine ⟨C', e'', fr, by rw [kupd_same]; exact r1, fun _ => ⟨rfl, by rw [r2]; exact hfr, by rw [kupd_same]; exact hbase, ⟨q0 + oe, by rw [kupd_same]; show (κ i).off + o = (q0 + oe) * szT P e''; rw [hq0, ho', Nat.add_mul, hks]⟩⟩, by rw [kupd_same]; rfl, ?_, ?_, ?_⟩
                        · rw [kupd_same, hvs.1, List.length_append, o1, hnl, hsize, ← Nat.add_mul]
                          exact Nat.mul_le_mul_right _ hroom
                        · rw [kupd_same, r2]
                          show (κ i).off + o + cap * szT P e'' ≤ _
                          omega
                        · rw [kupd_same]
                          intro j y hy
                          obtain ⟨yu, hyu, hyr⟩ := hvs.get hy
                          refine ⟨yu, ?_, hyr.mono (by rw [hHl]; exact kupd_lt κ H _) (by simp), hyr.oneCell ((List.all_eq_true.1 hall) _ (List.mem_of_getElem? hy))⟩
                          show C'[(κ i).off + o + j]? = some yu
                          rw [r3]
                          rw [List.getElem?_append, o1] at hyu
                          split at hyu
                          · rename_i hjl
                            rw [if_pos (by omega)]
                            have := o4 j yu hyu
                            rw [cell_of_row w _ _ C e'' fr q1] at this
                            exact this
                          · rename_i hjl
                            have hjl2 := (List.getElem?_eq_some_iff.1 hyu).1
                            rw [if_neg (by omega), if_pos (by omega)]
                            rw [show (κ i).off + o + j - ((κ i).off + o + len * szT P e'') = j - len * szT P e'' by omega]
                            exact hyu)
                    rw [hHl] at hst
                    refine ⟨_, _, _, hrun, ?_, hst, kupd_lt κ H _, by simp, fun h => absurd (congrArg List.length h) (by simp)⟩
                    refine .slice _ _ _ _ _ 0 (by simp) (by simp) (by rw [kupd_same]; simp) hroom (fun _ => ?_)
                    rw [kupd_same]
                    simp
                  · have hold : (Builtin.firstCells inf.size len (.slice (some ad) len cap)).run P w.drew = .ok olds.toArray w.drew := by
                      refine run_firstCells_some w.drew inf.size len ad len cap olds (by rw [o1, hsize]) ?_
                      intro j u hj
                      have hj' := (List.getElem?_eq_some_iff.1 hj).1
                      have hlen : 0 < len := by
                        rcases Nat.eq_zero_or_pos len with h0 | h0
                        · subst h0; simp at o1; subst o1; simp at hj'
                        · exact h0
                      rw [ha (by omega), Addr.add_mid]
                      have := o4 j u hj
                      simpa using this
                    obtain ⟨u, w', κ', a1, a2, a3, a4⟩ := append_new (ty := ty) hu hinf hzero (by rw [hsize]; exact hc2) (by omega) hkill (some ad) len cap olds hold (by rw [o1, hsize]) g1 _ hvs hall (by omega) (by rw [hbytes]; exact hb4) hb5
                    rw [hHl] at a2 a4
                    exact ⟨u, w', κ', a1, a2, a3, a4, by simp, fun h => absurd (congrArg List.length h) (by simp)⟩
                · cases h
            · cases h
          · cases h
end
end Go.AL
