/- Operations: literals, slices, append, make, conversions, ranges over strings. -/
import Derived.Test.YtodjcocapdjomaaDoorAlD
import Derived.Great.BuildSlice
import Derived.Lib.Hide
namespace Go.AL
open Go Go.RowKit
set_option linter.unusedVariables false
set_option linter.unusedSimpArgs false

section
variable {E : World → Prop} {P : Program} {w0 : World} {κ0 : Nat → Loc} {n0 : Nat} {κ : Nat → Loc} {H : AHeap} {w : World}

/-! ### literals -/
def afill (place : Nat → Option (Nat × Nat)) (cells : List AV) : List (Nat × AV) → Option (List AV)
  | [] => some cells
  | (i, v) :: rest =>
    match place i with
    | none => none
    | some (off, size) => if v.cells.all AV.one && v.cells.length == size && decide (off + v.cells.length ≤ cells.length) then afill place (splice cells off v.cells) rest else none

theorem foldl_set (vs : List Value) : ∀ (off : Nat) (cells : Array Value), off + vs.length ≤ cells.size →
    ((vs.zipIdx).foldl (fun cs (x : Value × Nat) => cs.setIfInBounds (off + x.2) x.1) cells).toList = cells.toList.take off ++ vs ++ cells.toList.drop (off + vs.length) := by
  suffices H : ∀ (vs : List Value) (k off : Nat) (cells : Array Value), off + k + vs.length ≤ cells.size →
    ((vs.zipIdx k).foldl (fun cs (x : Value × Nat) => cs.setIfInBounds (off + x.2) x.1) cells).toList = cells.toList.take (off + k) ++ vs ++ cells.toList.drop (off + k + vs.length) from
    fun off cells h => by simpa using H vs 0 off cells (by simpa using h)
  intro vs
  induction vs with
  | nil => intro k off cells h; simp
  | cons v r ih =>
    intro k off cells h
    simp only [List.zipIdx_cons, List.foldl_cons]
    simp only [List.length_cons] at h
    have hlt : off + k < cells.size := by omega
    have e := ih (k + 1) off (cells.setIfInBounds (off + k) v) (by simp; omega)
    rw [show off + (k + 1) = off + k + 1 by omega] at e
    rw [e]
    have hl : off + k < cells.toList.length := by simpa using hlt
    have hset : (cells.setIfInBounds (off + k) v).toList = cells.toList.take (off + k) ++ [v] ++ cells.toList.drop (off + k + 1) := by
      rw [Array.toList_setIfInBounds, List.set_eq_take_append_cons_drop, if_pos hl]
      simp
    have htl : (cells.toList.take (off + k)).length = off + k := by simp; omega
    rw [hset]
    have h1 : (cells.toList.take (off + k) ++ [v] ++ cells.toList.drop (off + k + 1)).take (off + k + 1) = cells.toList.take (off + k) ++ [v] := by
      rw [List.take_append_of_le_length (by simp; omega)]
      exact List.take_of_length_le (by simp; omega)
    have h2 : (cells.toList.take (off + k) ++ [v] ++ cells.toList.drop (off + k + 1)).drop (off + k + 1 + r.length) = cells.toList.drop (off + k + (r.length + 1)) := by
      rw [List.drop_append, List.drop_of_length_le (by simp; omega), List.nil_append, List.drop_drop]
      congr 1
      simp
      omega
    rw [h1, h2]
    simp

theorem VRs.splice {n : Nat} {cs vs : List AV} {us xs : List Value} {o : Nat} (hc : VRs κ n cs us) (hv : VRs κ n vs xs) : VRs κ n (Go.AL.splice cs o vs) (us.take o ++ xs ++ us.drop (o + xs.length)) := by
  unfold Go.AL.splice
  rw [hv.1]
  exact ((hc.take o).append hv).append (hc.drop _)

theorem all_splice {c : List AV} {o : Nat} {vs : List AV} (hc : c.all AV.one = true) (hv : vs.all AV.one = true) : (Go.AL.splice c o vs).all AV.one = true := by
  unfold Go.AL.splice
  rw [List.all_append, List.all_append, hv]
  have h1 : (c.take o).all AV.one = true := List.all_eq_true.2 fun x hx => List.all_eq_true.1 hc x (List.mem_of_mem_take hx)
  have h2 : (c.drop (o + vs.length)).all AV.one = true := List.all_eq_true.2 fun x hx => List.all_eq_true.1 hc x (List.mem_of_mem_drop hx)
  rw [h1, h2]
  rfl
theorem known_of_all {v : AV} (h : v.cells.all AV.one = true) : v ≠ .undef := by
  rintro rfl
  simp [AV.cells, AV.one] at h

theorem afill_ok {n : Nat} {place : Nat → Option (Nat × Nat)} : ∀ (parts : List (Nat × AV)) (pus : List (Nat × Value)) (cells r : List AV) (us : Array Value), afill place cells parts = some r → VRs κ n cells us.toList → cells.all AV.one = true →
    parts.length = pus.length → (∀ (j : Nat) (p : Nat × AV) (q : Nat × Value), parts[j]? = some p → pus[j]? = some q → p.1 = q.1 ∧ VR κ n p.2 q.2) →
    ∃ ru, Instr.fill place us pus = some ru ∧ VRs κ n r ru.toList ∧ r.all AV.one = true ∧ r.length = cells.length
  | [], pus, cells, r, us, h, hv, h1, hl, hp => by
    simp [afill] at h
    subst h
    cases pus with
    | nil => exact ⟨us, rfl, hv, h1, rfl⟩
    | cons q pus => simp at hl
  | (i, v) :: rest, pus, cells, r, us, h, hv, h1, hl, hp => by
    cases pus with
    | nil => simp at hl
    | cons q pus =>
      obtain ⟨q1, q2⟩ := q
      obtain ⟨hq1, hq2⟩ := hp 0 _ _ rfl rfl
      simp only at hq1 hq2
      subst hq1
      simp only [afill] at h
      split at h
      · cases h
      · rename_i off size hpl
        split at h
        · rename_i hc
          simp only [Bool.and_eq_true, beq_iff_eq, decide_eq_true_eq] at hc
          obtain ⟨⟨hc1, hc2⟩, hc3⟩ := hc
          have hcells := hq2.cells (known_of_all hc1)
          have hlen : q2.cells.size = v.cells.length := by have := hcells.1; simp at this; omega
          have hul : us.size = cells.length := by have := hv.1; simp at this; omega
          have hfit : off + q2.cells.toList.length ≤ us.size := by simp; omega
          have hf := foldl_set q2.cells.toList off us hfit
          obtain ⟨ru, e1, e2, e3, e4⟩ := afill_ok rest pus (Go.AL.splice cells off v.cells) r
            ((q2.cells.toList.zipIdx).foldl (fun cs (x : Value × Nat) => cs.setIfInBounds (off + x.2) x.1) us) h (by rw [hf]; exact hv.splice hcells) (all_splice h1 hc1) (by simpa using hl)
            (fun j p q hj hq => hp (j + 1) p q (by simpa using hj) (by simpa using hq))
          refine ⟨ru, ?_, e2, e3, by rw [e4, splice_length hc3]⟩
          simp only [Instr.fill, hpl]
          have hne : (decide (q2.cells.size ≠ size) || decide (off + q2.cells.size > us.size)) = false := by simp; omega
          rw [← e1, ← Array.foldl_toList]
          simp only [Array.toList_zipIdx] 
          rw [if_neg (by simpa using hne)]
        · cases h

def placeT (P : Program) (t : TypeId) (i : Nat) : Option (Nat × Nat) :=
  match P.underlying t with
  | some (.array _ e) => if hasT P e then some (i * szT P e, szT P e) else none
  | some (.struct fs) => (fs[i]?).bind fun f => if hasT P f.type then some (f.offset, szT P f.type) else none
  | _ => none
def isStructT (P : Program) (t : TypeId) : Bool := match P.underlying t with | some (.struct fs) => fs.toList.all fun f => hasT P f.type | some (.array _ e) => hasT P e | _ => false
def abuild (P : Program) (t : TypeId) (parts : List (Nat × AV)) : Option AV :=
  if isStructT P t then (zeroT P t).bind fun z => if (cv z).cells.all AV.one then (afill (placeT P t) (cv z).cells parts).map .agg else none else none

theorem run_placesT {fs : List Field} (h : fs.all (fun f => hasT P f.type) = true) : (fs.mapM fun f => Prod.mk f.offset <$> sizeOf f.type).run P w = .ok (fs.map fun f => (f.offset, szT P f.type)) w := by
  induction fs with
  | nil => simp
  | cons f r ih =>
    simp only [List.all_cons, Bool.and_eq_true] at h
    simp [List.mapM_cons, run_sizeT h.1, ih h.2]

theorem build_ok {t : TypeId} {parts : List (Nat × AV)} {pus : Array (Nat × Value)} {v : AV} (h : abuild P t parts = some v) (hs : St E P w0 κ0 n0 κ H w)
    (hl : parts.length = pus.toList.length) (hp : ∀ (j : Nat) (p : Nat × AV) (q : Nat × Value), parts[j]? = some p → pus.toList[j]? = some q → p.1 = q.1 ∧ VR κ H.length p.2 q.2) :
    OpOk E P w0 κ0 n0 κ H w (Instr.build t pus) v H := by
  unfold abuild at h
  split at h
  · rename_i hst
    cases hz : zeroT P t with
    | none => simp [hz] at h
    | some z =>
      simp only [hz, Option.bind_some] at h
      split at h
      · rename_i hz1
        cases hf : afill (placeT P t) (cv z).cells parts with
        | none => simp [hf] at h
        | some r =>
          simp only [hf, Option.map_some, Option.some.injEq] at h
          subst h
          have hzc := (vr_cv κ H.length z).cells (known_of_all hz1)
          obtain ⟨ru, e1, e2, e3, e4⟩ := afill_ok parts pus.toList (cv z).cells r z.cells hf hzc hz1 hl hp
          refine OpOk.same (u := .agg ru) hs ?_ ?_
          · unfold isStructT at hst
            split at hst
            · rename_i fs hu
              have hpl : (fun i => (fs.map fun f => (f.offset, szT P f.type))[i]?) = placeT P t := by
                funext i
                simp only [placeT, hu]
                cases hi : fs[i]? with
                | none => simp [hi]
                | some f =>
                  have : hasT P f.type = true := List.all_eq_true.1 hst f (by simpa using Array.mem_of_getElem? hi)
                  simp [hi, this]
              have hm := run_placesT (P := P) (w := w) hst
              have hpl' : (fun i => (fs.toList.map fun f => (f.offset, szT P f.type))[i]?) = placeT P t := by
                rw [← hpl]; funext i; simp
              have e1' : Instr.fill (fun i => (fs.toList.map fun f => (f.offset, szT P f.type))[i]?) z.cells pus.toList = some ru := by rw [hpl']; exact e1
              simp only [Instr.build, Sem.run_bind, run_zeroT hz, Result.andThen_ok, run_underlying hu, Array.mapM_eq_mapM_toList, Sem.run_map, Sem.run_pure]
              have hm' : (fs.toList.mapM fun f => (do pure (f.offset, ← sizeOf f.type) : Sem (Nat × Nat))).run P w = .ok (fs.toList.map fun f => (f.offset, szT P f.type)) w := by
                simpa using hm
              rw [hm']
              simp only [Result.andThen_ok, List.getElem?_toArray]
              rw [e1']
              rfl
            · rename_i n e hu
              have hpl : (fun i => some (i * szT P e, szT P e)) = placeT P t := by
                funext i
                simp [placeT, hu, hst]
              simp only [Instr.build, Sem.run_bind, run_zeroT hz, Result.andThen_ok, run_underlying hu, run_sizeT hst]
              rw [hpl, e1]
              simp
            · cases hst
          · have h2 := VR.agg (κ := κ) (n := H.length) r ru.toList e2.1 e2.2
            simpa using h2
      · cases h
  · cases h

/-! ### slice literals -/
def denseParts : Nat → List (Nat × AV) → Option (List AV)
  | _, [] => some []
  | k, (i, v) :: r => if i = k then (denseParts (k + 1) r).map (v :: ·) else none
def abuildSlice (P : Program) (H : AHeap) (t : TypeId) (len : Nat) (parts : List (Nat × AV)) : Option (AV × AHeap) :=
  match elemT P t, denseParts 0 parts with
  | some e, some vs => if (zeroT P e).isSome && vs.length == len && decide (len * szT P e ≤ 16777216) && szT P e != 0 && vs.all (fun v => v.cells.all AV.one && v.cells.length == szT P e)
      then some (.slice (some (H.length, 0)) len, H ++ [.cells (vs.flatMap AV.cells) e true]) else none
  | _, _ => none
theorem denseParts_ok {n : Nat} : ∀ (parts : List (Nat × AV)) (pus : List (Nat × Value)) (k : Nat) (vs : List AV), denseParts k parts = some vs → parts.length = pus.length →
    (∀ (j : Nat) (p : Nat × AV) (q : Nat × Value), parts[j]? = some p → pus[j]? = some q → p.1 = q.1 ∧ VR κ n p.2 q.2) →
    ∃ us : List Value, pus = (us.zipIdx k).map (fun x => (x.2, x.1)) ∧ VRs κ n vs us
  | [], pus, k, vs, h, hl, hp => by
    simp [denseParts] at h
    subst h
    cases pus with
    | nil => exact ⟨[], rfl, VRs.nil _ _⟩
    | cons q r => simp at hl
  | (i, v) :: r, pus, k, vs, h, hl, hp => by
    cases pus with
    | nil => simp at hl
    | cons q pus =>
      obtain ⟨q1, q2⟩ := q
      obtain ⟨h1, h2⟩ := hp 0 _ _ rfl rfl
      simp only at h1 h2
      subst h1
      simp only [denseParts] at h
      split at h
      · rename_i e
        subst e
        cases hr : denseParts (i + 1) r with
        | none => simp [hr] at h
        | some vs' =>
          simp only [hr, Option.map_some, Option.some.injEq] at h
          subst h
          obtain ⟨us, e1, e2⟩ := denseParts_ok r pus (i + 1) vs' hr (by simpa using hl) (fun j p q hj hq => hp (j + 1) p q (by simpa using hj) (by simpa using hq))
          exact ⟨q2 :: us, by simp [e1, List.zipIdx_cons], VRs.cons h2 e2⟩
      · cases h
theorem VRs.flat {n : Nat} : ∀ {vs : List AV} {us : List Value}, VRs κ n vs us → vs.all (fun v => v.cells.all AV.one) = true → VRs κ n (vs.flatMap AV.cells) (us.flatMap fun u => u.cells.toList)
  | [], us, h, _ => by
    have : us = [] := List.eq_nil_of_length_eq_zero (by have := h.1; simpa using this.symm)
    subst this
    simpa using VRs.nil _ _
  | v :: vs, us, h, h1 => by
    cases us with
    | nil => have := h.1; simp at this
    | cons u us =>
      simp only [List.all_cons, Bool.and_eq_true] at h1
      have := (h.head.cells (known_of_all h1.1)).append (VRs.flat h.tail h1.2)
      simpa [List.flatMap_cons] using this
theorem all_flat {vs : List AV} (h1 : vs.all (fun v => v.cells.all AV.one) = true) : (vs.flatMap AV.cells).all AV.one = true := by
  rw [List.all_flatMap]
  exact h1
theorem len_flat {vs : List AV} {s : Nat} (h1 : vs.all (fun v => v.cells.length == s) = true) : (vs.flatMap AV.cells).length = vs.length * s := by
  induction vs with
  | nil => simp
  | cons v r ih =>
    simp only [List.all_cons, Bool.and_eq_true, beq_iff_eq] at h1
    rw [List.flatMap_cons, List.length_append, ih h1.2, h1.1, List.length_cons, Nat.add_mul]
    omega
theorem buildSlice_ok {t : TypeId} {len : Nat} {parts : List (Nat × AV)} {pus : Array (Nat × Value)} {v : AV} {H' : AHeap} (h : abuildSlice P H t len parts = some (v, H')) (hs : St E P w0 κ0 n0 κ H w)
    (hl : parts.length = pus.toList.length) (hp : ∀ (j : Nat) (p : Nat × AV) (q : Nat × Value), parts[j]? = some p → pus.toList[j]? = some q → p.1 = q.1 ∧ VR κ H.length p.2 q.2) :
    OpOk E P w0 κ0 n0 κ H w (Instr.buildSlice t len pus) v H' := by
  unfold abuildSlice at h
  split at h
  · rename_i e vs he hd
    split at h
    · rename_i hc
      simp only [Bool.and_eq_true, beq_iff_eq, decide_eq_true_eq, bne_iff_ne, ne_eq] at hc
      obtain ⟨⟨⟨⟨hc1, hc2⟩, hc3⟩, hc4⟩, hc5⟩ := hc
      simp only [Option.some.injEq, Prod.mk.injEq] at h
      obtain ⟨rfl, rfl⟩ := h
      obtain ⟨us, hus, hvs⟩ := denseParts_ok parts pus.toList 0 vs hd hl hp
      have h1 : vs.all (fun v => v.cells.all AV.one) = true := List.all_eq_true.2 fun x hx => by
        have := List.all_eq_true.1 hc5 x hx
        simp only [Bool.and_eq_true] at this
        exact this.1
      have h2 : vs.all (fun v => v.cells.length == szT P e) = true := List.all_eq_true.2 fun x hx => by
        have := List.all_eq_true.1 hc5 x hx
        simp only [Bool.and_eq_true] at this
        exact this.2
      obtain ⟨z, hz⟩ := Option.isSome_iff_exists.1 hc1
      have hflat := VRs.flat hvs h1
      have hst := hs.new (vs.flatMap AV.cells) e _ hflat (all_flat h1) (szT P e) len rfl (by rw [len_flat h2, hc2])
      refine ⟨.slice (some ⟨w.heap.size, 0, none⟩) len len, _, _, ?_, ?_, hst, kupd_lt κ H _, by simp, fun h => absurd h (by simp)⟩
      · have hu := elemT_under he
        have hsz := run_sizeT (P := P) (hasT_of_zero hz) w
        have hnot : ¬ len * szT P e > 2 ^ 24 := by omega
        have husz : ∀ u ∈ us, u.cells.size = szT P e := by
          intro u hu
          obtain ⟨j, hj, rfl⟩ := List.getElem_of_mem hu
          have hj' : j < vs.length := by rw [hvs.1]; exact hj
          have hv := hvs.2 j _ _ (List.getElem?_eq_getElem hj') (List.getElem?_eq_getElem hj)
          have hk := List.all_eq_true.1 hc5 _ (List.getElem_mem hj')
          simp only [Bool.and_eq_true, beq_iff_eq] at hk
          have := (hv.cells (known_of_all hk.1)).1
          simp at this
          omega
        by_cases h0 : len = 0
        · subst h0
          have hus0 : us = [] := List.eq_nil_of_length_eq_zero (by have := hvs.1; omega)
          subst hus0
          have hp0 : pus = #[] := by
            apply Array.ext'
            simpa using hus
          subst hp0
          have h0 : (Array.map (fun x => (default : Value)) (Array.range 0)) = #[] := by simp
          simp [Instr.buildSlice, run_underlying hu, hsz, Instr.fill, newRow, h0]
        · have hne : ¬ len * szT P e = 0 := by
            rw [Nat.mul_eq_zero]; omega
          have hfill := Great.fill_whole (s := szT P e) (by omega) us ((Array.range (len * szT P e)).map (z.cells[· % z.cells.size]!)) husz (by simp; have := hvs.1; rw [← this, hc2])
          rw [← hus] at hfill
          simp only [Instr.buildSlice, Sem.run_bind, run_underlying hu, hsz, Result.andThen_ok, if_neg hnot, if_neg hne, run_zeroT hz, Sem.run_pure]
          rw [hfill]
          simp [newRow]
      · refine .slice _ _ _ _ _ 0 (by simp) (by simp) (by rw [kupd_same]; simp) (Nat.le_refl _) (fun _ => ?_)
        rw [kupd_same]
    · cases h
  · cases h

/-! ### cutting -/
def abound (v : AV) (y : Nat) : Option Nat :=
  match v with
  | .int _ i => if 0 ≤ i && decide (i ≤ (y : Int)) then some i.toNat else none
  | _ => none
def aboundHi (hi : Option AV) (len : Nat) : Option Nat := match hi with | some v => abound v len | none => some len
def aboundLo (lo : Option AV) (h : Nat) : Option Nat := match lo with | some v => abound v h | none => some 0
def aslice (P : Program) (H : AHeap) (t : TypeId) (x : AV) (lo hi : Option AV) : Option AV :=
  match x with
  | .str s => if strT P t then (aboundHi hi s.length).bind fun h => (aboundLo lo h).map fun l => .str ((s.take h).drop l) else none
  | .slice none 0 => match elemT P t with
    | some e => if hasT P e then (aboundHi hi 0).bind fun h => (aboundLo lo h).map fun l => .slice none 0 else none
    | none => none
  | .slice (some (i, o)) len => match elemT P t, H[i]? with
    | some e, some (.cells c e' rw) => if hasT P e && szT P e == szT P e' then (aboundHi hi len).bind fun h => (aboundLo lo h).map fun l => .slice (some (i, o + l * szT P e)) (h - l) else none
    | _, _ => none
  | _ => none
theorem abound_ok {v : AV} {y i : Nat} {n : Nat} {u : Value} {code : BoundsCode} (h : abound v y = some i) (hv : VR κ n v u) : (Instr.sliceBound u y code).run P w = .ok i w ∧ i ≤ y := by
  unfold abound at h
  split at h
  · rename_i k m
    cases hv
    split at h
    · rename_i hc
      simp only [Bool.and_eq_true, decide_eq_true_eq] at hc
      simp only [Option.some.injEq] at h
      subst h
      refine ⟨?_, by omega⟩
      simp [Instr.sliceBound, asIntOf, hc.1, hc.2]
    · cases h
  · cases h
theorem abound_le {v : AV} {y i : Nat} (h : abound v y = some i) : ∀ y', y ≤ y' → abound v y' = some i := by
  intro y' hy
  unfold abound at h ⊢
  split at h
  · rename_i k m
    split at h
    · rename_i hc
      simp only [Bool.and_eq_true, decide_eq_true_eq] at hc
      rw [if_pos (by simp; omega)]
      exact h
    · cases h
  · cases h
theorem sliceBounds_ok {isSlice : Bool} {lo hi : Option AV} {lou hiu : Option Value} {len cap h l n : Nat} (hh : aboundHi hi len = some h) (hl : aboundLo lo h = some l) (hlc : len ≤ cap)
    (hlo : (lo = none ∧ lou = none) ∨ ∃ v u, lo = some v ∧ lou = some u ∧ VR κ n v u) (hhi : (hi = none ∧ hiu = none) ∨ ∃ v u, hi = some v ∧ hiu = some u ∧ VR κ n v u) :
    (Instr.sliceBounds isSlice len cap lou hiu none).run P w = .ok (l, h, cap) w ∧ l ≤ h ∧ h ≤ len := by
  have hh' : h ≤ len ∧ ((hiu = none ∧ h = len) ∨ ∃ u, hiu = some u ∧ ∀ code, (Instr.sliceBound u cap code).run P w = .ok h w) := by
    rcases hhi with ⟨rfl, rfl⟩ | ⟨v, u, rfl, rfl, hv⟩
    · simp [aboundHi] at hh; subst hh; exact ⟨Nat.le_refl _, .inl ⟨rfl, rfl⟩⟩
    · simp only [aboundHi] at hh
      exact ⟨(abound_ok (P := P) (w := w) (code := .sliceB) hh hv).2, .inr ⟨u, rfl, fun code => (abound_ok (abound_le hh cap hlc) hv).1⟩⟩
  have hl' : l ≤ h ∧ ((lou = none ∧ l = 0) ∨ ∃ u, lou = some u ∧ ∀ code, (Instr.sliceBound u h code).run P w = .ok l w) := by
    rcases hlo with ⟨rfl, rfl⟩ | ⟨v, u, rfl, rfl, hv⟩
    · simp [aboundLo] at hl; subst hl; exact ⟨Nat.zero_le _, .inl ⟨rfl, rfl⟩⟩
    · simp only [aboundLo] at hl
      exact ⟨(abound_ok (P := P) (w := w) (code := .sliceB) hl hv).2, .inr ⟨u, rfl, fun code => (abound_ok hl hv).1⟩⟩
  refine ⟨?_, hl'.1, hh'.1⟩
  rcases hh'.2 with ⟨rfl, rfl⟩ | ⟨hu, rfl, hur⟩ <;> rcases hl'.2 with ⟨rfl, rfl⟩ | ⟨lu, rfl, lur⟩
  · simp [Instr.sliceBounds]
  · simp [Instr.sliceBounds, lur]
  · simp [Instr.sliceBounds, hur]
  · simp [Instr.sliceBounds, hur, lur]
theorem extract_bytes (s : List UInt8) (l h : Nat) : (⟨s.toArray⟩ : ByteArray).extract l h = ⟨((s.take h).drop l).toArray⟩ := by
  apply ByteArray.ext
  apply Array.ext'
  simp [ByteArray.data_extract, List.extract_eq_take_drop, List.drop_take]
theorem slice_ok {t : TypeId} {x v : AV} {xu : Value} {lo hi : Option AV} {lou hiu : Option Value} (h : aslice P H t x lo hi = some v) (hs : St E P w0 κ0 n0 κ H w) (hx : VR κ H.length x xu)
    (hlo : (lo = none ∧ lou = none) ∨ ∃ v u, lo = some v ∧ lou = some u ∧ VR κ H.length v u) (hhi : (hi = none ∧ hiu = none) ∨ ∃ v u, hi = some v ∧ hiu = some u ∧ VR κ H.length v u) :
    OpOk E P w0 κ0 n0 κ H w (Instr.sliceAt t xu lou hiu none) v H := by
  unfold aslice at h
  split at h
  · rename_i s
    cases hx
    split at h
    · rename_i hst
      have hu := strT_under hst
      cases hh : aboundHi hi s.length with
      | none => simp [hh] at h
      | some hv =>
        cases hl : aboundLo lo hv with
        | none => simp [hh, hl] at h
        | some lv =>
          simp only [hh, hl, Option.bind_some, Option.map_some, Option.some.injEq] at h
          subst h
          obtain ⟨hb, h1, h2⟩ := sliceBounds_ok (P := P) (w := w) (isSlice := false) hh hl (Nat.le_refl _) hlo hhi
          refine OpOk.same hs ?_ (.str _)
          have hsz : (⟨s.toArray⟩ : ByteArray).size = s.length := by simp [ByteArray.size]
          simp only [Instr.sliceAt, Sem.run_bind, run_underlying hu, Result.andThen_ok, Instr.slice, hsz, Option.isSome_none, Bool.false_eq_true, if_false, Sem.run_pure, hb, extract_bytes]
    · cases h
  · split at h
    · rename_i e he
      have hu := elemT_under he
      split at h
      · rename_i hc
        have hsz := run_sizeT (P := P) hc w
        cases hh : aboundHi hi 0 with
        | none => simp [hh] at h
        | some hv =>
          cases hl : aboundLo lo hv with
          | none => simp [hh, hl] at h
          | some lv =>
            simp only [hh, hl, Option.bind_some, Option.map_some, Option.some.injEq] at h
            subst h
            cases hx
            obtain ⟨hb, h1, h2⟩ := sliceBounds_ok (P := P) (w := w) (isSlice := true) (cap := 0) hh hl (Nat.le_refl _) hlo hhi
            have h3 : lv = 0 := by omega
            have h4 : hv = 0 := by omega
            subst h3; subst h4
            refine OpOk.same (u := .slice none 0 0) hs ?_ .sliceNil
            simp only [Instr.sliceAt, Sem.run_bind, run_underlying hu, Result.andThen_ok, Instr.slice, hb, hsz, Sem.run_pure]
            simp
      · cases h
    · cases h
  · rename_i i o len
    split at h
    · rename_i e c e' rw he hHi
      have hu := elemT_under he
      split at h
      · rename_i hc
        simp only [Bool.and_eq_true, beq_iff_eq] at hc
        have hsz := run_sizeT (P := P) hc.1 w
        obtain ⟨C, e'', fr, g1, g2, gz, g3, g4, g5⟩ := hs.objs i _ hHi
        have hks : (κ i).sz = szT P e := by rw [gz, hc.2]; rfl
        cases hh : aboundHi hi len with
        | none => simp [hh] at h
        | some hv =>
          cases hl : aboundLo lo hv with
          | none => simp [hh, hl] at h
          | some lv =>
            simp only [hh, hl, Option.bind_some, Option.map_some, Option.some.injEq] at h
            subst h
            cases hx with
            | slice _ _ _ ad cap oe hin ho hcap hlen ha =>
              obtain ⟨hb, h1, h2⟩ := sliceBounds_ok (P := P) (w := w) (isSlice := true) (cap := cap) hh hl hlen hlo hhi
              refine OpOk.same (u := .slice (if cap = lv then some ad else some (ad.add (lv * szT P e))) (hv - lv) (cap - lv)) hs ?_ ?_
              · simp only [Instr.sliceAt, Sem.run_bind, run_underlying hu, Result.andThen_ok, Instr.slice, hb, hsz, Sem.run_pure]
                simp
              · split
                · rename_i e
                  refine .slice _ _ _ _ _ (oe + lv) hin ?_ (by omega) (by omega) (fun h0 => by omega)
                  rw [Nat.add_mul, ho, hks]
                · rename_i e
                  refine .slice _ _ _ _ _ (oe + lv) hin ?_ (by omega) (by omega) (fun h0 => ?_)
                  · rw [Nat.add_mul, ho, hks]
                  · rw [ha (by omega), Addr.add_mid, Nat.add_assoc]
      · cases h
    · cases h
  · cases h
end
end Go.AL
