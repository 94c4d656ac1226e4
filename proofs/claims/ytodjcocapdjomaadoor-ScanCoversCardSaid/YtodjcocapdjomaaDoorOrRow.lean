/- The law ScanCovers returns true for every string; the row, and its tied card. -/
import Derived.Test.YtodjcocapdjomaaDoorRows
import Derived.Test.YtodjcocapdjomaaDoorCards
import Derived.Test.YtodjcocapdjomaaDoorTie
import Derived.Test.YtodjcocapdjomaaDoorOrLawB
import Derived.ProofKit
import Derived.OpenShut
import Derived.LaidMore
import Derived.Lay
import Derived.SevenTiedAt
import Derived.Stop.Joined
import Derived.Deep.SlicePairs
import Derived.Shelf.Vars
import Derived.HandedShaped
namespace Go.Proofs.YtodjcocapdjomaaDoor
open Go Go.ChangeShapes Go.WideShapes Go.ChangeAt Go.RowKit Go.WideMaps Go.WideElems
set_option linter.unusedVariables false
set_option linter.unusedSimpArgs false
open Go.ChangeMaps (setBlock shut_map_nil open_string shut_string keptBut_setBlock frozen?_setBlock heap_setBlock_same)
theorem handed_and_shaped {H : Type} {enc : TypeId × Value → H} {a : Assume} {C : Checked} {os : Os} {f : FuncId} {fn : Func} {s : ChangeSpec} {conds : List PathCond} {apart fresh handsOn again : Bool} {X : World → Array Value → Prop}
    (hX : ∀ (w w' : World) (args : Array Value), w.heap = w'.heap → X w args → X w' args)
    (own : ownKnob C.prog.godebug = none) (started : os.Started) (noInit : C.prog.inits.idxOf? f = none) (hfn : C.prog.funcs[f]? = some fn)
    (witness : ∃ (w : World) (tape : Tape) (i : Input), w.os = os ∧ (w.forCall tape i).Shaped C.prog ∧ i.vars = [] ∧ Input.okWide C.prog (w.forCall tape i) .any w.heap.size f i ∧
      ((s.pre enc C.prog fn conds apart (w.forCall tape i).memory i.args ∧ X (w.forCall tape i).memory i.args) ∧ sizedMet enc C.prog fn (OpenSpec.ofChange s) apart (w.forCall tape i).memory i.args) ∧ a.holds C.prog (lone (Frame.enter C.prog f i.args .normal) [] (w.forCall tape i)))
    (contract : ∀ (W : World) (base : Nat) (args : Array Value) (ds gs : List (DataW H)) (before : List MemPlace),
      (∀ (j : Nat) t v, fn.params[j]? = some t → args[j]? = some v → Value.okWide C.prog W .any base t v) →
      DataW.Whole enc C.prog fn.params.toList s.vars apart W args.toList ds gs before →
      conds.all (PathCond.test C.prog ⟨fn.params.toList, ds, s.plain.varTypes C.prog, gs⟩) = true →
      (DataW.weightsEach C.prog (fn.params.toList ++ s.plain.varTypes C.prog) (ds ++ gs)).all (· ≤ reachBytes) = true → X W args → W.ShapedOpen C.prog →
      a.holds C.prog (lone (Frame.enter C.prog f args .normal) [] W) →
      Calls C.prog f args W fun e W' => ∃ v, e = .returned v ∧ s.post enc C.prog fn apart fresh handsOn again W args v W') :
    ReturnsInHanded a C os f .any (fun w args => (s.pre enc C.prog fn conds apart w args ∧ X w args) ∧ sizedMet enc C.prog fn (OpenSpec.ofChange s) apart w args) (s.post enc C.prog fn apart fresh handsOn again) := by
  refine returnsInHanded_of_calls own started noInit witness ?_
  intro w tape i _ hsh _ hok hpre hholds
  obtain ⟨_, _, _, fn', hfn', _, _, _, _, hval⟩ := hok
  have e : fn' = fn := Option.some.inj (hfn'.symm.trans hfn)
  subst e
  obtain ⟨⟨⟨ds, gs, before, hw, hc⟩, hx⟩, hz⟩ := hpre
  have hw' := DataW.Whole.of_heap (w' := w.forCall tape i) (by rfl) hw
  refine (contract (w.forCall tape i) w.heap.size i.args ds gs before hval hw' hc (hz.weights hw) (hX _ _ _ (by rfl) hx) hsh hholds).mono fun e W' ⟨v, he, hp⟩ => ?_
  subst he
  exact ChangeSpec.post_blind hp
theorem own : ownKnob Tryd.prog.godebug = none := by kernel_rfl
def foldZ : List Int := (List.range 128).map Go.AL.cfold
theorem foldZ_is : Rows.laid_unicode_asciiFold (H := Unit) = .agg (foldZ.map fun n => .lit (.int .u16 n)) := by kernel_rfl
theorem max_cell {W : World} (h : W.ShapedOpen Tryd.prog) : ∃ m, W.cell? ⟨0, 0, none⟩ = some (.int .i64 m) :=
  cell_of_shapedOpen_int (t := 3) (zero := #[.int .i64 0]) h (by decide +kernel) (by kernel_rfl) (by kernel_rfl) (by kernel_rfl) (by kernel_rfl) Tryd.underlying3
def orbZ : List (Int × Int) := [(75, 107), (83, 115), (107, 8490), (115, 383), (181, 924), (197, 229), (223, 7838), (229, 8491), (304, 304), (305, 305), (383, 83), (452, 453), (453, 454), (454, 452), (455, 456), (456, 457), (457, 455), (458, 459), (459, 460), (460, 458), (497, 498), (498, 499), (499, 497), (837, 921), (912, 8147), (914, 946), (917, 949), (920, 952), (921, 953), (922, 954), (924, 956), (928, 960), (929, 961), (931, 962), (934, 966), (937, 969), (944, 8163), (946, 976), (949, 1013), (952, 977), (953, 8126), (954, 1008), (956, 181), (960, 982), (961, 1009), (962, 963), (963, 931), (966, 981), (969, 8486), (976, 914), (977, 1012), (981, 934), (982, 928), (1008, 922), (1009, 929), (1012, 920), (1013, 917), (1042, 1074), (1044, 1076), (1054, 1086), (1057, 1089), (1058, 1090), (1066, 1098), (1074, 7296), (1076, 7297), (1086, 7298), (1089, 7299), (1090, 7300), (1098, 7302), (1122, 1123), (1123, 7303), (7296, 1042), (7297, 1044), (7298, 1054), (7299, 1057), (7300, 7301), (7301, 1058), (7302, 1066), (7303, 1122), (7304, 42570), (7776, 7777), (7777, 7835), (7835, 7776), (7838, 223), (8126, 837), (8147, 912), (8163, 944), (8486, 937), (8490, 75), (8491, 197), (42570, 42571), (42571, 7304), (64261, 64262), (64262, 64261)]
theorem orbZ_is : Rows.laid_unicode_caseOrbit (H := Unit) = .slice (orbZ.map fun p => .agg [.lit (.int .u16 p.1), .lit (.int .u16 p.2)]) [] := by kernel_rfl
theorem ints_of {W : World} {name : String} {g t e n : Nat} {zs : List Int} {cs : Array Value} {f : Nat} {p : List MemPlace} (hg : Tryd.prog.globalNamed name = some g) (hv : World.var? Tryd.prog W name = some cs) (ht : Tryd.prog.underlying t = some (.array n e)) (he : Tryd.prog.underlying e = some (.int .u16)) (hc : Tryd.prog.cellsOf e = 1)
    (hd : DataW.trod (fun _ => ()) Tryd.prog W 0 (fun _ => true) false f t cs.toList = some (.agg (zs.map fun n => .lit (.int .u16 n)), p)) (hl0 : zs.length = n) (r : Nat) (hr : r < n) : W.cell? ⟨g, r, none⟩ = some (.int .u16 (zs.getD r 0)) := by
  obtain ⟨xs, m, _, ex, _, hl, hel⟩ := DataW.trod_array ht hd
  have hE := hel r hr
  rw [hc, Nat.mul_one, List.getElem?_eq_getElem (by omega)] at hE
  obtain ⟨z, e1, e2, _⟩ := DataW.trod_int he hE
  have e3 : (xs.map (·.1)) = zs.map fun n => .lit (.int .u16 n) := (DataW.agg.inj (Prod.mk.inj ex).1).symm
  have e4 : (xs.map (·.1))[r]? = (zs.map fun n => (DataW.lit (.int .u16 n) : DataW Unit))[r]? := by rw [e3]
  rw [List.getElem?_map, List.getElem?_map, List.getElem?_eq_getElem (by omega : r < xs.length), List.getElem?_eq_getElem (by omega : r < zs.length), e2] at e4
  have hz : z = zs.getD r 0 := by
    simp only [Option.map_some, Option.some.injEq, DataW.lit.injEq, Lit.int.injEq, true_and] at e4
    rw [e4, List.getD, List.getElem?_eq_getElem (by omega : r < zs.length)]; rfl
  rw [World.var?_cell hg hv r, ← hz]
  have h0 : ((cs.toList.drop r).take 1)[0]? = some (.int .u16 z) := by rw [e1]; rfl
  simpa using h0
theorem fold_cells {W : World} (h : laidMetH Tryd.prog Rows.scanCoversRow.laid W) : Go.AL.FoldE W := by
  rw [MakeChecks.laidMetH_plain _ _ _ (by kernel_rfl)] at h
  obtain ⟨ps, ⟨g0, t0, cs0, f0, p0, q0, hg0, ht0, hv0, hd0, ⟨g1, t1, cs1, f1, p1, q1, hg1, ht1, hv1, hd1, ⟨g2, t2, cs2, f2, p2, q2, hg2, ht2, hv2, hd2, _, _⟩, _⟩, _⟩, _, _⟩ := h
  obtain rfl := Option.some.inj ((show Tryd.prog.globalNamed "unicode.asciiFold" = some 1 by kernel_rfl).symm.trans hg1)
  obtain rfl := Option.some.inj ((show Tryd.prog.globalNamed "unicode.caseOrbit" = some 2 by kernel_rfl).symm.trans hg2)
  obtain rfl := Option.some.inj ((show (Tryd.prog.globals[1]?).map (·.type) = some 119 by kernel_rfl).symm.trans ht1)
  obtain rfl := Option.some.inj ((show (Tryd.prog.globals[2]?).map (·.type) = some 120 by kernel_rfl).symm.trans ht2)
  rw [foldZ_is] at hd1
  have hf : ∀ k, k < 128 → W.cell? ⟨1, k, none⟩ = some (.int .u16 (Go.AL.cfold k)) := fun k hk => by
    have := ints_of hg1 hv1 Tryd.underlying119 Tryd.underlying118 (by kernel_rfl) hd1 (by simp [foldZ]) k hk
    rw [this]
    unfold foldZ
    rw [List.getD, List.getElem?_map, List.getElem?_range hk]
    rfl
  rcases Go.Deep.open_slice_pairs Tryd.underlying120 Tryd.underlying122 (by kernel_rfl) rfl rfl (by kernel_rfl) (by kernel_rfl) hd2 with ⟨_, hx⟩ | ⟨a, len, cap, m, n, V0, V1, D0, D1, P0, P1, hcs, _, hlc, _, hmm, hx, hall⟩
  · rw [orbZ_is] at hx
    simp at hx
  rw [orbZ_is] at hx
  simp only [Prod.mk.injEq, DataW.slice.injEq] at hx
  obtain ⟨⟨hL, -⟩, -⟩ := hx
  have hlen : len = 94 := by
    have := congrArg List.length hL
    simpa [orbZ] using this.symm
  subst hlen
  have hm : 94 ≤ m := by rw [hmm]; split <;> omega
  have hc0 : W.cell? ⟨2, 0, none⟩ = some (.slice (some a) 94 cap) := by
    have := World.var?_cell hg2 hv2 0
    rw [Array.eq_one_of_toList hcs] at this
    simpa using this
  have hget : ∀ i, i < 94 → W.cell? (a.add (i * 2)) = some (.int .u16 (orbZ.getD i (0, 0)).1) ∧ W.cell? (a.add (i * 2 + 1)) = some (.int .u16 (orbZ.getD i (0, 0)).2) := fun i hi => by
    obtain ⟨h1, h2, h3, h4⟩ := hall i (by omega)
    have hLi := congrArg (fun l => l[i]?) hL
    simp only [List.getElem?_map, List.getElem?_range hi, Option.map_some] at hLi
    have hol : orbZ.length = 94 := by decide
    have hoz : orbZ[i]? = some (orbZ.getD i (0, 0)) := by rw [List.getD, List.getElem?_eq_getElem (by omega)]; rfl
    rw [hoz] at hLi
    simp only [Option.map_some, Option.some.injEq, DataW.agg.injEq, List.cons.injEq, and_true] at hLi
    obtain ⟨k1, k2⟩ := hLi
    rw [← k1] at h3
    rw [← k2] at h4
    obtain ⟨z1, e1, e2, _⟩ := DataW.trod_int Tryd.underlying118 h3
    obtain ⟨z2, e3, e4, _⟩ := DataW.trod_int Tryd.underlying118 h4
    simp only [List.cons.injEq, and_true] at e1 e3
    simp only [Prod.mk.injEq, DataW.lit.injEq, Lit.int.injEq, true_and, and_true] at e2 e4
    rw [h1, h2, e1, e3, ← e2.1, ← e4.1]
    exact ⟨rfl, rfl⟩
  obtain ⟨b, o, sp⟩ := a
  have hsp : sp = none := by
    have := (hget 0 (by omega)).1
    exact World.cell?_spot (a := ⟨b, o, sp⟩) this
  subst hsp
  have lt_of_cell : ∀ (ad : Addr) (v : Value), W.cell? ad = some v → ad.block < W.heap.size := fun ad v h => by
    unfold World.cell? at h
    split at h
    · rename_i hb; exact (Array.getElem?_eq_some_iff.1 hb).1
    · cases h
  refine ⟨lt_of_cell _ _ hc0, hf, b, lt_of_cell _ _ (hget 0 (by omega)).1, o, cap, hc0, ?_, ?_, ?_, ?_, ?_, ?_, ?_, ?_⟩
  · exact (hget 47 (by omega)).1
  · exact (hget 23 (by omega)).1
  · exact (hget 11 (by omega)).1
  · exact (hget 5 (by omega)).1
  · exact (hget 8 (by omega)).1
  · exact (hget 10 (by omega)).1
  · exact (hget 9 (by omega)).1
  · exact (hget 10 (by omega)).2
theorem post_of_below {H : Type} {enc : TypeId × Value → H} {P : Program} {f : Func} {s : ChangeSpec} {apart fresh handsOn again : Bool} {W W' : World} {args : Array Value} {v : Value} {ds gs : List (DataW H)} {before pa pv : List MemPlace}
    (hW : DataW.Whole enc P f.params.toList s.vars apart W args.toList ds gs before)
    (hres : ∀ (b : Nat) (sp : Nat → Bool) (hd : Bool), DataW.TrodAll enc P W' b sp hd f.resultTypes.toList (v.resultList f.resultTypes.size) (s.fn H (ds ++ gs)).results [])
    (hargs : ∀ sp : Nat → Bool, (∀ p ∈ before, sp p.block = true) → DataW.TrodAll enc P W' 0 sp true f.params.toList args.toList (s.fn H (ds ++ gs)).args pa)
    (hvars : ∀ sp : Nat → Bool, (∀ p ∈ before, sp p.block = true) → DataW.TrodVars enc P W' sp s.vars (s.fn H (ds ++ gs)).vars pv)
    (hps : before = pa ++ pv) (hb : Below W.heap.size W W')
    (hok : ∀ (j : Nat) (t : TypeId) (r : Value), f.resultTypes[j]? = some t → (v.resultList f.resultTypes.size)[j]? = some r → Value.okWide P W' .any 0 t r) :
    s.post enc P f apart fresh handsOn again W args v W' := by
  have hlt : ∀ p ∈ before, p.block < W.heap.size := fun p hp => hW.lt p hp
  have hold : ∀ p ∈ before, (fun b => decide (b < W.heap.size)) p.block = true := fun p hp => by simpa using hlt p hp
  refine ⟨ds, gs, before, [], pa, pv, hW, hres _ _ _, hargs _ hold, hvars _ hold, World.keptBut_mono (fun p hp => ⟨hp, ?_⟩) (hb.frame (· ∈ before)), fun _ => ?_⟩
  · rw [hps, List.mem_append] at hp
    exact Or.inr hp
  · obtain ⟨_, _, _, _, _, hz, hn⟩ := hW
    refine ⟨hok, _, _, ([] ++ pa) ++ pv, ⟨[] ++ pa, pv, trodAll_append (hargs _ (fun _ _ => rfl)) (hres _ _ _), hvars _ (fun _ _ => rfl), rfl, ?_, ?_⟩, ?_⟩
    · intro b off hp
      have hin : MemPlace.cell b off ∈ before := by rw [hps]; simpa using hp
      rw [hb.frozen (hlt _ hin)]
      exact hz b off hin
    · intro ha
      have := hn ha
      rw [hps] at this
      simpa using this
    · intro p hp _
      rw [hps]
      simpa using hp
set_option maxRecDepth 100000 in
theorem lifted (os : Os) (started : os.Started) (H : Type) (enc : TypeId × Value → H) :
    ReturnsInHanded {} Tryd.checked os 3 .any (fun w args => (Rows.scanCoversSpec.pre enc Tryd.prog Tryd.f3 Rows.scanCoversRow.domain false w args ∧ laidMetH Tryd.prog Rows.scanCoversRow.laid w) ∧ sizedMet enc Tryd.prog Tryd.f3 (OpenSpec.ofChange Rows.scanCoversSpec) false w args)
      (Rows.scanCoversSpec.post enc Tryd.prog Tryd.f3 false true false false) := by
  refine handed_and_shaped (C := Tryd.checked) (X := fun w _ => laidMetH Tryd.prog Rows.scanCoversRow.laid w) (fun _ _ _ hh h => h.of_heap hh) own started (by kernel_rfl) Tryd.func3
    (ChangeSpec.witness_shaped (enc := enc) (C := Tryd.checked) (os := os) (X := fun w _ => laidMetH Tryd.prog Rows.scanCoversRow.laid w) false (World.laidAll Tryd.prog os Rows.scanCoversRow.laid) #[.string ⟨#[]⟩] 8 (World.laidAll_os _ _ _)
      (World.shaped_of_ZipB (by kernel_rfl) (by kernel_rfl)) (by kernel_rfl) (by kernel_rfl) (by kernel_rfl)
      (by rw [MakeChecks.laidMetH_plain _ _ _ (by kernel_rfl)]; exact laidMet_laidAll _ (by kernel_rfl) (by kernel_rfl))) ?_
  intro W base args ds gs before hval0 hW hc _ hL hsh _
  have hval : ∀ (j : Nat) t v, Tryd.f3.params[j]? = some t → args[j]? = some v → Value.okWide Tryd.prog W .any base t v := hval0
  have hW' := hW
  obtain ⟨p, q, hA0, hV, rfl, _, _⟩ := hW
  have hA : DataW.TrodAll enc Tryd.prog W 0 (fun _ => true) true Tryd.f3.params.toList args.toList ds p := hA0
  rw [Tryd.params3] at hA hval
  obtain ⟨v0, d0, rfl, rfl, h0⟩ := trodAll_one hA
  obtain ⟨rfl, rfl⟩ := trodVars_none hV
  obtain ⟨s, rfl, rfl, rfl, hsz⟩ := open_string Tryd.underlying9 (hval 0 9 v0 rfl rfl) h0
  simp only [List.append_nil] at hW'
  have hFold : Go.AL.FoldE W := fold_cells hL
  have hS0 : 0 < W.heap.size := Nat.lt_of_lt_of_le (by decide) hFold.1
  have fin : Calls Tryd.prog 3 #[.string s] W fun e w' => e = .returned (.bool true) ∧ Below W.heap.size W w' := by
    have hLib : Go.AL.LibE W := ⟨hS0, max_cell hsh⟩
    have h := (Go.AL.ScanCovers_ok (E := fun w => Go.AL.LibE w ∧ Go.AL.FoldE w) (fun _ h => h.1) (fun _ h => h.2) [] s.data.toList).2 W (fun _ => ⟨0, 0, 0, 0⟩) 0 (fun _ => ⟨0, 0, 0, 0⟩) [.string s] W
      ⟨⟨hLib, hFold⟩, Below.refl _ _, fun i o h => by simp at h, fun i o h => by simp at h, fun _ _ => rfl, Nat.zero_le _⟩
      (Go.AL.VRs.cons (by
        have e : s = ⟨s.data.toList.toArray⟩ := by cases s; simp
        exact (congrArg (Go.AL.VR (fun _ => ⟨0, 0, 0, 0⟩) 0 (.str s.data.toList)) (congrArg Value.string e)).mpr (.str _)) (Go.AL.VRs.nil _ _))
    refine h.mono fun e w' ⟨v, κ', r, H', he, hs, hv, hr, _⟩ => ⟨?_, hs.below⟩
    subst hr
    cases hv
    exact he
  refine fin.mono fun e W' ⟨he, hb⟩ => ?_
  subst he
  exact ⟨_, rfl, post_of_below (pa := []) (pv := []) hW' (fun _ _ _ => trodAll_mk1 (shut_bool Tryd.underlying4 _)) (fun sp _ => trodAll_mk1 (shut_string Tryd.underlying9 hsz)) (fun _ _ => rfl) rfl hb (ok_one (by kernel_rfl) rfl (okWide_bool_mk Tryd.underlying4 _))⟩
theorem scanCovers_holds : Rows.ScanCoversSaid :=
  OpenClaim.holds_of_wide 3 Tryd.f3 rfl rfl rfl rfl rfl rfl rfl ⟨rfl, rfl, rfl, rfl, rfl⟩ rfl rfl rfl rfl rfl (by kernel_rfl) Tryd.func3 (by kernel_rfl)
    (of_decide_eq_true (by kernel_rfl)) (by unfold Func.isWrapper; first | (rw [if_pos (by decide +kernel)]; kernel_rfl) | (rw [if_neg (by decide +kernel)]; exact ⟨rfl, rfl⟩))
    (fun os started H enc _ => lifted os started H enc)
theorem card_holds : Rows.ScanCoversCardSaid :=
  Claim7.holds_tied_plain_at .later [] [.data, .data, .data, .pinned, .pinned] true (true, "fafdfbb2e6eae35a944cc624990c5653d8ecb1dd36cc64f7e47ce93847fc5c60") false scanCovers_holds (fun _ h => by cases h) (by kernel_rfl) (fun _ h => by cases h) scanCovers_row_tie rfl ⟨rfl, rfl⟩ (by kernel_rfl) rfl
    (fun f fn hf hfn => by
      obtain rfl : f = 3 := Option.some.inj ((show Tryd.prog.funcNamed "oriel/oriellaw05.ScanCovers" = some 3 by kernel_rfl).symm.trans hf) |>.symm
      obtain rfl : fn = Tryd.f3 := (Option.some.inj (Tryd.func3.symm.trans hfn)).symm
      exact ⟨by kernel_rfl, fun j t ht => by
        rw [Tryd.params3] at ht
        have hm : t ∈ [9] := by simpa using Array.mem_of_getElem? ht
        have hall : ([9].all fun u => !Tryd.prog.wantsStandIn u) = true := by kernel_rfl
        exact (show Tryd.prog.wantsStandIn t = false by simpa using List.all_eq_true.1 hall t hm)⟩)
    (by kernel_rfl)
#print axioms card_holds
end Go.Proofs.YtodjcocapdjomaaDoor
