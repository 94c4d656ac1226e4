/- The library's functions, as contracts over the abstract heap. -/
import Derived.Test.YtodjcocapdjomaaDoorShelf
import Derived.Test.YtodjcocapdjomaaDoorOrTy
import Derived.Test.YtodjcocapdjomaaDoorOrEF
import Derived.Shelf.Strings.SlTrimAscii
namespace Go.AL
open Go Go.RowKit Go.Proofs
set_option linter.unusedVariables false
set_option linter.unusedSimpArgs false
theorem CutPrefix_ok (E : World → Prop) (H : AHeap) (s p : List UInt8) : ACalls E Tryd.prog 13 [.str s, .str p] H (fun v H' => v = .tuple [.str (Lib.trimPrefix s p), .bool (Lib.hasPrefix s p)] ∧ H' = H) :=
  ACalls.of_calls ⟨_, Tryd.func13, rfl, rfl⟩ (fun κ n vs h => vrs_str2 h)
    (fun w0 w he hb => (Tryd.strings_CutPrefix ⟨s.toArray⟩ ⟨p.toArray⟩ w).mono fun e w' h => ⟨h.1, h.2 ▸ Below.refl _ _⟩)
    (fun κ n => .tuple _ [_, _] rfl (VRs.cons (.str _) (VRs.cons (.bool _) (VRs.nil _ _))).2)
theorem HasPrefix_ok (E : World → Prop) (H : AHeap) (s p : List UInt8) : ACalls E Tryd.prog 29 [.str s, .str p] H (fun v H' => v = .bool (Lib.hasPrefix s p) ∧ H' = H) :=
  ACalls.of_calls ⟨_, Tryd.func29, rfl, rfl⟩ (fun κ n vs h => vrs_str2 h)
    (fun w0 w he hb => (Tryd.strings_HasPrefix ⟨s.toArray⟩ ⟨p.toArray⟩ w).mono fun e w' h => ⟨h.1, h.2 ▸ Below.refl _ _⟩) (fun κ n => .bool _)
theorem HasSuffix_ok (E : World → Prop) (H : AHeap) (s p : List UInt8) (hs : s.length ≤ 9223372036854775807) : ACalls E Tryd.prog 43 [.str s, .str p] H (fun v H' => v = .bool (Lib.hasSuffix s p) ∧ H' = H) :=
  ACalls.of_calls ⟨_, Tryd.func43, rfl, rfl⟩ (fun κ n vs h => vrs_str2 h)
    (fun w0 w he hb => (Tryd.strings_HasSuffix ⟨s.toArray⟩ ⟨p.toArray⟩ w (by simpa [ByteArray.size] using hs)).mono fun e w' h => ⟨h.1, h.2 ▸ Below.refl _ _⟩) (fun κ n => .bool _)
theorem CutSuffix_ok (E : World → Prop) (H : AHeap) (s p : List UInt8) (hs : s.length ≤ 9223372036854775807) : ACalls E Tryd.prog 31 [.str s, .str p] H (fun v H' => v = .tuple [.str (Lib.trimSuffix s p), .bool (Lib.hasSuffix s p)] ∧ H' = H) :=
  ACalls.of_calls ⟨_, Tryd.func31, rfl, rfl⟩ (fun κ n vs h => vrs_str2 h)
    (fun w0 w he hb => (Tryd.strings_CutSuffix ⟨s.toArray⟩ ⟨p.toArray⟩ w (by simpa [ByteArray.size] using hs)).mono fun e w' h => ⟨h.1, h.2 ▸ Below.refl _ _⟩)
    (fun κ n => .tuple _ [_, _] rfl (VRs.cons (.str _) (VRs.cons (.bool _) (VRs.nil _ _))).2)
/-- what is known of the world at the start: the library's own variable holds some number -/
def LibE (w : World) : Prop := 0 < w.heap.size ∧ ∃ m, w.cell? ⟨0, 0, none⟩ = some (.int .i64 m)
theorem LibE.at {w0 w : World} (h : LibE w0) (hb : Below w0.heap.size w0 w) : ∃ m, w.cell? ⟨0, 0, none⟩ = some (.int .i64 m) := by
  obtain ⟨h1, m, h2⟩ := h
  exact ⟨m, by rw [hb.cell h1]; exact h2⟩
theorem Contains_ok (E : World → Prop) (hE : ∀ w, E w → LibE w) (H : AHeap) (s p : List UInt8) (hs : s.length < 4294967281) : ACalls E Tryd.prog 18 [.str s, .str p] H (fun v H' => v = .bool (Lib.contains s p) ∧ H' = H) :=
  ACalls.of_calls ⟨_, Tryd.func18, rfl, rfl⟩ (fun κ n vs h => vrs_str2 h)
    (fun w0 w he hb => by
      obtain ⟨m, hm⟩ := (hE _ he).at hb
      exact (Tryd.strings_Contains ⟨s.toArray⟩ ⟨p.toArray⟩ m w (by simpa [ByteArray.size] using hs) hm).mono fun e w' h => ⟨h.1, h.2 ▸ Below.refl _ _⟩) (fun κ n => .bool _)
theorem SCut_ok (E : World → Prop) (hE : ∀ w, E w → LibE w) (H : AHeap) (s p : List UInt8) (hs : s.length < 4294967281) : ACalls E Tryd.prog 10 [.str s, .str p] H (fun v H' => v = .tuple [.str (Lib.cut s p).1, .str (Lib.cut s p).2.1, .bool (Lib.cut s p).2.2] ∧ H' = H) :=
  ACalls.of_calls ⟨_, Tryd.func10, rfl, rfl⟩ (fun κ n vs h => vrs_str2 h)
    (fun w0 w he hb => by
      obtain ⟨m, hm⟩ := (hE _ he).at hb
      exact (Tryd.strings_Cut ⟨s.toArray⟩ ⟨p.toArray⟩ m w (by simpa [ByteArray.size] using hs) hm).mono fun e w' h => ⟨h.1, by obtain ⟨n, rfl⟩ := h.2; exact below_drewN _ _⟩)
    (fun κ n => .tuple _ [_, _, _] rfl (VRs.cons (.str _) (VRs.cons (.str _) (VRs.cons (.bool _) (VRs.nil _ _)))).2)
theorem vrs_str3 {κ : Nat → Loc} {n : Nat} {s t u : List UInt8} {vs : List Value} (h : VRs κ n [.str s, .str t, .str u] vs) : vs = [.string ⟨s.toArray⟩, .string ⟨t.toArray⟩, .string ⟨u.toArray⟩] := by
  obtain ⟨h1, h2⟩ := h
  match vs, h1 with
  | [x, y, z], _ =>
    have hx := h2 0 _ _ rfl rfl
    have hy := h2 1 _ _ rfl rfl
    have hz := h2 2 _ _ rfl rfl
    cases hx
    cases hy
    cases hz
    rfl
def blanksL : List UInt8 := [9, 10, 13, 32]
theorem TrimLeft_ok (E : World → Prop) (H : AHeap) (s : List UInt8) : ACalls E Tryd.prog 89 [.str s, .str blanksL] H (fun v H' => v = .str (Lib.trimLeftS s blanksL) ∧ H' = H) :=
  ACalls.of_calls ⟨_, Tryd.func89, rfl, rfl⟩ (fun κ n vs h => vrs_str2 h)
    (fun w0 w he hb => Any.strings_TrimLeft_laid Tryd.lays161 (by kernel_rfl) ⟨s.toArray⟩ ⟨blanksL.toArray⟩ w (by decide) (ascii_of_all (by decide))) (fun κ n => .str _)
theorem TrimRight_ok (E : World → Prop) (H : AHeap) (s : List UInt8) (hs : s.length ≤ 9223372036854775807) : ACalls E Tryd.prog 48 [.str s, .str blanksL] H (fun v H' => v = .str (Lib.trimRightS s blanksL) ∧ H' = H) :=
  ACalls.of_calls ⟨_, Tryd.func48, rfl, rfl⟩ (fun κ n vs h => vrs_str2 h)
    (fun w0 w he hb => Any.strings_TrimRight_laid Tryd.lays162 (by kernel_rfl) ⟨s.toArray⟩ ⟨blanksL.toArray⟩ w (by simpa [ByteArray.size] using hs) (by decide) (ascii_of_all (by decide))) (fun κ n => .str _)
theorem Trim_ok (E : World → Prop) (H : AHeap) (s : List UInt8) (hs : s.length ≤ 9223372036854775807) : ACalls E Tryd.prog 20 [.str s, .str blanksL] H (fun v H' => v = .str (Lib.trimS s blanksL) ∧ H' = H) :=
  ACalls.of_calls ⟨_, Tryd.func20, rfl, rfl⟩ (fun κ n vs h => vrs_str2 h)
    (fun w0 w he hb => Any.strings_Trim_laid Tryd.lays160 (by kernel_rfl) ⟨s.toArray⟩ ⟨blanksL.toArray⟩ w (by simpa [ByteArray.size] using hs) (by decide) (ascii_of_all (by decide))) (fun κ n => .str _)
theorem ReplaceAll_ok (E : World → Prop) (hE : ∀ w, E w → LibE w) (H : AHeap) (s a b : List UInt8) (hs : s.length < 4294967281) (ha : 1 ≤ a.length) (hc : s.length + Lib.countB ⟨s.toArray⟩ ⟨a.toArray⟩ * b.length ≤ 140737488355328) :
    ACalls E Tryd.prog 42 [.str s, .str a, .str b] H (fun v H' => v = .str (Lib.replaceAll s a b) ∧ H' = H) :=
  ACalls.of_calls ⟨_, Tryd.func42, rfl, rfl⟩ (fun κ n vs h => vrs_str3 h)
    (fun w0 w he hb => by
      obtain ⟨m, hm⟩ := (hE _ he).at hb
      exact Tryd.strings_ReplaceAll ⟨s.toArray⟩ ⟨a.toArray⟩ ⟨b.toArray⟩ m w (by simpa [ByteArray.size] using hs) hm (by simpa [ByteArray.size] using ha) (by simpa [ByteArray.size] using hc)) (fun κ n => .str _)
end Go.AL
