/- The runes of a text, as a range statement sees them. -/
import Derived.Test.YtodjcocapdjomaaDoorAlO
namespace Go.AL
open Go Go.RowKit
set_option linter.unusedVariables false
def dec (s : List UInt8) (p : Nat) : Nat × Nat := Utf8.decode ⟨s.toArray⟩ p
theorem dec_pos (s : List UInt8) (p : Nat) : 0 < (dec s p).2 := decode_pos _ _
theorem anext_t {H : AHeap} {i : Nat} {s : List UInt8} {p : Nat} (h : H[i]? = some (.iter s p)) (hp : p < s.length) : anext H (.ptr (some (i, 0))) = some (.tuple [.bool true, .int .i64 p, .int .i32 (dec s p).1], H.set i (.iter s (p + (dec s p).2))) := by
  unfold anext
  simp only [h, if_pos hp]
  rfl
theorem anext_f {H : AHeap} {i : Nat} {s : List UInt8} {p : Nat} (h : H[i]? = some (.iter s p)) (hp : ¬ p < s.length) : anext H (.ptr (some (i, 0))) = some (.tuple [.bool false], H) := by
  unfold anext
  simp only [h, if_neg hp]
/-- the places and the runes of s from p on -/
def runesFrom (s : List UInt8) : Nat → Nat → List (Nat × Int)
  | 0, _ => []
  | f + 1, p => if p < s.length then (p, ((dec s p).1 : Int)) :: runesFrom s f (p + (dec s p).2) else []
def runesP (s : List UInt8) : List (Nat × Int) := runesFrom s s.length 0
theorem runesFrom_cons {s : List UInt8} {m p : Nat} (hp : p < s.length) : runesFrom s (m + 1) p = (p, ((dec s p).1 : Int)) :: runesFrom s m (p + (dec s p).2) := by
  rw [runesFrom, if_pos hp]
theorem runesFrom_nil {s : List UInt8} {m p : Nat} (hp : ¬ p < s.length) : runesFrom s m p = [] := by
  cases m with
  | zero => rfl
  | succ m => rw [runesFrom, if_neg hp]
theorem Ext.iter {H H' : AHeap} (h : Ext H H') (x : AObj) : Ext H (H'.set H.length x) := h.set (Nat.le_refl _) x
theorem iter_set {H' : AHeap} {i : Nat} {o x : AObj} (h : H'[i]? = some o) : (H'.set i x)[i]? = some x := by
  rw [List.getElem?_set_self (lt_of_get h)]
end Go.AL
