/- Slices as lists. -/
import Derived.Test.YtodjcocapdjomaaDoorAlN
namespace Go.AL
open Go Go.RowKit
set_option linter.unusedVariables false
set_option linter.unusedSimpArgs false
/-- v is a slice of n elements of type e; cs are their cells; its object is not older than lo. -/
structure Sl (P : Program) (lo : Nat) (H : AHeap) (e : TypeId) (rw : Bool) (v : AV) (n : Nat) (cs : List AV) : Prop where
  len : cs.length = n * szT P e
  one : cs.all AV.one = true
  val : (n = 0 ∧ v = .slice none 0) ∨ ∃ id, lo ≤ id ∧ v = .slice (some (id, 0)) n ∧ H[id]? = some (.cells cs e rw)
section
variable {P : Program} {lo n : Nat} {H H' : AHeap} {e : TypeId} {rw : Bool} {v : AV} {cs : List AV}
theorem Sl.nil (P : Program) (lo : Nat) (H : AHeap) (e : TypeId) (rw : Bool) : Sl P lo H e rw (.slice none 0) 0 [] := ⟨by simp, rfl, .inl ⟨rfl, rfl⟩⟩
theorem Sl.ext (h : Sl P lo H e rw v n cs) (hx : Ext H H') : Sl P lo H' e rw v n cs :=
  ⟨h.len, h.one, h.val.imp id fun ⟨id, h1, h2, h3⟩ => ⟨id, h1, h2, hx.get h3⟩⟩
theorem Sl.low (h : Sl P lo H e rw v n cs) {lo' : Nat} (hl : lo' ≤ lo) : Sl P lo' H e rw v n cs :=
  ⟨h.len, h.one, h.val.imp id fun ⟨id, h1, h2, h3⟩ => ⟨id, Nat.le_trans hl h1, h2, h3⟩⟩
theorem Sl.isSl (h : Sl P lo H e rw v n cs) : (v = .slice none 0 ∧ n = 0) ∨ ∃ id, v = .slice (some (id, 0)) n ∧ H[id]? = some (.cells cs e rw) := by
  rcases h.val with ⟨h1, h2⟩ | ⟨id, -, h2, h3⟩
  · exact .inl ⟨h2, h1⟩
  · exact .inr ⟨id, h2, h3⟩
/-- One element more; xs are its cells. -/
theorem append1 {t : TypeId} {xs : List AV} (hsl : slOk P t = true) (he : elD P t = e) (hv : Sl P lo H e true v n cs) (hlo : lo ≤ H.length) (hx : xs.length = szT P e) (hx1 : xs.all AV.one = true)
    (hb : (n + 1) * bytesT P e ≤ 140737488355328) (hn : n + 1 ≤ 9223372036854775807) :
    ∃ v' H'', aappend P (H ++ [.cells xs e true]) t t v (.slice (some (H.length, 0)) 1) = some (v', H'') ∧ Sl P lo H'' e true v' (n + 1) (cs ++ xs) ∧ (∀ H0, Ext H0 H → H0.length ≤ lo → Ext H0 H'') ∧
      ∀ i o, H[i]? = some o → (∀ id, v = .slice (some (id, 0)) n → i ≠ id) → H''[i]? = some o := by
  subst he
  obtain ⟨hel, hz⟩ := slOk_some P hsl
  obtain ⟨z, hz1, -, -, -, hz0, -⟩ := zok_some P hz
  have hsrc : asrc P (H ++ [.cells xs (elD P t) true]) t (szT P (elD P t)) (.slice (some (H.length, 0)) 1) = some (1, xs) := by
    unfold asrc
    have : (H ++ [AObj.cells xs (elD P t) true])[H.length]? = some (.cells xs (elD P t) true) := get_new0 H _
    simp only [this, hel, Option.isSome_some, Nat.zero_add, Nat.one_mul, List.drop_zero, Bool.true_and]
    rw [← hx, List.take_length, hx1]
    simp
  rcases hv.val with ⟨h0, rfl⟩ | ⟨id, hid, rfl, hH⟩
  · subst h0
    have hcs : cs = [] := List.eq_nil_of_length_eq_zero (by have := hv.len; simpa using this)
    subst hcs
    refine ⟨.slice (some (H.length + 1, 0)) 1, H ++ [AObj.cells xs (elD P t) true] ++ [.cells xs (elD P t) true], ?_, ⟨by simpa using hx, by simpa using hx1, .inr ⟨H.length + 1, by omega, rfl, ?_⟩⟩, ?_, ?_⟩
    · rw [aappend_eq, if_pos hsl, hsrc]
      simp only [Nat.one_ne_zero, if_false]
      rw [if_pos (by constructor <;> omega)]
      simp
    · simp
    · intro H0 h1 h2
      exact (h1.add _).add _
    · intro i o hi _
      rw [List.append_assoc, get_old _ _ _ (lt_of_get hi)]; exact hi
  · have hlt := lt_of_get hH
    have hH2 : (H ++ [AObj.cells xs (elD P t) true])[id]? = some (.cells cs (elD P t) true) := by rw [get_old _ _ _ hlt]; exact hH
    have htake : (cs.drop 0).take (n * szT P (elD P t)) = cs := by rw [List.drop_zero, ← hv.len, List.take_length]
    refine ⟨.slice (some (H.length + 1, 0)) (n + 1), (H ++ [AObj.cells xs (elD P t) true]).set id .dead ++ [.cells (cs ++ xs) (elD P t) true], ?_, ⟨?_, ?_, .inr ⟨H.length + 1, by omega, rfl, ?_⟩⟩, ?_, ?_⟩
    · rw [aappend_eq, if_pos hsl, hsrc]
      have hcond : (True ∧ 0 + n * szT P (elD P t) ≤ cs.length ∧ ((cs.drop 0).take (n * szT P (elD P t))).all AV.one = true ∧ (n + 1) * bytesT P (elD P t) ≤ 140737488355328 ∧ n + 1 ≤ 9223372036854775807) := ⟨trivial, by rw [hv.len]; omega, by rw [htake]; exact hv.one, hb, hn⟩
      simp only [hH2]
      rw [if_neg (by omega), if_pos hcond, htake]
      simp
    · rw [List.length_append, hv.len, hx, Nat.add_mul, Nat.one_mul]
    · rw [List.all_append, hv.one, hx1]; rfl
    · rw [List.getElem?_append_right (by simp)]
      simp
    · intro H0 h1 h2
      exact ((h1.add _).set (Nat.le_trans h2 hid) _).add _
    · intro i o hi hne
      have hi' := lt_of_get hi
      rw [List.getElem?_append_left (by simp; omega), List.getElem?_set_ne (Ne.symm (hne id rfl)), get_old _ _ _ hi']
      exact hi
end
end Go.AL
