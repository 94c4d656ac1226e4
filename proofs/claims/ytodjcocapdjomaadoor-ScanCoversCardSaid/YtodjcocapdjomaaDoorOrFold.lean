/- unicode.SimpleFold of an ASCII rune, and of the long s. -/
import Derived.Test.YtodjcocapdjomaaDoorProg
import Derived.Below
import Derived.KernelRfl
import Derived.LoopTactic
import Derived.WalkKit
namespace Go.AL
open Go Go.RowKit Go.Proofs
set_option linter.unusedVariables false
set_option linter.unusedSimpArgs false
def cfold (k : Nat) : Int := if 65 ≤ k ∧ k ≤ 90 then k + 32 else if k = 107 then 8490 else if k = 115 then 383 else if 97 ≤ k ∧ k ≤ 122 then k - 32 else k
set_option maxHeartbeats 4000000 in
set_option maxRecDepth 100000 in
theorem fold_ascii (k : Nat) (hk : k < 128) (w : World) (hc : w.cell? ⟨1, k, none⟩ = some (.int .u16 (cfold k))) (h0 : 0 ≤ cfold k) (h1 : cfold k < 65536) :
    Calls Tryd.prog 72 #[.int .i32 k] w fun e w' => e = .returned (.int .i32 (cfold k)) ∧ w' = w := by
  have e1 : decide ((k : Int) < 0) = false := by simp
  have e2 : decide ((1114111 : Int) < (k : Int)) = false := by simp; omega
  have e3 : decide ((k : Int) < 128) = true := by simp; omega
  have e4 : (k : Int) < 128 := by omega
  generalize cfold k = v at *
  go_enter Tryd.func72, Tryd.ntmps72
  go_wp2
  go_ret
  exact ⟨rfl, rfl⟩
/-- where the search for the long s goes -/
def orbPath : List (Nat × Nat) := [(0, 94), (0, 47), (0, 23), (0, 11), (6, 11), (9, 11), (9, 10), (10, 10)]
structure Orbit (w : World) : Prop where
  ex : ∃ (b o cap : Nat), w.cell? ⟨2, 0, none⟩ = some (.slice (some ⟨b, o, none⟩) 94 cap) ∧ w.cell? ⟨b, o + 94, none⟩ = some (.int .u16 966) ∧ w.cell? ⟨b, o + 46, none⟩ = some (.int .u16 837) ∧ w.cell? ⟨b, o + 22, none⟩ = some (.int .u16 452) ∧ w.cell? ⟨b, o + 10, none⟩ = some (.int .u16 197) ∧
    w.cell? ⟨b, o + 16, none⟩ = some (.int .u16 304) ∧ w.cell? ⟨b, o + 20, none⟩ = some (.int .u16 383) ∧ w.cell? ⟨b, o + 18, none⟩ = some (.int .u16 305) ∧ w.cell? ⟨b, o + 21, none⟩ = some (.int .u16 83)
set_option maxHeartbeats 4000000 in
set_option maxRecDepth 100000 in
theorem fold_383 (w : World) (ho : Orbit w) :
    Calls Tryd.prog 72 #[.int .i32 383] w fun e w' => e = .returned (.int .i32 83) ∧ w' = w := by
  obtain ⟨b, o, cap, c0, c47, c23, c11, c5, c8, c10, c9, cr⟩ := ho.ex
  go_enter Tryd.func72, Tryd.ntmps72
  go_wp2
  go_loop [3, 4] (fun lo hi => ∃ j : Nat, ∃ p : Nat × Nat, orbPath[j]? = some p ∧ lo = .int .i64 p.1 ∧ hi = .int .i64 p.2) (fun lo hi => (intOf hi - intOf lo).toNat)
  case atStart => exact ⟨0, _, rfl, rfl, rfl⟩
  case round =>
    obtain ⟨j, p, hp, rfl, rfl⟩ := hrel
    match j, hp with
    | 0, hp => 
      obtain rfl : p = (0, 94) := by simpa [orbPath] using hp.symm
      go_wp2
      go_round
      case rel => exact ⟨1, _, rfl, rfl, rfl⟩
      case measure => simp [intOf]
    | 1, hp => 
      obtain rfl : p = (0, 47) := by simpa [orbPath] using hp.symm
      go_wp2
      go_round
      case rel => exact ⟨2, _, rfl, rfl, rfl⟩
      case measure => simp [intOf]
    | 2, hp => 
      obtain rfl : p = (0, 23) := by simpa [orbPath] using hp.symm
      go_wp2
      go_round
      case rel => exact ⟨3, _, rfl, rfl, rfl⟩
      case measure => simp [intOf]
    | 3, hp => 
      obtain rfl : p = (0, 11) := by simpa [orbPath] using hp.symm
      go_wp2
      go_round
      case rel => exact ⟨4, _, rfl, rfl, rfl⟩
      case measure => simp [intOf]
    | 4, hp => 
      obtain rfl : p = (6, 11) := by simpa [orbPath] using hp.symm
      go_wp2
      go_round
      case rel => exact ⟨5, _, rfl, rfl, rfl⟩
      case measure => simp [intOf]
    | 5, hp => 
      obtain rfl : p = (9, 11) := by simpa [orbPath] using hp.symm
      go_wp2
      go_round
      case rel => exact ⟨6, _, rfl, rfl, rfl⟩
      case measure => simp [intOf]
    | 6, hp => 
      obtain rfl : p = (9, 10) := by simpa [orbPath] using hp.symm
      go_wp2
      go_round
      case rel => exact ⟨7, _, rfl, rfl, rfl⟩
      case measure => simp [intOf]
    | 7, hp => 
      obtain rfl : p = (10, 10) := by simpa [orbPath] using hp.symm
      go_wp2
      go_ret
      exact ⟨rfl, rfl⟩
    | j + 8, hp => simp [orbPath] at hp
end Go.AL
