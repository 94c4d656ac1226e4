/-
  DERIVED. GIVEN WITH THE SEED: THE CARDS: each row of YtodjcocapdjomaaDoorRows.lean that lists a variable, with what it lists TIED to the program's text (the seventh form; the later family's looks); each row that meets fmt, with fmt's text TOLD by the authors' own Lean function (tested against real Go, not proved from fmt's source: count such statements apart). THE CARD IS WHAT COUNTS. Prove the row's statement (the work); the ties are given (YtodjcocapdjomaaDoorTie.lean); close each card by the builder's one call (the guide's Derived/Test/ToyasCard.lean, 'card_holds'). Laid BY PROGRAM, IN A SANDBOX (cutbox-door.mjs). By AI agents, Wed Nov 11 2026. No macro, syntax, notation, axiom, sorry.
-/
import Derived.Test.YtodjcocapdjomaaDoorRows
import GoSem.ClaimSeven
namespace Go.Proofs.YtodjcocapdjomaaDoor
namespace Rows

/-- THE TIED CARD OF 'oriellaw05.ScanCovers'. -/
def scanCoversCard : Claim7 := { stood := { row := scanCoversRow, standIns := [], harness := (true, "fafdfbb2e6eae35a944cc624990c5653d8ecb1dd36cc64f7e47ce93847fc5c60"), looks := false }, kinds := [], alts := [], laidByText := true, laidKinds := [.data, .data, .data, .pinned, .pinned], laidTests := true, laidLooks := .later }
def ScanCoversCardSaid : Prop := Claim7.holds Tryd.pinned (.plain (OpenSpec.ofChange scanCoversSpec)) scanCoversCard

/-- THE SECOND FORM's CARD OF 'oriellaw05.ScanCovers'. -/
def scanCoversUptoCard : Claim7 := { stood := { row := scanCoversUptoRow, standIns := [], harness := (true, "fafdfbb2e6eae35a944cc624990c5653d8ecb1dd36cc64f7e47ce93847fc5c60"), looks := false }, kinds := [], alts := [], laidByText := true, laidKinds := [.data, .data, .data, .pinned, .pinned], laidTests := true, laidLooks := .later }
def ScanCoversUptoCardSaid : Prop := Claim7.holds Tryd.pinned (.plain (OpenSpec.upto scanCoversSpec)) scanCoversUptoCard
end Rows
end Go.Proofs.YtodjcocapdjomaaDoor
