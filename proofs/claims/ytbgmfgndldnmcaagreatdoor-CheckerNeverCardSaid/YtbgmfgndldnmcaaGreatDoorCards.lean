/-
  DERIVED. GIVEN WITH THE SEED: THE CARDS: each row of YtbgmfgndldnmcaaGreatDoorRows.lean that lists a variable, with what it lists TIED to the program's text (the seventh form; the later family's looks); each row that meets fmt, with fmt's text TOLD by the authors' own Lean function (tested against real Go, not proved from fmt's source: count such statements apart). THE CARD IS WHAT COUNTS. Prove the row's statement (the work); the ties are given (YtbgmfgndldnmcaaGreatDoorTie.lean); close each card by the builder's one call (the guide's Derived/Test/ToyasCard.lean, 'card_holds'). Laid BY PROGRAM, IN A SANDBOX (cutbox-door.mjs). By AI agents, Wed Nov 11 2026. No macro, syntax, notation, axiom, sorry.
-/
import Derived.Test.YtbgmfgndldnmcaaGreatDoorRows
import GoSem.ClaimSeven
namespace Go.Proofs.YtbgmfgndldnmcaaGreatDoor
namespace Rows

/-- THE TIED CARD OF 'klippelaw55.CheckerNever'. -/
def checkerNeverCard : Claim7 := { stood := { row := checkerNeverRow, standIns := [], harness := (true, "0c734e9a793fd48e561b71cda9134651377937caa6a93d327b02964ba65588a2"), looks := false }, kinds := [], alts := [], laidByText := true, laidKinds := [.data, .data, .data], laidTests := true, laidLooks := .later }
def CheckerNeverCardSaid : Prop := Claim7.holds Tryz.pinned (.plain (OpenSpec.ofChange checkerNeverSpec)) checkerNeverCard

/-- THE SECOND FORM's CARD OF 'klippelaw55.CheckerNever'. -/
def checkerNeverUptoCard : Claim7 := { stood := { row := checkerNeverUptoRow, standIns := [], harness := (true, "0c734e9a793fd48e561b71cda9134651377937caa6a93d327b02964ba65588a2"), looks := false }, kinds := [], alts := [], laidByText := true, laidKinds := [.data, .data, .data], laidTests := true, laidLooks := .later }
def CheckerNeverUptoCardSaid : Prop := Claim7.holds Tryz.pinned (.plain (OpenSpec.upto checkerNeverSpec)) checkerNeverUptoCard
end Rows
end Go.Proofs.YtbgmfgndldnmcaaGreatDoor
