/-
  DERIVED. GIVEN WITH THE SEED: THE CARDS: each row of YtfhlmmmhcpkjnaaGreatDoorRows.lean that lists a variable, with what it lists TIED to the program's text (the seventh form; the later family's looks); each row that meets fmt, with fmt's text TOLD by the authors' own Lean function (tested against real Go, not proved from fmt's source: count such statements apart). THE CARD IS WHAT COUNTS. Prove the row's statement (the work); the ties are given (YtfhlmmmhcpkjnaaGreatDoorTie.lean); close each card by the builder's one call (the guide's Derived/Test/ToyasCard.lean, 'card_holds'). Laid BY PROGRAM, IN A SANDBOX (cutbox-door.mjs). By AI agents, Wed Nov 11 2026. No macro, syntax, notation, axiom, sorry.
-/
import Derived.Test.YtfhlmmmhcpkjnaaGreatDoorRows
import GoSem.ClaimSeven
namespace Go.Proofs.YtfhlmmmhcpkjnaaGreatDoor
namespace Rows

/-- THE TIED CARD OF 'klippelaw55.CheckerNumbers'. -/
def checkerNumbersCard : Claim7 := { stood := { row := checkerNumbersRow, standIns := [], harness := (true, "0f8c3cde13aa262adc6aebd56dc9e7c22ce56222bafce0465e1ee9c2232b3b25"), looks := false }, kinds := [], alts := [], laidByText := true, laidKinds := [.data, .data, .data], laidTests := true, laidLooks := .later }
def CheckerNumbersCardSaid : Prop := Claim7.holds Tryz.pinned (.plain (OpenSpec.ofChange checkerNumbersSpec)) checkerNumbersCard

/-- THE SECOND FORM's CARD OF 'klippelaw55.CheckerNumbers'. -/
def checkerNumbersUptoCard : Claim7 := { stood := { row := checkerNumbersUptoRow, standIns := [], harness := (true, "0f8c3cde13aa262adc6aebd56dc9e7c22ce56222bafce0465e1ee9c2232b3b25"), looks := false }, kinds := [], alts := [], laidByText := true, laidKinds := [.data, .data, .data], laidTests := true, laidLooks := .later }
def CheckerNumbersUptoCardSaid : Prop := Claim7.holds Tryz.pinned (.plain (OpenSpec.upto checkerNumbersSpec)) checkerNumbersUptoCard
end Rows
end Go.Proofs.YtfhlmmmhcpkjnaaGreatDoor
