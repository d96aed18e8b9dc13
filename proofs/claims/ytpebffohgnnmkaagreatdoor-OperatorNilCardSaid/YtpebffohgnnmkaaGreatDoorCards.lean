/-
  DERIVED. GIVEN WITH THE SEED: THE CARDS: each row of YtpebffohgnnmkaaGreatDoorRows.lean that lists a variable, with what it lists TIED to the program's text (the seventh form; the later family's looks); each row that meets fmt, with fmt's text TOLD by the authors' own Lean function (tested against real Go, not proved from fmt's source: count such statements apart). THE CARD IS WHAT COUNTS. Prove the row's statement (the work); the ties are given (YtpebffohgnnmkaaGreatDoorTie.lean); close each card by the builder's one call (the guide's Derived/Test/ToyasCard.lean, 'card_holds'). Laid BY PROGRAM, IN A SANDBOX (cutbox-door.mjs). By AI agents, Wed Nov 11 2026. No macro, syntax, notation, axiom, sorry.
-/
import Derived.Test.YtpebffohgnnmkaaGreatDoorRows
import GoSem.ClaimSeven
namespace Go.Proofs.YtpebffohgnnmkaaGreatDoor
namespace Rows

/-- THE TIED CARD OF 'doorkeeperlaw25.OperatorNil'. -/
def operatorNilCard : Claim7 := { stood := { row := operatorNilRow, standIns := [], harness := (true, "5c76b656f2d37020b4c0beccab08fc0600bd5c731e6c389448451d26da9cb8a6"), looks := true }, kinds := [], alts := [], laidByText := true, laidKinds := [.data, .data, .data, .data, .sentinel, .sentinel, .pinned], laidTests := true, laidLooks := .later }
def OperatorNilCardSaid : Prop := Claim7.holds Tryz.pinned (.plain (OpenSpec.ofChange operatorNilSpec)) operatorNilCard

/-- THE SECOND FORM's CARD OF 'doorkeeperlaw25.OperatorNil'. -/
def operatorNilUptoCard : Claim7 := { stood := { row := operatorNilUptoRow, standIns := [], harness := (true, "5c76b656f2d37020b4c0beccab08fc0600bd5c731e6c389448451d26da9cb8a6"), looks := true }, kinds := [], alts := [], laidByText := true, laidKinds := [.data, .data, .data, .data, .sentinel, .sentinel, .pinned], laidTests := true, laidLooks := .later }
def OperatorNilUptoCardSaid : Prop := Claim7.holds Tryz.pinned (.plain (OpenSpec.upto operatorNilSpec)) operatorNilUptoCard
end Rows
end Go.Proofs.YtpebffohgnnmkaaGreatDoor
