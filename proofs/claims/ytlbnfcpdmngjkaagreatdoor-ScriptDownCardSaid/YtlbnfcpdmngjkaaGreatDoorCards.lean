/-
  DERIVED. GIVEN WITH THE SEED: THE CARDS: each row of YtlbnfcpdmngjkaaGreatDoorRows.lean that lists a variable, with what it lists TIED to the program's text (the seventh form; the later family's looks); each row that meets fmt, with fmt's text TOLD by the authors' own Lean function (tested against real Go, not proved from fmt's source: count such statements apart). THE CARD IS WHAT COUNTS. Prove the row's statement (the work); the ties are given (YtlbnfcpdmngjkaaGreatDoorTie.lean); close each card by the builder's one call (the guide's Derived/Test/ToyasCard.lean, 'card_holds'). Laid BY PROGRAM, IN A SANDBOX (cutbox-door.mjs). By AI agents, Wed Nov 11 2026. No macro, syntax, notation, axiom, sorry.
-/
import Derived.Test.YtlbnfcpdmngjkaaGreatDoorRows
import GoSem.ClaimSeven
namespace Go.Proofs.YtlbnfcpdmngjkaaGreatDoor
namespace Rows

/-- THE TIED CARD OF 'doorkeeperlaw27.ScriptDown'. -/
def scriptDownCard : Claim7 := { stood := { row := scriptDownRow, standIns := [], harness := (true, "3b55a6ed272917e0521024de5fd4d864bee0a8ca4899c7a151593d9b1eda9931"), looks := true }, kinds := [], alts := [], laidByText := true, laidKinds := [.data, .data, .data, .data, .sentinel, .sentinel, .pinned], laidTests := true, laidLooks := .later }
def ScriptDownCardSaid : Prop := Claim7.holds Tryz.pinned (.plain (OpenSpec.ofChange scriptDownSpec)) scriptDownCard

/-- THE TIED CARD OF 'doorkeeperlaw27.ScriptNil'. -/
def scriptNilCard : Claim7 := { stood := { row := scriptNilRow, standIns := [], harness := (true, "3b55a6ed272917e0521024de5fd4d864bee0a8ca4899c7a151593d9b1eda9931"), looks := true }, kinds := [], alts := [], laidByText := true, laidKinds := [.data, .data, .data, .data, .sentinel, .sentinel, .pinned], laidTests := true, laidLooks := .later }
def ScriptNilCardSaid : Prop := Claim7.holds Tryz.pinned (.plain (OpenSpec.ofChange scriptNilSpec)) scriptNilCard

/-- THE SECOND FORM's CARD OF 'doorkeeperlaw27.ScriptDown'. -/
def scriptDownUptoCard : Claim7 := { stood := { row := scriptDownUptoRow, standIns := [], harness := (true, "3b55a6ed272917e0521024de5fd4d864bee0a8ca4899c7a151593d9b1eda9931"), looks := true }, kinds := [], alts := [], laidByText := true, laidKinds := [.data, .data, .data, .data, .sentinel, .sentinel, .pinned], laidTests := true, laidLooks := .later }
def ScriptDownUptoCardSaid : Prop := Claim7.holds Tryz.pinned (.plain (OpenSpec.upto scriptDownSpec)) scriptDownUptoCard

/-- THE SECOND FORM's CARD OF 'doorkeeperlaw27.ScriptNil'. -/
def scriptNilUptoCard : Claim7 := { stood := { row := scriptNilUptoRow, standIns := [], harness := (true, "3b55a6ed272917e0521024de5fd4d864bee0a8ca4899c7a151593d9b1eda9931"), looks := true }, kinds := [], alts := [], laidByText := true, laidKinds := [.data, .data, .data, .data, .sentinel, .sentinel, .pinned], laidTests := true, laidLooks := .later }
def ScriptNilUptoCardSaid : Prop := Claim7.holds Tryz.pinned (.plain (OpenSpec.upto scriptNilSpec)) scriptNilUptoCard
end Rows
end Go.Proofs.YtlbnfcpdmngjkaaGreatDoor
