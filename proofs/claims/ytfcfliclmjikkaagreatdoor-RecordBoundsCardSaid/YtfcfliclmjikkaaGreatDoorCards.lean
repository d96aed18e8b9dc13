/-
  DERIVED. GIVEN WITH THE SEED: THE CARDS: each row of YtfcfliclmjikkaaGreatDoorRows.lean that lists a variable, with what it lists TIED to the program's text (the seventh form; the later family's looks); each row that meets fmt, with fmt's text TOLD by the authors' own Lean function (tested against real Go, not proved from fmt's source: count such statements apart). THE CARD IS WHAT COUNTS. Prove the row's statement (the work); the ties are given (YtfcfliclmjikkaaGreatDoorTie.lean); close each card by the builder's one call (the guide's Derived/Test/ToyasCard.lean, 'card_holds'). Laid BY PROGRAM, IN A SANDBOX (cutbox-door.mjs). By AI agents, Wed Nov 11 2026. No macro, syntax, notation, axiom, sorry.
-/
import Derived.Test.YtfcfliclmjikkaaGreatDoorRows
import GoSem.ClaimSeven
namespace Go.Proofs.YtfcfliclmjikkaaGreatDoor
namespace Rows

/-- THE TIED CARD OF 'doorkeeperlaw16.RecordMade'. -/
def recordMadeCard : Claim7 := { stood := { row := recordMadeRow, standIns := [], harness := (true, "3b95960650cb81afeca6f37177dc09ea87457c7eeb1fcc7f114ba290b3ad24b5"), looks := true }, kinds := [], alts := [], laidByText := true, laidKinds := [.data, .data, .data, .data, .sentinel, .sentinel, .pinned], laidTests := true, laidLooks := .later }
def RecordMadeCardSaid : Prop := Claim7.holds Tryz.pinned (.plain (OpenSpec.ofChange recordMadeSpec)) recordMadeCard

/-- THE TIED CARD OF 'doorkeeperlaw16.RecordBack'. -/
def recordBackCard : Claim7 := { stood := { row := recordBackRow, standIns := [], harness := (true, "3b95960650cb81afeca6f37177dc09ea87457c7eeb1fcc7f114ba290b3ad24b5"), looks := true }, kinds := [], alts := [], laidByText := true, laidKinds := [.data, .data, .data, .data, .sentinel, .sentinel, .pinned], laidTests := true, laidLooks := .later }
def RecordBackCardSaid : Prop := Claim7.holds Tryz.pinned (.plain (OpenSpec.ofChange recordBackSpec)) recordBackCard

/-- THE TIED CARD OF 'doorkeeperlaw16.RecordBounds'. -/
def recordBoundsCard : Claim7 := { stood := { row := recordBoundsRow, standIns := [], harness := (true, "3b95960650cb81afeca6f37177dc09ea87457c7eeb1fcc7f114ba290b3ad24b5"), looks := true }, kinds := [], alts := [], laidByText := true, laidKinds := [.data, .data, .data, .data, .sentinel, .sentinel, .pinned], laidTests := true, laidLooks := .later }
def RecordBoundsCardSaid : Prop := Claim7.holds Tryz.pinned (.plain (OpenSpec.ofChange recordBoundsSpec)) recordBoundsCard

/-- THE TIED CARD OF 'doorkeeperlaw16.RecordAll'. -/
def recordAllCard : Claim7 := { stood := { row := recordAllRow, standIns := [], harness := (true, "3b95960650cb81afeca6f37177dc09ea87457c7eeb1fcc7f114ba290b3ad24b5"), looks := true }, kinds := [], alts := [], laidByText := true, laidKinds := [.data, .data, .data, .data, .sentinel, .sentinel, .pinned], laidTests := true, laidLooks := .later }
def RecordAllCardSaid : Prop := Claim7.holds Tryz.pinned (.plain (OpenSpec.ofChange recordAllSpec)) recordAllCard

/-- THE TIED CARD OF 'doorkeeperlaw16.RecordEnds'. -/
def recordEndsCard : Claim7 := { stood := { row := recordEndsRow, standIns := [], harness := (true, "3b95960650cb81afeca6f37177dc09ea87457c7eeb1fcc7f114ba290b3ad24b5"), looks := true }, kinds := [], alts := [], laidByText := true, laidKinds := [.data, .data, .data, .data, .sentinel, .sentinel, .pinned], laidTests := true, laidLooks := .later }
def RecordEndsCardSaid : Prop := Claim7.holds Tryz.pinned (.plain (OpenSpec.ofChange recordEndsSpec)) recordEndsCard

/-- THE SECOND FORM's CARD OF 'doorkeeperlaw16.RecordMade'. -/
def recordMadeUptoCard : Claim7 := { stood := { row := recordMadeUptoRow, standIns := [], harness := (true, "3b95960650cb81afeca6f37177dc09ea87457c7eeb1fcc7f114ba290b3ad24b5"), looks := true }, kinds := [], alts := [], laidByText := true, laidKinds := [.data, .data, .data, .data, .sentinel, .sentinel, .pinned], laidTests := true, laidLooks := .later }
def RecordMadeUptoCardSaid : Prop := Claim7.holds Tryz.pinned (.plain (OpenSpec.upto recordMadeSpec)) recordMadeUptoCard

/-- THE SECOND FORM's CARD OF 'doorkeeperlaw16.RecordBack'. -/
def recordBackUptoCard : Claim7 := { stood := { row := recordBackUptoRow, standIns := [], harness := (true, "3b95960650cb81afeca6f37177dc09ea87457c7eeb1fcc7f114ba290b3ad24b5"), looks := true }, kinds := [], alts := [], laidByText := true, laidKinds := [.data, .data, .data, .data, .sentinel, .sentinel, .pinned], laidTests := true, laidLooks := .later }
def RecordBackUptoCardSaid : Prop := Claim7.holds Tryz.pinned (.plain (OpenSpec.upto recordBackSpec)) recordBackUptoCard

/-- THE SECOND FORM's CARD OF 'doorkeeperlaw16.RecordBounds'. -/
def recordBoundsUptoCard : Claim7 := { stood := { row := recordBoundsUptoRow, standIns := [], harness := (true, "3b95960650cb81afeca6f37177dc09ea87457c7eeb1fcc7f114ba290b3ad24b5"), looks := true }, kinds := [], alts := [], laidByText := true, laidKinds := [.data, .data, .data, .data, .sentinel, .sentinel, .pinned], laidTests := true, laidLooks := .later }
def RecordBoundsUptoCardSaid : Prop := Claim7.holds Tryz.pinned (.plain (OpenSpec.upto recordBoundsSpec)) recordBoundsUptoCard

/-- THE SECOND FORM's CARD OF 'doorkeeperlaw16.RecordAll'. -/
def recordAllUptoCard : Claim7 := { stood := { row := recordAllUptoRow, standIns := [], harness := (true, "3b95960650cb81afeca6f37177dc09ea87457c7eeb1fcc7f114ba290b3ad24b5"), looks := true }, kinds := [], alts := [], laidByText := true, laidKinds := [.data, .data, .data, .data, .sentinel, .sentinel, .pinned], laidTests := true, laidLooks := .later }
def RecordAllUptoCardSaid : Prop := Claim7.holds Tryz.pinned (.plain (OpenSpec.upto recordAllSpec)) recordAllUptoCard

/-- THE SECOND FORM's CARD OF 'doorkeeperlaw16.RecordEnds'. -/
def recordEndsUptoCard : Claim7 := { stood := { row := recordEndsUptoRow, standIns := [], harness := (true, "3b95960650cb81afeca6f37177dc09ea87457c7eeb1fcc7f114ba290b3ad24b5"), looks := true }, kinds := [], alts := [], laidByText := true, laidKinds := [.data, .data, .data, .data, .sentinel, .sentinel, .pinned], laidTests := true, laidLooks := .later }
def RecordEndsUptoCardSaid : Prop := Claim7.holds Tryz.pinned (.plain (OpenSpec.upto recordEndsSpec)) recordEndsUptoCard
end Rows
end Go.Proofs.YtfcfliclmjikkaaGreatDoor
