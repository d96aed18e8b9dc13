/-
  DERIVED. GIVEN WITH THE SEED: THE CARDS: each row of YtepcagakegbjfaaDoorRows.lean that lists a variable, with what it lists TIED to the program's text (the seventh form; the later family's looks); each row that meets fmt, with fmt's text TOLD by the authors' own Lean function (tested against real Go, not proved from fmt's source: count such statements apart). THE CARD IS WHAT COUNTS. Prove the row's statement (the work); the ties are given (YtepcagakegbjfaaDoorTie.lean); close each card by the builder's one call (the guide's Derived/Test/ToyasCard.lean, 'card_holds'). Laid BY PROGRAM, IN A SANDBOX (cutbox-door.mjs). By AI agents, Wed Nov 11 2026. No macro, syntax, notation, axiom, sorry.
-/
import Derived.Test.YtepcagakegbjfaaDoorRows
import GoSem.ClaimSeven
namespace Go.Proofs.YtepcagakegbjfaaDoor
namespace Rows

/-- THE TIED CARD OF 'doorkeeperlaw22.JournalHas'. -/
def journalHasCard : Claim7 := { stood := { row := journalHasRow, standIns := [], harness := (true, "da1c6e6e57c94f45f9efa7391f33bfb80085fc88f3d189c72144fcdf8e4489a7"), looks := true }, kinds := [], alts := [], laidByText := true, laidKinds := [.data, .data, .data, .data, .sentinel, .sentinel, .pinned], laidTests := true, laidLooks := .later }
def JournalHasCardSaid : Prop := Claim7.holds Tryd.pinned (.plain (OpenSpec.ofChange journalHasSpec)) journalHasCard

/-- THE TIED CARD OF 'doorkeeperlaw22.JournalRefuses'. -/
def journalRefusesCard : Claim7 := { stood := { row := journalRefusesRow, standIns := [], harness := (true, "da1c6e6e57c94f45f9efa7391f33bfb80085fc88f3d189c72144fcdf8e4489a7"), looks := true }, kinds := [], alts := [], laidByText := true, laidKinds := [.data, .data, .data, .data, .sentinel, .sentinel, .pinned], laidTests := true, laidLooks := .later }
def JournalRefusesCardSaid : Prop := Claim7.holds Tryd.pinned (.plain (OpenSpec.ofChange journalRefusesSpec)) journalRefusesCard

/-- THE TIED CARD OF 'doorkeeperlaw22.JournalNil'. -/
def journalNilCard : Claim7 := { stood := { row := journalNilRow, standIns := [], harness := (true, "da1c6e6e57c94f45f9efa7391f33bfb80085fc88f3d189c72144fcdf8e4489a7"), looks := true }, kinds := [], alts := [], laidByText := true, laidKinds := [.data, .data, .data, .data, .sentinel, .sentinel, .pinned], laidTests := true, laidLooks := .later }
def JournalNilCardSaid : Prop := Claim7.holds Tryd.pinned (.plain (OpenSpec.ofChange journalNilSpec)) journalNilCard

/-- THE TIED CARD OF 'doorkeeperlaw22.JournalMany'. -/
def journalManyCard : Claim7 := { stood := { row := journalManyRow, standIns := [], harness := (true, "da1c6e6e57c94f45f9efa7391f33bfb80085fc88f3d189c72144fcdf8e4489a7"), looks := true }, kinds := [], alts := [], laidByText := true, laidKinds := [.data, .data, .data, .data, .sentinel, .sentinel, .pinned], laidTests := true, laidLooks := .later }
def JournalManyCardSaid : Prop := Claim7.holds Tryd.pinned (.plain (OpenSpec.ofChange journalManySpec)) journalManyCard

/-- THE TIED CARD OF 'doorkeeperlaw22.JournalFull'. -/
def journalFullCard : Claim7 := { stood := { row := journalFullRow, standIns := [], harness := (true, "da1c6e6e57c94f45f9efa7391f33bfb80085fc88f3d189c72144fcdf8e4489a7"), looks := true }, kinds := [], alts := [], laidByText := true, laidKinds := [.data, .data, .data, .data, .sentinel, .sentinel, .pinned], laidTests := true, laidLooks := .later }
def JournalFullCardSaid : Prop := Claim7.holds Tryd.pinned (.plain (OpenSpec.ofChange journalFullSpec)) journalFullCard

/-- THE TIED CARD OF 'doorkeeperlaw22.JournalFalls'. -/
def journalFallsCard : Claim7 := { stood := { row := journalFallsRow, standIns := [], harness := (true, "da1c6e6e57c94f45f9efa7391f33bfb80085fc88f3d189c72144fcdf8e4489a7"), looks := true }, kinds := [], alts := [], laidByText := true, laidKinds := [.data, .data, .data, .data, .sentinel, .sentinel, .pinned], laidTests := true, laidLooks := .later }
def JournalFallsCardSaid : Prop := Claim7.holds Tryd.pinned (.plain (OpenSpec.ofChange journalFallsSpec)) journalFallsCard

/-- THE TIED CARD OF 'doorkeeperlaw22.JournalTorn'. -/
def journalTornCard : Claim7 := { stood := { row := journalTornRow, standIns := [], harness := (true, "da1c6e6e57c94f45f9efa7391f33bfb80085fc88f3d189c72144fcdf8e4489a7"), looks := true }, kinds := [], alts := [], laidByText := true, laidKinds := [.data, .data, .data, .data, .sentinel, .sentinel, .pinned], laidTests := true, laidLooks := .later }
def JournalTornCardSaid : Prop := Claim7.holds Tryd.pinned (.plain (OpenSpec.ofChange journalTornSpec)) journalTornCard

/-- THE SECOND FORM's CARD OF 'doorkeeperlaw22.JournalHas'. -/
def journalHasUptoCard : Claim7 := { stood := { row := journalHasUptoRow, standIns := [], harness := (true, "da1c6e6e57c94f45f9efa7391f33bfb80085fc88f3d189c72144fcdf8e4489a7"), looks := true }, kinds := [], alts := [], laidByText := true, laidKinds := [.data, .data, .data, .data, .sentinel, .sentinel, .pinned], laidTests := true, laidLooks := .later }
def JournalHasUptoCardSaid : Prop := Claim7.holds Tryd.pinned (.plain (OpenSpec.upto journalHasSpec)) journalHasUptoCard

/-- THE SECOND FORM's CARD OF 'doorkeeperlaw22.JournalRefuses'. -/
def journalRefusesUptoCard : Claim7 := { stood := { row := journalRefusesUptoRow, standIns := [], harness := (true, "da1c6e6e57c94f45f9efa7391f33bfb80085fc88f3d189c72144fcdf8e4489a7"), looks := true }, kinds := [], alts := [], laidByText := true, laidKinds := [.data, .data, .data, .data, .sentinel, .sentinel, .pinned], laidTests := true, laidLooks := .later }
def JournalRefusesUptoCardSaid : Prop := Claim7.holds Tryd.pinned (.plain (OpenSpec.upto journalRefusesSpec)) journalRefusesUptoCard

/-- THE SECOND FORM's CARD OF 'doorkeeperlaw22.JournalNil'. -/
def journalNilUptoCard : Claim7 := { stood := { row := journalNilUptoRow, standIns := [], harness := (true, "da1c6e6e57c94f45f9efa7391f33bfb80085fc88f3d189c72144fcdf8e4489a7"), looks := true }, kinds := [], alts := [], laidByText := true, laidKinds := [.data, .data, .data, .data, .sentinel, .sentinel, .pinned], laidTests := true, laidLooks := .later }
def JournalNilUptoCardSaid : Prop := Claim7.holds Tryd.pinned (.plain (OpenSpec.upto journalNilSpec)) journalNilUptoCard

/-- THE SECOND FORM's CARD OF 'doorkeeperlaw22.JournalMany'. -/
def journalManyUptoCard : Claim7 := { stood := { row := journalManyUptoRow, standIns := [], harness := (true, "da1c6e6e57c94f45f9efa7391f33bfb80085fc88f3d189c72144fcdf8e4489a7"), looks := true }, kinds := [], alts := [], laidByText := true, laidKinds := [.data, .data, .data, .data, .sentinel, .sentinel, .pinned], laidTests := true, laidLooks := .later }
def JournalManyUptoCardSaid : Prop := Claim7.holds Tryd.pinned (.plain (OpenSpec.upto journalManySpec)) journalManyUptoCard

/-- THE SECOND FORM's CARD OF 'doorkeeperlaw22.JournalFull'. -/
def journalFullUptoCard : Claim7 := { stood := { row := journalFullUptoRow, standIns := [], harness := (true, "da1c6e6e57c94f45f9efa7391f33bfb80085fc88f3d189c72144fcdf8e4489a7"), looks := true }, kinds := [], alts := [], laidByText := true, laidKinds := [.data, .data, .data, .data, .sentinel, .sentinel, .pinned], laidTests := true, laidLooks := .later }
def JournalFullUptoCardSaid : Prop := Claim7.holds Tryd.pinned (.plain (OpenSpec.upto journalFullSpec)) journalFullUptoCard

/-- THE SECOND FORM's CARD OF 'doorkeeperlaw22.JournalFalls'. -/
def journalFallsUptoCard : Claim7 := { stood := { row := journalFallsUptoRow, standIns := [], harness := (true, "da1c6e6e57c94f45f9efa7391f33bfb80085fc88f3d189c72144fcdf8e4489a7"), looks := true }, kinds := [], alts := [], laidByText := true, laidKinds := [.data, .data, .data, .data, .sentinel, .sentinel, .pinned], laidTests := true, laidLooks := .later }
def JournalFallsUptoCardSaid : Prop := Claim7.holds Tryd.pinned (.plain (OpenSpec.upto journalFallsSpec)) journalFallsUptoCard

/-- THE SECOND FORM's CARD OF 'doorkeeperlaw22.JournalTorn'. -/
def journalTornUptoCard : Claim7 := { stood := { row := journalTornUptoRow, standIns := [], harness := (true, "da1c6e6e57c94f45f9efa7391f33bfb80085fc88f3d189c72144fcdf8e4489a7"), looks := true }, kinds := [], alts := [], laidByText := true, laidKinds := [.data, .data, .data, .data, .sentinel, .sentinel, .pinned], laidTests := true, laidLooks := .later }
def JournalTornUptoCardSaid : Prop := Claim7.holds Tryd.pinned (.plain (OpenSpec.upto journalTornSpec)) journalTornUptoCard
end Rows
end Go.Proofs.YtepcagakegbjfaaDoor
