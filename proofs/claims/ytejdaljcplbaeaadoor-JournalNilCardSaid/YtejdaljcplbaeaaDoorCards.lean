/-
  DERIVED. GIVEN WITH THE SEED: THE CARDS: each row of YtejdaljcplbaeaaDoorRows.lean that lists a variable, with what it lists TIED to the program's text (the seventh form; the later family's looks); each row that meets fmt, with fmt's text TOLD by the authors' own Lean function (tested against real Go, not proved from fmt's source: count such statements apart). THE CARD IS WHAT COUNTS. Prove the row's statement (the work); the ties are given (YtejdaljcplbaeaaDoorTie.lean); close each card by the builder's one call (the guide's Derived/Test/ToyasCard.lean, 'card_holds'). Laid BY PROGRAM, IN A SANDBOX (cutbox-door.mjs). By AI agents, Wed Nov 11 2026. No macro, syntax, notation, axiom, sorry.
-/
import Derived.Test.YtejdaljcplbaeaaDoorRows
import GoSem.ClaimSeven
namespace Go.Proofs.YtejdaljcplbaeaaDoor
namespace Rows

/-- THE TIED CARD OF 'doorkeeperlaw22.JournalNil'. -/
def journalNilCard : Claim7 := { stood := { row := journalNilRow, standIns := [], harness := (true, "6c96db1312d19574069a208dfc669299c008fbac75e9ce49e15930cf95b24770"), looks := true }, kinds := [], alts := [], laidByText := true, laidKinds := [.data, .data, .data, .data, .sentinel, .sentinel, .pinned], laidTests := true, laidLooks := .later }
def JournalNilCardSaid : Prop := Claim7.holds Tryd.pinned (.plain (OpenSpec.ofChange journalNilSpec)) journalNilCard

/-- THE TIED CARD OF 'doorkeeperlaw22.JournalMany'. -/
def journalManyCard : Claim7 := { stood := { row := journalManyRow, standIns := [], harness := (true, "6c96db1312d19574069a208dfc669299c008fbac75e9ce49e15930cf95b24770"), looks := true }, kinds := [], alts := [], laidByText := true, laidKinds := [.data, .data, .data, .data, .sentinel, .sentinel, .pinned], laidTests := true, laidLooks := .later }
def JournalManyCardSaid : Prop := Claim7.holds Tryd.pinned (.plain (OpenSpec.ofChange journalManySpec)) journalManyCard

/-- THE TIED CARD OF 'doorkeeperlaw9.LintAny'. -/
def lintAnyCard : Claim7 := { stood := { row := lintAnyRow, standIns := [], harness := (true, "6c96db1312d19574069a208dfc669299c008fbac75e9ce49e15930cf95b24770"), looks := true }, kinds := [], alts := [], laidByText := true, laidKinds := [.data, .pinned], laidTests := true, laidLooks := .later }
def LintAnyCardSaid : Prop := Claim7.holds Tryd.pinned (.plain (OpenSpec.ofChange lintAnySpec)) lintAnyCard

/-- THE SECOND FORM's CARD OF 'doorkeeperlaw22.JournalNil'. -/
def journalNilUptoCard : Claim7 := { stood := { row := journalNilUptoRow, standIns := [], harness := (true, "6c96db1312d19574069a208dfc669299c008fbac75e9ce49e15930cf95b24770"), looks := true }, kinds := [], alts := [], laidByText := true, laidKinds := [.data, .data, .data, .data, .sentinel, .sentinel, .pinned], laidTests := true, laidLooks := .later }
def JournalNilUptoCardSaid : Prop := Claim7.holds Tryd.pinned (.plain (OpenSpec.upto journalNilSpec)) journalNilUptoCard

/-- THE SECOND FORM's CARD OF 'doorkeeperlaw22.JournalMany'. -/
def journalManyUptoCard : Claim7 := { stood := { row := journalManyUptoRow, standIns := [], harness := (true, "6c96db1312d19574069a208dfc669299c008fbac75e9ce49e15930cf95b24770"), looks := true }, kinds := [], alts := [], laidByText := true, laidKinds := [.data, .data, .data, .data, .sentinel, .sentinel, .pinned], laidTests := true, laidLooks := .later }
def JournalManyUptoCardSaid : Prop := Claim7.holds Tryd.pinned (.plain (OpenSpec.upto journalManySpec)) journalManyUptoCard

/-- THE SECOND FORM's CARD OF 'doorkeeperlaw9.LintAny'. -/
def lintAnyUptoCard : Claim7 := { stood := { row := lintAnyUptoRow, standIns := [], harness := (true, "6c96db1312d19574069a208dfc669299c008fbac75e9ce49e15930cf95b24770"), looks := true }, kinds := [], alts := [], laidByText := true, laidKinds := [.data, .pinned], laidTests := true, laidLooks := .later }
def LintAnyUptoCardSaid : Prop := Claim7.holds Tryd.pinned (.plain (OpenSpec.upto lintAnySpec)) lintAnyUptoCard
end Rows
end Go.Proofs.YtejdaljcplbaeaaDoor
