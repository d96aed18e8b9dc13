/-
  DERIVED. GIVEN WITH THE SEED: THE CARDS: each row of YteopodohghnokaaGreatDoorRows.lean that lists a variable, with what it lists TIED to the program's text (the seventh form; the later family's looks); each row that meets fmt, with fmt's text TOLD by the authors' own Lean function (tested against real Go, not proved from fmt's source: count such statements apart). THE CARD IS WHAT COUNTS. Prove the row's statement (the work); the ties are given (YteopodohghnokaaGreatDoorTie.lean); close each card by the builder's one call (the guide's Derived/Test/ToyasCard.lean, 'card_holds'). Laid BY PROGRAM, IN A SANDBOX (cutbox-door.mjs). By AI agents, Wed Nov 11 2026. No macro, syntax, notation, axiom, sorry.
-/
import Derived.Test.YteopodohghnokaaGreatDoorRows
import GoSem.ClaimSeven
namespace Go.Proofs.YteopodohghnokaaGreatDoor
namespace Rows

/-- THE TIED CARD OF 'doorkeeperlaw7.EvalLazy'. -/
def evalLazyCard : Claim7 := { stood := { row := evalLazyRow, standIns := [], harness := (true, "07da784ece4176510f1108d05bbc97de23664ffff6e9e5785596ae6a9f0a6673"), looks := false }, kinds := [], alts := [], laidByText := true, laidKinds := [.data, .data, .data], laidTests := true, laidLooks := .later }
def EvalLazyCardSaid : Prop := Claim7.holds Tryz.pinned (.plain (OpenSpec.ofChange evalLazySpec)) evalLazyCard

/-- THE TIED CARD OF 'doorkeeperlaw7.EvalBinds'. -/
def evalBindsCard : Claim7 := { stood := { row := evalBindsRow, standIns := [], harness := (true, "07da784ece4176510f1108d05bbc97de23664ffff6e9e5785596ae6a9f0a6673"), looks := false }, kinds := [], alts := [], laidByText := true, laidKinds := [.data, .data, .data], laidTests := true, laidLooks := .later }
def EvalBindsCardSaid : Prop := Claim7.holds Tryz.pinned (.plain (OpenSpec.ofChange evalBindsSpec)) evalBindsCard

/-- THE TIED CARD OF 'doorkeeperlaw7.EvalTexts'. -/
def evalTextsCard : Claim7 := { stood := { row := evalTextsRow, standIns := [], harness := (true, "07da784ece4176510f1108d05bbc97de23664ffff6e9e5785596ae6a9f0a6673"), looks := false }, kinds := [], alts := [], laidByText := true, laidKinds := [.data, .data, .data], laidTests := true, laidLooks := .later }
def EvalTextsCardSaid : Prop := Claim7.holds Tryz.pinned (.plain (OpenSpec.ofChange evalTextsSpec)) evalTextsCard

/-- THE TIED CARD OF 'doorkeeperlaw7.EvalMade'. -/
def evalMadeCard : Claim7 := { stood := { row := evalMadeRow, standIns := [], harness := (true, "07da784ece4176510f1108d05bbc97de23664ffff6e9e5785596ae6a9f0a6673"), looks := false }, kinds := [], alts := [], laidByText := true, laidKinds := [.data, .data, .data], laidTests := true, laidLooks := .later }
def EvalMadeCardSaid : Prop := Claim7.holds Tryz.pinned (.plain (OpenSpec.ofChange evalMadeSpec)) evalMadeCard

/-- THE SECOND FORM's CARD OF 'doorkeeperlaw7.EvalLazy'. -/
def evalLazyUptoCard : Claim7 := { stood := { row := evalLazyUptoRow, standIns := [], harness := (true, "07da784ece4176510f1108d05bbc97de23664ffff6e9e5785596ae6a9f0a6673"), looks := false }, kinds := [], alts := [], laidByText := true, laidKinds := [.data, .data, .data], laidTests := true, laidLooks := .later }
def EvalLazyUptoCardSaid : Prop := Claim7.holds Tryz.pinned (.plain (OpenSpec.upto evalLazySpec)) evalLazyUptoCard

/-- THE SECOND FORM's CARD OF 'doorkeeperlaw7.EvalBinds'. -/
def evalBindsUptoCard : Claim7 := { stood := { row := evalBindsUptoRow, standIns := [], harness := (true, "07da784ece4176510f1108d05bbc97de23664ffff6e9e5785596ae6a9f0a6673"), looks := false }, kinds := [], alts := [], laidByText := true, laidKinds := [.data, .data, .data], laidTests := true, laidLooks := .later }
def EvalBindsUptoCardSaid : Prop := Claim7.holds Tryz.pinned (.plain (OpenSpec.upto evalBindsSpec)) evalBindsUptoCard

/-- THE SECOND FORM's CARD OF 'doorkeeperlaw7.EvalTexts'. -/
def evalTextsUptoCard : Claim7 := { stood := { row := evalTextsUptoRow, standIns := [], harness := (true, "07da784ece4176510f1108d05bbc97de23664ffff6e9e5785596ae6a9f0a6673"), looks := false }, kinds := [], alts := [], laidByText := true, laidKinds := [.data, .data, .data], laidTests := true, laidLooks := .later }
def EvalTextsUptoCardSaid : Prop := Claim7.holds Tryz.pinned (.plain (OpenSpec.upto evalTextsSpec)) evalTextsUptoCard

/-- THE SECOND FORM's CARD OF 'doorkeeperlaw7.EvalMade'. -/
def evalMadeUptoCard : Claim7 := { stood := { row := evalMadeUptoRow, standIns := [], harness := (true, "07da784ece4176510f1108d05bbc97de23664ffff6e9e5785596ae6a9f0a6673"), looks := false }, kinds := [], alts := [], laidByText := true, laidKinds := [.data, .data, .data], laidTests := true, laidLooks := .later }
def EvalMadeUptoCardSaid : Prop := Claim7.holds Tryz.pinned (.plain (OpenSpec.upto evalMadeSpec)) evalMadeUptoCard
end Rows
end Go.Proofs.YteopodohghnokaaGreatDoor
