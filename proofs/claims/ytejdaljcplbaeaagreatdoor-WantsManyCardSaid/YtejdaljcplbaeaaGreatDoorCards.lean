/-
  DERIVED. GIVEN WITH THE SEED: THE CARDS: each row of YtejdaljcplbaeaaGreatDoorRows.lean that lists a variable, with what it lists TIED to the program's text (the seventh form; the later family's looks); each row that meets fmt, with fmt's text TOLD by the authors' own Lean function (tested against real Go, not proved from fmt's source: count such statements apart). THE CARD IS WHAT COUNTS. Prove the row's statement (the work); the ties are given (YtejdaljcplbaeaaGreatDoorTie.lean); close each card by the builder's one call (the guide's Derived/Test/ToyasCard.lean, 'card_holds'). Laid BY PROGRAM, IN A SANDBOX (cutbox-door.mjs). By AI agents, Wed Nov 11 2026. No macro, syntax, notation, axiom, sorry.
-/
import Derived.Test.YtejdaljcplbaeaaGreatDoorRows
import GoSem.ClaimSeven
namespace Go.Proofs.YtejdaljcplbaeaaGreatDoor
namespace Rows

/-- THE TIED CARD OF 'doorkeeperlaw7.EvalLocals'. -/
def evalLocalsCard : Claim7 := { stood := { row := evalLocalsRow, standIns := [], harness := (true, "c43a4a63cccfde9aa55a52169d98ee04ea8cac164678b132805425baff45603b"), looks := false }, kinds := [], alts := [], laidByText := true, laidKinds := [.data, .data, .data], laidTests := true, laidLooks := .later }
def EvalLocalsCardSaid : Prop := Claim7.holds Tryz.pinned (.plain (OpenSpec.ofChange evalLocalsSpec)) evalLocalsCard

/-- THE TIED CARD OF 'doorkeeperlaw8.WantsCount'. -/
def wantsCountCard : Claim7 := { stood := { row := wantsCountRow, standIns := [], harness := (true, "c43a4a63cccfde9aa55a52169d98ee04ea8cac164678b132805425baff45603b"), looks := false }, kinds := [], alts := [], laidByText := true, laidKinds := [.data, .data, .data, .data, .pinned], laidTests := true, laidLooks := .later }
def WantsCountCardSaid : Prop := Claim7.holds Tryz.pinned (.plain (OpenSpec.ofChange wantsCountSpec)) wantsCountCard

/-- THE TIED CARD OF 'doorkeeperlaw8.WantsModules'. -/
def wantsModulesCard : Claim7 := { stood := { row := wantsModulesRow, standIns := [], harness := (true, "c43a4a63cccfde9aa55a52169d98ee04ea8cac164678b132805425baff45603b"), looks := false }, kinds := [], alts := [], laidByText := true, laidKinds := [.data, .data, .data, .data, .pinned], laidTests := true, laidLooks := .later }
def WantsModulesCardSaid : Prop := Claim7.holds Tryz.pinned (.plain (OpenSpec.ofChange wantsModulesSpec)) wantsModulesCard

/-- THE TIED CARD OF 'doorkeeperlaw8.WantsInputs'. -/
def wantsInputsCard : Claim7 := { stood := { row := wantsInputsRow, standIns := [], harness := (true, "c43a4a63cccfde9aa55a52169d98ee04ea8cac164678b132805425baff45603b"), looks := false }, kinds := [], alts := [], laidByText := true, laidKinds := [.data, .data, .data, .data, .pinned], laidTests := true, laidLooks := .later }
def WantsInputsCardSaid : Prop := Claim7.holds Tryz.pinned (.plain (OpenSpec.ofChange wantsInputsSpec)) wantsInputsCard

/-- THE TIED CARD OF 'doorkeeperlaw8.WantsCircle'. -/
def wantsCircleCard : Claim7 := { stood := { row := wantsCircleRow, standIns := [], harness := (true, "c43a4a63cccfde9aa55a52169d98ee04ea8cac164678b132805425baff45603b"), looks := false }, kinds := [], alts := [], laidByText := true, laidKinds := [.data, .data, .data, .data, .pinned], laidTests := true, laidLooks := .later }
def WantsCircleCardSaid : Prop := Claim7.holds Tryz.pinned (.plain (OpenSpec.ofChange wantsCircleSpec)) wantsCircleCard

/-- THE TIED CARD OF 'doorkeeperlaw8.WantsMany'. -/
def wantsManyCard : Claim7 := { stood := { row := wantsManyRow, standIns := [], harness := (true, "c43a4a63cccfde9aa55a52169d98ee04ea8cac164678b132805425baff45603b"), looks := false }, kinds := [], alts := [], laidByText := true, laidKinds := [.data, .data, .data, .data, .pinned], laidTests := true, laidLooks := .later }
def WantsManyCardSaid : Prop := Claim7.holds Tryz.pinned (.plain (OpenSpec.ofChange wantsManySpec)) wantsManyCard

/-- THE TIED CARD OF 'doorkeeperlaw8.WantsTypes'. -/
def wantsTypesCard : Claim7 := { stood := { row := wantsTypesRow, standIns := [], harness := (true, "c43a4a63cccfde9aa55a52169d98ee04ea8cac164678b132805425baff45603b"), looks := false }, kinds := [], alts := [], laidByText := true, laidKinds := [.data, .data, .data, .data, .pinned], laidTests := true, laidLooks := .later }
def WantsTypesCardSaid : Prop := Claim7.holds Tryz.pinned (.plain (OpenSpec.ofChange wantsTypesSpec)) wantsTypesCard

/-- THE SECOND FORM's CARD OF 'doorkeeperlaw7.EvalLocals'. -/
def evalLocalsUptoCard : Claim7 := { stood := { row := evalLocalsUptoRow, standIns := [], harness := (true, "c43a4a63cccfde9aa55a52169d98ee04ea8cac164678b132805425baff45603b"), looks := false }, kinds := [], alts := [], laidByText := true, laidKinds := [.data, .data, .data], laidTests := true, laidLooks := .later }
def EvalLocalsUptoCardSaid : Prop := Claim7.holds Tryz.pinned (.plain (OpenSpec.upto evalLocalsSpec)) evalLocalsUptoCard

/-- THE SECOND FORM's CARD OF 'doorkeeperlaw8.WantsCount'. -/
def wantsCountUptoCard : Claim7 := { stood := { row := wantsCountUptoRow, standIns := [], harness := (true, "c43a4a63cccfde9aa55a52169d98ee04ea8cac164678b132805425baff45603b"), looks := false }, kinds := [], alts := [], laidByText := true, laidKinds := [.data, .data, .data, .data, .pinned], laidTests := true, laidLooks := .later }
def WantsCountUptoCardSaid : Prop := Claim7.holds Tryz.pinned (.plain (OpenSpec.upto wantsCountSpec)) wantsCountUptoCard

/-- THE SECOND FORM's CARD OF 'doorkeeperlaw8.WantsModules'. -/
def wantsModulesUptoCard : Claim7 := { stood := { row := wantsModulesUptoRow, standIns := [], harness := (true, "c43a4a63cccfde9aa55a52169d98ee04ea8cac164678b132805425baff45603b"), looks := false }, kinds := [], alts := [], laidByText := true, laidKinds := [.data, .data, .data, .data, .pinned], laidTests := true, laidLooks := .later }
def WantsModulesUptoCardSaid : Prop := Claim7.holds Tryz.pinned (.plain (OpenSpec.upto wantsModulesSpec)) wantsModulesUptoCard

/-- THE SECOND FORM's CARD OF 'doorkeeperlaw8.WantsInputs'. -/
def wantsInputsUptoCard : Claim7 := { stood := { row := wantsInputsUptoRow, standIns := [], harness := (true, "c43a4a63cccfde9aa55a52169d98ee04ea8cac164678b132805425baff45603b"), looks := false }, kinds := [], alts := [], laidByText := true, laidKinds := [.data, .data, .data, .data, .pinned], laidTests := true, laidLooks := .later }
def WantsInputsUptoCardSaid : Prop := Claim7.holds Tryz.pinned (.plain (OpenSpec.upto wantsInputsSpec)) wantsInputsUptoCard

/-- THE SECOND FORM's CARD OF 'doorkeeperlaw8.WantsCircle'. -/
def wantsCircleUptoCard : Claim7 := { stood := { row := wantsCircleUptoRow, standIns := [], harness := (true, "c43a4a63cccfde9aa55a52169d98ee04ea8cac164678b132805425baff45603b"), looks := false }, kinds := [], alts := [], laidByText := true, laidKinds := [.data, .data, .data, .data, .pinned], laidTests := true, laidLooks := .later }
def WantsCircleUptoCardSaid : Prop := Claim7.holds Tryz.pinned (.plain (OpenSpec.upto wantsCircleSpec)) wantsCircleUptoCard

/-- THE SECOND FORM's CARD OF 'doorkeeperlaw8.WantsMany'. -/
def wantsManyUptoCard : Claim7 := { stood := { row := wantsManyUptoRow, standIns := [], harness := (true, "c43a4a63cccfde9aa55a52169d98ee04ea8cac164678b132805425baff45603b"), looks := false }, kinds := [], alts := [], laidByText := true, laidKinds := [.data, .data, .data, .data, .pinned], laidTests := true, laidLooks := .later }
def WantsManyUptoCardSaid : Prop := Claim7.holds Tryz.pinned (.plain (OpenSpec.upto wantsManySpec)) wantsManyUptoCard

/-- THE SECOND FORM's CARD OF 'doorkeeperlaw8.WantsTypes'. -/
def wantsTypesUptoCard : Claim7 := { stood := { row := wantsTypesUptoRow, standIns := [], harness := (true, "c43a4a63cccfde9aa55a52169d98ee04ea8cac164678b132805425baff45603b"), looks := false }, kinds := [], alts := [], laidByText := true, laidKinds := [.data, .data, .data, .data, .pinned], laidTests := true, laidLooks := .later }
def WantsTypesUptoCardSaid : Prop := Claim7.holds Tryz.pinned (.plain (OpenSpec.upto wantsTypesSpec)) wantsTypesUptoCard
end Rows
end Go.Proofs.YtejdaljcplbaeaaGreatDoor
