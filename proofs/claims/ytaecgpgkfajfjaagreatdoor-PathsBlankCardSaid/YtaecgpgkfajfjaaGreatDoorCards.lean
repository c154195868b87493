/-
  DERIVED. GIVEN WITH THE SEED: THE CARDS: each row of YtaecgpgkfajfjaaGreatDoorRows.lean that lists a variable, with what it lists TIED to the program's text (the seventh form; the later family's looks); each row that meets fmt, with fmt's text TOLD by the authors' own Lean function (tested against real Go, not proved from fmt's source: count such statements apart). THE CARD IS WHAT COUNTS. Prove the row's statement (the work); the ties are given (YtaecgpgkfajfjaaGreatDoorTie.lean); close each card by the builder's one call (the guide's Derived/Test/ToyasCard.lean, 'card_holds'). Laid BY PROGRAM, IN A SANDBOX (cutbox-door.mjs). By AI agents, Wed Nov 11 2026. No macro, syntax, notation, axiom, sorry.
-/
import Derived.Test.YtaecgpgkfajfjaaGreatDoorRows
import GoSem.ClaimSeven
namespace Go.Proofs.YtaecgpgkfajfjaaGreatDoor
namespace Rows

/-- THE TIED CARD OF 'estoverslaw41.PathsChecks'. -/
def pathsChecksCard : Claim7 := { stood := { row := pathsChecksRow, standIns := [], harness := (true, "ee4c5a8e326f6ade1b0727e4a03d68726a376b9b9647bfaf8dc03d477d69889b"), looks := false }, kinds := [], alts := [], laidByText := true, laidKinds := [.data, .data, .data, .data, .pinned], laidTests := true, laidLooks := .later }
def PathsChecksCardSaid : Prop := Claim7.holds Tryz.pinned (.plain (OpenSpec.ofChange pathsChecksSpec)) pathsChecksCard

/-- THE TIED CARD OF 'estoverslaw41.PathsParses'. -/
def pathsParsesCard : Claim7 := { stood := { row := pathsParsesRow, standIns := [], harness := (true, "ee4c5a8e326f6ade1b0727e4a03d68726a376b9b9647bfaf8dc03d477d69889b"), looks := false }, kinds := [], alts := [], laidByText := true, laidKinds := [.data, .data, .data, .data, .pinned], laidTests := true, laidLooks := .later }
def PathsParsesCardSaid : Prop := Claim7.holds Tryz.pinned (.plain (OpenSpec.ofChange pathsParsesSpec)) pathsParsesCard

/-- THE TIED CARD OF 'estoverslaw41.PathsFormats'. -/
def pathsFormatsCard : Claim7 := { stood := { row := pathsFormatsRow, standIns := [], harness := (true, "ee4c5a8e326f6ade1b0727e4a03d68726a376b9b9647bfaf8dc03d477d69889b"), looks := false }, kinds := [], alts := [], laidByText := true, laidKinds := [.data, .data, .data, .data, .pinned], laidTests := true, laidLooks := .later }
def PathsFormatsCardSaid : Prop := Claim7.holds Tryz.pinned (.plain (OpenSpec.ofChange pathsFormatsSpec)) pathsFormatsCard

/-- THE TIED CARD OF 'estoverslaw41.PathsHolds'. -/
def pathsHoldsCard : Claim7 := { stood := { row := pathsHoldsRow, standIns := [], harness := (true, "ee4c5a8e326f6ade1b0727e4a03d68726a376b9b9647bfaf8dc03d477d69889b"), looks := false }, kinds := [], alts := [], laidByText := true, laidKinds := [.data, .data, .data, .data, .pinned], laidTests := true, laidLooks := .later }
def PathsHoldsCardSaid : Prop := Claim7.holds Tryz.pinned (.plain (OpenSpec.ofChange pathsHoldsSpec)) pathsHoldsCard

/-- THE TIED CARD OF 'estoverslaw41.PathsEquals'. -/
def pathsEqualsCard : Claim7 := { stood := { row := pathsEqualsRow, standIns := [], harness := (true, "ee4c5a8e326f6ade1b0727e4a03d68726a376b9b9647bfaf8dc03d477d69889b"), looks := false }, kinds := [], alts := [], laidByText := true, laidKinds := [.data, .data, .data, .data, .pinned], laidTests := true, laidLooks := .later }
def PathsEqualsCardSaid : Prop := Claim7.holds Tryz.pinned (.plain (OpenSpec.ofChange pathsEqualsSpec)) pathsEqualsCard

/-- THE TIED CARD OF 'estoverslaw41.PathsBack'. -/
def pathsBackCard : Claim7 := { stood := { row := pathsBackRow, standIns := [], harness := (true, "ee4c5a8e326f6ade1b0727e4a03d68726a376b9b9647bfaf8dc03d477d69889b"), looks := false }, kinds := [], alts := [], laidByText := true, laidKinds := [.data, .data, .data, .data, .pinned], laidTests := true, laidLooks := .later }
def PathsBackCardSaid : Prop := Claim7.holds Tryz.pinned (.plain (OpenSpec.ofChange pathsBackSpec)) pathsBackCard

/-- THE TIED CARD OF 'estoverslaw41.PathsText'. -/
def pathsTextCard : Claim7 := { stood := { row := pathsTextRow, standIns := [], harness := (true, "ee4c5a8e326f6ade1b0727e4a03d68726a376b9b9647bfaf8dc03d477d69889b"), looks := false }, kinds := [], alts := [], laidByText := true, laidKinds := [.data, .data, .data, .data, .pinned], laidTests := true, laidLooks := .later }
def PathsTextCardSaid : Prop := Claim7.holds Tryz.pinned (.plain (OpenSpec.ofChange pathsTextSpec)) pathsTextCard

/-- THE TIED CARD OF 'estoverslaw41.PathsBlank'. -/
def pathsBlankCard : Claim7 := { stood := { row := pathsBlankRow, standIns := [], harness := (true, "ee4c5a8e326f6ade1b0727e4a03d68726a376b9b9647bfaf8dc03d477d69889b"), looks := false }, kinds := [], alts := [], laidByText := true, laidKinds := [.data, .data, .data, .data, .pinned], laidTests := true, laidLooks := .later }
def PathsBlankCardSaid : Prop := Claim7.holds Tryz.pinned (.plain (OpenSpec.ofChange pathsBlankSpec)) pathsBlankCard

/-- THE TIED CARD OF 'estoverslaw41.PathsEnds'. -/
def pathsEndsCard : Claim7 := { stood := { row := pathsEndsRow, standIns := [], harness := (true, "ee4c5a8e326f6ade1b0727e4a03d68726a376b9b9647bfaf8dc03d477d69889b"), looks := false }, kinds := [], alts := [], laidByText := true, laidKinds := [.data, .data, .data, .data, .pinned], laidTests := true, laidLooks := .later }
def PathsEndsCardSaid : Prop := Claim7.holds Tryz.pinned (.plain (OpenSpec.ofChange pathsEndsSpec)) pathsEndsCard

/-- THE TIED CARD OF 'estoverslaw41.PathsKeeps'. -/
def pathsKeepsCard : Claim7 := { stood := { row := pathsKeepsRow, standIns := [], harness := (true, "ee4c5a8e326f6ade1b0727e4a03d68726a376b9b9647bfaf8dc03d477d69889b"), looks := false }, kinds := [], alts := [], laidByText := true, laidKinds := [.data, .data, .data, .data, .pinned], laidTests := true, laidLooks := .later }
def PathsKeepsCardSaid : Prop := Claim7.holds Tryz.pinned (.plain (OpenSpec.ofChange pathsKeepsSpec)) pathsKeepsCard

/-- THE SECOND FORM's CARD OF 'estoverslaw41.PathsChecks'. -/
def pathsChecksUptoCard : Claim7 := { stood := { row := pathsChecksUptoRow, standIns := [], harness := (true, "ee4c5a8e326f6ade1b0727e4a03d68726a376b9b9647bfaf8dc03d477d69889b"), looks := false }, kinds := [], alts := [], laidByText := true, laidKinds := [.data, .data, .data, .data, .pinned], laidTests := true, laidLooks := .later }
def PathsChecksUptoCardSaid : Prop := Claim7.holds Tryz.pinned (.plain (OpenSpec.upto pathsChecksSpec)) pathsChecksUptoCard

/-- THE SECOND FORM's CARD OF 'estoverslaw41.PathsParses'. -/
def pathsParsesUptoCard : Claim7 := { stood := { row := pathsParsesUptoRow, standIns := [], harness := (true, "ee4c5a8e326f6ade1b0727e4a03d68726a376b9b9647bfaf8dc03d477d69889b"), looks := false }, kinds := [], alts := [], laidByText := true, laidKinds := [.data, .data, .data, .data, .pinned], laidTests := true, laidLooks := .later }
def PathsParsesUptoCardSaid : Prop := Claim7.holds Tryz.pinned (.plain (OpenSpec.upto pathsParsesSpec)) pathsParsesUptoCard

/-- THE SECOND FORM's CARD OF 'estoverslaw41.PathsFormats'. -/
def pathsFormatsUptoCard : Claim7 := { stood := { row := pathsFormatsUptoRow, standIns := [], harness := (true, "ee4c5a8e326f6ade1b0727e4a03d68726a376b9b9647bfaf8dc03d477d69889b"), looks := false }, kinds := [], alts := [], laidByText := true, laidKinds := [.data, .data, .data, .data, .pinned], laidTests := true, laidLooks := .later }
def PathsFormatsUptoCardSaid : Prop := Claim7.holds Tryz.pinned (.plain (OpenSpec.upto pathsFormatsSpec)) pathsFormatsUptoCard

/-- THE SECOND FORM's CARD OF 'estoverslaw41.PathsHolds'. -/
def pathsHoldsUptoCard : Claim7 := { stood := { row := pathsHoldsUptoRow, standIns := [], harness := (true, "ee4c5a8e326f6ade1b0727e4a03d68726a376b9b9647bfaf8dc03d477d69889b"), looks := false }, kinds := [], alts := [], laidByText := true, laidKinds := [.data, .data, .data, .data, .pinned], laidTests := true, laidLooks := .later }
def PathsHoldsUptoCardSaid : Prop := Claim7.holds Tryz.pinned (.plain (OpenSpec.upto pathsHoldsSpec)) pathsHoldsUptoCard

/-- THE SECOND FORM's CARD OF 'estoverslaw41.PathsEquals'. -/
def pathsEqualsUptoCard : Claim7 := { stood := { row := pathsEqualsUptoRow, standIns := [], harness := (true, "ee4c5a8e326f6ade1b0727e4a03d68726a376b9b9647bfaf8dc03d477d69889b"), looks := false }, kinds := [], alts := [], laidByText := true, laidKinds := [.data, .data, .data, .data, .pinned], laidTests := true, laidLooks := .later }
def PathsEqualsUptoCardSaid : Prop := Claim7.holds Tryz.pinned (.plain (OpenSpec.upto pathsEqualsSpec)) pathsEqualsUptoCard

/-- THE SECOND FORM's CARD OF 'estoverslaw41.PathsBack'. -/
def pathsBackUptoCard : Claim7 := { stood := { row := pathsBackUptoRow, standIns := [], harness := (true, "ee4c5a8e326f6ade1b0727e4a03d68726a376b9b9647bfaf8dc03d477d69889b"), looks := false }, kinds := [], alts := [], laidByText := true, laidKinds := [.data, .data, .data, .data, .pinned], laidTests := true, laidLooks := .later }
def PathsBackUptoCardSaid : Prop := Claim7.holds Tryz.pinned (.plain (OpenSpec.upto pathsBackSpec)) pathsBackUptoCard

/-- THE SECOND FORM's CARD OF 'estoverslaw41.PathsText'. -/
def pathsTextUptoCard : Claim7 := { stood := { row := pathsTextUptoRow, standIns := [], harness := (true, "ee4c5a8e326f6ade1b0727e4a03d68726a376b9b9647bfaf8dc03d477d69889b"), looks := false }, kinds := [], alts := [], laidByText := true, laidKinds := [.data, .data, .data, .data, .pinned], laidTests := true, laidLooks := .later }
def PathsTextUptoCardSaid : Prop := Claim7.holds Tryz.pinned (.plain (OpenSpec.upto pathsTextSpec)) pathsTextUptoCard

/-- THE SECOND FORM's CARD OF 'estoverslaw41.PathsBlank'. -/
def pathsBlankUptoCard : Claim7 := { stood := { row := pathsBlankUptoRow, standIns := [], harness := (true, "ee4c5a8e326f6ade1b0727e4a03d68726a376b9b9647bfaf8dc03d477d69889b"), looks := false }, kinds := [], alts := [], laidByText := true, laidKinds := [.data, .data, .data, .data, .pinned], laidTests := true, laidLooks := .later }
def PathsBlankUptoCardSaid : Prop := Claim7.holds Tryz.pinned (.plain (OpenSpec.upto pathsBlankSpec)) pathsBlankUptoCard

/-- THE SECOND FORM's CARD OF 'estoverslaw41.PathsEnds'. -/
def pathsEndsUptoCard : Claim7 := { stood := { row := pathsEndsUptoRow, standIns := [], harness := (true, "ee4c5a8e326f6ade1b0727e4a03d68726a376b9b9647bfaf8dc03d477d69889b"), looks := false }, kinds := [], alts := [], laidByText := true, laidKinds := [.data, .data, .data, .data, .pinned], laidTests := true, laidLooks := .later }
def PathsEndsUptoCardSaid : Prop := Claim7.holds Tryz.pinned (.plain (OpenSpec.upto pathsEndsSpec)) pathsEndsUptoCard

/-- THE SECOND FORM's CARD OF 'estoverslaw41.PathsKeeps'. -/
def pathsKeepsUptoCard : Claim7 := { stood := { row := pathsKeepsUptoRow, standIns := [], harness := (true, "ee4c5a8e326f6ade1b0727e4a03d68726a376b9b9647bfaf8dc03d477d69889b"), looks := false }, kinds := [], alts := [], laidByText := true, laidKinds := [.data, .data, .data, .data, .pinned], laidTests := true, laidLooks := .later }
def PathsKeepsUptoCardSaid : Prop := Claim7.holds Tryz.pinned (.plain (OpenSpec.upto pathsKeepsSpec)) pathsKeepsUptoCard
end Rows
end Go.Proofs.YtaecgpgkfajfjaaGreatDoor
