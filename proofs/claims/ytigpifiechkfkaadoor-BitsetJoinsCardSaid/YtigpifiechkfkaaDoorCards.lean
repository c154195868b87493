/-
  DERIVED. GIVEN WITH THE SEED: THE CARDS: each row of YtigpifiechkfkaaDoorRows.lean that lists a variable, with what it lists TIED to the program's text (the seventh form; the later family's looks); each row that meets fmt, with fmt's text TOLD by the authors' own Lean function (tested against real Go, not proved from fmt's source: count such statements apart). THE CARD IS WHAT COUNTS. Prove the row's statement (the work); the ties are given (YtigpifiechkfkaaDoorTie.lean); close each card by the builder's one call (the guide's Derived/Test/ToyasCard.lean, 'card_holds'). Laid BY PROGRAM, IN A SANDBOX (cutbox-door.mjs). By AI agents, Wed Nov 11 2026. No macro, syntax, notation, axiom, sorry.
-/
import Derived.Test.YtigpifiechkfkaaDoorRows
import GoSem.ClaimSeven
namespace Go.Proofs.YtigpifiechkfkaaDoor
namespace Rows

/-- THE TIED CARD OF 'estoverslaw01.BitsetChecks'. -/
def bitsetChecksCard : Claim7 := { stood := { row := bitsetChecksRow, standIns := [], harness := (true, "891f1ce135852dfe333b1dc95d781bd321c36d814566a7b3cde446406ec796be"), looks := false }, kinds := [], alts := [], laidByText := true, laidKinds := [.data], laidTests := true, laidLooks := .later }
def BitsetChecksCardSaid : Prop := Claim7.holds Tryd.pinned (.plain (OpenSpec.ofChange bitsetChecksSpec)) bitsetChecksCard

/-- THE TIED CARD OF 'estoverslaw01.BitsetSets'. -/
def bitsetSetsCard : Claim7 := { stood := { row := bitsetSetsRow, standIns := [], harness := (true, "891f1ce135852dfe333b1dc95d781bd321c36d814566a7b3cde446406ec796be"), looks := false }, kinds := [], alts := [], laidByText := true, laidKinds := [.data], laidTests := true, laidLooks := .later }
def BitsetSetsCardSaid : Prop := Claim7.holds Tryd.pinned (.plain (OpenSpec.ofChange bitsetSetsSpec)) bitsetSetsCard

/-- THE TIED CARD OF 'estoverslaw01.BitsetFills'. -/
def bitsetFillsCard : Claim7 := { stood := { row := bitsetFillsRow, standIns := [], harness := (true, "891f1ce135852dfe333b1dc95d781bd321c36d814566a7b3cde446406ec796be"), looks := false }, kinds := [], alts := [], laidByText := true, laidKinds := [.data], laidTests := true, laidLooks := .later }
def BitsetFillsCardSaid : Prop := Claim7.holds Tryd.pinned (.plain (OpenSpec.ofChange bitsetFillsSpec)) bitsetFillsCard

/-- THE TIED CARD OF 'estoverslaw01.BitsetFinds'. -/
def bitsetFindsCard : Claim7 := { stood := { row := bitsetFindsRow, standIns := [], harness := (true, "891f1ce135852dfe333b1dc95d781bd321c36d814566a7b3cde446406ec796be"), looks := false }, kinds := [], alts := [], laidByText := true, laidKinds := [.data], laidTests := true, laidLooks := .later }
def BitsetFindsCardSaid : Prop := Claim7.holds Tryd.pinned (.plain (OpenSpec.ofChange bitsetFindsSpec)) bitsetFindsCard

/-- THE TIED CARD OF 'estoverslaw01.BitsetRuns'. -/
def bitsetRunsCard : Claim7 := { stood := { row := bitsetRunsRow, standIns := [], harness := (true, "891f1ce135852dfe333b1dc95d781bd321c36d814566a7b3cde446406ec796be"), looks := false }, kinds := [], alts := [], laidByText := true, laidKinds := [.data], laidTests := true, laidLooks := .later }
def BitsetRunsCardSaid : Prop := Claim7.holds Tryd.pinned (.plain (OpenSpec.ofChange bitsetRunsSpec)) bitsetRunsCard

/-- THE TIED CARD OF 'estoverslaw01.BitsetCounts'. -/
def bitsetCountsCard : Claim7 := { stood := { row := bitsetCountsRow, standIns := [], harness := (true, "891f1ce135852dfe333b1dc95d781bd321c36d814566a7b3cde446406ec796be"), looks := false }, kinds := [], alts := [], laidByText := true, laidKinds := [.data], laidTests := true, laidLooks := .later }
def BitsetCountsCardSaid : Prop := Claim7.holds Tryd.pinned (.plain (OpenSpec.ofChange bitsetCountsSpec)) bitsetCountsCard

/-- THE TIED CARD OF 'estoverslaw01.BitsetJoins'. -/
def bitsetJoinsCard : Claim7 := { stood := { row := bitsetJoinsRow, standIns := [], harness := (true, "891f1ce135852dfe333b1dc95d781bd321c36d814566a7b3cde446406ec796be"), looks := false }, kinds := [], alts := [], laidByText := true, laidKinds := [.data], laidTests := true, laidLooks := .later }
def BitsetJoinsCardSaid : Prop := Claim7.holds Tryd.pinned (.plain (OpenSpec.ofChange bitsetJoinsSpec)) bitsetJoinsCard

/-- THE TIED CARD OF 'estoverslaw01.BitsetMorgan'. -/
def bitsetMorganCard : Claim7 := { stood := { row := bitsetMorganRow, standIns := [], harness := (true, "891f1ce135852dfe333b1dc95d781bd321c36d814566a7b3cde446406ec796be"), looks := false }, kinds := [], alts := [], laidByText := true, laidKinds := [.data], laidTests := true, laidLooks := .later }
def BitsetMorganCardSaid : Prop := Claim7.holds Tryd.pinned (.plain (OpenSpec.ofChange bitsetMorganSpec)) bitsetMorganCard

/-- THE SECOND FORM's CARD OF 'estoverslaw01.BitsetChecks'. -/
def bitsetChecksUptoCard : Claim7 := { stood := { row := bitsetChecksUptoRow, standIns := [], harness := (true, "891f1ce135852dfe333b1dc95d781bd321c36d814566a7b3cde446406ec796be"), looks := false }, kinds := [], alts := [], laidByText := true, laidKinds := [.data], laidTests := true, laidLooks := .later }
def BitsetChecksUptoCardSaid : Prop := Claim7.holds Tryd.pinned (.plain (OpenSpec.upto bitsetChecksSpec)) bitsetChecksUptoCard

/-- THE SECOND FORM's CARD OF 'estoverslaw01.BitsetSets'. -/
def bitsetSetsUptoCard : Claim7 := { stood := { row := bitsetSetsUptoRow, standIns := [], harness := (true, "891f1ce135852dfe333b1dc95d781bd321c36d814566a7b3cde446406ec796be"), looks := false }, kinds := [], alts := [], laidByText := true, laidKinds := [.data], laidTests := true, laidLooks := .later }
def BitsetSetsUptoCardSaid : Prop := Claim7.holds Tryd.pinned (.plain (OpenSpec.upto bitsetSetsSpec)) bitsetSetsUptoCard

/-- THE SECOND FORM's CARD OF 'estoverslaw01.BitsetFills'. -/
def bitsetFillsUptoCard : Claim7 := { stood := { row := bitsetFillsUptoRow, standIns := [], harness := (true, "891f1ce135852dfe333b1dc95d781bd321c36d814566a7b3cde446406ec796be"), looks := false }, kinds := [], alts := [], laidByText := true, laidKinds := [.data], laidTests := true, laidLooks := .later }
def BitsetFillsUptoCardSaid : Prop := Claim7.holds Tryd.pinned (.plain (OpenSpec.upto bitsetFillsSpec)) bitsetFillsUptoCard

/-- THE SECOND FORM's CARD OF 'estoverslaw01.BitsetFinds'. -/
def bitsetFindsUptoCard : Claim7 := { stood := { row := bitsetFindsUptoRow, standIns := [], harness := (true, "891f1ce135852dfe333b1dc95d781bd321c36d814566a7b3cde446406ec796be"), looks := false }, kinds := [], alts := [], laidByText := true, laidKinds := [.data], laidTests := true, laidLooks := .later }
def BitsetFindsUptoCardSaid : Prop := Claim7.holds Tryd.pinned (.plain (OpenSpec.upto bitsetFindsSpec)) bitsetFindsUptoCard

/-- THE SECOND FORM's CARD OF 'estoverslaw01.BitsetRuns'. -/
def bitsetRunsUptoCard : Claim7 := { stood := { row := bitsetRunsUptoRow, standIns := [], harness := (true, "891f1ce135852dfe333b1dc95d781bd321c36d814566a7b3cde446406ec796be"), looks := false }, kinds := [], alts := [], laidByText := true, laidKinds := [.data], laidTests := true, laidLooks := .later }
def BitsetRunsUptoCardSaid : Prop := Claim7.holds Tryd.pinned (.plain (OpenSpec.upto bitsetRunsSpec)) bitsetRunsUptoCard

/-- THE SECOND FORM's CARD OF 'estoverslaw01.BitsetCounts'. -/
def bitsetCountsUptoCard : Claim7 := { stood := { row := bitsetCountsUptoRow, standIns := [], harness := (true, "891f1ce135852dfe333b1dc95d781bd321c36d814566a7b3cde446406ec796be"), looks := false }, kinds := [], alts := [], laidByText := true, laidKinds := [.data], laidTests := true, laidLooks := .later }
def BitsetCountsUptoCardSaid : Prop := Claim7.holds Tryd.pinned (.plain (OpenSpec.upto bitsetCountsSpec)) bitsetCountsUptoCard

/-- THE SECOND FORM's CARD OF 'estoverslaw01.BitsetJoins'. -/
def bitsetJoinsUptoCard : Claim7 := { stood := { row := bitsetJoinsUptoRow, standIns := [], harness := (true, "891f1ce135852dfe333b1dc95d781bd321c36d814566a7b3cde446406ec796be"), looks := false }, kinds := [], alts := [], laidByText := true, laidKinds := [.data], laidTests := true, laidLooks := .later }
def BitsetJoinsUptoCardSaid : Prop := Claim7.holds Tryd.pinned (.plain (OpenSpec.upto bitsetJoinsSpec)) bitsetJoinsUptoCard

/-- THE SECOND FORM's CARD OF 'estoverslaw01.BitsetMorgan'. -/
def bitsetMorganUptoCard : Claim7 := { stood := { row := bitsetMorganUptoRow, standIns := [], harness := (true, "891f1ce135852dfe333b1dc95d781bd321c36d814566a7b3cde446406ec796be"), looks := false }, kinds := [], alts := [], laidByText := true, laidKinds := [.data], laidTests := true, laidLooks := .later }
def BitsetMorganUptoCardSaid : Prop := Claim7.holds Tryd.pinned (.plain (OpenSpec.upto bitsetMorganSpec)) bitsetMorganUptoCard
end Rows
end Go.Proofs.YtigpifiechkfkaaDoor
