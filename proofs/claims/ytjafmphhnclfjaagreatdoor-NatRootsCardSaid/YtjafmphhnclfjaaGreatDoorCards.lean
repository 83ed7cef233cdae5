/-
  DERIVED. GIVEN WITH THE SEED: THE CARDS: each row of YtjafmphhnclfjaaGreatDoorRows.lean that lists a variable, with what it lists TIED to the program's text (the seventh form; the later family's looks); each row that meets fmt, with fmt's text TOLD by the authors' own Lean function (tested against real Go, not proved from fmt's source: count such statements apart). THE CARD IS WHAT COUNTS. Prove the row's statement (the work); the ties are given (YtjafmphhnclfjaaGreatDoorTie.lean); close each card by the builder's one call (the guide's Derived/Test/ToyasCard.lean, 'card_holds'). Laid BY PROGRAM, IN A SANDBOX (cutbox-door.mjs). By AI agents, Wed Nov 11 2026. No macro, syntax, notation, axiom, sorry.
-/
import Derived.Test.YtjafmphhnclfjaaGreatDoorRows
import GoSem.ClaimSeven
namespace Go.Proofs.YtjafmphhnclfjaaGreatDoor
namespace Rows

/-- THE TIED CARD OF 'abaculuslaw2.WholeQuotients'. -/
def wholeQuotientsCard : Claim7 := { stood := { row := wholeQuotientsRow, standIns := [], harness := (true, "40ba620acee080e56bdf626dde21f4fea4492bd036391a998c70fd2268045e78"), looks := true }, kinds := [], alts := [], laidByText := true, laidKinds := [.data, .data, .data], laidTests := true, laidLooks := .later }
def WholeQuotientsCardSaid : Prop := Claim7.holds Tryz.pinned (.plain (OpenSpec.ofChange wholeQuotientsSpec)) wholeQuotientsCard

/-- THE TIED CARD OF 'abaculuslaw2.WholeGcd'. -/
def wholeGcdCard : Claim7 := { stood := { row := wholeGcdRow, standIns := [], harness := (true, "40ba620acee080e56bdf626dde21f4fea4492bd036391a998c70fd2268045e78"), looks := true }, kinds := [], alts := [], laidByText := true, laidKinds := [.data, .data, .data], laidTests := true, laidLooks := .later }
def WholeGcdCardSaid : Prop := Claim7.holds Tryz.pinned (.plain (OpenSpec.ofChange wholeGcdSpec)) wholeGcdCard

/-- THE TIED CARD OF 'abaculuslaw1.NatBack'. -/
def natBackCard : Claim7 := { stood := { row := natBackRow, standIns := [], harness := (true, "40ba620acee080e56bdf626dde21f4fea4492bd036391a998c70fd2268045e78"), looks := true }, kinds := [], alts := [], laidByText := true, laidKinds := [.data, .data, .data, .data, .sentinel, .sentinel, .pinned], laidTests := true, laidLooks := .later }
def NatBackCardSaid : Prop := Claim7.holds Tryz.pinned (.plain (OpenSpec.ofChange natBackSpec)) natBackCard

/-- THE TIED CARD OF 'abaculuslaw1.NatRoots'. -/
def natRootsCard : Claim7 := { stood := { row := natRootsRow, standIns := [], harness := (true, "40ba620acee080e56bdf626dde21f4fea4492bd036391a998c70fd2268045e78"), looks := true }, kinds := [], alts := [], laidByText := true, laidKinds := [.data, .data, .data, .data, .sentinel, .sentinel, .pinned], laidTests := true, laidLooks := .later }
def NatRootsCardSaid : Prop := Claim7.holds Tryz.pinned (.plain (OpenSpec.ofChange natRootsSpec)) natRootsCard

/-- THE TIED CARD OF 'abaculuslaw1.NatQuotients'. -/
def natQuotientsCard : Claim7 := { stood := { row := natQuotientsRow, standIns := [], harness := (true, "40ba620acee080e56bdf626dde21f4fea4492bd036391a998c70fd2268045e78"), looks := true }, kinds := [], alts := [], laidByText := true, laidKinds := [.data, .data, .data, .data, .sentinel, .sentinel, .pinned], laidTests := true, laidLooks := .later }
def NatQuotientsCardSaid : Prop := Claim7.holds Tryz.pinned (.plain (OpenSpec.ofChange natQuotientsSpec)) natQuotientsCard

/-- THE TIED CARD OF 'abaculuslaw1.NatTexts'. -/
def natTextsCard : Claim7 := { stood := { row := natTextsRow, standIns := [], harness := (true, "40ba620acee080e56bdf626dde21f4fea4492bd036391a998c70fd2268045e78"), looks := true }, kinds := [], alts := [], laidByText := true, laidKinds := [.data, .data, .data, .data, .sentinel, .sentinel, .pinned], laidTests := true, laidLooks := .later }
def NatTextsCardSaid : Prop := Claim7.holds Tryz.pinned (.plain (OpenSpec.ofChange natTextsSpec)) natTextsCard

/-- THE TIED CARD OF 'abaculuslaw1.NatRing'. -/
def natRingCard : Claim7 := { stood := { row := natRingRow, standIns := [], harness := (true, "40ba620acee080e56bdf626dde21f4fea4492bd036391a998c70fd2268045e78"), looks := true }, kinds := [], alts := [], laidByText := true, laidKinds := [.data, .data, .data, .data, .sentinel, .sentinel, .pinned], laidTests := true, laidLooks := .later }
def NatRingCardSaid : Prop := Claim7.holds Tryz.pinned (.plain (OpenSpec.ofChange natRingSpec)) natRingCard

/-- THE SECOND FORM's CARD OF 'abaculuslaw2.WholeQuotients'. -/
def wholeQuotientsUptoCard : Claim7 := { stood := { row := wholeQuotientsUptoRow, standIns := [], harness := (true, "40ba620acee080e56bdf626dde21f4fea4492bd036391a998c70fd2268045e78"), looks := true }, kinds := [], alts := [], laidByText := true, laidKinds := [.data, .data, .data], laidTests := true, laidLooks := .later }
def WholeQuotientsUptoCardSaid : Prop := Claim7.holds Tryz.pinned (.plain (OpenSpec.upto wholeQuotientsSpec)) wholeQuotientsUptoCard

/-- THE SECOND FORM's CARD OF 'abaculuslaw2.WholeGcd'. -/
def wholeGcdUptoCard : Claim7 := { stood := { row := wholeGcdUptoRow, standIns := [], harness := (true, "40ba620acee080e56bdf626dde21f4fea4492bd036391a998c70fd2268045e78"), looks := true }, kinds := [], alts := [], laidByText := true, laidKinds := [.data, .data, .data], laidTests := true, laidLooks := .later }
def WholeGcdUptoCardSaid : Prop := Claim7.holds Tryz.pinned (.plain (OpenSpec.upto wholeGcdSpec)) wholeGcdUptoCard

/-- THE SECOND FORM's CARD OF 'abaculuslaw1.NatBack'. -/
def natBackUptoCard : Claim7 := { stood := { row := natBackUptoRow, standIns := [], harness := (true, "40ba620acee080e56bdf626dde21f4fea4492bd036391a998c70fd2268045e78"), looks := true }, kinds := [], alts := [], laidByText := true, laidKinds := [.data, .data, .data, .data, .sentinel, .sentinel, .pinned], laidTests := true, laidLooks := .later }
def NatBackUptoCardSaid : Prop := Claim7.holds Tryz.pinned (.plain (OpenSpec.upto natBackSpec)) natBackUptoCard

/-- THE SECOND FORM's CARD OF 'abaculuslaw1.NatRoots'. -/
def natRootsUptoCard : Claim7 := { stood := { row := natRootsUptoRow, standIns := [], harness := (true, "40ba620acee080e56bdf626dde21f4fea4492bd036391a998c70fd2268045e78"), looks := true }, kinds := [], alts := [], laidByText := true, laidKinds := [.data, .data, .data, .data, .sentinel, .sentinel, .pinned], laidTests := true, laidLooks := .later }
def NatRootsUptoCardSaid : Prop := Claim7.holds Tryz.pinned (.plain (OpenSpec.upto natRootsSpec)) natRootsUptoCard

/-- THE SECOND FORM's CARD OF 'abaculuslaw1.NatQuotients'. -/
def natQuotientsUptoCard : Claim7 := { stood := { row := natQuotientsUptoRow, standIns := [], harness := (true, "40ba620acee080e56bdf626dde21f4fea4492bd036391a998c70fd2268045e78"), looks := true }, kinds := [], alts := [], laidByText := true, laidKinds := [.data, .data, .data, .data, .sentinel, .sentinel, .pinned], laidTests := true, laidLooks := .later }
def NatQuotientsUptoCardSaid : Prop := Claim7.holds Tryz.pinned (.plain (OpenSpec.upto natQuotientsSpec)) natQuotientsUptoCard

/-- THE SECOND FORM's CARD OF 'abaculuslaw1.NatTexts'. -/
def natTextsUptoCard : Claim7 := { stood := { row := natTextsUptoRow, standIns := [], harness := (true, "40ba620acee080e56bdf626dde21f4fea4492bd036391a998c70fd2268045e78"), looks := true }, kinds := [], alts := [], laidByText := true, laidKinds := [.data, .data, .data, .data, .sentinel, .sentinel, .pinned], laidTests := true, laidLooks := .later }
def NatTextsUptoCardSaid : Prop := Claim7.holds Tryz.pinned (.plain (OpenSpec.upto natTextsSpec)) natTextsUptoCard

/-- THE SECOND FORM's CARD OF 'abaculuslaw1.NatRing'. -/
def natRingUptoCard : Claim7 := { stood := { row := natRingUptoRow, standIns := [], harness := (true, "40ba620acee080e56bdf626dde21f4fea4492bd036391a998c70fd2268045e78"), looks := true }, kinds := [], alts := [], laidByText := true, laidKinds := [.data, .data, .data, .data, .sentinel, .sentinel, .pinned], laidTests := true, laidLooks := .later }
def NatRingUptoCardSaid : Prop := Claim7.holds Tryz.pinned (.plain (OpenSpec.upto natRingSpec)) natRingUptoCard
end Rows
end Go.Proofs.YtjafmphhnclfjaaGreatDoor
