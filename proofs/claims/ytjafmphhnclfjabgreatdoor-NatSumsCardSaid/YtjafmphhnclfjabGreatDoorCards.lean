/-
  DERIVED. GIVEN WITH THE SEED: THE CARDS: each row of YtjafmphhnclfjabGreatDoorRows.lean that lists a variable, with what it lists TIED to the program's text (the seventh form; the later family's looks); each row that meets fmt, with fmt's text TOLD by the authors' own Lean function (tested against real Go, not proved from fmt's source: count such statements apart). THE CARD IS WHAT COUNTS. Prove the row's statement (the work); the ties are given (YtjafmphhnclfjabGreatDoorTie.lean); close each card by the builder's one call (the guide's Derived/Test/ToyasCard.lean, 'card_holds'). Laid BY PROGRAM, IN A SANDBOX (cutbox-door.mjs). By AI agents, Wed Nov 11 2026. No macro, syntax, notation, axiom, sorry.
-/
import Derived.Test.YtjafmphhnclfjabGreatDoorRows
import GoSem.ClaimSeven
namespace Go.Proofs.YtjafmphhnclfjabGreatDoor
namespace Rows

/-- THE TIED CARD OF 'abaculuslaw1.NatSums'. -/
def natSumsCard : Claim7 := { stood := { row := natSumsRow, standIns := [], harness := (true, "480d94ab2aea0bc0593c82af5f37cc2f056ce24bcb068966af38900af7a1bcf6"), looks := true }, kinds := [], alts := [], laidByText := true, laidKinds := [.data, .data, .data, .data, .sentinel, .sentinel, .pinned], laidTests := true, laidLooks := .later }
def NatSumsCardSaid : Prop := Claim7.holds Tryz.pinned (.plain (OpenSpec.ofChange natSumsSpec)) natSumsCard

/-- THE TIED CARD OF 'abaculuslaw1.NatShifts'. -/
def natShiftsCard : Claim7 := { stood := { row := natShiftsRow, standIns := [], harness := (true, "480d94ab2aea0bc0593c82af5f37cc2f056ce24bcb068966af38900af7a1bcf6"), looks := true }, kinds := [], alts := [], laidByText := true, laidKinds := [.data, .data, .data, .data, .sentinel, .sentinel, .pinned], laidTests := true, laidLooks := .later }
def NatShiftsCardSaid : Prop := Claim7.holds Tryz.pinned (.plain (OpenSpec.ofChange natShiftsSpec)) natShiftsCard

/-- THE TIED CARD OF 'abaculuslaw2.WholeKnown'. -/
def wholeKnownCard : Claim7 := { stood := { row := wholeKnownRow, standIns := [], harness := (true, "480d94ab2aea0bc0593c82af5f37cc2f056ce24bcb068966af38900af7a1bcf6"), looks := true }, kinds := [], alts := [], laidByText := true, laidKinds := [.data, .data, .data, .data, .sentinel, .sentinel, .pinned], laidTests := true, laidLooks := .later }
def WholeKnownCardSaid : Prop := Claim7.holds Tryz.pinned (.plain (OpenSpec.ofChange wholeKnownSpec)) wholeKnownCard

/-- THE SECOND FORM's CARD OF 'abaculuslaw1.NatSums'. -/
def natSumsUptoCard : Claim7 := { stood := { row := natSumsUptoRow, standIns := [], harness := (true, "480d94ab2aea0bc0593c82af5f37cc2f056ce24bcb068966af38900af7a1bcf6"), looks := true }, kinds := [], alts := [], laidByText := true, laidKinds := [.data, .data, .data, .data, .sentinel, .sentinel, .pinned], laidTests := true, laidLooks := .later }
def NatSumsUptoCardSaid : Prop := Claim7.holds Tryz.pinned (.plain (OpenSpec.upto natSumsSpec)) natSumsUptoCard

/-- THE SECOND FORM's CARD OF 'abaculuslaw1.NatShifts'. -/
def natShiftsUptoCard : Claim7 := { stood := { row := natShiftsUptoRow, standIns := [], harness := (true, "480d94ab2aea0bc0593c82af5f37cc2f056ce24bcb068966af38900af7a1bcf6"), looks := true }, kinds := [], alts := [], laidByText := true, laidKinds := [.data, .data, .data, .data, .sentinel, .sentinel, .pinned], laidTests := true, laidLooks := .later }
def NatShiftsUptoCardSaid : Prop := Claim7.holds Tryz.pinned (.plain (OpenSpec.upto natShiftsSpec)) natShiftsUptoCard

/-- THE SECOND FORM's CARD OF 'abaculuslaw2.WholeKnown'. -/
def wholeKnownUptoCard : Claim7 := { stood := { row := wholeKnownUptoRow, standIns := [], harness := (true, "480d94ab2aea0bc0593c82af5f37cc2f056ce24bcb068966af38900af7a1bcf6"), looks := true }, kinds := [], alts := [], laidByText := true, laidKinds := [.data, .data, .data, .data, .sentinel, .sentinel, .pinned], laidTests := true, laidLooks := .later }
def WholeKnownUptoCardSaid : Prop := Claim7.holds Tryz.pinned (.plain (OpenSpec.upto wholeKnownSpec)) wholeKnownUptoCard
end Rows
end Go.Proofs.YtjafmphhnclfjabGreatDoor
