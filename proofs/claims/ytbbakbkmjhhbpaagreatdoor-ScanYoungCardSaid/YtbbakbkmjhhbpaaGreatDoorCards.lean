/-
  DERIVED. GIVEN WITH THE SEED: THE CARDS: each row of YtbbakbkmjhhbpaaGreatDoorRows.lean that lists a variable, with what it lists TIED to the program's text (the seventh form; the later family's looks); each row that meets fmt, with fmt's text TOLD by the authors' own Lean function (tested against real Go, not proved from fmt's source: count such statements apart). THE CARD IS WHAT COUNTS. Prove the row's statement (the work); the ties are given (YtbbakbkmjhhbpaaGreatDoorTie.lean); close each card by the builder's one call (the guide's Derived/Test/ToyasCard.lean, 'card_holds'). Laid BY PROGRAM, IN A SANDBOX (cutbox-door.mjs). By AI agents, Wed Nov 11 2026. No macro, syntax, notation, axiom, sorry.
-/
import Derived.Test.YtbbakbkmjhhbpaaGreatDoorRows
import GoSem.ClaimSeven
namespace Go.Proofs.YtbbakbkmjhhbpaaGreatDoor
namespace Rows

/-- THE TIED CARD OF 'ragpickerlaw17.ScanSteps'. -/
def scanStepsCard : Claim7 := { stood := { row := scanStepsRow, standIns := [], harness := (true, "5876f29867aa55d7c05acff11a0e92b4e87e7acaed8b1386b9e733a432c1e816"), looks := false }, kinds := [], alts := [], laidByText := true, laidKinds := [.widerDeep], laidTests := true, laidLooks := .later }
def ScanStepsCardSaid : Prop := Claim7.holds Tryz.pinned (.plain (OpenSpec.ofChange scanStepsSpec)) scanStepsCard

/-- THE TIED CARD OF 'ragpickerlaw17.ScanEnds'. -/
def scanEndsCard : Claim7 := { stood := { row := scanEndsRow, standIns := [], harness := (true, "5876f29867aa55d7c05acff11a0e92b4e87e7acaed8b1386b9e733a432c1e816"), looks := false }, kinds := [], alts := [], laidByText := true, laidKinds := [.widerDeep], laidTests := true, laidLooks := .later }
def ScanEndsCardSaid : Prop := Claim7.holds Tryz.pinned (.plain (OpenSpec.ofChange scanEndsSpec)) scanEndsCard

/-- THE TIED CARD OF 'ragpickerlaw17.ScanCards'. -/
def scanCardsCard : Claim7 := { stood := { row := scanCardsRow, standIns := [], harness := (true, "5876f29867aa55d7c05acff11a0e92b4e87e7acaed8b1386b9e733a432c1e816"), looks := false }, kinds := [], alts := [], laidByText := true, laidKinds := [.widerDeep], laidTests := true, laidLooks := .later }
def ScanCardsCardSaid : Prop := Claim7.holds Tryz.pinned (.plain (OpenSpec.ofChange scanCardsSpec)) scanCardsCard

/-- THE TIED CARD OF 'ragpickerlaw17.ScanKeeps'. -/
def scanKeepsCard : Claim7 := { stood := { row := scanKeepsRow, standIns := [], harness := (true, "5876f29867aa55d7c05acff11a0e92b4e87e7acaed8b1386b9e733a432c1e816"), looks := false }, kinds := [], alts := [], laidByText := true, laidKinds := [.widerDeep], laidTests := true, laidLooks := .later }
def ScanKeepsCardSaid : Prop := Claim7.holds Tryz.pinned (.plain (OpenSpec.ofChange scanKeepsSpec)) scanKeepsCard

/-- THE TIED CARD OF 'ragpickerlaw17.ScanYoung'. -/
def scanYoungCard : Claim7 := { stood := { row := scanYoungRow, standIns := [], harness := (true, "5876f29867aa55d7c05acff11a0e92b4e87e7acaed8b1386b9e733a432c1e816"), looks := false }, kinds := [], alts := [], laidByText := true, laidKinds := [.widerDeep], laidTests := true, laidLooks := .later }
def ScanYoungCardSaid : Prop := Claim7.holds Tryz.pinned (.plain (OpenSpec.ofChange scanYoungSpec)) scanYoungCard

/-- THE TIED CARD OF 'ragpickerlaw17.ScanIdle'. -/
def scanIdleCard : Claim7 := { stood := { row := scanIdleRow, standIns := [], harness := (true, "5876f29867aa55d7c05acff11a0e92b4e87e7acaed8b1386b9e733a432c1e816"), looks := false }, kinds := [], alts := [], laidByText := true, laidKinds := [.widerDeep], laidTests := true, laidLooks := .later }
def ScanIdleCardSaid : Prop := Claim7.holds Tryz.pinned (.plain (OpenSpec.ofChange scanIdleSpec)) scanIdleCard

/-- THE SECOND FORM's CARD OF 'ragpickerlaw17.ScanSteps'. -/
def scanStepsUptoCard : Claim7 := { stood := { row := scanStepsUptoRow, standIns := [], harness := (true, "5876f29867aa55d7c05acff11a0e92b4e87e7acaed8b1386b9e733a432c1e816"), looks := false }, kinds := [], alts := [], laidByText := true, laidKinds := [.widerDeep], laidTests := true, laidLooks := .later }
def ScanStepsUptoCardSaid : Prop := Claim7.holds Tryz.pinned (.plain (OpenSpec.upto scanStepsSpec)) scanStepsUptoCard

/-- THE SECOND FORM's CARD OF 'ragpickerlaw17.ScanEnds'. -/
def scanEndsUptoCard : Claim7 := { stood := { row := scanEndsUptoRow, standIns := [], harness := (true, "5876f29867aa55d7c05acff11a0e92b4e87e7acaed8b1386b9e733a432c1e816"), looks := false }, kinds := [], alts := [], laidByText := true, laidKinds := [.widerDeep], laidTests := true, laidLooks := .later }
def ScanEndsUptoCardSaid : Prop := Claim7.holds Tryz.pinned (.plain (OpenSpec.upto scanEndsSpec)) scanEndsUptoCard

/-- THE SECOND FORM's CARD OF 'ragpickerlaw17.ScanCards'. -/
def scanCardsUptoCard : Claim7 := { stood := { row := scanCardsUptoRow, standIns := [], harness := (true, "5876f29867aa55d7c05acff11a0e92b4e87e7acaed8b1386b9e733a432c1e816"), looks := false }, kinds := [], alts := [], laidByText := true, laidKinds := [.widerDeep], laidTests := true, laidLooks := .later }
def ScanCardsUptoCardSaid : Prop := Claim7.holds Tryz.pinned (.plain (OpenSpec.upto scanCardsSpec)) scanCardsUptoCard

/-- THE SECOND FORM's CARD OF 'ragpickerlaw17.ScanKeeps'. -/
def scanKeepsUptoCard : Claim7 := { stood := { row := scanKeepsUptoRow, standIns := [], harness := (true, "5876f29867aa55d7c05acff11a0e92b4e87e7acaed8b1386b9e733a432c1e816"), looks := false }, kinds := [], alts := [], laidByText := true, laidKinds := [.widerDeep], laidTests := true, laidLooks := .later }
def ScanKeepsUptoCardSaid : Prop := Claim7.holds Tryz.pinned (.plain (OpenSpec.upto scanKeepsSpec)) scanKeepsUptoCard

/-- THE SECOND FORM's CARD OF 'ragpickerlaw17.ScanYoung'. -/
def scanYoungUptoCard : Claim7 := { stood := { row := scanYoungUptoRow, standIns := [], harness := (true, "5876f29867aa55d7c05acff11a0e92b4e87e7acaed8b1386b9e733a432c1e816"), looks := false }, kinds := [], alts := [], laidByText := true, laidKinds := [.widerDeep], laidTests := true, laidLooks := .later }
def ScanYoungUptoCardSaid : Prop := Claim7.holds Tryz.pinned (.plain (OpenSpec.upto scanYoungSpec)) scanYoungUptoCard

/-- THE SECOND FORM's CARD OF 'ragpickerlaw17.ScanIdle'. -/
def scanIdleUptoCard : Claim7 := { stood := { row := scanIdleUptoRow, standIns := [], harness := (true, "5876f29867aa55d7c05acff11a0e92b4e87e7acaed8b1386b9e733a432c1e816"), looks := false }, kinds := [], alts := [], laidByText := true, laidKinds := [.widerDeep], laidTests := true, laidLooks := .later }
def ScanIdleUptoCardSaid : Prop := Claim7.holds Tryz.pinned (.plain (OpenSpec.upto scanIdleSpec)) scanIdleUptoCard
end Rows
end Go.Proofs.YtbbakbkmjhhbpaaGreatDoor
