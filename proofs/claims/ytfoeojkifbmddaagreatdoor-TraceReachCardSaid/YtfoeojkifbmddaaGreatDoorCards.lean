/-
  DERIVED. GIVEN WITH THE SEED: THE CARDS: each row of YtfoeojkifbmddaaGreatDoorRows.lean that lists a variable, with what it lists TIED to the program's text (the seventh form; the later family's looks); each row that meets fmt, with fmt's text TOLD by the authors' own Lean function (tested against real Go, not proved from fmt's source: count such statements apart). THE CARD IS WHAT COUNTS. Prove the row's statement (the work); the ties are given (YtfoeojkifbmddaaGreatDoorTie.lean); close each card by the builder's one call (the guide's Derived/Test/ToyasCard.lean, 'card_holds'). Laid BY PROGRAM, IN A SANDBOX (cutbox-door.mjs). By AI agents, Wed Nov 11 2026. No macro, syntax, notation, axiom, sorry.
-/
import Derived.Test.YtfoeojkifbmddaaGreatDoorRows
import GoSem.ClaimSeven
namespace Go.Proofs.YtfoeojkifbmddaaGreatDoor
namespace Rows

/-- THE TIED CARD OF 'ragpickerlaw16.TraceKnows'. -/
def traceKnowsCard : Claim7 := { stood := { row := traceKnowsRow, standIns := [], harness := (true, "07b0e4ef195b62fa1e939d9b7ad2b6d19261dd2d2ccfd86529d16a82c967b43b"), looks := false }, kinds := [], alts := [], laidByText := true, laidKinds := [.widerDeep], laidTests := true, laidLooks := .later }
def TraceKnowsCardSaid : Prop := Claim7.holds Tryz.pinned (.plain (OpenSpec.ofChange traceKnowsSpec)) traceKnowsCard

/-- THE TIED CARD OF 'ragpickerlaw16.TraceEnds'. -/
def traceEndsCard : Claim7 := { stood := { row := traceEndsRow, standIns := [], harness := (true, "07b0e4ef195b62fa1e939d9b7ad2b6d19261dd2d2ccfd86529d16a82c967b43b"), looks := false }, kinds := [], alts := [], laidByText := true, laidKinds := [.widerDeep], laidTests := true, laidLooks := .later }
def TraceEndsCardSaid : Prop := Claim7.holds Tryz.pinned (.plain (OpenSpec.ofChange traceEndsSpec)) traceEndsCard

/-- THE TIED CARD OF 'ragpickerlaw16.TraceKeeps'. -/
def traceKeepsCard : Claim7 := { stood := { row := traceKeepsRow, standIns := [], harness := (true, "07b0e4ef195b62fa1e939d9b7ad2b6d19261dd2d2ccfd86529d16a82c967b43b"), looks := false }, kinds := [], alts := [], laidByText := true, laidKinds := [.widerDeep], laidTests := true, laidLooks := .later }
def TraceKeepsCardSaid : Prop := Claim7.holds Tryz.pinned (.plain (OpenSpec.ofChange traceKeepsSpec)) traceKeepsCard

/-- THE TIED CARD OF 'ragpickerlaw16.TraceReach'. -/
def traceReachCard : Claim7 := { stood := { row := traceReachRow, standIns := [], harness := (true, "07b0e4ef195b62fa1e939d9b7ad2b6d19261dd2d2ccfd86529d16a82c967b43b"), looks := false }, kinds := [], alts := [], laidByText := true, laidKinds := [.widerDeep], laidTests := true, laidLooks := .later }
def TraceReachCardSaid : Prop := Claim7.holds Tryz.pinned (.plain (OpenSpec.ofChange traceReachSpec)) traceReachCard

/-- THE SECOND FORM's CARD OF 'ragpickerlaw16.TraceKnows'. -/
def traceKnowsUptoCard : Claim7 := { stood := { row := traceKnowsUptoRow, standIns := [], harness := (true, "07b0e4ef195b62fa1e939d9b7ad2b6d19261dd2d2ccfd86529d16a82c967b43b"), looks := false }, kinds := [], alts := [], laidByText := true, laidKinds := [.widerDeep], laidTests := true, laidLooks := .later }
def TraceKnowsUptoCardSaid : Prop := Claim7.holds Tryz.pinned (.plain (OpenSpec.upto traceKnowsSpec)) traceKnowsUptoCard

/-- THE SECOND FORM's CARD OF 'ragpickerlaw16.TraceEnds'. -/
def traceEndsUptoCard : Claim7 := { stood := { row := traceEndsUptoRow, standIns := [], harness := (true, "07b0e4ef195b62fa1e939d9b7ad2b6d19261dd2d2ccfd86529d16a82c967b43b"), looks := false }, kinds := [], alts := [], laidByText := true, laidKinds := [.widerDeep], laidTests := true, laidLooks := .later }
def TraceEndsUptoCardSaid : Prop := Claim7.holds Tryz.pinned (.plain (OpenSpec.upto traceEndsSpec)) traceEndsUptoCard

/-- THE SECOND FORM's CARD OF 'ragpickerlaw16.TraceKeeps'. -/
def traceKeepsUptoCard : Claim7 := { stood := { row := traceKeepsUptoRow, standIns := [], harness := (true, "07b0e4ef195b62fa1e939d9b7ad2b6d19261dd2d2ccfd86529d16a82c967b43b"), looks := false }, kinds := [], alts := [], laidByText := true, laidKinds := [.widerDeep], laidTests := true, laidLooks := .later }
def TraceKeepsUptoCardSaid : Prop := Claim7.holds Tryz.pinned (.plain (OpenSpec.upto traceKeepsSpec)) traceKeepsUptoCard

/-- THE SECOND FORM's CARD OF 'ragpickerlaw16.TraceReach'. -/
def traceReachUptoCard : Claim7 := { stood := { row := traceReachUptoRow, standIns := [], harness := (true, "07b0e4ef195b62fa1e939d9b7ad2b6d19261dd2d2ccfd86529d16a82c967b43b"), looks := false }, kinds := [], alts := [], laidByText := true, laidKinds := [.widerDeep], laidTests := true, laidLooks := .later }
def TraceReachUptoCardSaid : Prop := Claim7.holds Tryz.pinned (.plain (OpenSpec.upto traceReachSpec)) traceReachUptoCard
end Rows
end Go.Proofs.YtfoeojkifbmddaaGreatDoor
