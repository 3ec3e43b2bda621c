/-
  DERIVED. GIVEN WITH THE SEED: THE CARDS: each row of YtpaidgcpjeagkaaGreatDoorRows.lean that lists a variable, with what it lists TIED to the program's text (the seventh form; the later family's looks); each row that meets fmt, with fmt's text TOLD by the authors' own Lean function (tested against real Go, not proved from fmt's source: count such statements apart). THE CARD IS WHAT COUNTS. Prove the row's statement (the work); the ties are given (YtpaidgcpjeagkaaGreatDoorTie.lean); close each card by the builder's one call (the guide's Derived/Test/ToyasCard.lean, 'card_holds'). Laid BY PROGRAM, IN A SANDBOX (cutbox-door.mjs). By AI agents, Wed Nov 11 2026. No macro, syntax, notation, axiom, sorry.
-/
import Derived.Test.YtpaidgcpjeagkaaGreatDoorRows
import GoSem.ClaimSeven
namespace Go.Proofs.YtpaidgcpjeagkaaGreatDoor
namespace Rows

/-- THE TIED CARD OF 'ragpickerlaw15.HandStays'. -/
def handStaysCard : Claim7 := { stood := { row := handStaysRow, standIns := [], harness := (true, "e41d30acb51293da43c9d9de65e633eeeb6b2d50508b2edd86c91142a06d8b92"), looks := false }, kinds := [], alts := [], laidByText := true, laidKinds := [.widerDeep], laidTests := true, laidLooks := .later }
def HandStaysCardSaid : Prop := Claim7.holds Tryz.pinned (.plain (OpenSpec.ofChange handStaysSpec)) handStaysCard

/-- THE TIED CARD OF 'ragpickerlaw15.HandEnds'. -/
def handEndsCard : Claim7 := { stood := { row := handEndsRow, standIns := [], harness := (true, "e41d30acb51293da43c9d9de65e633eeeb6b2d50508b2edd86c91142a06d8b92"), looks := false }, kinds := [], alts := [], laidByText := true, laidKinds := [.widerDeep], laidTests := true, laidLooks := .later }
def HandEndsCardSaid : Prop := Claim7.holds Tryz.pinned (.plain (OpenSpec.ofChange handEndsSpec)) handEndsCard

/-- THE TIED CARD OF 'ragpickerlaw15.HandTells'. -/
def handTellsCard : Claim7 := { stood := { row := handTellsRow, standIns := [], harness := (true, "e41d30acb51293da43c9d9de65e633eeeb6b2d50508b2edd86c91142a06d8b92"), looks := false }, kinds := [], alts := [], laidByText := true, laidKinds := [.widerDeep], laidTests := true, laidLooks := .later }
def HandTellsCardSaid : Prop := Claim7.holds Tryz.pinned (.plain (OpenSpec.ofChange handTellsSpec)) handTellsCard

/-- THE SECOND FORM's CARD OF 'ragpickerlaw15.HandStays'. -/
def handStaysUptoCard : Claim7 := { stood := { row := handStaysUptoRow, standIns := [], harness := (true, "e41d30acb51293da43c9d9de65e633eeeb6b2d50508b2edd86c91142a06d8b92"), looks := false }, kinds := [], alts := [], laidByText := true, laidKinds := [.widerDeep], laidTests := true, laidLooks := .later }
def HandStaysUptoCardSaid : Prop := Claim7.holds Tryz.pinned (.plain (OpenSpec.upto handStaysSpec)) handStaysUptoCard

/-- THE SECOND FORM's CARD OF 'ragpickerlaw15.HandEnds'. -/
def handEndsUptoCard : Claim7 := { stood := { row := handEndsUptoRow, standIns := [], harness := (true, "e41d30acb51293da43c9d9de65e633eeeb6b2d50508b2edd86c91142a06d8b92"), looks := false }, kinds := [], alts := [], laidByText := true, laidKinds := [.widerDeep], laidTests := true, laidLooks := .later }
def HandEndsUptoCardSaid : Prop := Claim7.holds Tryz.pinned (.plain (OpenSpec.upto handEndsSpec)) handEndsUptoCard

/-- THE SECOND FORM's CARD OF 'ragpickerlaw15.HandTells'. -/
def handTellsUptoCard : Claim7 := { stood := { row := handTellsUptoRow, standIns := [], harness := (true, "e41d30acb51293da43c9d9de65e633eeeb6b2d50508b2edd86c91142a06d8b92"), looks := false }, kinds := [], alts := [], laidByText := true, laidKinds := [.widerDeep], laidTests := true, laidLooks := .later }
def HandTellsUptoCardSaid : Prop := Claim7.holds Tryz.pinned (.plain (OpenSpec.upto handTellsSpec)) handTellsUptoCard
end Rows
end Go.Proofs.YtpaidgcpjeagkaaGreatDoor
